/- Memory of a heap: a set of places; what stays while a part of the memory is written. -/
import Derived.Test.YtcbehllfljjngaaRows
import Derived.Test.YtcbehllfljjngaaMem
import Derived.Test.YtcbehllfljjngaaHPlain
import Derived.Maps.Own
import Derived.Maps.OwnOps
import Derived.Maps.OwnSet
import Derived.Maps.Views
import Derived.Lib.Hide
namespace Go.Proofs.Ytcbehllfljjngaa
open Go.RowKit Go.Maps Go.ChangeMaps
set_option linter.unusedVariables false

theorem keyed3 : Keyed Try.prog 3 := int_keyed Try.underlying3
theorem zero4 (w : World) : (zeroValue 4).run Try.prog w = .ok (.bool false) w := by kernel_rfl
theorem bool_inv {v : Value} {x : Bool} {ps : List MemPlace} (h : plainElem (H := Unit) Try.prog 4 v = some (.lit (.bool x), ps)) : v = .bool x := by
  unfold plainElem at h
  rw [Try.underlying4] at h
  cases v <;> simp at h
  rw [h.1]
/-- Block b is a set of integers, of at most n, that are those of S. -/
def SetAt (w : World) (b n : Nat) (S : Int → Bool) : Prop :=
  ∃ D : DataW Unit, w.ownsMap Try.prog 3 (plainElem Try.prog 4) b n D ∧ ∀ z, (Lit.int .i64 z).wf = true → D.atKey (.int .i64 z) (.lit (.bool false)) = .lit (.bool (S z))
theorem SetAt.made (w : World) : SetAt (w.alloc (.map #[] 0)) w.heap.size 0 (fun _ => false) := ⟨_, World.ownsMap_made w _ _ _, fun z hz => rfl⟩
theorem SetAt.ask {w : World} {b n : Nat} {S : Int → Bool} (h : SetAt w b n S) {z : Int} (hz : (Lit.int .i64 z).wf = true) : (Instr.lookup 69 (.map (some b)) (.int .i64 z) false).run Try.prog w = .ok (.bool (S z)) w := by
  obtain ⟨D, hm, hD⟩ := h
  obtain ⟨v, ps, hrun, hv⟩ := hm.lookup keyed3 Try.underlying69 (zero4 w) (plainElem_bool Try.underlying4 false) (keyOf_int_mk Try.underlying3 hz)
  rw [hD z hz] at hv
  rw [hrun, bool_inv hv]
theorem SetAt.lt {w : World} {b n : Nat} {S : Int → Bool} (h : SetAt w b n S) : b < w.heap.size := by
  obtain ⟨D, hm, _⟩ := h
  exact hm.lt
theorem SetAt.more {w : World} {b n : Nat} {S S' : Int → Bool} (h : SetAt w b n S) (hS : ∀ z, S z = S' z) : SetAt w b n S' := by
  obtain ⟨D, hm, hD⟩ := h
  exact ⟨D, hm, fun z hz => by rw [hD z hz, hS]⟩
theorem SetAt.put {w : World} {b n : Nat} {S : Int → Bool} (h : SetAt w b n S) (hn : n < 1000000) {z : Int} (hz : (Lit.int .i64 z).wf = true) : ∃ w', (Instr.mapUpdate 69 (.map (some b)) (.int .i64 z) (.bool true)).run Try.prog w = .ok () w' ∧ SetAt w' b (n + 1) (fun y => decide (y = z) || S y) ∧ w.grownBy w' (some b) := by
  obtain ⟨D, hm, hD⟩ := h
  obtain ⟨w', hrun, hm', hg⟩ := hm.update keyed3 Try.underlying69 (by unfold maxLen; omega) (keyOf_int_mk Try.underlying3 hz) (plainElem_bool Try.underlying4 true)
  refine ⟨w', hrun, ⟨_, hm', fun y hy => ?_⟩, hg⟩
  by_cases e : y = z
  · subst e
    rw [atKey_put_same hm.isMap (by simp [WideAt.IsKeyLit])]
    simp
  · rw [atKey_put_other (fun h => e (by simpa using h)), hD y hy]; simp only [decide_eq_false e, Bool.false_or]
theorem SetAt.same {w w' : World} {b n : Nat} {S : Int → Bool} (h : SetAt w b n S) (hb : w'.heap[b]? = w.heap[b]?) : SetAt w' b n S := by
  obtain ⟨D, ⟨es, clock, hh, F, hs, hD⟩, hk⟩ := h
  exact ⟨D, ⟨es, clock, hb.trans hh, F, hs, hD⟩, hk⟩
theorem info_parts2 {e : TypeId} {z : Value} {size bytes : Nat} (h : (Try.prog.info? e).map (fun i => (i.zero, i.size, i.bytes)) = some (some z, size, bytes)) : ∃ i, Try.prog.info? e = some i ∧ i.zero = some z ∧ i.size = size ∧ i.bytes = bytes := by
  rcases hq : Try.prog.info? e with _ | i
  · rw [hq] at h; cases h
  · rw [hq] at h
    simp only [Option.map_some, Option.some.injEq, Prod.mk.injEq] at h
    exact ⟨i, rfl, h.1, h.2.1, h.2.2⟩
theorem elemTy {t e : TypeId} {z : Value} {size bytes : Nat} (hu : Try.prog.underlying t = some (.slice e)) (hi : (Try.prog.info? e).map (fun i => (i.zero, i.size, i.bytes)) = some (some z, size, bytes)) (hz : z.cells.size = size) (hp : 0 < size) : ElemTy t e size bytes := by
  obtain ⟨i0, h1, h2, h3, h4⟩ := info_parts2 hi
  exact ⟨hu, ⟨i0, z, h1, h2, h3, h4, hz⟩, hp⟩
theorem ty_ints : ElemTy 36 3 1 8 := elemTy (z := .int .i64 0) Try.underlying36 (by kernel_rfl) rfl (by decide)
/-- All blocks but those from s to e stay. -/
structure Mid (s e : Nat) (w w' : World) : Prop where
  os : w'.os = w.os
  tape : w'.tape = w.tape
  output : w'.output = w.output
  size : w.heap.size ≤ w'.heap.size
  block : ∀ g, g < w.heap.size → (g < s ∨ e ≤ g) → w'.heap[g]? = w.heap[g]?
section
variable {s e : Nat} {w w1 w' : World}
theorem Mid.refl (s e : Nat) (w : World) : Mid s e w w := ⟨rfl, rfl, rfl, Nat.le_refl _, fun _ _ _ => rfl⟩
theorem Mid.trans (h : Mid s e w w1) (k : Mid s e w1 w') : Mid s e w w' :=
  ⟨k.os.trans h.os, k.tape.trans h.tape, k.output.trans h.output, Nat.le_trans h.size k.size, fun g hg h2 => (k.block g (Nat.lt_of_lt_of_le hg h.size) h2).trans (h.block g hg h2)⟩
theorem Mid.of_below (h : Below w.heap.size w w') : Mid s e w w' := ⟨h.os, h.tape, h.output, h.size, fun g hg _ => h.block g hg⟩
theorem Mid.below (h : Mid s e w w') (hs : s ≤ w.heap.size) : Below s w w' := ⟨h.os, h.tape, h.output, h.size, fun g hg => h.block g (by omega) (.inl hg)⟩
theorem Mid.setCell (h : Mid s e w w1) {a : Addr} (h1 : s ≤ a.block) (h2 : a.block < e) (u : Value) : Mid s e w (w1.setCell a u) :=
  ⟨h.os, h.tape, h.output, by have := h.size; simpa [World.setCell] using this, fun g hg h3 => (Below.heap_setCell w1 a u g (by omega)).trans (h.block g hg h3)⟩
theorem Mid.grown (h : Mid s e w w1) {b : Nat} (k : w1.grownBy w' (some b)) (h1 : s ≤ b) (h2 : b < e) : Mid s e w w' :=
  ⟨k.os.trans h.os, k.tape.trans h.tape, k.output.trans h.output, Nat.le_trans h.size k.size, fun g hg h3 => (k.block g (Nat.lt_of_lt_of_le hg h.size) (by simp; omega)).trans (h.block g hg h3)⟩
theorem Mid.drew (h : Mid s e w w1) : Mid s e w w1.drew := ⟨h.os, h.tape, h.output, h.size, h.block⟩
end
/-- A heap at block hb: its blocks lie from s on, below e. -/
structure HeapAt (w : World) (s e hb N : Nat) (H : Hp) : Prop where
  ex : ∃ wb mb pad, Whole w hb 71 #[.slice (some ⟨wb, 0, none⟩) (N + 1) (N + 1), .int .i64 (topN H : Nat), .map (some mb)] ∧ w.ownsRow s 3 1 (.slice (some ⟨wb, 0, none⟩) (N + 1) (N + 1)) (N + 1) ((memL H ++ pad).map (Value.int .i64)) ∧ SetAt w mb H.length (fun z => (blkAt H z).isSome) ∧ s ≤ mb ∧ mb < e ∧ wb < e
  hbs : s ≤ hb ∧ hb < e
  size : e ≤ w.heap.size
  n : 64 ≤ N ∧ N ≤ 65536
  wf : WfH H
section
variable {w w' : World} {s e hb N : Nat} {H : Hp}
theorem HeapAt.keep (h : HeapAt w s e hb N H) (hs : w.heap.size ≤ w'.heap.size) (hk : ∀ g, s ≤ g → g < e → w'.heap[g]? = w.heap[g]?) : HeapAt w' s e hb N H := by
  obtain ⟨wb, mb, pad, hw, ho, hm, h1, h2, h3⟩ := h.ex
  have hlt := (ho.lt wb rfl).1
  exact ⟨⟨wb, mb, pad, (hk hb h.hbs.1 h.hbs.2).trans hw, own_of_block ho (fun g hg => by
    obtain rfl : wb = g := by simpa [Value.ownBlock] using hg
    exact hk _ hlt h3), hm.same (hk mb h1 h2), h1, h2, h3⟩, h.hbs, Nat.le_trans h.size hs, h.n, h.wf⟩
theorem HeapAt.below (h : HeapAt w s e hb N H) {B : Nat} (hw : Below B w w') (hB : e ≤ B) : HeapAt w' s e hb N H := h.keep hw.size (fun g _ hg => hw.block g (by omega))
theorem HeapAt.later (h : HeapAt w s e hb N H) (hw : Below w.heap.size w w') : HeapAt w' s e hb N H := h.below hw h.size
theorem HeapAt.drew (h : HeapAt w s e hb N H) : HeapAt w.drew s e hb N H := ⟨h.ex, h.hbs, h.size, h.n, h.wf⟩
theorem HeapAt.topLe (h : HeapAt w s e hb N H) : topN H ≤ N + 1 := by
  obtain ⟨wb, mb, pad, hw, ho, _⟩ := h.ex
  have := ho.1
  rw [List.length_map, List.length_append, memL_len] at this
  omega
end
end Go.Proofs.Ytcbehllfljjngaa
