/- Memory of layer 14: rows that are made; notes of what is done. -/
import Derived.Test.YtjkbhdocpjekmaaRMem
import Derived.OwnWalk
namespace Go.Proofs.Ytjkbhdocpjekmaa
open Go.RowKit
set_option linter.unusedVariables false

theorem made_get (z : Array Value) (n j : Nat) (h : j < n) : (madeCells z n)[j]? = some z[j % z.size]! := by
  unfold madeCells
  rw [Array.getElem?_map, Array.getElem?_range, if_pos h]; rfl
theorem made_size (z : Array Value) (n : Nat) : (madeCells z n).size = n := by unfold madeCells; simp
/-- A row of n zero values is made: a block of its own. -/
theorem list_make {t e : TypeId} {size bytes : Nat} {z : Value} (hu : Try.prog.underlying t = some (.slice e)) (hinfo : (Try.prog.info? e).map (fun i => (i.zero, i.size, i.bytes)) = some (some z, size, bytes)) (hz : z.cells.size = size) {ops : Array Oper} {rest : List Oper} {o : Oper} {a : Act} {Q : Exit → Act → World → Prop} (w : World)
    (hgd : o.guard = none) (l c : Operand) (hop : o.op = .makeSlice t l c) (n : Nat) (hl : a.eval l = .int .i64 (n : Int)) (hc : a.eval c = .int .i64 (n : Int)) (hb : bytes ≤ 1000) (hn : n ≤ 1000000000)
    (h : ∀ w', Whole w' w.heap.size e (madeCells z.cells (n * size)) → Below w.heap.size w w' → w'.heap.size = w.heap.size + 1 → wpList Try.prog ops Q rest (a.put o.dst (.slice (some ⟨w.heap.size, 0, none⟩) n n)) w') : wpList Try.prog ops Q (o :: rest) a w := by
  obtain ⟨i, h1, h2, h3, h4⟩ := info_parts hinfo
  refine wpList_plain hgd fun K hK => ?_
  have hr := run_make (P := Try.prog) w t e i z hu h1 h2 .i64 .i64 n n (by omega) (Int.le_refl _) (by
    rw [h4]
    have := Nat.mul_le_mul hb hn
    have h5 : ((bytes * n : Nat) : Int) ≤ 281474976710656 := by omega
    rwa [Int.natCast_mul] at h5) (by omega)
  simp only [Int.toNat_natCast, h3] at hr
  unfold Oper.wp
  simp [execOp, hop, hl, hc, hr, Result.andThen]
  exact hK _ _ (h _ (Whole.made w e _) ((Below.refl _ _).alloc (Nat.le_refl _) _) (by simp))
/-- What is done, and what is not. -/
def DnAt (w : World) (D : Nat) (dn : List Bool) : Prop := Whole w D 4 (dn.map Value.bool).toArray
theorem DnAt.at_ {w : World} {D : Nat} {dn : List Bool} (h : DnAt w D dn) {k : Nat} (hk : k < dn.length) : w.cell? ⟨D, k, none⟩ = some (.bool (dn.getD k false)) := by
  rw [h.cell k, List.getElem?_toArray, List.getElem?_map, List.getElem?_eq_getElem hk, List.getD_eq_getElem?_getD, List.getElem?_eq_getElem hk]; rfl
theorem DnAt.set {w : World} {D : Nat} {dn : List Bool} (h : DnAt w D dn) (k : Nat) : DnAt (w.setCell ⟨D, k, none⟩ (.bool true)) D (dn.set k true) := by
  have h1 := h.put k (.bool true)
  unfold DnAt
  rw [List.map_set, ← List.setIfInBounds_toArray]; exact h1
theorem DnAt.made {w : World} {D L : Nat} (h : Whole w D 4 (madeCells (Value.bool false).cells (L * 1))) : DnAt w D (List.replicate L false) := by
  have e : madeCells (Value.bool false).cells (L * 1) = ((List.replicate L false).map Value.bool).toArray := by
    apply Array.ext
    · rw [made_size]; simp
    · intro i h1 h2
      rw [made_size] at h1
      have := made_get (Value.bool false).cells (L * 1) i h1
      rw [Array.getElem?_eq_getElem (by rw [made_size]; exact h1)] at this
      rw [Option.some.inj this]
      have e : i % (Value.bool false).cells.size = 0 := by show i % 1 = 0; omega
      rw [e]; simp [Value.cells]
  unfold DnAt; rw [← e]; exact h
theorem AllAt.zeros {w : World} {H L : Nat} (h : Whole w H 59 (madeCells (Value.agg #[.bool false, .int .i64 0, .slice none 0 0]).cells (L * 3))) : AllAt w H (List.replicate L none) := by
  refine AllAt.made h (made_size _ _) fun k hk => ?_
  have hz : (Value.agg #[.bool false, .int .i64 0, .slice none 0 0]).cells = #[.bool false, .int .i64 0, .slice none 0 0] := rfl
  rw [hz]
  have hs : (#[.bool false, .int .i64 0, .slice none 0 0] : Array Value).size = 3 := rfl
  refine ⟨?_, ?_, ?_⟩
  · rw [made_get _ _ _ (by omega), hs, show k * 3 % 3 = 0 from by omega]; rfl
  · rw [made_get _ _ _ (by omega), hs, show (k * 3 + 1) % 3 = 1 from by omega]; rfl
  · rw [made_get _ _ _ (by omega), hs, show (k * 3 + 2) % 3 = 2 from by omega]; rfl
end Go.Proofs.Ytjkbhdocpjekmaa
