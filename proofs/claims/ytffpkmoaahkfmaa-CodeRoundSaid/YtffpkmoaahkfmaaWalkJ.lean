/- The walks of layer 13: a code's bytes, by the program: small laws. -/
import Derived.Test.YtffpkmoaahkfmaaWalkI
import Derived.Lib.SlBytesConst
import Derived.Lib.AppendStr
namespace Go.Proofs.Ytffpkmoaahkfmaa
open Go.RowKit
set_option linter.unusedVariables false

theorem cod_sizes {c : Cod} (h : codOK c = true) : 1 ≤ c.funs.length ∧ c.funs.length ≤ 120 ∧ c.ints.length ≤ 120 ∧ c.texts.length ≤ 120 ∧ 0 ≤ c.lets ∧ c.lets ≤ 60 ∧ (∀ t ∈ c.texts, t.size ≤ 60) ∧ (∀ b ∈ c.funs, b.code.length ≤ 400) := by
  unfold codOK at h
  simp only [Bool.and_eq_true, inF_iff, decide_eq_true_eq, List.all_eq_true] at h
  obtain ⟨⟨⟨⟨⟨⟨h1, h2⟩, h3⟩, h4⟩, h5⟩, h6⟩, h7⟩ := h
  refine ⟨by omega, by omega, h2, h3, h4.1, h4.2, fun t ht => ?_, fun b hb => ?_⟩
  · have := h7 t ht; unfold txtOK at this; simpa using this
  · have := h5 b hb; unfold bdyOK at this; simp only [Bool.and_eq_true, inF_iff] at this; omega
theorem grow_magic {w2 w3 : World} {base : Nat} (hb : Below w2.heap.size w2 w3) (hs : w2.heap.size = base) (hk : KeepT w2 w3) :
    Grow false w2 base [83, 77, 49] (.slice (some ⟨w3.heap.size, 0, none⟩) 3 3) (w3.alloc (Obj.cells #[.int .u8 83, .int .u8 77, .int .u8 49] 5 (3, 4))) := by
  subst hs
  have h1 := hb.size
  exact ⟨.inr ⟨rfl, w3.heap.size, (3, 4), rfl, h1, by simp, by have := heap_alloc_new w3 (Obj.cells #[.int .u8 83, .int .u8 77, .int .u8 49] 5 (3, 4)); exact this⟩, hb.alloc h1 _, hk.alloc _, by simp; omega⟩
theorem KeepT.of_below {w w' : World} (h : Below w.heap.size w w') : KeepT w w' := fun g cs t fr _ hg => by
  have hl : g < w.heap.size := by
    rcases Nat.lt_or_ge g w.heap.size with h2 | h2
    · exact h2
    · rw [Array.getElem?_eq_none h2] at hg; cases hg
  exact (h.block g hl).trans hg
theorem app_str {ops : Array Oper} {rest : List Oper} {o : Oper} {a : Act} {Q : Exit → Act → World → Prop} {w0 wr : World} {base : Nat} {v : Value} {L : List UInt8} (hgd : o.guard = none) (sl x : Operand)
    (ho : o.op = .call { callee := .builtin .append, args := #[sl, x], argTypes := #[28, 9] }) (hs : a.eval sl = v) (hg : Grow true w0 base L v wr) (s : ByteArray) (hx : a.eval x = .string s) (hn : L.length + s.size ≤ 1000000000)
    (h : ∀ v' w', Grow true w0 base (L ++ s.data.toList) v' w' → wpList Try.prog ops Q rest (a.put o.dst v') w') :
    wpList Try.prog ops Q (o :: rest) a wr := by
  obtain ⟨i0, hi, hz0, hz1, hz2⟩ := info_parts Try.info5
  have hown := hg.own
  refine Lib.wpList_append_own_string _ hgd sl x 28 9 ho base 5 i0 Try.underlying28 Try.underlying9 hi hz0 hz1 hz2 v L.length _ hs hown s hx ?_ ?_ hg.2.2.2 ?_
  · unfold maxLen; omega
  · omega
  · intro v' w' hown' hgrow _
    refine h v' w' ⟨.inl ?_, hg.2.1.grown hgrow hg.2.2.2 (fun k hk => (hown.lt k hk).1), hg.2.2.1.grown hown hgrow, ?_⟩
    · have e : (L ++ s.data.toList).length = L.length + s.size := by rw [List.length_append, Array.length_toList]; rfl
      rw [e, List.map_append]; exact hown'
    · have := hgrow.size; have := hg.2.2.2; omega
theorem flat_take {α : Type} {l : List α} {d : α} {f : α → List UInt8} {k : Nat} (h : k < l.length) : (l.take (k + 1)).flatMap f = (l.take k).flatMap f ++ f (l.getD k d) := by
  rw [List.take_add_one, List.getElem?_eq_getElem h, Option.toList_some, List.flatMap_append, List.flatMap_cons, List.flatMap_nil, List.append_nil, List.getD_eq_getElem?_getD, List.getElem?_eq_getElem h]; rfl
theorem flat_len {α : Type} {f : α → List UInt8} {M : Nat} : ∀ {l : List α}, (∀ x ∈ l, (f x).length ≤ M) → (l.flatMap f).length ≤ M * l.length
  | [], _ => by simp
  | x :: l, h => by
    have h1 := flat_len (l := l) (fun y hy => h y (List.mem_cons_of_mem _ hy))
    have h2 := h x List.mem_cons_self
    rw [List.flatMap_cons, List.length_append, List.length_cons, Nat.mul_succ]; omega
theorem flat_len_take {α : Type} {f : α → List UInt8} {M k : Nat} {l : List α} (h : ∀ x ∈ l, (f x).length ≤ M) : ((l.take k).flatMap f).length ≤ M * l.length :=
  Nat.le_trans (flat_len (fun x hx => h x (List.mem_of_mem_take hx))) (Nat.mul_le_mul_left _ (List.length_take_le' _ _))
theorem encI_len (i : Ins) : (encI i).length = 5 := by unfold encI; rw [List.length_append, putB_len, putB_len]; rfl
theorem encF_len {b : Bdy} (h : b.code.length ≤ 400) : (encF b).length ≤ 2005 := by
  have := flat_len (f := encI) (M := 5) (l := b.code) (fun i _ => by rw [encI_len]; omega)
  unfold encF; rw [List.length_append, List.length_append, putB_len, putB_len]; show 1 * 3 + 2 * 1 + _ ≤ 2005; omega
theorem encT_len {s : ByteArray} (h : s.size ≤ 60) : (encT s).length ≤ 61 := by
  unfold encT; rw [List.length_append, putB_len, Array.length_toList]; show 1 * 1 + s.size ≤ 61; omega
theorem getD_mem {α : Type} {l : List α} {d : α} {k : Nat} (h : k < l.length) : l.getD k d ∈ l := by
  rw [List.getD_eq_getElem?_getD, List.getElem?_eq_getElem h]; exact List.getElem_mem h
theorem Grow.drew {f : Bool} {w wr : World} {base : Nat} {L : List UInt8} {v : Value} (h : Grow f w base L v wr) : Grow f w base L v wr.drew :=
  ⟨h.1, ⟨h.2.1.os, h.2.1.tape, h.2.1.output, h.2.1.size, h.2.1.block⟩, h.2.2.1, h.2.2.2⟩
theorem Reads.drew {w : World} {base : Nat} {A : Option Addr} {m : Nat} {zs : List Int} (h : Reads w base A m zs) : Reads w.drew base A m zs := h
theorem Reads.alloc {w : World} {base : Nat} {A : Option Addr} {m : Nat} {zs : List Int} (h : Reads w base A m zs) (hb : base ≤ w.heap.size) (o : Obj) : Reads (w.alloc o) base A m zs :=
  h.keep ((Below.refl _ _).alloc hb _) ((KeepT.refl _).alloc _)
theorem reads_new {wr : World} {base g m : Nat} {zs : List Int} (h : wr.heap.size = g) (hm : zs.length = m) : Reads (wr.alloc (.cells (zs.map (Value.int .i64)).toArray 3)) base (some ⟨g, 0, none⟩) m zs := by
  subst h; exact reads_lit _ _ _ _ hm
/-- Numbers that are read go behind bytes that grow. -/
theorem put_ready {f : Bool} {w wx : World} {base : Nat} {L : List UInt8} {v : Value} (hg : Grow f w base L v wx) (width : Nat) {A : Option Addr} {m c : Nat} (zs : List Int) (hz : Reads wx base A m zs) (h8 : width ≤ 8) (h1 : m ≤ 1000) (hl : L.length ≤ 100000000) (hw : 0 < width) (hm0 : 0 < m) :
    Calls Try.prog 22 #[v, .int .i64 (width : Int), .slice A m c] wx fun e w' => ∃ v', e = .returned v' ∧ Grow true w base (L ++ putB width zs) v' w' ∧ KeepT wx w' ∧ Below base wx w' := by
  refine (put_any f _ base L v width _ m c zs hg.start hz h8 h1 hl).mono ?_
  rintro e w' ⟨v', rfl, hg'⟩
  rw [decide_eq_true (And.intro hw hm0), Bool.or_true] at hg'
  exact ⟨v', rfl, hg.then_ hg', hg'.2.2.1, hg'.2.1⟩
theorem InsAt.length {w : World} {B : Nat} {A : Option Addr} {n : Nat} {is : List Ins} (h : InsAt w B A n is) : is.length = n := h.1
/-- What a put leaves, with a block of three cells beside. -/
def PutPost (w : World) (base : Nat) (L : List UInt8) (gc : Nat) (x y z : Int) (wx : World) (v' : Value) (w' : World) : Prop :=
  Grow true w base L v' w' ∧ KeepT wx w' ∧ Below base wx w' ∧ Whole w' gc 42 #[.int .i64 x, .int .i64 y, .int .i64 z] ∧
  w'.cell? ⟨gc, 0, none⟩ = some (.int .i64 x) ∧ w'.cell? ⟨gc, 1, none⟩ = some (.int .i64 y) ∧ w'.cell? ⟨gc, 2, none⟩ = some (.int .i64 z)
theorem put_beside1 {w wx : World} {base : Nat} {L : List UInt8} {v : Value} {gc : Nat} {x y z : Int} {g : Nat} (a : Int) (hl : L.length ≤ 100000000)
    (h : Grow true w base L v wx ∧ Reads wx base (some ⟨g, 0, none⟩) 1 [a] ∧ Whole wx gc 42 #[.int .i64 x, .int .i64 y, .int .i64 z]) :
    Calls Try.prog 22 #[v, .int .i64 1, .slice (some ⟨g, 0, none⟩) 1 1] wx fun e w' => ∃ v', e = .returned v' ∧ PutPost w base (L ++ putB 1 [a]) gc x y z wx v' w' := by
  refine (put_ready (m := 1) h.1 1 [a] h.2.1 (by decide) (by decide) hl (by decide) (by decide)).mono ?_
  rintro e w' ⟨v', rfl, hg, hk, hb⟩
  have hW := hk.whole h.2.2 (by decide)
  exact ⟨v', rfl, hg, hk, hb, hW, hW.cell 0, hW.cell 1, hW.cell 2⟩
theorem put_beside2 {w wx : World} {base : Nat} {L : List UInt8} {v : Value} {gc : Nat} {x y z : Int} {g : Nat} (a b : Int) (hl : L.length ≤ 100000000)
    (h : Grow true w base L v wx ∧ Reads wx base (some ⟨g, 0, none⟩) 2 [a, b] ∧ Whole wx gc 42 #[.int .i64 x, .int .i64 y, .int .i64 z]) :
    Calls Try.prog 22 #[v, .int .i64 2, .slice (some ⟨g, 0, none⟩) 2 2] wx fun e w' => ∃ v', e = .returned v' ∧ PutPost w base (L ++ putB 2 [a, b]) gc x y z wx v' w' := by
  refine (put_ready (m := 2) h.1 2 [a, b] h.2.1 (by decide) (by decide) hl (by decide) (by decide)).mono ?_
  rintro e w' ⟨v', rfl, hg, hk, hb⟩
  have hW := hk.whole h.2.2 (by decide)
  exact ⟨v', rfl, hg, hk, hb, hW, hW.cell 0, hW.cell 1, hW.cell 2⟩
end Go.Proofs.Ytffpkmoaahkfmaa
