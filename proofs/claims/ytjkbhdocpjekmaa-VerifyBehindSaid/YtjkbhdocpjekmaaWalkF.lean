/- The walks of layer 13: whether a code may be, by the program. -/
import Derived.Test.YtjkbhdocpjekmaaWalkE
namespace Go.Proofs.Ytjkbhdocpjekmaa
open Go.RowKit
set_option linter.unusedVariables false

structure Cod where
  funs : List Bdy
  ints : List Int
  texts : List ByteArray
  lets : Int
def codOK (c : Cod) : Bool :=
  inF (c.funs.length : Int) 1 120 && decide (c.ints.length ≤ 120) && decide (c.texts.length ≤ 120) && inF c.lets 0 60 && c.funs.all bdyOK && c.ints.all intOK && c.texts.all txtOK
/-- A code's value reads as the code; what it holds lies below block B. -/
structure CodAt (w : World) (B : Nat) (v : Value) (c : Cod) : Prop where
  form : ∃ FA fn fc IA inn ic TA tn tc, v = .agg #[.slice FA fn fc, .slice IA inn ic, .slice TA tn tc, .int .i64 c.lets] ∧ BdysAt w B FA fn c.funs ∧ Ints w B IA inn c.ints ∧ StrsAt w B TA tn c.texts ∧
    fn ≤ 9223372036854775807 ∧ inn ≤ 9223372036854775807 ∧ tn ≤ 9223372036854775807
theorem CodAt.below {w w' : World} {B : Nat} {v : Value} {c : Cod} (h : CodAt w B v c) (hb : Below B w w') : CodAt w' B v c := by
  obtain ⟨FA, fn, fc, IA, inn, ic, TA, tn, tc, e, h1, h2, h3, h4⟩ := h.form
  exact ⟨FA, fn, fc, IA, inn, ic, TA, tn, tc, e, h1.below hb, h2.below hb, h3.below hb, h4⟩
theorem CodAt.more {w : World} {B B' : Nat} {v : Value} {c : Cod} (h : CodAt w B v c) (hb : B ≤ B') : CodAt w B' v c := by
  obtain ⟨FA, fn, fc, IA, inn, ic, TA, tn, tc, e, h1, h2, h3, h4⟩ := h.form
  exact ⟨FA, fn, fc, IA, inn, ic, TA, tn, tc, e, h1.more hb, h2.more hb, h3.more hb, h4⟩
theorem cod_eq {c : Cod} {fn inn tn : Nat} {a b d : Bool} (h1 : c.funs.length = fn) (h2 : c.ints.length = inn) (h3 : c.texts.length = tn) (ha : c.funs.all bdyOK = a) (hb : c.ints.all intOK = b) (hd : c.texts.all txtOK = d) :
    codOK c = (inF (fn : Int) 1 120 && decide (inn ≤ 120) && decide (tn ≤ 120) && inF c.lets 0 60 && a && b && d) := by
  unfold codOK; rw [h1, h2, h3, ha, hb, hd]
set_option maxHeartbeats 2000000 in
theorem may_any (w : World) (v : Value) (c : Cod) (hc : CodAt w w.heap.size v c) :
    Calls Try.prog 16 #[v] w fun e w' => e = .returned (.bool (codOK c)) ∧ Below w.heap.size w w' := by
  obtain ⟨FA, fn, fc, IA, inn, ic, TA, tn, tc, rfl, h1, h2, h3, hf, hi, ht⟩ := hc.form
  clear hc
  obtain ⟨w2, hw2⟩ : ∃ w2, w2 = w.alloc (.cells #[.slice FA fn fc, .slice IA inn ic, .slice TA tn tc, .int .i64 c.lets] 26) := ⟨_, rfl⟩
  have HB : Hid (Below w.heap.size w w2) := by show Below _ _ _; rw [hw2]; exact (Below.refl _ _).alloc (Nat.le_refl _) _
  have HW : Hid (Whole w2 w.heap.size 26 #[.slice FA fn fc, .slice IA inn ic, .slice TA tn tc, .int .i64 c.lets]) := by show Whole _ _ _ _; rw [hw2]; exact Whole.made _ _ _
  have HF := Lib.hid ((h1.below HB.out).more HB.out.size)
  have HI := Lib.hid ((h2.below HB.out).more HB.out.size)
  have HT := Lib.hid ((h3.below HB.out).more HB.out.size)
  have HS : Hid (w.heap.size < w2.heap.size) := by show _ < _; rw [hw2]; simp
  generalize ha : c.funs.all bdyOK = a
  generalize hb : c.ints.all intOK = b
  generalize hd : c.texts.all txtOK = d
  have HE := Lib.hid (cod_eq h1.1 h2.1 h3.1 ha hb hd)
  have HA := Lib.hid ha; have HBB := Lib.hid hb; have HD := Lib.hid hd
  clear ha hb hd h1 h2 h3
  generalize c.lets = lets at *
  subst hw2
  go_enter Try.func16, Try.ntmps16
  go_wp2_with (first
    | (go_at_call 22; refine (in_any' _ _ _ _).mono ?_; rintro e w' ⟨rfl, rfl⟩)
    | (go_at_call 23; refine (contains_bdy _ FA fn fc _ HF.out hf).mono ?_; rintro e w3 ⟨rfl, hb3⟩; rw [HA.out]; have HW3 := Lib.hid (HW.out.below hb3 HS.out); have c1 : w3.cell? ⟨w.heap.size, 1, none⟩ = some (.slice IA inn ic) := HW3.out.cell 1; have c2 : w3.cell? ⟨w.heap.size, 2, none⟩ = some (.slice TA tn tc) := HW3.out.cell 2; have HI3 := Lib.hid ((HI.out.below hb3).more hb3.size); have HT3 := Lib.hid ((HT.out.below hb3).more hb3.size); have HS3 : Hid (w.heap.size < w3.heap.size) := Nat.lt_of_lt_of_le HS.out hb3.size; have HB3 := Lib.hid (HB.out.trans (hb3.mono HB.out.size)); clear hb3)
    | (go_at_call 25; refine (contains_int _ IA inn ic _ HI3.out hi).mono ?_; rintro e w4 ⟨rfl, hb4⟩; rw [HBB.out]; have HW4 := Lib.hid (HW3.out.below hb4 HS3.out); have c2 : w4.cell? ⟨w.heap.size, 2, none⟩ = some (.slice TA tn tc) := HW4.out.cell 2; have HT4 := Lib.hid ((HT3.out.below hb4).more hb4.size); have HB4 := Lib.hid (HB3.out.trans (hb4.mono HB3.out.size)); clear hb4)
    | (go_at_call 27; refine (contains_txt _ TA tn tc _ HT4.out ht).mono ?_; rintro e w5 ⟨rfl, hb5⟩; rw [HD.out]; have HB5 := Lib.hid (HB4.out.trans (hb5.mono HB4.out.size)); clear hb5))
  all_goals (go_ret; refine ⟨ret_b (by rw [HE.out]; simp [*]; try omega), ?_⟩; first | exact HB.out | exact HB3.out | exact HB4.out | exact HB5.out)
end Go.Proofs.Ytjkbhdocpjekmaa
