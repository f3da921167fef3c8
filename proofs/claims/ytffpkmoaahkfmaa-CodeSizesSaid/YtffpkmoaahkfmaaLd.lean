/- The laws of layer 13: a code has as many bytes as its parts ask for. -/
import Derived.Test.YtffpkmoaahkfmaaLc
namespace Go.Proofs.Ytffpkmoaahkfmaa
open Go.RowKit
set_option linter.unusedVariables false
attribute [local go_sem ↓] Go.wp_at_zero Go.wp_at_succ

theorem CodAt.parts {w : World} {B : Nat} {FA IA TA : Option Addr} {fn fc inn ic tn tc : Nat} {z : Int} {c : Cod} (h : CodAt w B (.agg #[.slice FA fn fc, .slice IA inn ic, .slice TA tn tc, .int .i64 z]) c) :
    BdysAt w B FA fn c.funs ∧ Ints w B IA inn c.ints ∧ StrsAt w B TA tn c.texts ∧ z = c.lets := by
  obtain ⟨FA', fn', fc', IA', inn', ic', TA', tn', tc', e, h1, h2, h3, _⟩ := h.form
  simp only [Value.agg.injEq, Array.mk.injEq, List.cons.injEq, Value.slice.injEq, Value.int.injEq, and_true, true_and] at e
  obtain ⟨⟨rfl, rfl, rfl⟩, ⟨rfl, rfl, rfl⟩, ⟨rfl, rfl, rfl⟩, rfl⟩ := e
  exact ⟨h1, h2, h3, rfl⟩
def lenT (ts : List ByteArray) : Nat := (ts.flatMap encT).length
def lenF (fs : List Bdy) : Nat := (fs.flatMap encF).length
theorem lenT_take {ts : List ByteArray} {k : Nat} (h : k < ts.length) : lenT (ts.take (k + 1)) = lenT (ts.take k) + 1 + (ts.getD k ByteArray.empty).size := by
  unfold lenT; rw [flat_take (d := ByteArray.empty) h, List.length_append]; unfold encT; rw [List.length_append, putB_len, Array.length_toList]; show _ + (1 * 1 + (ts.getD k ByteArray.empty).size) = _; omega
theorem encF_len' (b : Bdy) : (encF b).length = 5 + 5 * b.code.length := by
  have hb : ∀ l : List Ins, (l.flatMap encI).length = 5 * l.length := fun l => by
    induction l with
    | nil => rfl
    | cons i l ih => rw [List.flatMap_cons, List.length_append, encI_len, ih, List.length_cons]; omega
  unfold encF; rw [List.length_append, List.length_append, putB_len, putB_len, hb]; show 1 * 3 + 2 * 1 + _ = _; omega
theorem lenF_take {fs : List Bdy} {k : Nat} (h : k < fs.length) : lenF (fs.take (k + 1)) = lenF (fs.take k) + 5 + 5 * (fs.getD k bdy0).code.length := by
  unfold lenF; rw [flat_take (d := bdy0) h, List.length_append, encF_len']; omega
theorem encC_len (c : Cod) : (encC c).length = 7 + 8 * c.ints.length + lenT c.texts + lenF c.funs := by
  unfold encC lenT lenF
  simp only [List.length_append, putB_len, List.length_cons, List.length_nil]; omega
theorem ret_t {a b : Bool} (ha : a = true) (hb : b = true) : Ending.returned (.bool (a && b)) = .returned (.bool true) := by rw [ha, hb]; rfl
set_option maxRecDepth 100000 in
set_option maxHeartbeats 4000000 in
theorem codeLong_walk (v : Value) (c : Cod) (w : World) (hc : CodAt w w.heap.size v c) :
    Calls Try.prog 6 #[v] w fun e w' => e = .returned (.bool true) ∧ Below w.heap.size w w' := by
  obtain ⟨FA, fn, fc, IA, inn, ic, TA, tn, tc, rfl, h1, h2, h3, hf, hi, ht⟩ := hc.form
  have HC : Hid (CodAt (w.alloc (.cells #[.slice FA fn fc, .slice IA inn ic, .slice TA tn tc, .int .i64 c.lets] 26)) (w.alloc (.cells #[.slice FA fn fc, .slice IA inn ic, .slice TA tn tc, .int .i64 c.lets] 26)).heap.size _ c) :=
    (hc.below ((Below.refl _ _).alloc (Nat.le_refl _) _)).more (by simp)
  clear hc h1 h2 h3 hf hi ht
  go_enter Try.func6, Try.ntmps6
  go_wp2_with fail
  refine (cut_form _ _ c HC.out).mono ?_
  rintro e w1 ⟨FA2, fn2, fc2, IA2, inn2, ic2, TA2, tn2, tc2, rfl, ho, hb⟩
  rw [show (w.alloc (.cells #[.slice FA fn fc, .slice IA inn ic, .slice TA tn tc, .int .i64 c.lets] 26)).heap.size = w.heap.size + 1 from by simp] at ho hb
  have hW := (Whole.made w 26 #[.slice FA fn fc, .slice IA inn ic, .slice TA tn tc, .int .i64 c.lets]).below hb (by omega)
  have c0 : w1.cell? ⟨w.heap.size, 0, none⟩ = some (.slice FA fn fc) := hW.cell 0
  have c1 : w1.cell? ⟨w.heap.size, 1, none⟩ = some (.slice IA inn ic) := hW.cell 1
  have c2 : w1.cell? ⟨w.heap.size, 2, none⟩ = some (.slice TA tn tc) := hW.cell 2
  have c3 : w1.cell? ⟨w.heap.size, 3, none⟩ = some (.int .i64 c.lets) := hW.cell 3
  have f0 := hW.free 0
  have f1 := hW.free 1
  have f2 := hW.free 2
  have f3 := hW.free 3
  have HST := Lib.hid (cut_stored (a := .slice FA2 fn2 fc2) (b := .slice IA2 inn2 ic2) (d := .slice TA2 tn2 tc2) (e := .int .i64 c.lets) rfl ho hb)
  clear ho hb hW HC
  go_wp2_with fail
  generalize (((w1.setCell ⟨w.heap.size, 0, none⟩ (.slice FA2 fn2 fc2)).setCell ⟨w.heap.size, 1, none⟩ (.slice IA2 inn2 ic2)).setCell ⟨w.heap.size, 2, none⟩ (.slice TA2 tn2 tc2)).setCell ⟨w.heap.size, 3, none⟩ (.int .i64 c.lets) = w2 at *
  clear c0 c1 c2 c3 f0 f1 f2 f3
  by_cases hok : codOK (cutC c) = true
  · have HE0 : Hid (encE (cutC c) = 0) := if_pos hok
    have HL0 : Hid (encL (cutC c) = encC (cutC c)) := if_pos hok
    have HOK := Lib.hid hok
    have HSZ := Lib.hid (cod_sizes hok)
    clear hok
    refine (encode_any w2 _ (cutC c) HST.out.at_).mono ?_
    rintro e w3 ⟨A1, n1, p1, rfl, ho1, hb1⟩
    rw [HE0.out]
    have HS3 := Lib.hid (HST.out.later hb1)
    have hn1 : n1 = (encC (cutC c)).length := by rw [← HL0.out]; obtain ⟨_, _, ee, _⟩ := own_form ho1; simp only [Value.slice.injEq] at ee; exact ee.2.1
    have HN1 := Lib.hid (hn1.trans (encC_len _))
    clear ho1 hb1 HST hn1
    obtain ⟨s0, s1, s2, s3⟩ := HS3.out.cells
    obtain ⟨pF, pI, pT, _⟩ := HS3.out.at_.parts
    have HPF := Lib.hid pF; have HPI := Lib.hid pI; have HPT := Lib.hid pT
    have hz1 : fn2 ≤ 6 := by have := (cut_small c).1; rw [pF.1] at this; exact this
    have hz2 : inn2 ≤ 6 := by have := (cut_small c).2.1; rw [pI.1] at this; exact this
    have hz3 : tn2 ≤ 6 := by have := (cut_small c).2.2.1; rw [pT.1] at this; exact this
    have HL1 := Lib.hid pF.1; have HL2 := Lib.hid pI.1; have HL3 := Lib.hid pT.1
    clear pF pI pT
    generalize hcc : cutC c = d at *
    clear hcc
    go_wp2_with fail
    go_loop [5, 6] (fun n i => ∃ k : Nat, i = .int .i64 (k : Int) ∧ k ≤ tn2 ∧ n = .int .i64 (7 + 8 * (inn2 : Int) + (lenT (d.texts.take k) : Nat))) (fun _ i => tn2 - (intOf i).toNat)
    case atStart => exact ⟨0, rfl, by omega, by simp [lenT]⟩
    case round =>
      obtain ⟨k, rfl, hk, rfl⟩ := hrel
      have hll : lenT (d.texts.take k) ≤ 366 := by
        have h1 := flat_len_take (f := encT) (k := k) (M := 61) (l := d.texts) (fun x hx => encT_len (HSZ.out.2.2.2.2.2.2.1 x hx))
        rw [HL3.out] at h1; unfold lenT; omega
      by_cases hlt : k < tn2
      · obtain ⟨b, off, e1, _, d1⟩ := HPT.out.at_ hlt
        have HTK := Lib.hid (lenT_take (ts := d.texts) (k := k) (by rw [HL3.out]; exact hlt))
        have hsx : (d.texts.getD k ByteArray.empty).size ≤ 60 := HSZ.out.2.2.2.2.2.2.1 _ (getD_mem (by rw [HL3.out]; exact hlt))
        generalize d.texts.getD k ByteArray.empty = x at *
        generalize hq : lenT (d.texts.take k) = q at *
        have HQ := Lib.hid hq
        clear hq
        subst e1
        go_wp2_with fail
        go_round
        case rel => exact ⟨k + 1, by go_num, by omega, by rw [HTK.out]; go_num⟩
        case measure => simp [intOf]; omega
      · have e : d.texts.take k = d.texts := List.take_of_length_le (by rw [HL3.out]; omega)
        rw [e] at hll ⊢
        clear e
        generalize hq : lenT d.texts = q at *
        have HQ := Lib.hid hq
        clear hq
        go_wp2_with fail
        go_loop [5, 7] (fun n i => ∃ k : Nat, i = .int .i64 (k : Int) ∧ k ≤ fn2 ∧ n = .int .i64 (7 + 8 * (inn2 : Int) + (q : Nat) + (lenF (d.funs.take k) : Nat))) (fun _ i => fn2 - (intOf i).toNat)
        case atStart => exact ⟨0, rfl, by omega, by simp [lenF]⟩
        case round =>
          obtain ⟨k, rfl, hk, rfl⟩ := hrel
          have hll2 : lenF (d.funs.take k) ≤ 12030 := by
            have h1 := flat_len_take (f := encF) (k := k) (M := 2005) (l := d.funs) (fun x hx => encF_len (HSZ.out.2.2.2.2.2.2.2 x hx))
            rw [HL1.out] at h1; unfold lenF; omega
          by_cases hlt : k < fn2
          · obtain ⟨b, off, e1, hbl, q1, q2, q3, A2, n2, cp2, q4, hI0, _⟩ := HPF.out.at_ hlt
            have HTK := Lib.hid (lenF_take (fs := d.funs) (k := k) (by rw [HL1.out]; exact hlt))
            have hsx : (d.funs.getD k bdy0).code.length ≤ 400 := HSZ.out.2.2.2.2.2.2.2 _ (getD_mem (by rw [HL1.out]; exact hlt))
            have HLX := Lib.hid hI0.1
            generalize d.funs.getD k bdy0 = x at *
            generalize hr : lenF (d.funs.take k) = r at *
            have HR := Lib.hid hr
            rw [hI0.1] at hsx
            clear hr hI0 q1 q2 q3
            subst e1
            go_wp2_with fail
            go_round
            case rel => exact ⟨k + 1, by go_num, by omega, by rw [HTK.out, HLX.out]; go_num⟩
            case measure => simp [intOf]; omega
          · have e : d.funs.take k = d.funs := List.take_of_length_le (by rw [HL1.out]; omega)
            rw [e] at hll2 ⊢
            clear e
            have HEQ : Hid ((n1 : Int) = 7 + 8 * (inn2 : Int) + (q : Nat) + (lenF d.funs : Nat)) := by show _ = _; rw [HN1.out, HL2.out]; omega
            generalize lenF d.funs = r at *
            have t1 : ((n1 : Int) == 7 + 8 * (inn2 : Int) + (q : Nat) + (r : Nat)) = true := by rw [HEQ.out]; simp
            go_wp2_with (go_at_call 15; refine (lives_any _).mono ?_; rintro e w5 ⟨rfl, hb5⟩)
            go_ret
            exact ⟨rfl, (HS3.out.later hb5).below⟩
  · have hok' : codOK (cutC c) = false := by simpa using hok
    have HE0 : Hid (encE (cutC c) = 1) := if_neg hok
    have HL0 : Hid (encL (cutC c) = []) := if_neg hok
    have HOK := Lib.hid hok'
    clear hok hok'
    refine (encode_any w2 _ (cutC c) HST.out.at_).mono ?_
    rintro e w3 ⟨A1, n1, p1, rfl, ho1, hb1⟩
    rw [HE0.out]
    have HS3 := Lib.hid (HST.out.later hb1)
    have hn1 : n1 = 0 := by
      rw [HL0.out] at ho1; obtain ⟨_, _, ee, _⟩ := own_form ho1; simp only [Value.slice.injEq] at ee; exact ee.2.1
    clear ho1 hb1 HST
    subst hn1
    obtain ⟨s0, s1, s2, s3⟩ := HS3.out.cells
    go_wp2_with (first
      | (go_at_call 13; refine (may_any w3 _ (cutC c) HS3.out.at_).mono ?_; rintro e w4 ⟨rfl, hb4⟩; rw [HOK.out]; have HS4 := Lib.hid (HS3.out.later hb4))
      | (go_at_call 15; refine (lives_any _).mono ?_; rintro e w5 ⟨rfl, hb5⟩))
    go_ret
    exact ⟨rfl, (HS4.out.later hb5).below⟩
end Go.Proofs.Ytffpkmoaahkfmaa
