/- The laws of layer 14: stacks. -/
import Derived.Test.YtjkbhdocpjekmaaVLa
import Derived.Test.YtjkbhdocpjekmaaVSu
import Derived.StillTailTactics
namespace Go.Proofs.Ytjkbhdocpjekmaa
open Go.RowKit
set_option linter.unusedVariables false
attribute [local go_sem ↓] Go.wp_at_zero Go.wp_at_succ

theorem OwnCod.small {w : World} {B : Nat} {v : Value} {c : Cod} (h : OwnCod w B v c) (h1 : c.funs.length ≤ 100) (h2 : c.ints.length ≤ 100) (h3 : c.texts.length ≤ 100) (h4 : ∀ b ∈ c.funs, b.code.length ≤ 100) : CodAt w w.heap.size v c :=
  h.at_ (by omega) (by omega) (by omega) (fun b hb => by have := h4 b hb; omega)
theorem setStack_small (c : Cod) (st : Int) : (setStack (cutC c) st).funs.length ≤ 100 ∧ (setStack (cutC c) st).ints.length ≤ 100 ∧ (setStack (cutC c) st).texts.length ≤ 100 ∧ ∀ b ∈ (setStack (cutC c) st).funs, b.code.length ≤ 100 := by
  obtain ⟨h1, h2, h3, h4⟩ := cut_small c
  refine ⟨by show ((cutC c).funs.set 0 _).length ≤ 100; rw [List.length_set]; omega, by show (cutC c).ints.length ≤ 100; omega, by show (cutC c).texts.length ≤ 100; omega, fun b hb => ?_⟩
  rcases List.mem_or_eq_of_mem_set hb with h | rfl
  · have := h4 b h; omega
  · show ((cutC c).funs.getD 0 bdy0).code.length ≤ 100
    rcases Nat.lt_or_ge 0 (cutC c).funs.length with h | h
    · have := h4 ((cutC c).funs.getD 0 bdy0) (by rw [List.getD_eq_getElem?_getD, List.getElem?_eq_getElem h]; exact List.getElem_mem h)
      omega
    · rw [List.getD_eq_getElem?_getD, List.getElem?_eq_none h]; decide
set_option maxRecDepth 100000 in
set_option maxHeartbeats 4000000 in
theorem verifyStack_walk (v : Value) (c : Cod) (st : Int) (w : World) (hc : CodAt w w.heap.size v c) (hst : (Lit.int .i64 st).wf = true) :
    Calls Try.prog 6 #[v, .int .i64 st] w fun e w' => e = .returned (.bool true) ∧ Below w.heap.size w w' := by
  clear hst
  obtain ⟨FA, fn, fc, IA, inn, ic, TA, tn, tc, rfl, h1, h2, h3, hf, hi, ht⟩ := hc.form
  have HC : Hid (CodAt (w.alloc (.cells #[.slice FA fn fc, .slice IA inn ic, .slice TA tn tc, .int .i64 c.lets] 26)) (w.alloc (.cells #[.slice FA fn fc, .slice IA inn ic, .slice TA tn tc, .int .i64 c.lets] 26)).heap.size _ c) :=
    (hc.below ((Below.refl _ _).alloc (Nat.le_refl _) _)).more (by simp)
  clear hc h1 h2 h3 hf hi ht
  go_enter Try.func6, Try.ntmps6
  go_wp2_with fail
  refine (cut_form _ _ c HC.out).mono ?_
  rintro e w1 ⟨FA2, fn2, fc2, IA2, inn2, ic2, TA2, tn2, tc2, rfl, ho, hb⟩
  rw [show (w.alloc (.cells #[.slice FA fn fc, .slice IA inn ic, .slice TA tn tc, .int .i64 c.lets] 26)).heap.size = w.heap.size + 1 from by simp] at ho hb
  have hW := (Whole.made w 26 #[.slice FA fn fc, .slice IA inn ic, .slice TA tn tc, .int .i64 c.lets]).below hb (by omega)
  have c0 : w1.cell? ⟨w.heap.size, 0, none⟩ = some (.slice FA fn fc) := hW.cell 0
  have c1 : w1.cell? ⟨w.heap.size, 1, none⟩ = some (.slice IA inn ic) := hW.cell 1
  have c2 : w1.cell? ⟨w.heap.size, 2, none⟩ = some (.slice TA tn tc) := hW.cell 2
  have c3 : w1.cell? ⟨w.heap.size, 3, none⟩ = some (.int .i64 c.lets) := hW.cell 3
  have f0 := hW.free 0
  have f1 := hW.free 1
  have f2 := hW.free 2
  have f3 := hW.free 3
  have HST := Lib.hid (cut_stored (a := .slice FA2 fn2 fc2) (b := .slice IA2 inn2 ic2) (d := .slice TA2 tn2 tc2) (e := .int .i64 c.lets) rfl ho hb)
  clear ho hb hW HC
  go_upto_region 2 with (fail)
  generalize (((w1.setCell ⟨w.heap.size, 0, none⟩ (.slice FA2 fn2 fc2)).setCell ⟨w.heap.size, 1, none⟩ (.slice IA2 inn2 ic2)).setCell ⟨w.heap.size, 2, none⟩ (.slice TA2 tn2 tc2)).setCell ⟨w.heap.size, 3, none⟩ (.int .i64 c.lets) = w2 at *
  clear c0 c1 c2 c3 f0 f1 f2 f3
  obtain ⟨s0, s1, s2, s3⟩ := HST.out.cells
  have CD := Lib.hid (depths_any w2 _ (cutC c) 0 HST.out.at_)
  go_upto_region 3 with (go_at_call 12; refine CD.out.mono ?_; rintro e w3 ⟨hb1, A1, n1, p1, xs, rfl, hi1, hd1, hl1⟩; have HS3 := Lib.hid (HST.out.later hb1); have HI1 := Lib.hid hi1; have HD1 := Lib.hid hd1; have HL1 := Lib.hid hl1; clear hb1 hi1 hd1 hl1)
  clear CD HST s0 s1 s2 s3
  have hn1 : n1 ≤ 400 := by have h1 := HI1.out.1; have h2 := HL1.out; omega
  by_cases hn0 : n1 = 0
  · subst hn0
    as_aux_lemma =>
      go_wp2_with (go_at_call 11; refine (lives_any _).mono ?_; rintro e w9 ⟨rfl, hb9⟩; have HB9 := Lib.hid hb9; clear hb9)
      go_ret
      exact ⟨rfl, HS3.out.below.trans (HB9.out.mono (by have := HS3.out.size; omega))⟩
  have t0 : ((n1 : Int) == 0) = false := by rw [beq_eq_false_iff_ne]; omega
  by_cases hs1 : st < 1
  · have t1 : decide (st < 1) = true := decide_eq_true hs1
    as_aux_lemma =>
      go_wp2_with (go_at_call 11; refine (lives_any _).mono ?_; rintro e w9 ⟨rfl, hb9⟩; have HB9 := Lib.hid hb9; clear hb9)
      go_ret
      exact ⟨rfl, HS3.out.below.trans (HB9.out.mono (by have := HS3.out.size; omega))⟩
  have t1 : decide (st < 1) = false := decide_eq_false hs1
  by_cases hs2 : 60 < st
  · have t2 : decide (60 < st) = true := decide_eq_true hs2
    as_aux_lemma =>
      go_wp2_with (go_at_call 11; refine (lives_any _).mono ?_; rintro e w9 ⟨rfl, hb9⟩; have HB9 := Lib.hid hb9; clear hb9)
      go_ret
      exact ⟨rfl, HS3.out.below.trans (HB9.out.mono (by have := HS3.out.size; omega))⟩
  have t2 : decide (60 < st) = false := decide_eq_false hs2
  have hfun : 0 < (cutC c).funs.length := by
    rcases HD1.out with ⟨_, rfl⟩ | ⟨_, _, rfl⟩ | ⟨h, _⟩
    · have := HI1.out.1; simp at this; omega
    · have := HI1.out.1; simp at this; omega
    · have := h.2.2; omega
  obtain ⟨g, rfl, rfl, hg1, hg2, ⟨u, hu⟩, hfr, ⟨cur, hcur⟩, hown⟩ := HS3.out.own.stack hfun st
  obtain ⟨s0, s1, s2, s3⟩ := HS3.out.cells
  go_upto_region 6 with (fail)
  have HBX : Hid (Whole (w3.setCell ⟨g, 2, none⟩ (.int .i64 st)) w.heap.size 26 #[.slice (some ⟨g, 0, none⟩) (cutC c).funs.length fc2, .slice IA2 inn2 ic2, .slice TA2 tn2 tc2, .int .i64 c.lets]) := HS3.out.box.far (by show w.heap.size ≠ g; omega) _
  have HBB : Hid (Below w.heap.size w (w3.setCell ⟨g, 2, none⟩ (.int .i64 st))) := HS3.out.below.setCell (p := ⟨g, 2, none⟩) (by show w.heap.size ≤ g; omega) _
  have HCT : Hid (CodAt (w3.setCell ⟨g, 2, none⟩ (.int .i64 st)) (w3.setCell ⟨g, 2, none⟩ (.int .i64 st)).heap.size _ (setStack (cutC c) st)) := hown.small (setStack_small c st).1 (setStack_small c st).2.1 (setStack_small c st).2.2.1 (setStack_small c st).2.2.2
  have HRO := Lib.hid (own_setCell HL1.out.2 (p := ⟨g, 2, none⟩) (own_whole_ne HL1.out.2 hcur (by decide)) (.int .i64 st))
  have HSZ : Hid (w.heap.size ≤ (w3.setCell ⟨g, 2, none⟩ (.int .i64 st)).heap.size) := HBB.out.size
  clear hown hcur s0 s1 s2 s3 hfr hu
  generalize w3.setCell ⟨g, 2, none⟩ (.int .i64 st) = w4 at *
  have s0 : w4.cell? ⟨w.heap.size, 0, none⟩ = some (.slice (some ⟨g, 0, none⟩) (cutC c).funs.length fc2) := HBX.out.cell 0
  have s1 : w4.cell? ⟨w.heap.size, 1, none⟩ = some (.slice IA2 inn2 ic2) := HBX.out.cell 1
  have s2 : w4.cell? ⟨w.heap.size, 2, none⟩ = some (.slice TA2 tn2 tc2) := HBX.out.cell 2
  have s3 : w4.cell? ⟨w.heap.size, 3, none⟩ = some (.int .i64 c.lets) := HBX.out.cell 3
  have CR := Lib.hid (rdepths_any w4 _ _ 0 HCT.out)
  go_upto_region 7 with (go_at_call 13; refine CR.out.mono ?_; rintro e w5 ⟨hb5, A2, n2, p2, ys, rfl, hi2, hd2, hl2⟩; have HB5 := Lib.hid hb5; have HI2 := Lib.hid hi2; have HD2 := Lib.hid hd2; clear hb5 hi2 hd2 hl2)
  clear CR s0 s1 s2 s3
  have HBX5 := Lib.hid (HBX.out.below HB5.out HBX.out.lt)
  have HCT5 := Lib.hid ((HCT.out.below HB5.out).more HB5.out.size)
  have HBB5 : Hid (Below w.heap.size w w5) := HBB.out.trans (HB5.out.mono HSZ.out)
  have HRO5 := Lib.hid (own_below HRO.out HB5.out (Nat.le_refl _))
  clear HBX HCT HRO HB5
  have s0 : w5.cell? ⟨w.heap.size, 0, none⟩ = some (.slice (some ⟨g, 0, none⟩) (cutC c).funs.length fc2) := HBX5.out.cell 0
  have s1 : w5.cell? ⟨w.heap.size, 1, none⟩ = some (.slice IA2 inn2 ic2) := HBX5.out.cell 1
  have s2 : w5.cell? ⟨w.heap.size, 2, none⟩ = some (.slice TA2 tn2 tc2) := HBX5.out.cell 2
  have s3 : w5.cell? ⟨w.heap.size, 3, none⟩ = some (.int .i64 c.lets) := HBX5.out.cell 3
  have CD := Lib.hid (depths_any w5 _ _ 0 HCT5.out)
  go_upto_region 8 with (go_at_call 12; refine CD.out.mono ?_; rintro e w6 ⟨hb6, A3, n3, p3, zs, rfl, hi3, hd3, hl3⟩; have HB6 := Lib.hid hb6; have HI3 := Lib.hid hi3; have HD3 := Lib.hid hd3; clear hb6 hi3 hd3 hl3)
  clear CD s0 s1 s2 s3
  have HBB6 : Hid (Below w.heap.size w w6) := HBB5.out.trans (HB6.out.mono HBB5.out.size)
  have HRO6 := Lib.hid (own_below HRO5.out HB6.out (Nat.le_refl _))
  obtain rfl : ys = zs := HD2.out.uniq HD3.out
  obtain rfl : n2 = n3 := HI2.out.1.symm.trans HI3.out.1
  have HZL : Hid (ys.length = n2) := HI2.out.1
  have HXL : Hid (xs.length = n1) := HI1.out.1
  clear HI1 HI2 HI3 HB6 HRO5 HBX5 HCT5
  obtain ⟨gd, cd, ev, _, _, _, _⟩ := own_cell HRO6.out (k := 0) (by omega)
  cases ev
  have HMAX : Hid (∀ x ∈ xs, ys ≠ [] → x ≤ st) := fun x hx hy => stack_law HD1.out HD3.out hy hx (by omega)
  go_wp2_with fail
  go_loop [8, 9] (fun m i => ∃ (k : Nat) (mm : Int), i = .int .i64 (k : Int) ∧ m = .int .i64 mm ∧ k ≤ n1 ∧ (mm = 0 ∨ mm ∈ xs)) (fun _ i => n1 - (intOf i).toNat)
  case atStart => exact ⟨0, 0, rfl, rfl, by omega, .inl rfl⟩
  case round =>
    obtain ⟨k, mm, rfl, rfl, hk, hmm⟩ := hrel
    by_cases hkn : k < n1
    · obtain ⟨_, _, ev, _, _, hcell, _⟩ := own_cell HRO6.out (k := k) (by omega)
      cases ev
      have hkx : k < xs.length := by rw [HXL.out]; exact hkn
      rw [List.getElem?_map, List.getElem?_eq_getElem hkx, Option.map_some] at hcell
      have hin : xs[k] ∈ xs := List.getElem_mem hkx
      generalize xs[k] = x at *
      have HIN := Lib.hid hin
      have HMM := Lib.hid hmm
      clear hin hmm
      by_cases hx : mm < x
      · have d0 : decide (mm < x) = true := decide_eq_true hx
        go_wp2_with fail
        go_round
        case rel => exact ⟨k + 1, x, by go_num, rfl, by omega, .inr HIN.out⟩
        case measure => simp [intOf]; omega
      · have d0 : decide (mm < x) = false := decide_eq_false hx
        go_wp2_with fail
        go_round
        case rel => exact ⟨k + 1, mm, by go_num, rfl, by omega, HMM.out⟩
        case measure => simp [intOf]; omega
    · obtain rfl : k = n1 := by omega
      have HMM := Lib.hid hmm
      clear hmm
      by_cases hn2 : n2 = 0
      · subst hn2
        by_cases hx : st < mm
        · have d0 : decide (st < mm) = true := decide_eq_true hx
          go_wp2_with (go_at_call 11; refine (lives_any _).mono ?_; rintro e w9 ⟨rfl, hb9⟩; have HB9 := Lib.hid hb9; clear hb9)
          go_ret
          exact ⟨rfl, HBB6.out.trans (HB9.out.mono HBB6.out.size)⟩
        · have d0 : decide (st < mm) = false := decide_eq_false hx
          go_wp2_with (go_at_call 11; refine (lives_any _).mono ?_; rintro e w9 ⟨rfl, hb9⟩; have HB9 := Lib.hid hb9; clear hb9)
          go_ret
          exact ⟨rfl, HBB6.out.trans (HB9.out.mono HBB6.out.size)⟩
      · have hx : ¬ st < mm := fun h => by
          rcases HMM.out with h0 | h0
          · omega
          · have := HMAX.out mm h0 (fun h => by have h2 := HZL.out; rw [h] at h2; exact hn2 h2.symm)
            omega
        have d0 : decide (st < mm) = false := decide_eq_false hx
        have d1 : decide ((0 : Int) < (n2 : Int)) = true := decide_eq_true (by omega)
        have d1n : decide (0 < n2) = true := decide_eq_true (by omega)
        go_wp2_with (go_at_call 11; refine (lives_any _).mono ?_; rintro e w9 ⟨rfl, hb9⟩; have HB9 := Lib.hid hb9; clear hb9)
        go_ret
        exact ⟨rfl, HBB6.out.trans (HB9.out.mono HBB6.out.size)⟩
end Go.Proofs.Ytjkbhdocpjekmaa
