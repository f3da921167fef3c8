/- The laws PrimsSum and PrimsTags: their walks. -/
import Derived.Test.YtcbehllfljjngaaPWalkF
namespace Go.Proofs.Ytcbehllfljjngaa
open Go.RowKit
set_option linter.unusedVariables false
attribute [local go_sem ↓] Go.wp_at_zero Go.wp_at_succ

set_option maxHeartbeats 400000 in
theorem half_odd (z : Int) (w : World) (hz : WfI z) (h : z % 2 = 1) : Calls Try.prog 38 #[.int .i64 z] w fun e w' => e = .returned (.int .i64 (z / 2)) ∧ w = w' := by
  obtain ⟨h1, h2⟩ := wf_i64.1 hz
  clear hz
  by_cases hn : z < 0
  · have HE : Hid (wrap64 (-wrap64 (wrap64 (-(z + 1).tdiv 2) + 1)) = z / 2) := by
      show _ = _
      have e : (z + 1).tdiv 2 = (z + 1) / 2 := Int.tdiv_eq_ediv_of_dvd ⟨(z + 1) / 2, by omega⟩
      rw [e]; unfold wrap64; omega
    clear h
    go_enter Try.func38, Try.ntmps38
    go_wp2_with fail
    go_ret
    exact ⟨rt_i HE.out, rfl⟩
  · clear h
    go_enter Try.func38, Try.ntmps38
    go_wp2_with fail
    go_ret
    exact ⟨rfl, rfl⟩
theorem tmod2 (z : Int) : (Int.tmod z 2 == 0) = !decide (z % 2 = 1) := by
  rw [Bool.eq_iff_iff]
  simp only [beq_iff_eq, Bool.not_eq_true', decide_eq_false_iff_not]
  constructor
  · intro h; have := Int.emod_two_eq z; have h2 : z % 2 = 0 := Int.emod_eq_zero_of_dvd (Int.dvd_of_tmod_eq_zero h); omega
  · intro h; exact Int.tmod_eq_zero_of_dvd (Int.dvd_of_emod_eq_zero (by have := Int.emod_two_eq z; omega))
theorem slice_strs (w : World) (k : Nat) (h : k < 7) : (w.alloc (.cells sgA 9)).cell? ⟨w.heap.size, k, none⟩ = some (.string (sgB k)) := ((Whole.made w 9 sgA).cell k).trans (sgA_get k h)
set_option maxRecDepth 100000 in
set_option maxHeartbeats 1000000 in
theorem rsum_any (k a b : Int) (w : World) (hk : WfI k) (ha : WfI a) (hb : WfI b) : Calls Try.prog 10 #[.int .i64 k, .int .i64 a, .int .i64 b] w (SumPost w k a b) := by
  obtain ⟨ha1, ha2⟩ := wf_i64.1 ha
  obtain ⟨hb1, hb2⟩ := wf_i64.1 hb
  have ta := tmod2 a
  have tb := tmod2 b
  by_cases hk : 0 ≤ k ∧ k ≤ 6
  · by_cases h2 : a % 2 = 1 ∧ b % 2 = 1
    · obtain ⟨q, rfl⟩ := Int.eq_ofNat_of_zero_le hk.1
      have hq7 : q < 7 := by omega
      have hq7' : (q : Int) < 7 := by omega
      have hq0 : (0 : Int) ≤ q := by omega
      rw [decide_eq_true h2.1] at ta
      rw [decide_eq_true h2.2] at tb
      have HD : Hid (sumD q a b = I.doF (sgB q).toList (a / 2) (b / 2)) := rfl
      have hin := sumD_in q a b
      have HOK := Lib.hid (fun h3 => sum_ok (k := q) hk h2 h3)
      have HER := Lib.hid (fun h3 => sum_err (k := q) hk h2 h3)
      have CA := fun (wx : World) => half_odd a wx ha h2.1
      have CB := fun (wx : World) => half_odd b wx hb h2.2
      have hgt := slice_strs w q hq7
      have HBB : Hid (Below w.heap.size w (w.alloc (.cells sgA 9))) := (Below.refl _ _).alloc (Nat.le_refl _) _
      clear hk h2 ha hb
      generalize sumD q a b = r at *
      generalize sgB q = op at *
      generalize a / 2 = x at *
      generalize b / 2 = y at *
      have CA := Lib.hid CA
      have CB := Lib.hid CB
      have hsgA : sgA = #[.string ⟨#[43]⟩, .string ⟨#[45]⟩, .string ⟨#[42]⟩, .string ⟨#[47]⟩, .string ⟨#[37]⟩, .string ⟨#[61]⟩, .string ⟨#[60]⟩] := rfl
      go_enter Try.func10, Try.ntmps10
      go_upto_region 6 with (fail)
      rw [← hsgA]
      generalize w.alloc (.cells sgA 9) = w2 at *
      clear hsgA
      go_cut [9, 10] (fun o e wx => o = .int .i64 r.1 ∧ e = .int .i64 r.2 ∧ Below w.heap.size w wx)
      case first =>
        go_region_held3 (fun W => W.cell? ⟨w.heap.size, q, none⟩ = some (.string op))
          (first | go_keep)
          (first
            | ((go_at_call_of 38 a; with_reducible refine (CA.out _).mono ?_); rintro e wm ⟨rfl, rfl⟩)
            | ((go_at_call_of 38 b; with_reducible refine (CB.out _).mono ?_); rintro e wm ⟨rfl, rfl⟩)
            | ((go_at_call 13; with_reducible refine (I.rdo_any op x y _).mono ?_); rintro e wm ⟨rfl, rfl⟩))
        all_goals
          go_wp2_with fail
          go_meet
          exact ⟨by rw [HD.out], by rw [HD.out], HBB.out.drew⟩
      case rest =>
        obtain ⟨rfl, rfl, hbw⟩ := hcut
        have HBW := Lib.hid hbw
        obtain ⟨rv, re⟩ := r
        dsimp only at *
        clear hbw hgt ta tb HBB
        by_cases he : re = 0
        · have HF := Lib.hid (HOK.out he)
          subst he
          clear HOK HER
          go_wp2_with fail
          go_ret2
          exact ⟨by rw [HF.out]; rfl, HBW.out⟩
        · have HF := Lib.hid (HER.out he)
          have hne : (re != 0) = true := bne_iff_ne.2 he
          clear HOK HER he
          go_wp2_with fail
          go_ret2
          exact ⟨by rw [HF.out]; rfl, HBW.out⟩
    · have HF := Lib.hid (sum_word (a := a) (b := b) hk h2)
      have hcase : a % 2 ≠ 1 ∨ (a % 2 = 1 ∧ b % 2 ≠ 1) := by omega
      clear h2 ha hb
      rcases hcase with h | ⟨h, h'⟩
      · rw [decide_eq_false h] at ta
        clear h tb
        go_enter Try.func10, Try.ntmps10
        go_wp2_with fail
        go_ret2
        exact ⟨by rw [HF.out]; rfl, Below.refl _ _⟩
      · rw [decide_eq_true h] at ta
        rw [decide_eq_false h'] at tb
        clear h h'
        go_enter Try.func10, Try.ntmps10
        go_wp2_with fail
        go_ret2
        exact ⟨by rw [HF.out]; rfl, Below.refl _ _⟩
  · have HF := Lib.hid (sum_bad (a := a) (b := b) hk)
    rcases (by omega : k < 0 ∨ (0 ≤ k ∧ 6 < k)) with h | ⟨h, h'⟩
    all_goals
      clear hk ta tb ha hb
      go_enter Try.func10, Try.ntmps10
      go_wp2_with fail
      go_ret2
      exact ⟨by rw [HF.out]; rfl, Below.refl _ _⟩
set_option maxHeartbeats 400000 in
theorem primsSum_walk (k a b : Int) (w : World) (hk : (Lit.int .i64 k).wf = true) (ha : (Lit.int .i64 a).wf = true) (hb : (Lit.int .i64 b).wf = true) :
    Calls Try.prog 3 #[.int .i64 k, .int .i64 a, .int .i64 b] w fun e w' => e = .returned (.bool true) ∧ Below w.heap.size w w' := by
  have CA := Lib.hid (sum_any k a b w hk ha hb)
  have CB := Lib.hid (fun (wx : World) => rsum_any k a b wx hk ha hb)
  clear hk ha hb
  unfold SumPost at CA CB
  generalize (sumF k a b).1 = x at *
  generalize (sumF k a b).2 = y at *
  go_enter Try.func3, Try.ntmps3
  go_wp2_with fail
  refine CA.out.mono ?_
  rintro e w1 ⟨rfl, b1⟩
  have B1 := Lib.hid b1
  clear b1
  go_wp2_with fail
  refine (CB.out w1).mono ?_
  rintro e w2 ⟨rfl, b2⟩
  have B2 : Hid (Below w.heap.size w w2) := B1.out.trans (b2.mono B1.out.size)
  clear b2
  go_wp2_with (go_at_call 11; refine (lives_any _).mono ?_; rintro e w' ⟨rfl, hb⟩)
  go_ret
  exact ⟨rfl, B2.out.trans (hb.mono B2.out.size)⟩
theorem sumD_tag (k a b : Int) : sumD k (2 * a + 1) (2 * b + 1) = I.doF (sgB k.toNat).toList a b := by
  unfold sumD
  rw [show (2 * a + 1) / 2 = a from by omega, show (2 * b + 1) / 2 = b from by omega]
set_option maxRecDepth 100000 in
set_option maxHeartbeats 1000000 in
theorem primsTags_walk (k a b : Int) (w : World) (hk : (Lit.int .i64 k).wf = true) (ha : (Lit.int .i64 a).wf = true) (hb : (Lit.int .i64 b).wf = true) :
    Calls Try.prog 4 #[.int .i64 k, .int .i64 a, .int .i64 b] w fun e w' => e = .returned (.bool true) ∧ Below w.heap.size w w' := by
  obtain ⟨ha1, ha2⟩ := wf_i64.1 ha
  obtain ⟨hb1, hb2⟩ := wf_i64.1 hb
  have CA := Lib.hid (I.rwrap_any a w ha1 ha2)
  have CB := Lib.hid (I.rwrap_any b w hb1 hb2)
  have la := I.cw_lo a
  have ua := I.cw_hi a
  have lb := I.cw_lo b
  have ub := I.cw_hi b
  clear ha hb ha1 ha2 hb1 hb2
  generalize I.cw a = x at *
  generalize I.cw b = y at *
  have CS := Lib.hid (sum_any k (2 * x + 1) (2 * y + 1) w hk (wf_i64.2 ⟨by omega, by omega⟩) (wf_i64.2 ⟨by omega, by omega⟩))
  unfold SumPost at CS
  by_cases hk7 : 0 ≤ k ∧ k ≤ 6
  · obtain ⟨q, rfl⟩ := Int.eq_ofNat_of_zero_le hk7.1
    have hq7 : q < 7 := by omega
    have hq7' : (q : Int) < 7 := by omega
    have hq0 : (0 : Int) ≤ q := by omega
    have HD : Hid (sumD q (2 * x + 1) (2 * y + 1) = I.doF (sgB q).toList x y) := sumD_tag q x y
    have hin := sumD_in q (2 * x + 1) (2 * y + 1)
    have HOK := Lib.hid (fun h3 => sum_ok (k := q) (a := 2 * x + 1) (b := 2 * y + 1) hk7 ⟨by omega, by omega⟩ h3)
    have HER := Lib.hid (fun h3 => sum_err (k := q) (a := 2 * x + 1) (b := 2 * y + 1) hk7 ⟨by omega, by omega⟩ h3)
    have HGT := Lib.hid (fun (wx : World) => slice_strs wx q hq7)
    clear hk7 hk
    generalize sumD q (2 * x + 1) (2 * y + 1) = r at *
    generalize sumF q (2 * x + 1) (2 * y + 1) = r2 at *
    generalize sgB q = op at *
    obtain ⟨rv, re⟩ := r
    dsimp only at *
    have hcase : (re = 0 ∧ r2 = (2 * rv + 1, 0)) ∨ (re ≠ 0 ∧ r2 = (0, re)) := by
      by_cases he : re = 0
      · exact .inl ⟨he, HOK.out he⟩
      · exact .inr ⟨he, HER.out he⟩
    clear HOK HER
    rcases hcase with ⟨rfl, rfl⟩ | ⟨he, rfl⟩
    · dsimp only at *
      go_enter Try.func4, Try.ntmps4
      go_wp2_with fail
      refine CA.out.mono ?_
      rintro e w' ⟨rfl, rfl⟩
      go_wp2_with fail
      refine CB.out.mono ?_
      rintro e w' ⟨rfl, rfl⟩
      go_wp2_with fail
      refine CS.out.mono ?_
      rintro e w1 ⟨rfl, b1⟩
      have hgt := HGT.out w1
      have HBB : Hid (Below w.heap.size w (w1.alloc (.cells sgA 9))) := b1.alloc b1.size _
      clear b1 HGT CA CB CS
      have hsgA : sgA = #[.string ⟨#[43]⟩, .string ⟨#[45]⟩, .string ⟨#[42]⟩, .string ⟨#[47]⟩, .string ⟨#[37]⟩, .string ⟨#[61]⟩, .string ⟨#[60]⟩] := rfl
      go_upto_region 5 with (fail)
      rw [← hsgA]
      generalize w1.alloc (.cells sgA 9) = w2 at *
      clear hsgA
      go_wp2_with fail
      refine (I.rdo_any op x y w2).mono ?_
      rintro e w3 ⟨rfl, rfl⟩
      rw [← HD.out]
      clear hgt
      go_wp2_with (go_at_call 11; refine (lives_any _).mono ?_; rintro e w' ⟨rfl, hb⟩)
      go_ret
      exact ⟨rfl, HBB.out.trans (hb.mono HBB.out.size)⟩
    · have hne : (re != 0) = true := bne_iff_ne.2 he
      dsimp only at *
      clear he
      go_enter Try.func4, Try.ntmps4
      go_wp2_with fail
      refine CA.out.mono ?_
      rintro e w' ⟨rfl, rfl⟩
      go_wp2_with fail
      refine CB.out.mono ?_
      rintro e w' ⟨rfl, rfl⟩
      go_wp2_with fail
      refine CS.out.mono ?_
      rintro e w1 ⟨rfl, b1⟩
      have hgt := HGT.out w1
      have HBB : Hid (Below w.heap.size w (w1.alloc (.cells sgA 9))) := b1.alloc b1.size _
      clear b1 HGT CA CB CS
      have hsgA : sgA = #[.string ⟨#[43]⟩, .string ⟨#[45]⟩, .string ⟨#[42]⟩, .string ⟨#[47]⟩, .string ⟨#[37]⟩, .string ⟨#[61]⟩, .string ⟨#[60]⟩] := rfl
      go_upto_region 5 with (fail)
      rw [← hsgA]
      generalize w1.alloc (.cells sgA 9) = w2 at *
      clear hsgA
      go_wp2_with fail
      refine (I.rdo_any op x y w2).mono ?_
      rintro e w3 ⟨rfl, rfl⟩
      rw [← HD.out]
      clear hgt
      go_wp2_with (go_at_call 11; refine (lives_any _).mono ?_; rintro e w' ⟨rfl, hb⟩)
      go_ret
      exact ⟨rfl, HBB.out.trans (hb.mono HBB.out.size)⟩
  · have HF := Lib.hid (sum_bad (a := 2 * x + 1) (b := 2 * y + 1) hk7)
    rw [HF.out] at CS
    clear HF hk
    have HBB : Hid (∀ w1 : World, Below w.heap.size w w1 → Below w.heap.size w (w1.alloc (.cells sgA 9))) := fun w1 h => h.alloc h.size _
    have hsgA : Hid (sgA = #[.string ⟨#[43]⟩, .string ⟨#[45]⟩, .string ⟨#[42]⟩, .string ⟨#[47]⟩, .string ⟨#[37]⟩, .string ⟨#[61]⟩, .string ⟨#[60]⟩]) := rfl
    rw [hsgA.out] at HBB
    rcases (by omega : k < 0 ∨ (0 ≤ k ∧ 6 < k)) with h | ⟨h, h'⟩
    all_goals
      clear hk7
      go_enter Try.func4, Try.ntmps4
      go_wp2_with fail
      refine CA.out.mono ?_
      rintro e w' ⟨rfl, rfl⟩
      go_wp2_with fail
      refine CB.out.mono ?_
      rintro e w' ⟨rfl, rfl⟩
      go_wp2_with fail
      refine CS.out.mono ?_
      rintro e w1 ⟨rfl, b1⟩
      have HB2 := Lib.hid (HBB.out w1 b1)
      clear b1 HBB CA CB CS
      go_wp2_with (go_at_call 11; refine (lives_any _).mono ?_; rintro e w' ⟨rfl, hb⟩)
      go_ret
      exact ⟨rfl, HB2.out.trans (hb.mono HB2.out.size)⟩
end Go.Proofs.Ytcbehllfljjngaa
