/- The walks of layer 16's reference: cases, closures. -/
import Derived.Test.YtcbehllfljjngaaRWalkF
namespace Go.Proofs.Ytcbehllfljjngaa
open Go.RowKit
set_option linter.unusedVariables false
attribute [local go_sem ↓] Go.wp_at_zero Go.wp_at_succ

section
variable {w : World} {B rb N : Nat} {H : Hp}
set_option maxHeartbeats 1000000 in
theorem rcase_any (h : RefAt w B rb N H) (z : Int) (hz : WfI z) :
    Calls Try.prog 31 #[.pointer (some ⟨rb, 0, none⟩), .int .i64 z] w fun ee w' => ee = .returned (.tuple #[.int .i64 (caseF H z).1, .int .i64 (caseF H z).2]) ∧ Below w.heap.size w w' := by
  have tz := tmod2n z
  by_cases h1 : z % 2 = 1
  · rw [decide_eq_true h1] at tz
    have HP : Hid (caseF H z = (z / 2, 0)) := by show _ = _; unfold caseF; rw [if_pos h1]
    have HC := Lib.hid (fun (wx : World) => half_odd z wx hz h1)
    clear h hz h1
    go_enter Try.func31, Try.ntmps31
    go_wp2_with fail
    refine (HC.out w).mono ?_
    rintro ee w1 ⟨rfl, rfl⟩
    go_wp2_with fail
    go_ret2
    exact ⟨by rw [HP.out]; rfl, Below.refl _ _⟩
  · rw [decide_eq_false h1] at tz
    have HT := Lib.hid (rtag_any h z hz)
    have HP : Hid (caseF H z = if 0 ≤ tagF H z ∧ tagF H z ≤ 199 then (tagF H z, 0) else (0, 4)) := by show _ = _; unfold caseF; rw [if_neg h1]
    unfold TagPost at HT
    clear h hz h1
    generalize tagF H z = t at *
    by_cases h2 : t < 0
    · have HP2 : Hid (caseF H z = (0, 4)) := HP.out.trans (if_neg (by omega))
      clear HP
      go_enter Try.func31, Try.ntmps31
      go_wp2_with fail
      refine HT.out.mono ?_
      rintro ee w1 ⟨A, n, c, rfl, _, _, b1⟩
      have HB := Lib.hid b1
      clear b1 HT
      go_wp2_with fail
      go_ret2
      exact ⟨by rw [HP2.out]; rfl, HB.out⟩
    · by_cases h3 : 199 < t
      · have HP2 : Hid (caseF H z = (0, 4)) := HP.out.trans (if_neg (by omega))
        clear HP
        go_enter Try.func31, Try.ntmps31
        go_wp2_with fail
        refine HT.out.mono ?_
        rintro ee w1 ⟨A, n, c, rfl, _, _, b1⟩
        have HB := Lib.hid b1
        clear b1 HT
        go_wp2_with fail
        go_ret2
        exact ⟨by rw [HP2.out]; rfl, HB.out⟩
      · have HP2 : Hid (caseF H z = (t, 0)) := HP.out.trans (if_pos (by omega))
        clear HP
        go_enter Try.func31, Try.ntmps31
        go_wp2_with fail
        refine HT.out.mono ?_
        rintro ee w1 ⟨A, n, c, rfl, _, _, b1⟩
        have HB := Lib.hid b1
        clear b1 HT
        go_wp2_with fail
        go_ret2
        exact ⟨by rw [HP2.out]; rfl, HB.out⟩
def RClosePost (w : World) (B rb N : Nat) (H : Hp) (f : Int) (kept : List Int) (ee : Ending) (w' : World) : Prop :=
  ee = .returned (.tuple #[.int .i64 (closeR N H f kept), .int .i64 (closeE N H f kept)]) ∧ RefAt w' B rb N (closeH N H f kept) ∧ Below B w w'
set_option maxRecDepth 100000 in
set_option maxHeartbeats 1000000 in
theorem rclose_any (h : RefAt w B rb N H) (f : Int) (hf : WfI f) (A : Option Addr) (n c : Nat) (kept : List Int) (hz : Ints w w.heap.size A n kept) (hA : A = none → c = 0) (hn : n ≤ 100) (hwf : ∀ z ∈ kept, WfI z) :
    Calls Try.prog 45 #[.pointer (some ⟨rb, 0, none⟩), .int .i64 f, .slice A n c] w (RClosePost w B rb N H f kept) := by
  obtain ⟨hf1, hf2⟩ := wf_i64.1 hf
  by_cases hok : closeOk f = true
  · have HC : Hid (closeH N H f kept = mkH N H 200 ((2 * f + 1) :: kept) ∧ closeR N H f kept = mkR N H 200 ((2 * f + 1) :: kept) ∧ closeE N H f kept = mkE N H 200 ((2 * f + 1) :: kept)) := ⟨if_pos hok, if_pos hok, if_pos hok⟩
    unfold closeOk at hok
    simp only [Bool.and_eq_true, decide_eq_true_eq] at hok
    obtain ⟨q, rfl⟩ := Int.eq_ofNat_of_zero_le hok.1
    have hq : q ≤ 2147483647 := by omega
    obtain ⟨i0, hi, hz0, hz1, hz2⟩ := info_parts2 (show (Try.prog.info? 3).map (fun i => (i.zero, i.size, i.bytes)) = some (some (.int .i64 0), 1, 8) by kernel_rfl)
    have HI := Lib.hid hi
    have HI1 := Lib.hid hz1
    have HH := Lib.hid h
    have HL : Hid (kept.length = n) := hz.1
    have hn0 : A = none → n = 0 := fun hh => by
      rcases Nat.eq_zero_or_pos n with h0 | h0
      · exact h0
      · obtain ⟨b, off, e, _⟩ := hz.2 h0
        rw [hh] at e
        cases e
    have HZN : Hid (A = none → n = 0 ∧ c = 0) := fun hh => And.intro (hn0 hh) (hA hh)
    clear hn0
    have HW : Hid (∀ z ∈ (2 * (q : Int) + 1) :: kept, WfI z) := fun z hz' => by
      rcases List.mem_cons.1 hz' with rfl | h'
      · exact wf_i64.2 ⟨by omega, by omega⟩
      · exact hwf z h'
    have hB1 : Below w.heap.size w (w.alloc (.cells #[.int .i64 (2 * (q : Int) + 1)] 3)) := (Below.refl _ _).alloc (Nat.le_refl _) _
    have HO : Hid ((w.alloc (.cells #[.int .i64 (2 * (q : Int) + 1)] 3)).ownsRow w.heap.size 3 1 (.slice (some ⟨w.heap.size, 0, none⟩) 1 1) 1 ([2 * (q : Int) + 1].map (Value.int .i64))) := own_one w w.heap.size (Nat.le_refl _) _
    have HB1 := Lib.hid hB1
    have hslt : w.heap.size ≤ (w.alloc (.cells #[.int .i64 (2 * (q : Int) + 1)] 3)).heap.size := hB1.size
    have HNW : Hid (∀ ad, A = some ad → ∀ j u, (kept.map (Value.int .i64))[j]? = some u → (w.alloc (.cells #[.int .i64 (2 * (q : Int) + 1)] 3)).cell? (ad.add j) = some u) := fun ad hh => ints_news (by rw [← hh]; exact hz) hB1
    clear hi hz0 hz1 hz2 h hz hwf hf hf1 hf2 hok hB1 hA
    by_cases h0 : n = 0
    · subst h0
      have HK : Hid (kept = []) := List.eq_nil_of_length_eq_zero HL.out
      go_enter Try.func45, Try.ntmps45
      go_wp2_with (at_builtin; refine wpList_append_fits_any _ rfl _ _ 36 rfl w.heap.size 3 i0 1 Try.underlying36 HI.out HI1.out w.heap.size 1 1 _ rfl HO.out A 0 c [] rfl rfl HZN.out (fun _ _ j u h => by simp at h) (fun u h => by simp at h) (by omega) ?_; intro w7 ho7 hg7; have HA := Lib.hid ho7; have HB7 : Hid (Below w.heap.size w w7) := HB1.out.grown hg7 hslt (fun k hk => by simp at hk; omega); clear ho7 hg7)
      have H7 := Lib.hid (HH.out.later HB7.out)
      have M7 : Hid (Below B w w7) := HB7.out.mono HH.out.leB
      rw [List.append_nil, Nat.add_zero] at HA
      obtain ⟨A2, c2, e2, hI⟩ := Ints.of_own HA.out
      simp only [Value.slice.injEq] at e2
      obtain ⟨rfl, _, rfl⟩ := e2
      rw [show [2 * (q : Int) + 1] = (2 * (q : Int) + 1) :: kept from by rw [HK.out]] at hI
      refine (rmake_any H7.out 200 _ 1 1 _ hI (by decide) HW.out).mono ?_
      rintro ee w8 ⟨rfl, h8, b8⟩
      have H8 := Lib.hid h8
      have M8 := Lib.hid (M7.out.trans b8)
      clear h8 b8 hI
      go_wp2_with fail
      go_ret2
      exact ⟨by rw [HC.out.2.1, HC.out.2.2]; rfl, by rw [HC.out.1]; exact H8.out, M8.out⟩
    · obtain ⟨ad, rfl⟩ : ∃ ad, A = some ad := by
        cases A with
        | none => exact absurd (HZN.out rfl).1 h0
        | some ad => exact ⟨ad, rfl⟩
      go_enter Try.func45, Try.ntmps45
      go_wp2_with (at_builtin; refine list_app_from ty_ints (v := .slice (some ⟨w.heap.size, 0, none⟩) 1 1) rfl _ _ rfl rfl HO.out ad n c (kept.map (Value.int .i64)) rfl (HNW.out ad rfl) (by rw [List.length_map, HL.out, Nat.mul_one]) (by intro u hu; obtain ⟨z, _, rfl⟩ := List.mem_map.1 hu; rfl) (by omega) (by omega) (by decide) hslt ?_; intro gv cv w7 hap; have HA := Lib.hid hap.own; have HB7 := Lib.hid (hap.below HO.out HB1.out (Nat.le_refl _) hslt); clear hap)
      have H7 := Lib.hid (HH.out.later HB7.out)
      have M7 : Hid (Below B w w7) := HB7.out.mono HH.out.leB
      rw [← List.map_append] at HA
      obtain ⟨A2, c2, e2, hI⟩ := Ints.of_own HA.out
      simp only [Value.slice.injEq] at e2
      obtain ⟨rfl, _, rfl⟩ := e2
      refine (rmake_any H7.out 200 _ (1 + n) _ _ hI (by omega) HW.out).mono ?_
      rintro ee w8 ⟨rfl, h8, b8⟩
      have H8 := Lib.hid h8
      have M8 := Lib.hid (M7.out.trans b8)
      clear h8 b8 hI
      go_wp2_with fail
      go_ret2
      exact ⟨by rw [HC.out.2.1, HC.out.2.2]; rfl, by rw [HC.out.1]; exact H8.out, M8.out⟩
  · have HC : Hid (closeH N H f kept = H ∧ closeR N H f kept = 0 ∧ closeE N H f kept = 1) := ⟨if_neg hok, if_neg hok, if_neg hok⟩
    unfold closeOk at hok
    simp only [Bool.and_eq_true, decide_eq_true_eq] at hok
    have HH := Lib.hid h
    rcases (by omega : f < 0 ∨ (0 ≤ f ∧ 2147483647 < f)) with h1 | ⟨h1, h2⟩
    all_goals
      clear hok h hf hz hwf
      go_enter Try.func45, Try.ntmps45
      go_wp2_with fail
      go_ret2
      exact ⟨by rw [HC.out.2.1, HC.out.2.2]; rfl, by rw [HC.out.1]; exact HH.out, Below.refl _ _⟩
set_option maxRecDepth 100000 in
set_option maxHeartbeats 2000000 in
theorem ropen_any (h : RefAt w B rb N H) (z : Int) (hz : WfI z) : Calls Try.prog 29 #[.pointer (some ⟨rb, 0, none⟩), .int .i64 z] w (OpenPost w (openF H z)) := by
  have HF := Lib.hid (rtag_any h z hz)
  have HOK : Hid (openOk H z = (decide (tagF H z = 200) && decide (0 < (fieldsF H z).length) && decide ((fieldsF H z).getD 0 0 % 2 = 1) && decide (0 ≤ (fieldsF H z).getD 0 0 / 2) && decide ((fieldsF H z).getD 0 0 / 2 ≤ 2147483647))) := rfl
  have HR : Hid (openOk H z = true → openF H z = ((fieldsF H z).getD 0 0 / 2, (fieldsF H z).tail, 0)) := fun h => by unfold openF; rw [h]; rfl
  have HBAD : Hid (∀ w' : World, openOk H z = false → Below w.heap.size w w' → OpenPost w (openF H z) (.returned (.tuple #[.int .i64 0, .slice none 0 0, .int .i64 4])) w') := fun w' h1 h2 => open_bad h1 h2
  have HWF := Lib.hid (wfF_fields h.wf z)
  unfold TagPost at HF
  clear h hz
  generalize tagF H z = tg at *
  generalize fieldsF H z = zs at *
  go_enter Try.func29, Try.ntmps29
  go_wp2_with fail
  refine HF.out.mono ?_
  rintro ee w1 ⟨A, n, c, rfl, hI, ⟨hn, hc2, hc1⟩, hb1⟩
  have HL : Hid (zs.length = n) := hI.1
  have HI := Lib.hid hI
  have HB := Lib.hid hb1
  clear hI hb1 HF
  by_cases ht : tg = 200
  · subst ht
    by_cases h0 : n = 0
    · have HX := Lib.hid (HBAD.out w1 (by rw [HOK.out, HL.out, h0]; rfl) HB.out)
      clear HBAD HOK HR HI
      subst h0
      go_wp2_with fail
      go_ret3
      exact HX.out
    · obtain ⟨b, off, rfl, hlt, x0⟩ := HI.out.at_ (k := 0) (by omega)
      obtain ⟨m, rfl⟩ : ∃ m, n = m + 1 := ⟨n - 1, by omega⟩
      have HIT := Lib.hid (ints_tail HI.out)
      rw [Nat.add_zero] at x0
      have hn0 : 0 < m + 1 := by omega
      have hm0 : ((m : Int) + 1 == 0) = false := beq_eq_false_iff_ne.2 (by omega)
      obtain ⟨hxl, hxm⟩ := wf_i64.1 (HWF.out (zs.getD 0 0) (by rw [List.getD_eq_getElem?_getD, List.getElem?_eq_getElem (by have := HL.out; omega)]; exact List.getElem_mem _))
      generalize zs.getD 0 0 = x at *
      have tx := tmod2 x
      by_cases hx : x % 2 = 1
      · rw [decide_eq_true hx] at tx
        have tx : (Int.tmod x 2 == 0) = false := tx
        by_cases hx2 : x < 0
        · have HX := Lib.hid (HBAD.out w1 (by rw [HOK.out, decide_eq_false (show ¬ 0 ≤ x / 2 by omega)]; simp) HB.out)
          clear HBAD HOK HR HI HIT hx h0
          go_wp2_with fail
          go_ret3
          exact HX.out
        · have hx0 : 0 ≤ x := by omega
          have txe : (x % 2 == 0) = false := beq_eq_false_iff_ne.2 (by omega)
          by_cases hx3 : 2147483647 < x / 2
          · have HX := Lib.hid (HBAD.out w1 (by rw [HOK.out, decide_eq_false (show ¬ x / 2 ≤ 2147483647 by omega)]; simp) HB.out)
            clear HBAD HOK HR HI HIT hx h0
            go_wp2_with fail
            go_ret3
            exact HX.out
          · have HX := Lib.hid (HR.out (by rw [HOK.out, HL.out, decide_eq_true (show 0 ≤ x / 2 by omega), decide_eq_true (show x / 2 ≤ 2147483647 by omega), decide_eq_true hx, decide_eq_true hn0]; rfl))
            clear HBAD HOK HR HI hx h0
            unfold maxLen at hc1
            have hc0 : 1 ≤ c := by omega
            by_cases hc11 : c = 1
            · subst hc11
              obtain rfl : m = 0 := by omega
              have HIN := Lib.hid (show ∀ ad, Ints w1 w1.heap.size (some ad) 0 zs.tail from fun ad => ⟨HIT.out.1, fun h => absurd h (by omega)⟩)
              go_upto_region 4 with (fail)
              go_region
              all_goals
                go_wp2_with fail
                go_ret3
                exact ⟨_, 0, _, by rw [HX.out]; rfl, by rw [HX.out]; exact HIN.out _, by omega, HB.out.drew⟩
            · have hc12 : 1 < c := by omega
              clear hc11
              go_upto_region 4 with (fail)
              go_region
              all_goals
                go_wp2_with fail
                go_ret3
                exact ⟨_, m, _, by rw [HX.out]; rfl, by rw [HX.out]; exact HIT.out, by omega, HB.out.drew⟩
      · rw [decide_eq_false hx] at tx
        have tx : (Int.tmod x 2 == 0) = true := tx
        have txe : (x % 2 == 0) = true := beq_iff_eq.2 (by omega)
        have HX := Lib.hid (HBAD.out w1 (by rw [HOK.out, decide_eq_false hx]; simp) HB.out)
        clear HBAD HOK HR HI HIT hx h0
        go_wp2_with fail
        all_goals
          go_ret3
          exact HX.out
  · have HX := Lib.hid (HBAD.out w1 (by rw [HOK.out, decide_eq_false ht]; rfl) HB.out)
    have hb2 : (tg != 200) = true := bne_iff_ne.2 ht
    clear HBAD HOK HR HI ht
    go_wp2_with fail
    go_ret3
    exact HX.out
end
end Go.Proofs.Ytcbehllfljjngaa
