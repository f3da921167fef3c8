/- The walks of layer 3: a text that is written, read by the reference. -/
import Derived.Test.YtmocjhildphklaaWalkI
namespace Go.Proofs.Ytmocjhildphklaa
open Go.RowKit Go.Maps
set_option linter.unusedVariables false

set_option maxRecDepth 100000 in
set_option maxHeartbeats 1000000 in
theorem digit_any (c : UInt8) (w : World) :
    Calls Try.prog 28 #[.int .u8 (c.toNat : Int)] w fun e w' => e = .returned (.int .i64 (idxH c)) ∧ w = w' := by
  have hc := c.toNat_lt
  by_cases h1 : 48 ≤ c.toNat ∧ c.toNat ≤ 57
  · have HF : Hid (idxH c = (c.toNat : Int) - 48) := by
      show idxH c = _
      unfold idxH hexV; rw [if_pos h1]; show ((c.toNat - 48 : Nat) : Int) = _; omega
    have a1 : 48 ≤ (c.toNat : Int) := by omega
    have a2 : (c.toNat : Int) ≤ 57 := by omega
    clear h1
    go_enter Try.func28, Try.ntmps28
    go_wp2
    go_ret
    exact ⟨ret_i HF.out.symm, rfl⟩
  · by_cases h2 : 97 ≤ c.toNat ∧ c.toNat ≤ 102
    · have HF : Hid (idxH c = (c.toNat : Int) - 97 + 10) := by
        show idxH c = _
        unfold idxH hexV; rw [if_neg h1, if_pos h2]; show ((c.toNat - 87 : Nat) : Int) = _; omega
      have a1 : 48 ≤ (c.toNat : Int) := by omega
      have a2 : ¬ (c.toNat : Int) ≤ 57 := by omega
      have a3 : 97 ≤ (c.toNat : Int) := by omega
      have a4 : (c.toNat : Int) ≤ 102 := by omega
      clear h1 h2
      go_enter Try.func28, Try.ntmps28
      go_wp2
      go_ret
      exact ⟨ret_i HF.out.symm, rfl⟩
    · have HF : Hid (idxH c = -1) := by
        show idxH c = _
        unfold idxH hexV; rw [if_neg h1, if_neg h2]
      generalize idxH c = v at *
      rcases (by omega : c.toNat < 48 ∨ (57 < c.toNat ∧ c.toNat < 97) ∨ 102 < c.toNat) with h3 | ⟨h3, h4⟩ | h3
      all_goals
        have a0 : (c.toNat : Int) < 256 := by omega
        have H1 := Lib.hid h1; have H2 := Lib.hid h2
        clear h1 h2
      · have a1 : (c.toNat : Int) < 48 := by omega
        have a2 : (c.toNat : Int) < 97 := by omega
        go_enter Try.func28, Try.ntmps28
        go_wp2
        go_ret
        exact ⟨ret_i HF.out.symm, rfl⟩
      · have a1 : 48 ≤ (c.toNat : Int) := by omega
        have a2 : 57 < (c.toNat : Int) := by omega
        have a3 : (c.toNat : Int) < 97 := by omega
        go_enter Try.func28, Try.ntmps28
        go_wp2
        go_ret
        exact ⟨ret_i HF.out.symm, rfl⟩
      · have a1 : 48 ≤ (c.toNat : Int) := by omega
        have a2 : 57 < (c.toNat : Int) := by omega
        have a3 : 97 ≤ (c.toNat : Int) := by omega
        have a4 : 102 < (c.toNat : Int) := by omega
        go_enter Try.func28, Try.ntmps28
        go_wp2
        go_ret
        exact ⟨ret_i HF.out.symm, rfl⟩
theorem esc_at {s : ByteArray} {k : Nat} (h : k < s.size) : escF (s.data.toList.drop k) = (if s[k] = 110 then (10, 1, 0) else if s[k] = 34 then (34, 1, 0) else if s[k] = 92 then (92, 1, 0) else if s[k] = 120 then escX (s.data.toList.drop (k + 1)) else (0, 0, 10)) := by
  rw [drop_more s k h, escF]
theorem ex_0 {s : ByteArray} {k : Nat} (h : ¬ k < s.size) : escX (s.data.toList.drop k) = (0, 0, 11) := by rw [drop_end s k h]; rfl
theorem ex_1 {s : ByteArray} {k : Nat} (h : k < s.size) (hv : hexV s[k] = none) : escX (s.data.toList.drop k) = (0, 0, 10) := by rw [drop_more s k h, escX, hv]
theorem ex_2 {s : ByteArray} {k : Nat} (h : k < s.size) {p : Nat} (hv : hexV s[k] = some p) (h2 : ¬ k + 1 < s.size) : escX (s.data.toList.drop k) = (0, 0, 11) := by rw [drop_more s k h, escX, hv, drop_end s (k + 1) h2]
theorem ex_3 {s : ByteArray} {k : Nat} (h : k < s.size) {p : Nat} (hv : hexV s[k] = some p) (h2 : k + 1 < s.size) (hw : hexV s[k + 1] = none) : escX (s.data.toList.drop k) = (0, 0, 10) := by
  rw [drop_more s k h, escX, hv]
  show (match s.data.toList.drop (k + 1) with | [] => _ | y :: _ => _) = _
  rw [drop_more s (k + 1) h2]; show (match hexV s[k + 1] with | none => _ | some q => _) = _; rw [hw]
theorem ex_4 {s : ByteArray} {k : Nat} (h : k < s.size) {p q : Nat} (hv : hexV s[k] = some p) (h2 : k + 1 < s.size) (hw : hexV s[k + 1] = some q) : escX (s.data.toList.drop k) = (UInt8.ofNat (16 * p + q), 3, 0) := by
  rw [drop_more s k h, escX, hv]
  show (match s.data.toList.drop (k + 1) with | [] => _ | y :: _ => _) = _
  rw [drop_more s (k + 1) h2]; show (match hexV s[k + 1] with | none => _ | some q => _) = _; rw [hw]
def YRel (s : ByteArray) (k : Nat) (i n j : Value) : Prop :=
  (i = .int .i64 (k : Int) ∧ n = .int .i64 0 ∧ j = .int .i64 0) ∨ (∃ p, ∃ h : k < s.size, hexV s[k] = some p ∧ i = .int .i64 ((k + 1 : Nat) : Int) ∧ n = .int .i64 (p : Int) ∧ j = .int .i64 1) ∨
  (∃ p q, ∃ h : k + 1 < s.size, hexV s[k] = some p ∧ hexV s[k + 1] = some q ∧ i = .int .i64 ((k + 2 : Nat) : Int) ∧ n = .int .i64 ((16 * p + q : Nat) : Int) ∧ j = .int .i64 2)

set_option maxRecDepth 100000 in
set_option maxHeartbeats 4000000 in
theorem runquote_in (s : ByteArray) (w : World) (hs : s.size ≤ 1000) (h0 : 0 < s.size) (h34 : s[0] = 34) : Calls Try.prog 20 #[.string s] w (UnqPost s.data.toList w) := by
  have he : ((s.size : Int) == 0) = false := by rw [beq_eq_false_iff_ne]; omega
  have ht : ((s[0].toNat : Int) != 34) = false := by rw [h34]; rfl
  have hst : UnqAt s.data.toList 1 ((s.data.toList.drop 1).length + 1) [] := by
    have h := unq_start (r := s.data.toList.drop 1) h34
    rw [← data_cons s h0] at h
    exact h
  have HS := Lib.hid hst
  clear hst h34
  go_enter Try.func20, Try.ntmps20
  go_wp2_with fail
  go_loopw [5, 6] (UnqRel s w) (fun _ i _ => s.size + 1 - (intOf i).toNat)
  case atStart => exact ⟨1, _, [], rfl, HS.out, World.ownsRow_nil _ _ _ _, Below.refl _ _⟩
  case round =>
    obtain ⟨k, f, acc, rfl, ha, hown, hw⟩ := hrel
    clear HS
    have hkl := ha.le
    rw [size_data] at hkl
    have hfew := ha.few
    obtain ⟨A, cp, hv⟩ := own_val hown
    rw [hv] at hown ⊢
    clear hv
    by_cases hlt : k < s.size
    · have hge : ¬ (s.size : Int) ≤ k := by omega
      have hc := data_get s k hlt
      have hc8 := s[k].toNat_lt
      have HA := Lib.hid ha
      clear ha
      by_cases h34 : s[k] = 34
      · have t2 : ((s[k].toNat : Int) != 34) = false := by rw [h34]; rfl
        rw [h34] at hc
        by_cases hl : 60 < acc.length
        · have HF := Lib.hid (HA.out.long hc hl)
          have hl' : 60 < (acc.length : Int) := by omega
          clear hc h34
          go_wp2
          go_ret3
          exact unq_post HF.out rfl rfl hw
        · have HF := Lib.hid (HA.out.done hc hl)
          have hl' : ¬ 60 < (acc.length : Int) := by omega
          have hcv := conv_own hown rfl
          clear hc h34
          go_wp2
          go_ret3
          exact unq_post HF.out rfl (by omega) hw
      · have t2 : ((s[k].toNat : Int) != 34) = true := ne_u8 h34
        by_cases h10 : s[k] = 10
        · have t1 : ((s[k].toNat : Int) == 10) = true := eq_u8 h10
          rw [h10] at hc
          have HF := Lib.hid (HA.out.open_ hc)
          clear hc h10 h34
          go_wp2
          go_ret3
          exact unq_post HF.out rfl rfl hw
        · have t1 : ((s[k].toNat : Int) == 10) = false := nq_u8 h10
          by_cases h92 : s[k] = 92
          · have t3 : ((s[k].toNat : Int) != 92) = false := by rw [h92]; rfl
            have p1 : 32 ≤ (s[k].toNat : Int) := by rw [h92]; decide
            have p2 : (s[k].toNat : Int) ≤ 126 := by rw [h92]; decide
            rw [h92] at hc
            have hno := HA.out.esc_no hc
            have hok := HA.out.esc_ok hc
            clear h10 h34 h92 hc
            by_cases hk1 : k + 1 < s.size
            · have hk1' : ¬ (s.size : Int) ≤ (k : Int) + 1 := by omega
              have hd1 := s[k + 1].toNat_lt
              have hes := esc_at hk1
              by_cases n1 : s[k + 1] = 110
              · rw [if_pos n1] at hes
                obtain ⟨g, hg⟩ := hok (by rw [hes])
                rw [hes] at hg
                have HG := Lib.hid hg
                have u1 : ((s[k + 1].toNat : Int) == 110) = true := eq_u8 n1
                clear hno hok hes hg n1
                go_wp2_with (at_builtin; go_must (refine app_u8 rfl _ _ rfl rfl hown hw hw.size rfl rfl (by intro u hu; simp at hu; subst hu; rfl) (by omega) ?_); intro v' w' hown' hw' _)
                exact ⟨⟨k + 1 + 1, g, acc ++ [10], by congr 1, HG.out, by simpa [u8v] using hown', hw'⟩, by simp [intOf]; omega⟩
              · have u1 : ((s[k + 1].toNat : Int) == 110) = false := nq_u8 n1
                rw [if_neg n1] at hes
                by_cases n2 : s[k + 1] = 34
                · rw [if_pos n2] at hes
                  obtain ⟨g, hg⟩ := hok (by rw [hes])
                  rw [hes] at hg
                  have HG := Lib.hid hg
                  have u2 : (s[k + 1].toNat : Int) = 34 := by rw [n2]; rfl
                  clear hno hok hes hg n1 n2
                  go_wp2_with (at_builtin; go_must (refine app_u8 rfl _ _ rfl rfl hown hw hw.size rfl rfl (by intro u hu; simp at hu; subst hu; rfl) (by omega) ?_); intro v' w' hown' hw' _)
                  exact ⟨⟨k + 1 + 1, g, acc ++ [34], by congr 1, HG.out, by simpa [u8v] using hown', hw'⟩, by simp [intOf]; omega⟩
                · have u2 : ((s[k + 1].toNat : Int) == 34) = false := nq_u8 n2
                  rw [if_neg n2] at hes
                  by_cases n3 : s[k + 1] = 92
                  · rw [if_pos n3] at hes
                    obtain ⟨g, hg⟩ := hok (by rw [hes])
                    rw [hes] at hg
                    have HG := Lib.hid hg
                    have u3 : (s[k + 1].toNat : Int) = 92 := by rw [n3]; rfl
                    clear hno hok hes hg n1 n2 n3 u1 u2
                    go_wp2_with (at_builtin; go_must (refine app_u8 rfl _ _ rfl rfl hown hw hw.size rfl rfl (by intro u hu; simp at hu; subst hu; rfl) (by omega) ?_); intro v' w' hown' hw' _)
                    exact ⟨⟨k + 1 + 1, g, acc ++ [92], by congr 1, HG.out, by simpa [u8v] using hown', hw'⟩, by simp [intOf]; omega⟩
                  · have u3 : ((s[k + 1].toNat : Int) == 92) = false := nq_u8 n3
                    rw [if_neg n3] at hes
                    by_cases n4 : s[k + 1] = 120
                    · rw [if_pos n4] at hes
                      have u4x : ((s[k + 1].toNat : Int) == 120) = true := eq_u8 n4
                      have HE := Lib.hid hes; have HNO := Lib.hid hno; have HOK := Lib.hid hok
                      clear hno hok hes n1 n2 n3 n4
                      go_wp2
                      go_loop [6, 9, 10] (fun i n j => YRel s (k + 2) i n j) (fun _ _ j => 2 - (intOf j).toNat)
                      case atStart => exact .inl ⟨by congr 1, rfl, rfl⟩
                      case round =>
                        rcases hrel with ⟨rfl, rfl, rfl⟩ | ⟨p, h1, hv, rfl, rfl, rfl⟩ | ⟨p, q, h2, hv, hv2, rfl, rfl, rfl⟩
                        · by_cases h1 : k + 2 < s.size
                          · have h1' : ¬ (s.size : Int) ≤ (k : Int) + 2 := by omega
                            rcases hv : hexV s[k + 2] with _ | p
                            · have hix := fun W => digit_any s[k + 2] W
                              rw [idx_none hv] at hix
                              have he := HE.out
                              rw [ex_1 h1 hv] at he
                              have HF := Lib.hid (HNO.out (by rw [he]; decide))
                              rw [he] at HF
                              have HI := Lib.hid hix
                              clear hv hix he
                              go_wp2_with (go_at_call 28; refine (HI.out _).mono ?_; rintro e w' ⟨rfl, rfl⟩)
                              go_ret3
                              exact unq_post HF.out rfl rfl hw
                            · have hix := fun W => digit_any s[k + 2] W
                              rw [idx_some hv] at hix
                              have hp := hexV_lt hv
                              have HI := Lib.hid hix; have HV := Lib.hid hv
                              clear hv hix
                              go_wp2_with (go_at_call 28; refine (HI.out _).mono ?_; rintro e w' ⟨rfl, rfl⟩)
                              go_round
                              case rel => exact .inr (.inl ⟨p, h1, HV.out, by congr 1, by congr 1, rfl⟩)
                              case measure => simp [intOf]
                          · have h1' : (s.size : Int) ≤ (k : Int) + 2 := by omega
                            have he := HE.out
                            rw [ex_0 h1] at he
                            have HF := Lib.hid (HNO.out (by rw [he]; decide))
                            rw [he] at HF
                            clear he
                            go_wp2
                            go_ret3
                            exact unq_post HF.out rfl rfl hw
                        · have hp := hexV_lt hv
                          by_cases h2 : k + 3 < s.size
                          · have h2' : ¬ (s.size : Int) ≤ (k : Int) + 2 + 1 := by omega
                            have h2'' : ¬ (s.size : Int) ≤ (k : Int) + 3 := by omega
                            rcases hv2 : hexV s[k + 3] with _ | q
                            · have hix := fun W => digit_any s[k + 3] W
                              rw [idx_none hv2] at hix
                              have he := HE.out
                              rw [ex_3 h1 hv h2 hv2] at he
                              have HF := Lib.hid (HNO.out (by rw [he]; decide))
                              rw [he] at HF
                              have HI := Lib.hid hix
                              clear hv hv2 hix he
                              go_wp2_with (go_at_call 28; refine (HI.out _).mono ?_; rintro e w' ⟨rfl, rfl⟩)
                              go_ret3
                              exact unq_post HF.out rfl rfl hw
                            · have hix := fun W => digit_any s[k + 3] W
                              rw [idx_some hv2] at hix
                              have hq := hexV_lt hv2
                              have HI := Lib.hid hix; have HV := Lib.hid hv; have HV2 := Lib.hid hv2
                              clear hv hv2 hix
                              go_wp2_with (go_at_call 28; refine (HI.out _).mono ?_; rintro e w' ⟨rfl, rfl⟩)
                              go_round
                              case rel => exact .inr (.inr ⟨p, q, h2, HV.out, HV2.out, by congr 1, by congr 1, rfl⟩)
                              case measure => simp [intOf]
                          · have h2' : (s.size : Int) ≤ (k : Int) + 2 + 1 := by omega
                            have h2'' : (s.size : Int) ≤ (k : Int) + 3 := by omega
                            have he := HE.out
                            rw [ex_2 h1 hv h2] at he
                            have HF := Lib.hid (HNO.out (by rw [he]; decide))
                            rw [he] at HF
                            clear he hv
                            go_wp2
                            go_ret3
                            exact unq_post HF.out rfl rfl hw
                        · have hp := hexV_lt hv
                          have hq := hexV_lt hv2
                          have he := HE.out
                          rw [ex_4 (by omega) hv h2 hv2] at he
                          obtain ⟨g, hg⟩ := HOK.out (by rw [he])
                          rw [he] at hg
                          have HG := Lib.hid hg
                          have hwr : ((UInt8.ofNat (16 * p + q)).toNat : Int) = ((16 * p + q : Nat) : Int) := by rw [UInt8.toNat_ofNat']; omega
                          have HR := Lib.hid hwr
                          have hlt2 : 16 * p + q < 256 := by omega
                          generalize 16 * p + q = t at *
                          clear hv hv2 hwr he hg
                          go_wp2_with (at_builtin; go_must (refine app_u8 rfl _ _ rfl rfl hown hw hw.size rfl rfl (by intro u hu; simp at hu; subst hu; rfl) (by omega) ?_); intro v' w' hown' hw' _)
                          exact ⟨⟨k + 1 + 3, g, acc ++ [UInt8.ofNat t], by congr 1, HG.out, by rw [List.map_append, List.map_cons, u8v, HR.out, List.length_append]; exact hown', hw'⟩, by simp [intOf]; omega⟩
                    · rw [if_neg n4] at hes
                      have HF := Lib.hid (hno (by rw [hes]; decide))
                      rw [hes] at HF
                      have u4x : ((s[k + 1].toNat : Int) == 120) = false := nq_u8 n4
                      clear hno hok hes n1 n2 n3 n4
                      go_wp2
                      go_ret3
                      exact unq_post HF.out rfl rfl hw
            · have hk1' : (s.size : Int) ≤ (k : Int) + 1 := by omega
              have hes : escF (s.data.toList.drop (k + 1)) = (0, 0, 11) := by rw [drop_end s (k + 1) hk1]; rfl
              have HF := Lib.hid (hno (by rw [hes]; decide))
              rw [hes] at HF
              clear hno hok hes
              go_wp2
              go_ret3
              exact unq_post HF.out rfl rfl hw
          · have t3 : ((s[k].toNat : Int) != 92) = true := ne_u8 h92
            rcases hp : plainB s[k] with _ | _
            · have HF := Lib.hid (HA.out.bad hc h10 h34 h92 hp)
              have hr : (s[k].toNat : Int) < 32 ∨ 126 < (s[k].toNat : Int) := by
                unfold plainB at hp
                rw [t2, t3] at hp
                simp only [Bool.and_true, Bool.and_eq_false_iff, decide_eq_false_iff_not] at hp
                omega
              clear hc h10 h34 h92 hp
              rcases hr with hr | hr
              · go_wp2
                go_ret3
                exact unq_post HF.out rfl rfl hw
              · have hr2 : 32 ≤ (s[k].toNat : Int) := by omega
                go_wp2
                go_ret3
                exact unq_post HF.out rfl rfl hw
            · obtain ⟨g, hg⟩ := HA.out.next hc h10 hp
              have HG := Lib.hid hg
              have hr : 32 ≤ (s[k].toNat : Int) ∧ (s[k].toNat : Int) ≤ 126 := by
                unfold plainB at hp
                simp only [Bool.and_eq_true, decide_eq_true_eq] at hp
                exact ⟨hp.1.1.1, hp.1.1.2⟩
              obtain ⟨r1, r2⟩ := hr
              clear hc h10 h34 h92 hg hp
              go_wp2_with (at_builtin; go_must (refine app_u8 rfl _ _ rfl rfl hown hw hw.size rfl rfl (by intro u hu; simp at hu; subst hu; rfl) (by omega) ?_); intro v' w' hown' hw' _)
              exact ⟨⟨k + 1, g, acc ++ [s[k]], by congr 1, HG.out, by simpa [u8v] using hown', hw'⟩, by simp [intOf]; omega⟩
    · have hge : (s.size : Int) ≤ k := by omega
      have HF := Lib.hid (unq_end ha (by rw [size_data]; exact hlt))
      clear ha
      go_wp2
      go_ret3
      exact unq_post HF.out rfl rfl hw

set_option maxHeartbeats 400000 in
theorem runquote_out (s : ByteArray) (w : World) (hs : s.size ≤ 1000) (h : ∀ h0 : 0 < s.size, s[0] ≠ 34) : Calls Try.prog 20 #[.string s] w (UnqPost s.data.toList w) := by
  by_cases h0 : 0 < s.size
  · have he : ((s.size : Int) == 0) = false := by rw [beq_eq_false_iff_ne]; omega
    have ht : ((s[0].toNat : Int) != 34) = true := ne_u8 (h h0)
    have HF : Hid (unqF s.data.toList = ([], 0, 14)) := by
      show unqF s.data.toList = _
      rw [data_cons s h0, unqF, if_neg (h h0)]
    clear h
    go_enter Try.func20, Try.ntmps20
    go_wp2_with fail
    go_ret3
    exact unq_post HF.out rfl rfl (Below.refl _ _)
  · have he : ((s.size : Int) == 0) = true := by rw [beq_iff_eq]; omega
    have HF : Hid (unqF s.data.toList = ([], 0, 14)) := by
      show unqF s.data.toList = _
      have e : s.data.toList = [] := List.eq_nil_of_length_eq_zero (by rw [size_data]; omega)
      rw [e]; rfl
    clear h h0
    go_enter Try.func20, Try.ntmps20
    go_wp2_with fail
    go_ret3
    exact unq_post HF.out rfl rfl (Below.refl _ _)
theorem runquote_any (s : ByteArray) (w : World) (hs : s.size ≤ 1000) : Calls Try.prog 20 #[.string s] w (UnqPost s.data.toList w) := by
  by_cases h : ∃ h0 : 0 < s.size, s[0] = 34
  · obtain ⟨h0, h1⟩ := h
    exact runquote_in s w hs h0 h1
  · exact runquote_out s w hs (fun h0 h1 => h ⟨h0, h1⟩)
end Go.Proofs.Ytmocjhildphklaa
