/- The walks of layer 1: reading an integer, by the reference. -/
import Derived.Test.YtihenoielkkdkaaWalkS
import Derived.Test.YtihenoielkkdkaaPlainT
namespace Go.Proofs.Ytihenoielkkdkaa
open Go.RowKit
set_option linter.unusedVariables false

def RPost (d : ByteArray) (below : Bool) (w : World) (e : Ending) (w' : World) : Prop :=
  e = .returned (.tuple #[.int .i64 (readF d.data.toList below).1, .int .i64 (readF d.data.toList below).2]) ∧ w = w'
theorem rpost {d : ByteArray} {below : Bool} {w : World} {a b : Int} (h : readF d.data.toList below = (a, b)) : RPost d below w (.returned (.tuple #[.int .i64 a, .int .i64 b])) w := by
  unfold RPost; rw [h]; exact ⟨rfl, rfl⟩
theorem size_data (d : ByteArray) : d.data.toList.length = d.size := by simp

set_option maxHeartbeats 2000000 in
theorem rread_be (s d : ByteArray) (w : World) (hs : s.size ≤ maxLen) (hp : 0 < s.size) (h1 : s[0] = 45) (hd : s.extract 1 s.size = d) (hz : d.size = 0) :
    Calls Try.prog 26 #[.string s] w (RPost d true w) := by
  unfold maxLen at hs
  have k1 : ((s[0].toNat : Int) == 45) = true := by rw [h1]; rfl
  have ksz : s.size - 1 = d.size := by rw [← hd]; simp
  have ks : d.size ≤ 9223372036854775807 := by omega
  have kss : ((d.size : Int) == (s.size : Int)) = false := by rw [beq_eq_false_iff_ne]; omega
  have kst : (d.size : Int) < s.size := by omega
  have k48 : (s.toList == [48]) = false := by
    rw [beq_eq_false_iff_ne]; intro hh
    rw [toList_data] at hh
    have := data_get s 0 hp
    rw [hh, h1] at this
    cases this
  clear h1
  have no := readF_no (no_empty (below := true) hz)
  have kz0 : (((d.size : Int)) == 0) = true := by rw [beq_iff_eq]; omega
  have HN := Lib.hid no; clear no hz
  go_enter Try.func26, Try.ntmps26
  go_wp2
  go_ret2
  exact rpost HN.out

set_option maxHeartbeats 2000000 in
theorem rread_b1 (s d : ByteArray) (w : World) (hs : s.size ≤ maxLen) (hp : 0 < s.size) (h1 : s[0] = 45) (hd : s.extract 1 s.size = d) (hz : 0 < d.size) (h2 : d[0] = 48) :
    Calls Try.prog 26 #[.string s] w (RPost d true w) := by
  unfold maxLen at hs
  have k1 : ((s[0].toNat : Int) == 45) = true := by rw [h1]; rfl
  have ksz : s.size - 1 = d.size := by rw [← hd]; simp
  have ks : d.size ≤ 9223372036854775807 := by omega
  have kss : ((d.size : Int) == (s.size : Int)) = false := by rw [beq_eq_false_iff_ne]; omega
  have kst : (d.size : Int) < s.size := by omega
  have k48 : (s.toList == [48]) = false := by
    rw [beq_eq_false_iff_ne]; intro hh
    rw [toList_data] at hh
    have := data_get s 0 hp
    rw [hh, h1] at this
    cases this
  clear h1
  have kz0 : (((d.size : Int)) == 0) = false := by rw [beq_eq_false_iff_ne]; omega
  have k2 : ((d[0].toNat : Int) == 48) = true := by rw [h2]; rfl
  have HN := Lib.hid (readF_no (no_of (below := true) hz (by rw [h2]; simp)))
  clear h2
  go_enter Try.func26, Try.ntmps26
  go_wp2
  go_ret2
  exact rpost HN.out

set_option maxHeartbeats 2000000 in
theorem rread_b3 (s d : ByteArray) (w : World) (hs : s.size ≤ maxLen) (hp : 0 < s.size) (h1 : s[0] = 45) (hd : s.extract 1 s.size = d) (hz : 0 < d.size) (h2 : d[0] ≠ 48) :
    Calls Try.prog 26 #[.string s] w (RPost d true w) := by
  unfold maxLen at hs
  have k1 : ((s[0].toNat : Int) == 45) = true := by rw [h1]; rfl
  have ksz : s.size - 1 = d.size := by rw [← hd]; simp
  have ks : d.size ≤ 9223372036854775807 := by omega
  have kss : ((d.size : Int) == (s.size : Int)) = false := by rw [beq_eq_false_iff_ne]; omega
  have kst : (d.size : Int) < s.size := by omega
  have k48 : (s.toList == [48]) = false := by
    rw [beq_eq_false_iff_ne]; intro hh
    rw [toList_data] at hh
    have := data_get s 0 hp
    rw [hh, h1] at this
    cases this
  clear h1
  have kz0 : (((d.size : Int)) == 0) = false := by rw [beq_eq_false_iff_ne]; omega
  have k2 : ((d[0].toNat : Int) == 48) = false := by
    rw [beq_eq_false_iff_ne]; intro hh
    exact h2 (UInt8.toNat.inj (by rw [show (48 : UInt8).toNat = 48 from rfl]; omega))
  have HN := Lib.hid (ok_of (below := true) hz (by rw [beq_eq_false_iff_ne.2 h2]; rfl))
  clear h2
  go_enter Try.func26, Try.ntmps26
  go_wp2
  go_loop [5] (fun i => ∃ k : Nat, k ≤ d.size ∧ i = .int .i64 k ∧ (d.data.toList.take k).all isDig = true) (fun i => d.size - (intOf i).toNat)
  case atStart => exact ⟨0, by omega, rfl, rfl⟩
  case round =>
    obtain ⟨k, hk, rfl, ha⟩ := hrel
    have HA := Lib.hid ha; clear ha
    by_cases hlt : k < d.size
    · rcases hc : isDig d[k] with _ | _
      · have HF := Lib.hid (readF_no (HN.out.trans (all_not hlt hc)))
        rcases isDig_no hc with h4 | h4
        · clear hc
          go_wp2
          go_ret2
          exact rpost HF.out
        · have h5 : 48 ≤ (d[k].toNat : Int) := by omega
          clear hc
          go_wp2
          go_ret2
          exact rpost HF.out
      · have h4 := isDig_lo hc
        have h5 := isDig_hi hc
        have HF := Lib.hid (all_take hlt HA.out hc)
        clear hc
        go_wp2
        go_round
        case rel => exact ⟨k + 1, by omega, by go_num, HF.out⟩
        case measure => simp [intOf]; omega
    · have HAl := Lib.hid (all_end hlt HA.out)
      have HK := Lib.hid (HN.out.trans HAl.out)
      by_cases hlong : 19 < d.size
      · have HF := Lib.hid (readF_far HK.out (.inl (valD_long _ _ HK.out (by rw [size_data]; exact hlong))))
        go_wp2
        go_ret2
        exact rpost HF.out
      · go_wp2
        go_loop [6, 7, 8] (fun h l i => ∃ k : Nat, k ≤ d.size ∧ i = .int .i64 k ∧ h = .int .i64 (hiD d.data.toList k : Int) ∧ l = .int .i64 (loD d.data.toList k : Int)) (fun _ _ i => d.size - (intOf i).toNat)
        case atStart => exact ⟨0, by omega, rfl, by simp [hiD, valD], by simp [loD, valD]⟩
        case round =>
          obtain ⟨k, hk, rfl, rfl, rfl⟩ := hrel
          have hb1 := hi_lt _ k HAl.out (by rw [size_data]; omega)
          have hb2 := lo_lt _ k HAl.out (by rw [size_data]; omega)
          by_cases hlt : k < d.size
          · have hc := dig_at HAl.out k hlt
            have c0 := isDig_lo hc
            have c1 := isDig_hi hc
            clear hc
            by_cases h9 : 9 < d.size - k
            · have HS := Lib.hid (hi_step hlt h9)
              have h9' : 9 < (d.size : Int) - k := by omega
              generalize hiD d.data.toList k = H at *
              generalize loD d.data.toList k = L at *
              clear h9
              go_wp2
              go_round
              case rel => exact ⟨k + 1, by omega, by go_num, by rw [HS.out.1]; congr 1; omega, by rw [HS.out.2]⟩
              case measure => simp [intOf]; omega
            · have HS := Lib.hid (lo_step hlt (by omega))
              have h9' : ¬ 9 < (d.size : Int) - k := by omega
              generalize hiD d.data.toList k = H at *
              generalize loD d.data.toList k = L at *
              clear h9
              go_wp2
              go_round
              case rel => exact ⟨k + 1, by omega, by go_num, by rw [HS.out.1], by rw [HS.out.2]; congr 1; omega⟩
              case measure => simp [intOf]; omega
          · have e : k = d.size := by omega
            subst e
            have HE := Lib.hid (hi_lo_end d)
            generalize hiD d.data.toList d.size = H at *
            generalize loD d.data.toList d.size = L at *
            rcases (by omega : 4611686018 < H ∨ H < 4611686018 ∨ H = 4611686018) with hh | hh | hh
            · have HF := Lib.hid (readF_far HK.out (.inl (by rw [HE.out]; omega)))
              have f1 : 4611686018 < (H : Int) := by omega
              go_wp2
              go_ret2
              exact rpost HF.out
            · have hv : valD d.data.toList < 4611686018427387904 := by rw [HE.out]; omega
              have HF := Lib.hid (readF_neg HK.out (Nat.le_of_lt hv))
              have HF2 : Hid ((valD d.data.toList : Int) = H * 1000000000 + L) := by show _ = _; rw [HE.out]; omega
              have f1 : ¬ 4611686018 < (H : Int) := by omega
              have f2 : ((H : Int) == 4611686018) = false := by rw [beq_eq_false_iff_ne]; omega
              have f3 : (H : Int) ≤ 4611686018 := by omega
              clear hv
              go_wp2
              go_ret2
              exact rpost (by rw [HF.out, HF2.out])
            · subst hh
              have f2 : (((4611686018 : Nat) : Int) == 4611686018) = true := rfl
              rcases (by omega : 427387904 < L ∨ L < 427387904 ∨ L = 427387904) with hl | hl | hl
              · have HF := Lib.hid (readF_far HK.out (.inl (by rw [HE.out]; omega)))
                have f3 : 427387904 < (L : Int) := by omega
                go_wp2
                go_ret2
                exact rpost HF.out
              · have hv : valD d.data.toList < 4611686018427387904 := by rw [HE.out]; omega
                have HF := Lib.hid (readF_neg HK.out (Nat.le_of_lt hv))
                have HF2 : Hid ((valD d.data.toList : Int) = 4611686018000000000 + L) := by show _ = _; rw [HE.out]; omega
                have f3 : ¬ 427387904 < (L : Int) := by omega
                have f4 : ((L : Int) == 427387904) = false := by rw [beq_eq_false_iff_ne]; omega
                clear hv
                go_wp2
                go_ret2
                exact rpost (by rw [HF.out, HF2.out])
              · subst hl
                have hv : valD d.data.toList = 4611686018427387904 := by rw [HE.out]
                have HF : Hid (readF d.data.toList true = (-4611686018427387904, 0)) := by show _ = _; rw [readF_neg HK.out (by omega), hv]; rfl
                clear hv
                go_wp2
                go_ret2
                exact rpost HF.out

set_option maxHeartbeats 2000000 in
theorem rread_ce (d : ByteArray) (w : World) (hs : d.size ≤ maxLen) (h1 : ∀ h : 0 < d.size, d[0] ≠ 45) (hz : d.size = 0) :
    Calls Try.prog 26 #[.string d] w (RPost d false w) := by
  unfold maxLen at hs
  have no := readF_no (no_empty (below := false) hz)
  have kz0 : (((d.size : Int)) == 0) = true := by rw [beq_iff_eq]; omega
  have kz : ¬ (0 < (d.size : Int)) := by omega
  have HN := Lib.hid no; clear no hz
  go_enter Try.func26, Try.ntmps26
  go_wp2
  go_ret2
  exact rpost HN.out

set_option maxHeartbeats 2000000 in
theorem rread_c1 (d : ByteArray) (w : World) (hs : d.size ≤ maxLen) (h1 : ∀ h : 0 < d.size, d[0] ≠ 45) (hz : 0 < d.size) (h2 : d[0] = 48) (h3 : 1 < d.size) :
    Calls Try.prog 26 #[.string d] w (RPost d false w) := by
  unfold maxLen at hs
  have k1 : ((d[0].toNat : Int) == 45) = false := by
    have := h1 hz
    rw [beq_eq_false_iff_ne]; intro hh
    exact this (UInt8.toNat.inj (by rw [show (45 : UInt8).toNat = 45 from rfl]; omega))
  clear h1
  have kz0 : (((d.size : Int)) == 0) = false := by rw [beq_eq_false_iff_ne]; omega
  have k2 : ((d[0].toNat : Int) == 48) = true := by rw [h2]; rfl
  have HN := Lib.hid (readF_no (no_of (below := false) hz (by rw [h2, decide_eq_true h3]; rfl)))
  have k48 : (d.toList == [48]) = false := by
    rw [beq_eq_false_iff_ne]; intro hh
    rw [toList_data] at hh
    have := congrArg List.length hh
    rw [size_data] at this
    simp at this; omega
  clear h2
  go_enter Try.func26, Try.ntmps26
  go_wp2
  go_ret2
  exact rpost HN.out

set_option maxHeartbeats 2000000 in
theorem rread_c2 (d : ByteArray) (w : World) (hs : d.size ≤ maxLen) (h1 : ∀ h : 0 < d.size, d[0] ≠ 45) (hz : 0 < d.size) (h2 : d[0] = 48) (h3 : d.size ≤ 1) :
    Calls Try.prog 26 #[.string d] w (RPost d false w) := by
  unfold maxLen at hs
  have k1 : ((d[0].toNat : Int) == 45) = false := by
    have := h1 hz
    rw [beq_eq_false_iff_ne]; intro hh
    exact this (UInt8.toNat.inj (by rw [show (45 : UInt8).toNat = 45 from rfl]; omega))
  clear h1
  have kz0 : (((d.size : Int)) == 0) = false := by rw [beq_eq_false_iff_ne]; omega
  have k2 : ((d[0].toNat : Int) == 48) = true := by rw [h2]; rfl
  have HN := Lib.hid (ok_of (below := false) hz (by rw [h2, decide_eq_false (by omega)]; rfl))
  have k48 : (d.toList == [48]) = true := by
    rw [toList_data, beq_iff_eq]
    have h9 := data_get d 0 hz
    rw [h2] at h9
    have hl := size_data d
    generalize d.data.toList = l at *
    match l, hl, h9 with
    | [x], _, h9 => simp at h9; rw [h9]
    | [], hl, _ => rw [← hl] at hz; cases hz
    | x :: y :: l, hl, _ => simp at hl; omega
  clear h2
  go_enter Try.func26, Try.ntmps26
  go_wp2
  go_loop [5] (fun i => ∃ k : Nat, k ≤ d.size ∧ i = .int .i64 k ∧ (d.data.toList.take k).all isDig = true) (fun i => d.size - (intOf i).toNat)
  case atStart => exact ⟨0, by omega, rfl, rfl⟩
  case round =>
    obtain ⟨k, hk, rfl, ha⟩ := hrel
    have HA := Lib.hid ha; clear ha
    by_cases hlt : k < d.size
    · rcases hc : isDig d[k] with _ | _
      · have HF := Lib.hid (readF_no (HN.out.trans (all_not hlt hc)))
        rcases isDig_no hc with h4 | h4
        · clear hc
          go_wp2
          go_ret2
          exact rpost HF.out
        · have h5 : 48 ≤ (d[k].toNat : Int) := by omega
          clear hc
          go_wp2
          go_ret2
          exact rpost HF.out
      · have h4 := isDig_lo hc
        have h5 := isDig_hi hc
        have HF := Lib.hid (all_take hlt HA.out hc)
        clear hc
        go_wp2
        go_round
        case rel => exact ⟨k + 1, by omega, by go_num, HF.out⟩
        case measure => simp [intOf]; omega
    · have HAl := Lib.hid (all_end hlt HA.out)
      have HK := Lib.hid (HN.out.trans HAl.out)
      by_cases hlong : 19 < d.size
      · exfalso; omega
      · go_wp2
        go_loop [6, 7, 8] (fun h l i => ∃ k : Nat, k ≤ d.size ∧ i = .int .i64 k ∧ h = .int .i64 (hiD d.data.toList k : Int) ∧ l = .int .i64 (loD d.data.toList k : Int)) (fun _ _ i => d.size - (intOf i).toNat)
        case atStart => exact ⟨0, by omega, rfl, by simp [hiD, valD], by simp [loD, valD]⟩
        case round =>
          obtain ⟨k, hk, rfl, rfl, rfl⟩ := hrel
          have hb1 := hi_lt _ k HAl.out (by rw [size_data]; omega)
          have hb2 := lo_lt _ k HAl.out (by rw [size_data]; omega)
          by_cases hlt : k < d.size
          · have hc := dig_at HAl.out k hlt
            have c0 := isDig_lo hc
            have c1 := isDig_hi hc
            clear hc
            by_cases h9 : 9 < d.size - k
            · have HS := Lib.hid (hi_step hlt h9)
              have h9' : 9 < (d.size : Int) - k := by omega
              generalize hiD d.data.toList k = H at *
              generalize loD d.data.toList k = L at *
              clear h9
              go_wp2
              go_round
              case rel => exact ⟨k + 1, by omega, by go_num, by rw [HS.out.1]; congr 1; omega, by rw [HS.out.2]⟩
              case measure => simp [intOf]; omega
            · have HS := Lib.hid (lo_step hlt (by omega))
              have h9' : ¬ 9 < (d.size : Int) - k := by omega
              generalize hiD d.data.toList k = H at *
              generalize loD d.data.toList k = L at *
              clear h9
              go_wp2
              go_round
              case rel => exact ⟨k + 1, by omega, by go_num, by rw [HS.out.1], by rw [HS.out.2]; congr 1; omega⟩
              case measure => simp [intOf]; omega
          · have e : k = d.size := by omega
            subst e
            have HE := Lib.hid (hi_lo_end d)
            generalize hiD d.data.toList d.size = H at *
            generalize loD d.data.toList d.size = L at *
            rcases (by omega : 4611686018 < H ∨ H < 4611686018 ∨ H = 4611686018) with hh | hh | hh
            · have HF := Lib.hid (readF_far HK.out (.inl (by rw [HE.out]; omega)))
              have f1 : 4611686018 < (H : Int) := by omega
              go_wp2
              go_ret2
              exact rpost HF.out
            · have hv : valD d.data.toList < 4611686018427387904 := by rw [HE.out]; omega
              have HF := Lib.hid (readF_pos HK.out hv)
              have HF2 : Hid ((valD d.data.toList : Int) = H * 1000000000 + L) := by show _ = _; rw [HE.out]; omega
              have f1 : ¬ 4611686018 < (H : Int) := by omega
              have f2 : ((H : Int) == 4611686018) = false := by rw [beq_eq_false_iff_ne]; omega
              have f3 : (H : Int) ≤ 4611686018 := by omega
              clear hv
              go_wp2
              go_ret2
              exact rpost (by rw [HF.out, HF2.out])
            · subst hh
              have f2 : (((4611686018 : Nat) : Int) == 4611686018) = true := rfl
              rcases (by omega : 427387904 < L ∨ L < 427387904 ∨ L = 427387904) with hl | hl | hl
              · have HF := Lib.hid (readF_far HK.out (.inl (by rw [HE.out]; omega)))
                have f3 : 427387904 < (L : Int) := by omega
                go_wp2
                go_ret2
                exact rpost HF.out
              · have hv : valD d.data.toList < 4611686018427387904 := by rw [HE.out]; omega
                have HF := Lib.hid (readF_pos HK.out hv)
                have HF2 : Hid ((valD d.data.toList : Int) = 4611686018000000000 + L) := by show _ = _; rw [HE.out]; omega
                have f3 : ¬ 427387904 < (L : Int) := by omega
                have f4 : ((L : Int) == 427387904) = false := by rw [beq_eq_false_iff_ne]; omega
                clear hv
                go_wp2
                go_ret2
                exact rpost (by rw [HF.out, HF2.out])
              · subst hl
                have hv : valD d.data.toList = 4611686018427387904 := by rw [HE.out]
                have HF := Lib.hid (readF_far HK.out (.inr ⟨hv, rfl⟩))
                clear hv
                go_wp2
                go_ret2
                exact rpost HF.out

set_option maxHeartbeats 2000000 in
theorem rread_c3 (d : ByteArray) (w : World) (hs : d.size ≤ maxLen) (h1 : ∀ h : 0 < d.size, d[0] ≠ 45) (hz : 0 < d.size) (h2 : d[0] ≠ 48) :
    Calls Try.prog 26 #[.string d] w (RPost d false w) := by
  unfold maxLen at hs
  have k1 : ((d[0].toNat : Int) == 45) = false := by
    have := h1 hz
    rw [beq_eq_false_iff_ne]; intro hh
    exact this (UInt8.toNat.inj (by rw [show (45 : UInt8).toNat = 45 from rfl]; omega))
  clear h1
  have kz0 : (((d.size : Int)) == 0) = false := by rw [beq_eq_false_iff_ne]; omega
  have k2 : ((d[0].toNat : Int) == 48) = false := by
    rw [beq_eq_false_iff_ne]; intro hh
    exact h2 (UInt8.toNat.inj (by rw [show (48 : UInt8).toNat = 48 from rfl]; omega))
  have HN := Lib.hid (ok_of (below := false) hz (by rw [beq_eq_false_iff_ne.2 h2]; rfl))
  clear h2
  go_enter Try.func26, Try.ntmps26
  go_wp2
  go_loop [5] (fun i => ∃ k : Nat, k ≤ d.size ∧ i = .int .i64 k ∧ (d.data.toList.take k).all isDig = true) (fun i => d.size - (intOf i).toNat)
  case atStart => exact ⟨0, by omega, rfl, rfl⟩
  case round =>
    obtain ⟨k, hk, rfl, ha⟩ := hrel
    have HA := Lib.hid ha; clear ha
    by_cases hlt : k < d.size
    · rcases hc : isDig d[k] with _ | _
      · have HF := Lib.hid (readF_no (HN.out.trans (all_not hlt hc)))
        rcases isDig_no hc with h4 | h4
        · clear hc
          go_wp2
          go_ret2
          exact rpost HF.out
        · have h5 : 48 ≤ (d[k].toNat : Int) := by omega
          clear hc
          go_wp2
          go_ret2
          exact rpost HF.out
      · have h4 := isDig_lo hc
        have h5 := isDig_hi hc
        have HF := Lib.hid (all_take hlt HA.out hc)
        clear hc
        go_wp2
        go_round
        case rel => exact ⟨k + 1, by omega, by go_num, HF.out⟩
        case measure => simp [intOf]; omega
    · have HAl := Lib.hid (all_end hlt HA.out)
      have HK := Lib.hid (HN.out.trans HAl.out)
      by_cases hlong : 19 < d.size
      · have HF := Lib.hid (readF_far HK.out (.inl (valD_long _ _ HK.out (by rw [size_data]; exact hlong))))
        go_wp2
        go_ret2
        exact rpost HF.out
      · go_wp2
        go_loop [6, 7, 8] (fun h l i => ∃ k : Nat, k ≤ d.size ∧ i = .int .i64 k ∧ h = .int .i64 (hiD d.data.toList k : Int) ∧ l = .int .i64 (loD d.data.toList k : Int)) (fun _ _ i => d.size - (intOf i).toNat)
        case atStart => exact ⟨0, by omega, rfl, by simp [hiD, valD], by simp [loD, valD]⟩
        case round =>
          obtain ⟨k, hk, rfl, rfl, rfl⟩ := hrel
          have hb1 := hi_lt _ k HAl.out (by rw [size_data]; omega)
          have hb2 := lo_lt _ k HAl.out (by rw [size_data]; omega)
          by_cases hlt : k < d.size
          · have hc := dig_at HAl.out k hlt
            have c0 := isDig_lo hc
            have c1 := isDig_hi hc
            clear hc
            by_cases h9 : 9 < d.size - k
            · have HS := Lib.hid (hi_step hlt h9)
              have h9' : 9 < (d.size : Int) - k := by omega
              generalize hiD d.data.toList k = H at *
              generalize loD d.data.toList k = L at *
              clear h9
              go_wp2
              go_round
              case rel => exact ⟨k + 1, by omega, by go_num, by rw [HS.out.1]; congr 1; omega, by rw [HS.out.2]⟩
              case measure => simp [intOf]; omega
            · have HS := Lib.hid (lo_step hlt (by omega))
              have h9' : ¬ 9 < (d.size : Int) - k := by omega
              generalize hiD d.data.toList k = H at *
              generalize loD d.data.toList k = L at *
              clear h9
              go_wp2
              go_round
              case rel => exact ⟨k + 1, by omega, by go_num, by rw [HS.out.1], by rw [HS.out.2]; congr 1; omega⟩
              case measure => simp [intOf]; omega
          · have e : k = d.size := by omega
            subst e
            have HE := Lib.hid (hi_lo_end d)
            generalize hiD d.data.toList d.size = H at *
            generalize loD d.data.toList d.size = L at *
            rcases (by omega : 4611686018 < H ∨ H < 4611686018 ∨ H = 4611686018) with hh | hh | hh
            · have HF := Lib.hid (readF_far HK.out (.inl (by rw [HE.out]; omega)))
              have f1 : 4611686018 < (H : Int) := by omega
              go_wp2
              go_ret2
              exact rpost HF.out
            · have hv : valD d.data.toList < 4611686018427387904 := by rw [HE.out]; omega
              have HF := Lib.hid (readF_pos HK.out hv)
              have HF2 : Hid ((valD d.data.toList : Int) = H * 1000000000 + L) := by show _ = _; rw [HE.out]; omega
              have f1 : ¬ 4611686018 < (H : Int) := by omega
              have f2 : ((H : Int) == 4611686018) = false := by rw [beq_eq_false_iff_ne]; omega
              have f3 : (H : Int) ≤ 4611686018 := by omega
              clear hv
              go_wp2
              go_ret2
              exact rpost (by rw [HF.out, HF2.out])
            · subst hh
              have f2 : (((4611686018 : Nat) : Int) == 4611686018) = true := rfl
              rcases (by omega : 427387904 < L ∨ L < 427387904 ∨ L = 427387904) with hl | hl | hl
              · have HF := Lib.hid (readF_far HK.out (.inl (by rw [HE.out]; omega)))
                have f3 : 427387904 < (L : Int) := by omega
                go_wp2
                go_ret2
                exact rpost HF.out
              · have hv : valD d.data.toList < 4611686018427387904 := by rw [HE.out]; omega
                have HF := Lib.hid (readF_pos HK.out hv)
                have HF2 : Hid ((valD d.data.toList : Int) = 4611686018000000000 + L) := by show _ = _; rw [HE.out]; omega
                have f3 : ¬ 427387904 < (L : Int) := by omega
                have f4 : ((L : Int) == 427387904) = false := by rw [beq_eq_false_iff_ne]; omega
                clear hv
                go_wp2
                go_ret2
                exact rpost (by rw [HF.out, HF2.out])
              · subst hl
                have hv : valD d.data.toList = 4611686018427387904 := by rw [HE.out]
                have HF := Lib.hid (readF_far HK.out (.inr ⟨hv, rfl⟩))
                clear hv
                go_wp2
                go_ret2
                exact rpost HF.out

theorem rread_any (s d : ByteArray) (w : World) (below : Bool) (hs : s.size ≤ maxLen) (h : Splits s d below) :
    Calls Try.prog 26 #[.string s] w fun e w' => e = .returned (.tuple #[.int .i64 (readF d.data.toList below).1, .int .i64 (readF d.data.toList below).2]) ∧ w = w' := by
  rcases h with ⟨rfl, hp, h1, hd⟩ | ⟨rfl, rfl, h1⟩
  · by_cases hz : d.size = 0
    · exact rread_be s d w hs hp h1 hd hz
    · by_cases h2 : d[0] = 48
      · exact rread_b1 s d w hs hp h1 hd (by omega) h2
      · exact rread_b3 s d w hs hp h1 hd (by omega) h2
  · by_cases hz : s.size = 0
    · exact rread_ce s w hs h1 hz
    · by_cases h2 : s[0] = 48
      · by_cases h3 : 1 < s.size
        · exact rread_c1 s w hs h1 (by omega) h2 h3
        · exact rread_c2 s w hs h1 (by omega) h2 (by omega)
      · exact rread_c3 s w hs h1 (by omega) h2
end Go.Proofs.Ytihenoielkkdkaa
