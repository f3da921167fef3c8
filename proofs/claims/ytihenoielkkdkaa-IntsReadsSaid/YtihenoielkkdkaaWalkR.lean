/- The walks of layer 1: which texts are digits. -/
import Derived.Test.YtihenoielkkdkaaWalkE
import Derived.Test.YtihenoielkkdkaaPlainR
namespace Go.Proofs.Ytihenoielkkdkaa
open Go.RowKit
set_option linter.unusedVariables false

theorem isDig_lo {c : UInt8} (h : isDig c = true) : 48 ≤ (c.toNat : Int) := by simp [isDig] at h; omega
theorem isDig_hi {c : UInt8} (h : isDig c = true) : (c.toNat : Int) ≤ 57 := by simp [isDig] at h; omega
theorem isDig_no {c : UInt8} (h : isDig c = false) : (c.toNat : Int) < 48 ∨ 57 < (c.toNat : Int) := by simp [isDig] at h; omega
theorem all_take {d : ByteArray} {k : Nat} (h : k < d.size) (ha : (d.data.toList.take k).all isDig = true) (hc : isDig d[k] = true) : (d.data.toList.take (k + 1)).all isDig = true := by
  rw [take_get d k h, List.all_append, ha]; simp [hc]
theorem all_end {d : ByteArray} {k : Nat} (h : ¬ k < d.size) (ha : (d.data.toList.take k).all isDig = true) : d.data.toList.all isDig = true := by
  rwa [List.take_of_length_le (by simpa using Nat.le_of_not_lt h)] at ha
theorem all_not {d : ByteArray} {k : Nat} (h : k < d.size) (hc : isDig d[k] = false) : d.data.toList.all isDig = false := by
  rw [List.all_eq_false]
  exact ⟨d[k], List.mem_of_getElem? (data_get d k h), by simp [hc]⟩
theorem ret3_sbb {a b : ByteArray} {c d e f : Bool} (h : a = b) (h' : c = d) (h'' : e = f) : Ending.returned (.tuple #[.string a, .bool c, .bool e]) = .returned (.tuple #[.string b, .bool d, .bool f]) := by rw [h, h', h'']
def PlainPost (d : ByteArray) (below : Bool) (w : World) (e : Ending) (w' : World) : Prop :=
  e = .returned (.tuple #[.string (if digsOk d.data.toList below then d else ⟨#[]⟩), .bool (digsOk d.data.toList below && below), .bool (digsOk d.data.toList below)]) ∧ w = w'
theorem post_no {d : ByteArray} {below : Bool} {w : World} (h : digsOk d.data.toList below = false) : PlainPost d below w (.returned (.tuple #[.string ⟨#[]⟩, .bool false, .bool false])) w := by
  unfold PlainPost; rw [h]; exact ⟨rfl, rfl⟩
theorem post_ok {d : ByteArray} {below : Bool} {w : World} (h : digsOk d.data.toList below = true) : PlainPost d below w (.returned (.tuple #[.string d, .bool below, .bool true])) w := by
  unfold PlainPost; rw [h]; exact ⟨rfl, rfl⟩
theorem head_get (d : ByteArray) (h : 0 < d.size) : d.data.toList.head? = some d[0] := by
  rw [List.head?_eq_getElem?, data_get d 0 h]
theorem ok_of {d : ByteArray} {below : Bool} (h0 : 0 < d.size) (h1 : (d[0] == 48 && (decide (1 < d.size) || below)) = false) : digsOk d.data.toList below = d.data.toList.all isDig := by
  unfold digsOk
  rw [head_get d h0]
  have e : d.data.toList.isEmpty = false := by
    cases h : d.data.toList
    · have := congrArg List.length h; rw [show d.data.toList.length = d.size from by simp] at this; rw [this] at h0; cases h0
    · rfl
  have e2 : (some d[0] == some (48 : UInt8)) = (d[0] == 48) := rfl
  rw [e, e2, show d.data.toList.length = d.size from by simp, h1]; simp
theorem no_of {d : ByteArray} {below : Bool} (h0 : 0 < d.size) (h1 : (d[0] == 48 && (decide (1 < d.size) || below)) = true) : digsOk d.data.toList below = false := by
  unfold digsOk
  rw [head_get d h0]
  have e2 : (some d[0] == some (48 : UInt8)) = (d[0] == 48) := rfl
  rw [e2, show d.data.toList.length = d.size from by simp, h1]; simp
theorem no_empty {d : ByteArray} {below : Bool} (h0 : d.size = 0) : digsOk d.data.toList below = false := by
  have : d.data.toList = [] := List.eq_nil_of_length_eq_zero (by simpa using h0)
  unfold digsOk; rw [this]; rfl
theorem emp_t {d : ByteArray} (h : d.size = 0) : d.toList = [] := by rw [toList_data]; exact List.eq_nil_of_length_eq_zero (by simpa using h)
theorem emp_f {d : ByteArray} (h : 0 < d.size) : d.toList.isEmpty = false := by
  rw [toList_data]
  cases h' : d.data.toList
  · have := congrArg List.length h'; rw [show d.data.toList.length = d.size from by simp] at this; rw [this] at h; cases h
  · rfl
theorem emp_n {d : ByteArray} (h : 0 < d.size) : ¬ d.toList = [] := by
  intro hh; have := emp_f h; rw [hh] at this; cases this

set_option maxHeartbeats 1000000 in
theorem plain_be (s d : ByteArray) (w : World) (hs : s.size ≤ maxLen) (hp : 0 < s.size) (h1 : s[0] = 45) (hd : s.extract 1 s.size = d) (hz : d.size = 0) :
    Calls Try.prog 31 #[.string s] w (PlainPost d true w) := by
  unfold maxLen at hs
  have k1 : ((s[0].toNat : Int) == 45) = true := by rw [h1]; rfl
  have ksz : s.size - 1 = d.size := by rw [← hd]; simp
  have ks : d.size ≤ 9223372036854775807 := by omega
  clear h1
  have no := no_empty (below := true) hz
  have ke := emp_t hz
  have HN := Lib.hid no; clear no hz
  go_enter Try.func31, Try.ntmps31
  go_wp2
  go_ret3
  exact post_no HN.out

set_option maxHeartbeats 1000000 in
theorem plain_b1 (s d : ByteArray) (w : World) (hs : s.size ≤ maxLen) (hp : 0 < s.size) (h1 : s[0] = 45) (hd : s.extract 1 s.size = d) (hz : 0 < d.size) (h2 : d[0] = 48) (h3 : 1 < d.size) :
    Calls Try.prog 31 #[.string s] w (PlainPost d true w) := by
  unfold maxLen at hs
  have k1 : ((s[0].toNat : Int) == 45) = true := by rw [h1]; rfl
  have ksz : s.size - 1 = d.size := by rw [← hd]; simp
  have ks : d.size ≤ 9223372036854775807 := by omega
  clear h1
  have kf := emp_f hz
  have kn := emp_n hz
  have k2 : ((d[0].toNat : Int) == 48) = true := by rw [h2]; rfl
  have HN := Lib.hid (no_of (below := true) hz (by rw [h2, decide_eq_true h3]; rfl))
  have k3 : 1 < (d.size : Int) := by omega
  clear h2
  go_enter Try.func31, Try.ntmps31
  go_wp2
  go_ret3
  exact post_no HN.out

set_option maxHeartbeats 1000000 in
theorem plain_b2 (s d : ByteArray) (w : World) (hs : s.size ≤ maxLen) (hp : 0 < s.size) (h1 : s[0] = 45) (hd : s.extract 1 s.size = d) (hz : 0 < d.size) (h2 : d[0] = 48) (h3 : d.size ≤ 1) :
    Calls Try.prog 31 #[.string s] w (PlainPost d true w) := by
  unfold maxLen at hs
  have k1 : ((s[0].toNat : Int) == 45) = true := by rw [h1]; rfl
  have ksz : s.size - 1 = d.size := by rw [← hd]; simp
  have ks : d.size ≤ 9223372036854775807 := by omega
  clear h1
  have kf := emp_f hz
  have kn := emp_n hz
  have k2 : ((d[0].toNat : Int) == 48) = true := by rw [h2]; rfl
  have HN := Lib.hid (no_of (below := true) hz (by rw [h2]; simp))
  have k3 : ¬ 1 < (d.size : Int) := by omega
  clear h2
  go_enter Try.func31, Try.ntmps31
  go_wp2
  go_ret3
  exact post_no HN.out

set_option maxHeartbeats 1000000 in
theorem plain_b3 (s d : ByteArray) (w : World) (hs : s.size ≤ maxLen) (hp : 0 < s.size) (h1 : s[0] = 45) (hd : s.extract 1 s.size = d) (hz : 0 < d.size) (h2 : d[0] ≠ 48) :
    Calls Try.prog 31 #[.string s] w (PlainPost d true w) := by
  unfold maxLen at hs
  have k1 : ((s[0].toNat : Int) == 45) = true := by rw [h1]; rfl
  have ksz : s.size - 1 = d.size := by rw [← hd]; simp
  have ks : d.size ≤ 9223372036854775807 := by omega
  clear h1
  have kf := emp_f hz
  have kn := emp_n hz
  have k2 : ((d[0].toNat : Int) == 48) = false := by
    rw [beq_eq_false_iff_ne]; intro hh
    exact h2 (UInt8.toNat.inj (by rw [show (48 : UInt8).toNat = 48 from rfl]; omega))
  have HN := Lib.hid (ok_of (below := true) hz (by rw [beq_eq_false_iff_ne.2 h2]; rfl))
  clear h2
  go_enter Try.func31, Try.ntmps31
  go_wp2
  go_loop [35] (fun i => ∃ k : Nat, k ≤ d.size ∧ i = .int .i64 k ∧ (d.data.toList.take k).all isDig = true) (fun i => d.size - (intOf i).toNat)
  case atStart => exact ⟨0, by omega, rfl, rfl⟩
  case round =>
    obtain ⟨k, hk, rfl, ha⟩ := hrel
    have HA := Lib.hid ha; clear ha
    by_cases hlt : k < d.size
    · rcases hc : isDig d[k] with _ | _
      · have HF := Lib.hid (all_not hlt hc)
        rcases isDig_no hc with h4 | h4
        · clear hc
          go_wp2
          go_ret3
          exact post_no (by rw [HN.out, HF.out])
        · have h5 : 48 ≤ (d[k].toNat : Int) := by omega
          clear hc
          go_wp2
          go_ret3
          exact post_no (by rw [HN.out, HF.out])
      · have h4 := isDig_lo hc
        have h5 := isDig_hi hc
        have HF := Lib.hid (all_take hlt HA.out hc)
        clear hc
        go_wp2
        go_round
        case rel => exact ⟨k + 1, by omega, by go_num, HF.out⟩
        case measure => simp [intOf]; omega
    · have HF := Lib.hid (all_end hlt HA.out)
      go_wp2
      go_ret3
      exact post_ok (by rw [HN.out, HF.out])

set_option maxHeartbeats 1000000 in
theorem plain_ce (d : ByteArray) (w : World) (hs : d.size ≤ maxLen) (h1 : ∀ h : 0 < d.size, d[0] ≠ 45) (hz : d.size = 0) :
    Calls Try.prog 31 #[.string d] w (PlainPost d false w) := by
  unfold maxLen at hs
  have no := no_empty (below := false) hz
  have ke := emp_t hz
  have kz : ¬ (0 < (d.size : Int)) := by omega
  have HN := Lib.hid no; clear no hz
  go_enter Try.func31, Try.ntmps31
  go_wp2
  go_ret3
  exact post_no HN.out

set_option maxHeartbeats 1000000 in
theorem plain_c1 (d : ByteArray) (w : World) (hs : d.size ≤ maxLen) (h1 : ∀ h : 0 < d.size, d[0] ≠ 45) (hz : 0 < d.size) (h2 : d[0] = 48) (h3 : 1 < d.size) :
    Calls Try.prog 31 #[.string d] w (PlainPost d false w) := by
  unfold maxLen at hs
  have k1 : ((d[0].toNat : Int) == 45) = false := by
    have := h1 hz
    rw [beq_eq_false_iff_ne]; intro hh
    exact this (UInt8.toNat.inj (by rw [show (45 : UInt8).toNat = 45 from rfl]; omega))
  clear h1
  have kf := emp_f hz
  have kn := emp_n hz
  have k2 : ((d[0].toNat : Int) == 48) = true := by rw [h2]; rfl
  have HN := Lib.hid (no_of (below := false) hz (by rw [h2, decide_eq_true h3]; rfl))
  have k3 : 1 < (d.size : Int) := by omega
  clear h2
  go_enter Try.func31, Try.ntmps31
  go_wp2
  go_ret3
  exact post_no HN.out

set_option maxHeartbeats 1000000 in
theorem plain_c2 (d : ByteArray) (w : World) (hs : d.size ≤ maxLen) (h1 : ∀ h : 0 < d.size, d[0] ≠ 45) (hz : 0 < d.size) (h2 : d[0] = 48) (h3 : d.size ≤ 1) :
    Calls Try.prog 31 #[.string d] w (PlainPost d false w) := by
  unfold maxLen at hs
  have k1 : ((d[0].toNat : Int) == 45) = false := by
    have := h1 hz
    rw [beq_eq_false_iff_ne]; intro hh
    exact this (UInt8.toNat.inj (by rw [show (45 : UInt8).toNat = 45 from rfl]; omega))
  clear h1
  have kf := emp_f hz
  have kn := emp_n hz
  have k2 : ((d[0].toNat : Int) == 48) = true := by rw [h2]; rfl
  have HN := Lib.hid (ok_of (below := false) hz (by rw [h2, decide_eq_false (by omega)]; rfl))
  have k3 : ¬ 1 < (d.size : Int) := by omega
  clear h2
  go_enter Try.func31, Try.ntmps31
  go_wp2
  go_loop [35] (fun i => ∃ k : Nat, k ≤ d.size ∧ i = .int .i64 k ∧ (d.data.toList.take k).all isDig = true) (fun i => d.size - (intOf i).toNat)
  case atStart => exact ⟨0, by omega, rfl, rfl⟩
  case round =>
    obtain ⟨k, hk, rfl, ha⟩ := hrel
    have HA := Lib.hid ha; clear ha
    by_cases hlt : k < d.size
    · rcases hc : isDig d[k] with _ | _
      · have HF := Lib.hid (all_not hlt hc)
        rcases isDig_no hc with h4 | h4
        · clear hc
          go_wp2
          go_ret3
          exact post_no (by rw [HN.out, HF.out])
        · have h5 : 48 ≤ (d[k].toNat : Int) := by omega
          clear hc
          go_wp2
          go_ret3
          exact post_no (by rw [HN.out, HF.out])
      · have h4 := isDig_lo hc
        have h5 := isDig_hi hc
        have HF := Lib.hid (all_take hlt HA.out hc)
        clear hc
        go_wp2
        go_round
        case rel => exact ⟨k + 1, by omega, by go_num, HF.out⟩
        case measure => simp [intOf]; omega
    · have HF := Lib.hid (all_end hlt HA.out)
      go_wp2
      go_ret3
      exact post_ok (by rw [HN.out, HF.out])

set_option maxHeartbeats 1000000 in
theorem plain_c3 (d : ByteArray) (w : World) (hs : d.size ≤ maxLen) (h1 : ∀ h : 0 < d.size, d[0] ≠ 45) (hz : 0 < d.size) (h2 : d[0] ≠ 48) :
    Calls Try.prog 31 #[.string d] w (PlainPost d false w) := by
  unfold maxLen at hs
  have k1 : ((d[0].toNat : Int) == 45) = false := by
    have := h1 hz
    rw [beq_eq_false_iff_ne]; intro hh
    exact this (UInt8.toNat.inj (by rw [show (45 : UInt8).toNat = 45 from rfl]; omega))
  clear h1
  have kf := emp_f hz
  have kn := emp_n hz
  have k2 : ((d[0].toNat : Int) == 48) = false := by
    rw [beq_eq_false_iff_ne]; intro hh
    exact h2 (UInt8.toNat.inj (by rw [show (48 : UInt8).toNat = 48 from rfl]; omega))
  have HN := Lib.hid (ok_of (below := false) hz (by rw [beq_eq_false_iff_ne.2 h2]; rfl))
  clear h2
  go_enter Try.func31, Try.ntmps31
  go_wp2
  go_loop [35] (fun i => ∃ k : Nat, k ≤ d.size ∧ i = .int .i64 k ∧ (d.data.toList.take k).all isDig = true) (fun i => d.size - (intOf i).toNat)
  case atStart => exact ⟨0, by omega, rfl, rfl⟩
  case round =>
    obtain ⟨k, hk, rfl, ha⟩ := hrel
    have HA := Lib.hid ha; clear ha
    by_cases hlt : k < d.size
    · rcases hc : isDig d[k] with _ | _
      · have HF := Lib.hid (all_not hlt hc)
        rcases isDig_no hc with h4 | h4
        · clear hc
          go_wp2
          go_ret3
          exact post_no (by rw [HN.out, HF.out])
        · have h5 : 48 ≤ (d[k].toNat : Int) := by omega
          clear hc
          go_wp2
          go_ret3
          exact post_no (by rw [HN.out, HF.out])
      · have h4 := isDig_lo hc
        have h5 := isDig_hi hc
        have HF := Lib.hid (all_take hlt HA.out hc)
        clear hc
        go_wp2
        go_round
        case rel => exact ⟨k + 1, by omega, by go_num, HF.out⟩
        case measure => simp [intOf]; omega
    · have HF := Lib.hid (all_end hlt HA.out)
      go_wp2
      go_ret3
      exact post_ok (by rw [HN.out, HF.out])

theorem plain_any (s d : ByteArray) (below : Bool) (w : World) (hs : s.size ≤ maxLen) (h : Splits s d below) :
    Calls Try.prog 31 #[.string s] w (PlainPost d below w) := by
  rcases h with ⟨rfl, hp, h1, hd⟩ | ⟨rfl, rfl, h1⟩
  · by_cases hz : d.size = 0
    · exact plain_be s d w hs hp h1 hd hz
    · by_cases h2 : d[0] = 48
      · by_cases h3 : 1 < d.size
        · exact plain_b1 s d w hs hp h1 hd (by omega) h2 h3
        · exact plain_b2 s d w hs hp h1 hd (by omega) h2 (by omega)
      · exact plain_b3 s d w hs hp h1 hd (by omega) h2
  · by_cases hz : s.size = 0
    · exact plain_ce s w hs h1 hz
    · by_cases h2 : s[0] = 48
      · by_cases h3 : 1 < s.size
        · exact plain_c1 s w hs h1 (by omega) h2 h3
        · exact plain_c2 s w hs h1 (by omega) h2 (by omega)
      · exact plain_c3 s w hs h1 (by omega) h2
end Go.Proofs.Ytihenoielkkdkaa
