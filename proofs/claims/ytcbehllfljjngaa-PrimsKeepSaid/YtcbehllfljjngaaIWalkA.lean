/- The walks of layer 1: wrapping, sums, words. -/
import Derived.Test.YtcbehllfljjngaaRows
import Derived.WalkKit
import Derived.WalkSpells
import Derived.WalkLawsBesides
import Derived.Lib.Hide
import Derived.Test.YtcbehllfljjngaaIPlain
namespace Go.Proofs.Ytcbehllfljjngaa.I
open Go.RowKit

theorem ret_i {k : IntKind} {a b : Int} (h : a = b) : Ending.returned (.int k a) = .returned (.int k b) := by rw [h]
theorem ret_b {a b : Bool} (h : a = b) : Ending.returned (.bool a) = .returned (.bool b) := by rw [h]

set_option maxHeartbeats 400000 in
theorem wrap_any (n : Int) (w : World) :
    Calls Try.prog 68 #[.int .i64 n] w fun e w' => e = .returned (.int .i64 (cw n)) ∧ w = w' := by
  go_enter Try.func68, Try.ntmps68
  go_wp2
  go_ret
  exact ⟨ret_i (cw_shift n), rfl⟩
set_option maxHeartbeats 400000 in
theorem rwrap_any (n : Int) (w : World) (h1 : -9223372036854775808 ≤ n) (h2 : n ≤ 9223372036854775807) :
    Calls Try.prog 12 #[.int .i64 n] w fun e w' => e = .returned (.int .i64 (cw n)) ∧ w = w' := by
  by_cases ha : 4611686018427387903 < n
  · have e := cw_up' n ha h2
    have H := Lib.hid e; clear e
    go_enter Try.func12, Try.ntmps12
    go_wp2
    go_ret
    exact ⟨ret_i H.out, rfl⟩
  · by_cases hb : n < -4611686018427387904
    · have e := cw_down n hb h1
      have H := Lib.hid e; clear e
      go_enter Try.func12, Try.ntmps12
      go_wp2
      go_ret
      exact ⟨ret_i H.out, rfl⟩
    · have e := cw_id n (by omega) (by omega)
      have H := Lib.hid e; clear e
      go_enter Try.func12, Try.ntmps12
      go_wp2
      go_ret
      exact ⟨ret_i H.out.symm, rfl⟩
/-- Is a number an integer of 63 bits? -/
def isI (n : Int) : Bool := decide (-4611686018427387904 ≤ n) && decide (n ≤ 4611686018427387903)
theorem isI_t {n : Int} (h : -4611686018427387904 ≤ n) (h' : n ≤ 4611686018427387903) : isI n = true := by simp [isI, h, h']
theorem isI_f {n : Int} (h : n < -4611686018427387904 ∨ 4611686018427387903 < n) : isI n = false := by
  simp only [isI, Bool.and_eq_false_iff, decide_eq_false_iff_not]; omega
set_option maxHeartbeats 400000 in
theorem is_any (n : Int) (w : World) :
    Calls Try.prog 67 #[.int .i64 n] w fun e w' => e = .returned (.bool (isI n)) ∧ w = w' := by
  by_cases h1 : -4611686018427387904 ≤ n <;> by_cases h2 : n ≤ 4611686018427387903
  · have H := Lib.hid (isI_t h1 h2)
    go_enter Try.func67, Try.ntmps67
    go_wp2
    go_ret
    exact ⟨ret_b H.out.symm, rfl⟩
  · have H := Lib.hid (isI_f (.inr (by omega : 4611686018427387903 < n)))
    go_enter Try.func67, Try.ntmps67
    go_wp2
    go_ret
    exact ⟨ret_b H.out.symm, rfl⟩
  all_goals
    have H := Lib.hid (isI_f (.inl (by omega : n < -4611686018427387904)))
    go_enter Try.func67, Try.ntmps67
    go_wp2
    go_ret
    exact ⟨ret_b H.out.symm, rfl⟩
set_option maxHeartbeats 400000 in
theorem ris_any (n : Int) (w : World) :
    Calls Try.prog 39 #[.int .i64 n] w fun e w' => e = .returned (.bool (isI n)) ∧ w = w' := by
  by_cases h1 : -4611686018427387904 ≤ n <;> by_cases h2 : n ≤ 4611686018427387903
  · have H := Lib.hid (isI_t h1 h2)
    go_enter Try.func39, Try.ntmps39
    go_wp2
    go_ret
    exact ⟨ret_b H.out.symm, rfl⟩
  · have H := Lib.hid (isI_f (.inr (by omega : 4611686018427387903 < n)))
    go_enter Try.func39, Try.ntmps39
    go_wp2
    go_ret
    exact ⟨ret_b H.out.symm, rfl⟩
  all_goals
    have H := Lib.hid (isI_f (.inl (by omega : n < -4611686018427387904)))
    go_enter Try.func39, Try.ntmps39
    go_wp2
    go_ret
    exact ⟨ret_b H.out.symm, rfl⟩
set_option maxHeartbeats 400000 in
theorem tag_any (n : Int) (w : World) :
    Calls Try.prog 37 #[.int .i64 n] w fun e w' => e = .returned (.int .i64 (2 * cw n + 1)) ∧ w = w' := by
  go_enter Try.func37, Try.ntmps37
  go_wp2
  go_ret
  exact ⟨ret_i (or_one n), rfl⟩
set_option maxHeartbeats 400000 in
theorem untag_odd (n : Int) (w : World) (h : n % 2 = 1) :
    Calls Try.prog 35 #[.int .i64 n] w fun e w' => e = .returned (.tuple #[.int .i64 (n / 2), .bool true]) ∧ w = w' := by
  have h0 : (bits .and .i64 n 1 == 0) = false := by rw [and_one, h]; rfl
  clear h
  go_enter Try.func35, Try.ntmps35
  go_wp2
  go_ret2
  exact ⟨rfl, rfl⟩
set_option maxHeartbeats 400000 in
theorem untag_even (n : Int) (w : World) (h : n % 2 = 0) :
    Calls Try.prog 35 #[.int .i64 n] w fun e w' => e = .returned (.tuple #[.int .i64 0, .bool false]) ∧ w = w' := by
  have h0 : (bits .and .i64 n 1 == 0) = true := by rw [and_one, h]; rfl
  clear h
  go_enter Try.func35, Try.ntmps35
  go_wp2
  go_ret2
  exact ⟨rfl, rfl⟩
set_option maxHeartbeats 400000 in
theorem point_in (n : Int) (w : World) (h : 1 ≤ n) (h' : n ≤ 2305843009213693952) :
    Calls Try.prog 66 #[.int .i64 n] w fun e w' => e = .returned (.int .i64 (n * 2)) ∧ w = w' := by
  go_enter Try.func66, Try.ntmps66
  go_wp2
  go_ret
  exact ⟨rfl, rfl⟩
set_option maxHeartbeats 400000 in
theorem point_out (n : Int) (w : World) (h : n < 1 ∨ 2305843009213693952 < n) :
    Calls Try.prog 66 #[.int .i64 n] w fun e w' => e = .returned (.int .i64 0) ∧ w = w' := by
  rcases h with h | h
  · go_enter Try.func66, Try.ntmps66
    go_wp2
    go_ret
    exact ⟨rfl, rfl⟩
  · have h1 : 1 ≤ n := by omega
    go_enter Try.func66, Try.ntmps66
    go_wp2
    go_ret
    exact ⟨rfl, rfl⟩
set_option maxHeartbeats 400000 in
theorem at_in (n : Int) (w : World) (h : 0 < n) (h' : n % 2 = 0) :
    Calls Try.prog 73 #[.int .i64 n] w fun e w' => e = .returned (.tuple #[.int .i64 (n / 2), .bool true]) ∧ w = w' := by
  have h0 : (bits .and .i64 n 1 != 0) = false := by rw [and_one, h']; rfl
  clear h'
  go_enter Try.func73, Try.ntmps73
  go_wp2
  go_ret2
  exact ⟨rfl, rfl⟩
set_option maxHeartbeats 400000 in
theorem at_out (n : Int) (w : World) (h : n ≤ 0 ∨ n % 2 = 1) :
    Calls Try.prog 73 #[.int .i64 n] w fun e w' => e = .returned (.tuple #[.int .i64 0, .bool false]) ∧ w = w' := by
  by_cases h1 : n ≤ 0
  · clear h
    go_enter Try.func73, Try.ntmps73
    go_wp2
    go_ret2
    exact ⟨rfl, rfl⟩
  · have h2 : n % 2 = 1 := by omega
    have h0 : (bits .and .i64 n 1 != 0) = true := by rw [and_one, h2]; rfl
    clear h h2
    go_enter Try.func73, Try.ntmps73
    go_wp2
    go_ret2
    exact ⟨rfl, rfl⟩
end Go.Proofs.Ytcbehllfljjngaa.I
