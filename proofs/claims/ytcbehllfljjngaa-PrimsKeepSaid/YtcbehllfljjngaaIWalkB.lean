/- The walks of layer 1: sums, products, quotients. -/
import Derived.Test.YtcbehllfljjngaaIWalkA
import Derived.Test.YtcbehllfljjngaaIPlainB
namespace Go.Proofs.Ytcbehllfljjngaa.I
open Go.RowKit

set_option maxHeartbeats 400000 in
theorem radd_any (a b : Int) (w : World) (a0 : -4611686018427387904 ≤ a) (a1 : a ≤ 4611686018427387903) (b0 : -4611686018427387904 ≤ b) (b1 : b ≤ 4611686018427387903) :
    Calls Try.prog 40 #[.int .i64 a, .int .i64 b] w fun e w' => e = .returned (.int .i64 (cw (a + b))) ∧ w = w' := by
  go_enter Try.func40, Try.ntmps40
  go_wp2_with (go_at_call 12; refine (rwrap_any _ _ (by omega) (by omega)).mono ?_; rintro e w' ⟨rfl, rfl⟩)
  go_ret
  exact ⟨rfl, rfl⟩
set_option maxHeartbeats 400000 in
theorem rmul_pos (a b : Int) (w : World) (a0 : -4611686018427387904 ≤ a) (a1 : a ≤ 4611686018427387903) (b0 : 0 ≤ b) (b1 : b ≤ 4611686018427387903) :
    Calls Try.prog 41 #[.int .i64 a, .int .i64 b] w fun e w' => e = .returned (.int .i64 (cw (a * b))) ∧ w = w' := by
  have hs := mul_start a b a0 a1 b0 (by omega)
  have hnb : decide (b < 0) = false := by simp; omega
  go_enter Try.func41, Try.ntmps41
  go_wp2
  go_loop [0, 1, 6, 7] (fun av bv ov i => ∃ k : Nat, k ≤ 63 ∧ i = .int .i64 k ∧ ∃ A C O : Int, av = .int .i64 A ∧ bv = .int .i64 C ∧ ov = .int .i64 O ∧ MulRel (a * b) k A C O ∧ C ≤ 4611686018427387904) (fun _ _ _ i => 63 - (intOf i).toNat)
  case atStart => exact ⟨0, by omega, rfl, _, _, _, rfl, rfl, rfl, hs, by omega⟩
  case round =>
    obtain ⟨k, hk, rfl, A, C, O, rfl, rfl, rfl, hr, hC1⟩ := hrel
    have hA0 := hr.a0
    have hA1 := hr.a1
    have hC0 := hr.c0
    have hO0 := hr.o0
    have hO1 := hr.o1
    by_cases hlt : k < 63
    · rcases (by omega : C % 2 = 1 ∨ C % 2 = 0) with hp | hp
      · have hn := mul_odd hr hlt hp
        have ht : (C % 2 != 0) = true := by rw [hp]; rfl
        clear hp hs
        go_wp2_with (go_at_call 12; refine (rwrap_any _ _ (by omega) (by omega)).mono ?_; rintro e w' ⟨rfl, rfl⟩)
        go_round
        case rel => exact ⟨k + 1, by omega, by go_num, _, _, _, rfl, rfl, rfl, hn, by omega⟩
        case measure => simp [intOf]; omega
      · have hn := mul_even hr hlt hp
        have ht : (C % 2 != 0) = false := by rw [hp]; rfl
        clear hp hs
        go_wp2_with (go_at_call 12; refine (rwrap_any _ _ (by omega) (by omega)).mono ?_; rintro e w' ⟨rfl, rfl⟩)
        go_round
        case rel => exact ⟨k + 1, by omega, by go_num, _, _, _, rfl, rfl, rfl, hn, by omega⟩
        case measure => simp [intOf]; omega
    · have e : k = 63 := by omega
      subst e
      have he := mul_end hr
      have H := Lib.hid he; clear he hr
      go_wp2
      go_ret
      exact ⟨ret_i H.out, rfl⟩
set_option maxHeartbeats 400000 in
theorem rmul_neg (a b : Int) (w : World) (a0 : -4611686018427387904 ≤ a) (a1 : a ≤ 4611686018427387903) (b0 : -4611686018427387904 ≤ b) (b1 : b < 0) :
    Calls Try.prog 41 #[.int .i64 a, .int .i64 b] w fun e w' => e = .returned (.int .i64 (cw (a * b))) ∧ w = w' := by
  obtain ⟨c, rfl⟩ : ∃ c : Int, b = -c := ⟨-b, by omega⟩
  have hs := mul_start a c a0 a1 (by omega) (by omega)
  have hnb : decide (-c < 0) = true := by simp; omega
  go_enter Try.func41, Try.ntmps41
  go_wp2
  go_loop [0, 1, 6, 7] (fun av bv ov i => ∃ k : Nat, k ≤ 63 ∧ i = .int .i64 k ∧ ∃ A C O : Int, av = .int .i64 A ∧ bv = .int .i64 (-C) ∧ ov = .int .i64 O ∧ MulRel (a * c) k A C O ∧ C ≤ 4611686018427387904) (fun _ _ _ i => 63 - (intOf i).toNat)
  case atStart => exact ⟨0, by omega, rfl, _, _, _, rfl, rfl, rfl, hs, by omega⟩
  case round =>
    obtain ⟨k, hk, rfl, A, C, O, rfl, rfl, rfl, hr, hC1⟩ := hrel
    have hA0 := hr.a0
    have hA1 := hr.a1
    have hC0 := hr.c0
    have hO0 := hr.o0
    have hO1 := hr.o1
    have hm := tmod_neg2 C hC0
    have hq : wrap64 (-C.tdiv 2) = -(C / 2) := by rw [Int.tdiv_eq_ediv_of_nonneg hC0]; unfold wrap64; omega
    by_cases hlt : k < 63
    · rcases (by omega : C % 2 = 1 ∨ C % 2 = 0) with hp | hp
      · have hn := mul_odd hr hlt hp
        have ht : (-C).tmod 2 = -1 := by rw [hm, hp]
        clear hp hs hm
        go_wp2_with (go_at_call 12; refine (rwrap_any _ _ (by omega) (by omega)).mono ?_; rintro e w' ⟨rfl, rfl⟩)
        go_round
        case rel => exact ⟨k + 1, by omega, by go_num, _, _, _, rfl, rfl, rfl, hn, by omega⟩
        case measure => simp [intOf]; omega
      · have hn := mul_even hr hlt hp
        have ht : (-C).tmod 2 = 0 := by rw [hm, hp]; rfl
        clear hp hs hm
        go_wp2_with (go_at_call 12; refine (rwrap_any _ _ (by omega) (by omega)).mono ?_; rintro e w' ⟨rfl, rfl⟩)
        go_round
        case rel => exact ⟨k + 1, by omega, by go_num, _, _, _, rfl, rfl, rfl, hn, by omega⟩
        case measure => simp [intOf]; omega
    · have e : k = 63 := by omega
      subst e
      have he : cw (-O) = cw (a * -c) := by rw [mul_end hr, cw_neg, Int.mul_neg]
      have H := Lib.hid he; clear he hr hm hq
      go_wp2_with (go_at_call 12; refine (rwrap_any _ _ (by omega) (by omega)).mono ?_; rintro e w' ⟨rfl, rfl⟩)
      go_ret
      exact ⟨ret_i H.out, rfl⟩
theorem rmul_any (a b : Int) (w : World) (a0 : -4611686018427387904 ≤ a) (a1 : a ≤ 4611686018427387903) (b0 : -4611686018427387904 ≤ b) (b1 : b ≤ 4611686018427387903) :
    Calls Try.prog 41 #[.int .i64 a, .int .i64 b] w fun e w' => e = .returned (.int .i64 (cw (a * b))) ∧ w = w' := by
  by_cases h : 0 ≤ b
  · exact rmul_pos a b w a0 a1 h b1
  · exact rmul_neg a b w a0 a1 b0 (by omega)
end Go.Proofs.Ytcbehllfljjngaa.I
