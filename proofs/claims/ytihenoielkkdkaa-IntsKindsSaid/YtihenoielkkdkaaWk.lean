/- Walks of the laws of layer 1: IntsWords, IntsKinds. -/
import Derived.Test.YtihenoielkkdkaaWalkF
import Derived.OpenShut
namespace Go.Proofs.Ytihenoielkkdkaa
open Go.RowKit
set_option linter.unusedVariables false
/-- The word of an integer. -/
def wd (m : Int) : Int := 2 * m + 1
theorem tag_wd (n : Int) (w : World) : Calls Try.prog 19 #[.int .i64 n] w fun e w' => e = .returned (.int .i64 (wd (cw n))) ∧ w = w' := tag_any n w
theorem untag_wd (m : Int) (w : World) : Calls Try.prog 20 #[.int .i64 (wd m)] w fun e w' => e = .returned (.tuple #[.int .i64 m, .bool true]) ∧ w = w' := by
  have h := untag_odd (wd m) w (by unfold wd; omega)
  rw [show wd m / 2 = m from by unfold wd; omega] at h
  exact h
theorem at_wd (m : Int) (w : World) : Calls Try.prog 22 #[.int .i64 (wd m)] w fun e w' => e = .returned (.tuple #[.int .i64 0, .bool false]) ∧ w = w' :=
  at_out _ w (.inr (by unfold wd; omega))
/-- The pointer of a place. -/
def pt (p : Int) : Int := if 1 ≤ p ∧ p ≤ 2305843009213693952 then p * 2 else 0
theorem point_pt (p : Int) (w : World) : Calls Try.prog 21 #[.int .i64 p] w fun e w' => e = .returned (.int .i64 (pt p)) ∧ w = w' := by
  by_cases h : 1 ≤ p ∧ p ≤ 2305843009213693952
  · unfold pt; rw [if_pos h]; exact point_in p w h.1 h.2
  · unfold pt; rw [if_neg h]; exact point_out p w (by omega)
theorem untag_pt (p : Int) (w : World) : Calls Try.prog 20 #[.int .i64 (pt p)] w fun e w' => e = .returned (.tuple #[.int .i64 0, .bool false]) ∧ w = w' :=
  untag_even _ w (by unfold pt; split <;> omega)
theorem at_pt (p : Int) (w : World) (h0 : 1 ≤ p) (h1 : p ≤ 2305843009213693952) : Calls Try.prog 22 #[.int .i64 (pt p)] w fun e w' => e = .returned (.tuple #[.int .i64 p, .bool true]) ∧ w = w' := by
  have h := at_in (pt p) w (by unfold pt; rw [if_pos ⟨h0, h1⟩]; omega) (by unfold pt; rw [if_pos ⟨h0, h1⟩]; omega)
  rw [show pt p / 2 = p from by unfold pt; rw [if_pos ⟨h0, h1⟩]; omega] at h
  exact h
theorem at_no (p : Int) (w : World) (h : p < 1 ∨ 2305843009213693952 < p) : Calls Try.prog 22 #[.int .i64 (pt p)] w fun e w' => e = .returned (.tuple #[.int .i64 0, .bool false]) ∧ w = w' :=
  at_out _ w (.inl (by unfold pt; rw [if_neg (by omega)]; decide))

theorem ne_beq (a b : Bool) (h : a = b) : (!(a == b)) = false := by subst h; cases a <;> rfl
set_option maxHeartbeats 2000000 in
theorem words_00 (a b p q : Int) (w : World) (la : -9223372036854775808 ≤ a) (ma : a ≤ 9223372036854775807) (lb : -9223372036854775808 ≤ b) (mb : b ≤ 9223372036854775807)
    (p0 : 1 ≤ p) (p1 : p ≤ 2305843009213693952) (q0 : 1 ≤ q) (q1 : q ≤ 2305843009213693952) :
    Calls Try.prog 9 #[.int .i64 a, .int .i64 b, .int .i64 p, .int .i64 q] w fun e w' => e = .returned (.bool true) ∧ Below w.heap.size w w' := by
  have f0 : (cw a != cw a) = false := by simp
  have f1 : (!((wd (cw a) == wd (cw b)) == (cw a == cw b))) = false := ne_beq _ _ (by rw [Bool.eq_iff_iff]; simp only [beq_iff_eq]; unfold wd; omega)
  have g0 : (p != p) = false := by simp
  have g1 : (!((pt p == pt q) == (p == q))) = false := ne_beq _ _ (by rw [Bool.eq_iff_iff]; simp only [beq_iff_eq]; unfold pt; rw [if_pos ⟨p0, p1⟩, if_pos ⟨q0, q1⟩]; omega)
  go_enter Try.func9, Try.ntmps9
  go_wp2_with (first | (go_at_call 19; ((with_reducible refine (tag_wd _ _).mono ?_); rintro e w' ⟨rfl, rfl⟩)) | (go_at_call 20; ((with_reducible refine (untag_wd _ _).mono ?_); rintro e w' ⟨rfl, rfl⟩)) | (go_at_call 20; ((with_reducible refine (untag_pt _ _).mono ?_); rintro e w' ⟨rfl, rfl⟩)) | (go_at_call 21; ((with_reducible refine (point_pt _ _).mono ?_); rintro e w' ⟨rfl, rfl⟩)) | (go_at_call 22; ((with_reducible refine (at_wd _ _).mono ?_); rintro e w' ⟨rfl, rfl⟩)) | (go_at_call 22; ((with_reducible refine (at_pt _ _ (by assumption) (by assumption)).mono ?_); rintro e w' ⟨rfl, rfl⟩)) | (go_at_call 22; ((with_reducible refine (at_no _ _ (by assumption)).mono ?_); rintro e w' ⟨rfl, rfl⟩)) | (go_at_call 17; refine (rwrap_any _ _ (by assumption) (by assumption)).mono ?_; rintro e w' ⟨rfl, rfl⟩) | (go_at_call 15; refine (lives_any _).mono ?_; rintro e w' ⟨rfl, hb⟩))
  go_ret
  exact ⟨rfl, hb⟩

set_option maxHeartbeats 2000000 in
theorem words_01 (a b p q : Int) (w : World) (la : -9223372036854775808 ≤ a) (ma : a ≤ 9223372036854775807) (lb : -9223372036854775808 ≤ b) (mb : b ≤ 9223372036854775807)
    (p0 : 1 ≤ p) (p1 : p ≤ 2305843009213693952) (q2 : q < 1) :
    Calls Try.prog 9 #[.int .i64 a, .int .i64 b, .int .i64 p, .int .i64 q] w fun e w' => e = .returned (.bool true) ∧ Below w.heap.size w w' := by
  have f0 : (cw a != cw a) = false := by simp
  have f1 : (!((wd (cw a) == wd (cw b)) == (cw a == cw b))) = false := ne_beq _ _ (by rw [Bool.eq_iff_iff]; simp only [beq_iff_eq]; unfold wd; omega)
  have g0 : (p != p) = false := by simp
  go_enter Try.func9, Try.ntmps9
  go_wp2_with (first | (go_at_call 19; ((with_reducible refine (tag_wd _ _).mono ?_); rintro e w' ⟨rfl, rfl⟩)) | (go_at_call 20; ((with_reducible refine (untag_wd _ _).mono ?_); rintro e w' ⟨rfl, rfl⟩)) | (go_at_call 20; ((with_reducible refine (untag_pt _ _).mono ?_); rintro e w' ⟨rfl, rfl⟩)) | (go_at_call 21; ((with_reducible refine (point_pt _ _).mono ?_); rintro e w' ⟨rfl, rfl⟩)) | (go_at_call 22; ((with_reducible refine (at_wd _ _).mono ?_); rintro e w' ⟨rfl, rfl⟩)) | (go_at_call 22; ((with_reducible refine (at_pt _ _ (by assumption) (by assumption)).mono ?_); rintro e w' ⟨rfl, rfl⟩)) | (go_at_call 22; ((with_reducible refine (at_no _ _ (by assumption)).mono ?_); rintro e w' ⟨rfl, rfl⟩)) | (go_at_call 17; refine (rwrap_any _ _ (by assumption) (by assumption)).mono ?_; rintro e w' ⟨rfl, rfl⟩) | (go_at_call 15; refine (lives_any _).mono ?_; rintro e w' ⟨rfl, hb⟩))
  go_ret
  exact ⟨rfl, hb⟩

set_option maxHeartbeats 2000000 in
theorem words_02 (a b p q : Int) (w : World) (la : -9223372036854775808 ≤ a) (ma : a ≤ 9223372036854775807) (lb : -9223372036854775808 ≤ b) (mb : b ≤ 9223372036854775807)
    (p0 : 1 ≤ p) (p1 : p ≤ 2305843009213693952) (q2 : 1 ≤ q) (q3 : 2305843009213693952 < q) :
    Calls Try.prog 9 #[.int .i64 a, .int .i64 b, .int .i64 p, .int .i64 q] w fun e w' => e = .returned (.bool true) ∧ Below w.heap.size w w' := by
  have f0 : (cw a != cw a) = false := by simp
  have f1 : (!((wd (cw a) == wd (cw b)) == (cw a == cw b))) = false := ne_beq _ _ (by rw [Bool.eq_iff_iff]; simp only [beq_iff_eq]; unfold wd; omega)
  have g0 : (p != p) = false := by simp
  go_enter Try.func9, Try.ntmps9
  go_wp2_with (first | (go_at_call 19; ((with_reducible refine (tag_wd _ _).mono ?_); rintro e w' ⟨rfl, rfl⟩)) | (go_at_call 20; ((with_reducible refine (untag_wd _ _).mono ?_); rintro e w' ⟨rfl, rfl⟩)) | (go_at_call 20; ((with_reducible refine (untag_pt _ _).mono ?_); rintro e w' ⟨rfl, rfl⟩)) | (go_at_call 21; ((with_reducible refine (point_pt _ _).mono ?_); rintro e w' ⟨rfl, rfl⟩)) | (go_at_call 22; ((with_reducible refine (at_wd _ _).mono ?_); rintro e w' ⟨rfl, rfl⟩)) | (go_at_call 22; ((with_reducible refine (at_pt _ _ (by assumption) (by assumption)).mono ?_); rintro e w' ⟨rfl, rfl⟩)) | (go_at_call 22; ((with_reducible refine (at_no _ _ (by assumption)).mono ?_); rintro e w' ⟨rfl, rfl⟩)) | (go_at_call 17; refine (rwrap_any _ _ (by assumption) (by assumption)).mono ?_; rintro e w' ⟨rfl, rfl⟩) | (go_at_call 15; refine (lives_any _).mono ?_; rintro e w' ⟨rfl, hb⟩))
  go_ret
  exact ⟨rfl, hb⟩

set_option maxHeartbeats 2000000 in
theorem words_10 (a b p q : Int) (w : World) (la : -9223372036854775808 ≤ a) (ma : a ≤ 9223372036854775807) (lb : -9223372036854775808 ≤ b) (mb : b ≤ 9223372036854775807)
    (p0 : p < 1 ∨ 2305843009213693952 < p) (p2 : p < 1) (q0 : 1 ≤ q) (q1 : q ≤ 2305843009213693952) :
    Calls Try.prog 9 #[.int .i64 a, .int .i64 b, .int .i64 p, .int .i64 q] w fun e w' => e = .returned (.bool true) ∧ Below w.heap.size w w' := by
  have f0 : (cw a != cw a) = false := by simp
  have f1 : (!((wd (cw a) == wd (cw b)) == (cw a == cw b))) = false := ne_beq _ _ (by rw [Bool.eq_iff_iff]; simp only [beq_iff_eq]; unfold wd; omega)
  have g2 : (pt p != 0) = false := by unfold pt; rw [if_neg (by omega)]; rfl
  go_enter Try.func9, Try.ntmps9
  go_wp2_with (first | (go_at_call 19; ((with_reducible refine (tag_wd _ _).mono ?_); rintro e w' ⟨rfl, rfl⟩)) | (go_at_call 20; ((with_reducible refine (untag_wd _ _).mono ?_); rintro e w' ⟨rfl, rfl⟩)) | (go_at_call 20; ((with_reducible refine (untag_pt _ _).mono ?_); rintro e w' ⟨rfl, rfl⟩)) | (go_at_call 21; ((with_reducible refine (point_pt _ _).mono ?_); rintro e w' ⟨rfl, rfl⟩)) | (go_at_call 22; ((with_reducible refine (at_wd _ _).mono ?_); rintro e w' ⟨rfl, rfl⟩)) | (go_at_call 22; ((with_reducible refine (at_pt _ _ (by assumption) (by assumption)).mono ?_); rintro e w' ⟨rfl, rfl⟩)) | (go_at_call 22; ((with_reducible refine (at_no _ _ (by assumption)).mono ?_); rintro e w' ⟨rfl, rfl⟩)) | (go_at_call 17; refine (rwrap_any _ _ (by assumption) (by assumption)).mono ?_; rintro e w' ⟨rfl, rfl⟩) | (go_at_call 15; refine (lives_any _).mono ?_; rintro e w' ⟨rfl, hb⟩))
  go_ret
  exact ⟨rfl, hb⟩

set_option maxHeartbeats 2000000 in
theorem words_11 (a b p q : Int) (w : World) (la : -9223372036854775808 ≤ a) (ma : a ≤ 9223372036854775807) (lb : -9223372036854775808 ≤ b) (mb : b ≤ 9223372036854775807)
    (p0 : p < 1 ∨ 2305843009213693952 < p) (p2 : p < 1) (q2 : q < 1) :
    Calls Try.prog 9 #[.int .i64 a, .int .i64 b, .int .i64 p, .int .i64 q] w fun e w' => e = .returned (.bool true) ∧ Below w.heap.size w w' := by
  have f0 : (cw a != cw a) = false := by simp
  have f1 : (!((wd (cw a) == wd (cw b)) == (cw a == cw b))) = false := ne_beq _ _ (by rw [Bool.eq_iff_iff]; simp only [beq_iff_eq]; unfold wd; omega)
  have g2 : (pt p != 0) = false := by unfold pt; rw [if_neg (by omega)]; rfl
  go_enter Try.func9, Try.ntmps9
  go_wp2_with (first | (go_at_call 19; ((with_reducible refine (tag_wd _ _).mono ?_); rintro e w' ⟨rfl, rfl⟩)) | (go_at_call 20; ((with_reducible refine (untag_wd _ _).mono ?_); rintro e w' ⟨rfl, rfl⟩)) | (go_at_call 20; ((with_reducible refine (untag_pt _ _).mono ?_); rintro e w' ⟨rfl, rfl⟩)) | (go_at_call 21; ((with_reducible refine (point_pt _ _).mono ?_); rintro e w' ⟨rfl, rfl⟩)) | (go_at_call 22; ((with_reducible refine (at_wd _ _).mono ?_); rintro e w' ⟨rfl, rfl⟩)) | (go_at_call 22; ((with_reducible refine (at_pt _ _ (by assumption) (by assumption)).mono ?_); rintro e w' ⟨rfl, rfl⟩)) | (go_at_call 22; ((with_reducible refine (at_no _ _ (by assumption)).mono ?_); rintro e w' ⟨rfl, rfl⟩)) | (go_at_call 17; refine (rwrap_any _ _ (by assumption) (by assumption)).mono ?_; rintro e w' ⟨rfl, rfl⟩) | (go_at_call 15; refine (lives_any _).mono ?_; rintro e w' ⟨rfl, hb⟩))
  go_ret
  exact ⟨rfl, hb⟩

set_option maxHeartbeats 2000000 in
theorem words_12 (a b p q : Int) (w : World) (la : -9223372036854775808 ≤ a) (ma : a ≤ 9223372036854775807) (lb : -9223372036854775808 ≤ b) (mb : b ≤ 9223372036854775807)
    (p0 : p < 1 ∨ 2305843009213693952 < p) (p2 : p < 1) (q2 : 1 ≤ q) (q3 : 2305843009213693952 < q) :
    Calls Try.prog 9 #[.int .i64 a, .int .i64 b, .int .i64 p, .int .i64 q] w fun e w' => e = .returned (.bool true) ∧ Below w.heap.size w w' := by
  have f0 : (cw a != cw a) = false := by simp
  have f1 : (!((wd (cw a) == wd (cw b)) == (cw a == cw b))) = false := ne_beq _ _ (by rw [Bool.eq_iff_iff]; simp only [beq_iff_eq]; unfold wd; omega)
  have g2 : (pt p != 0) = false := by unfold pt; rw [if_neg (by omega)]; rfl
  go_enter Try.func9, Try.ntmps9
  go_wp2_with (first | (go_at_call 19; ((with_reducible refine (tag_wd _ _).mono ?_); rintro e w' ⟨rfl, rfl⟩)) | (go_at_call 20; ((with_reducible refine (untag_wd _ _).mono ?_); rintro e w' ⟨rfl, rfl⟩)) | (go_at_call 20; ((with_reducible refine (untag_pt _ _).mono ?_); rintro e w' ⟨rfl, rfl⟩)) | (go_at_call 21; ((with_reducible refine (point_pt _ _).mono ?_); rintro e w' ⟨rfl, rfl⟩)) | (go_at_call 22; ((with_reducible refine (at_wd _ _).mono ?_); rintro e w' ⟨rfl, rfl⟩)) | (go_at_call 22; ((with_reducible refine (at_pt _ _ (by assumption) (by assumption)).mono ?_); rintro e w' ⟨rfl, rfl⟩)) | (go_at_call 22; ((with_reducible refine (at_no _ _ (by assumption)).mono ?_); rintro e w' ⟨rfl, rfl⟩)) | (go_at_call 17; refine (rwrap_any _ _ (by assumption) (by assumption)).mono ?_; rintro e w' ⟨rfl, rfl⟩) | (go_at_call 15; refine (lives_any _).mono ?_; rintro e w' ⟨rfl, hb⟩))
  go_ret
  exact ⟨rfl, hb⟩

set_option maxHeartbeats 2000000 in
theorem words_20 (a b p q : Int) (w : World) (la : -9223372036854775808 ≤ a) (ma : a ≤ 9223372036854775807) (lb : -9223372036854775808 ≤ b) (mb : b ≤ 9223372036854775807)
    (p0 : p < 1 ∨ 2305843009213693952 < p) (p2 : 1 ≤ p) (p3 : 2305843009213693952 < p) (q0 : 1 ≤ q) (q1 : q ≤ 2305843009213693952) :
    Calls Try.prog 9 #[.int .i64 a, .int .i64 b, .int .i64 p, .int .i64 q] w fun e w' => e = .returned (.bool true) ∧ Below w.heap.size w w' := by
  have f0 : (cw a != cw a) = false := by simp
  have f1 : (!((wd (cw a) == wd (cw b)) == (cw a == cw b))) = false := ne_beq _ _ (by rw [Bool.eq_iff_iff]; simp only [beq_iff_eq]; unfold wd; omega)
  have g2 : (pt p != 0) = false := by unfold pt; rw [if_neg (by omega)]; rfl
  go_enter Try.func9, Try.ntmps9
  go_wp2_with (first | (go_at_call 19; ((with_reducible refine (tag_wd _ _).mono ?_); rintro e w' ⟨rfl, rfl⟩)) | (go_at_call 20; ((with_reducible refine (untag_wd _ _).mono ?_); rintro e w' ⟨rfl, rfl⟩)) | (go_at_call 20; ((with_reducible refine (untag_pt _ _).mono ?_); rintro e w' ⟨rfl, rfl⟩)) | (go_at_call 21; ((with_reducible refine (point_pt _ _).mono ?_); rintro e w' ⟨rfl, rfl⟩)) | (go_at_call 22; ((with_reducible refine (at_wd _ _).mono ?_); rintro e w' ⟨rfl, rfl⟩)) | (go_at_call 22; ((with_reducible refine (at_pt _ _ (by assumption) (by assumption)).mono ?_); rintro e w' ⟨rfl, rfl⟩)) | (go_at_call 22; ((with_reducible refine (at_no _ _ (by assumption)).mono ?_); rintro e w' ⟨rfl, rfl⟩)) | (go_at_call 17; refine (rwrap_any _ _ (by assumption) (by assumption)).mono ?_; rintro e w' ⟨rfl, rfl⟩) | (go_at_call 15; refine (lives_any _).mono ?_; rintro e w' ⟨rfl, hb⟩))
  go_ret
  exact ⟨rfl, hb⟩

set_option maxHeartbeats 2000000 in
theorem words_21 (a b p q : Int) (w : World) (la : -9223372036854775808 ≤ a) (ma : a ≤ 9223372036854775807) (lb : -9223372036854775808 ≤ b) (mb : b ≤ 9223372036854775807)
    (p0 : p < 1 ∨ 2305843009213693952 < p) (p2 : 1 ≤ p) (p3 : 2305843009213693952 < p) (q2 : q < 1) :
    Calls Try.prog 9 #[.int .i64 a, .int .i64 b, .int .i64 p, .int .i64 q] w fun e w' => e = .returned (.bool true) ∧ Below w.heap.size w w' := by
  have f0 : (cw a != cw a) = false := by simp
  have f1 : (!((wd (cw a) == wd (cw b)) == (cw a == cw b))) = false := ne_beq _ _ (by rw [Bool.eq_iff_iff]; simp only [beq_iff_eq]; unfold wd; omega)
  have g2 : (pt p != 0) = false := by unfold pt; rw [if_neg (by omega)]; rfl
  go_enter Try.func9, Try.ntmps9
  go_wp2_with (first | (go_at_call 19; ((with_reducible refine (tag_wd _ _).mono ?_); rintro e w' ⟨rfl, rfl⟩)) | (go_at_call 20; ((with_reducible refine (untag_wd _ _).mono ?_); rintro e w' ⟨rfl, rfl⟩)) | (go_at_call 20; ((with_reducible refine (untag_pt _ _).mono ?_); rintro e w' ⟨rfl, rfl⟩)) | (go_at_call 21; ((with_reducible refine (point_pt _ _).mono ?_); rintro e w' ⟨rfl, rfl⟩)) | (go_at_call 22; ((with_reducible refine (at_wd _ _).mono ?_); rintro e w' ⟨rfl, rfl⟩)) | (go_at_call 22; ((with_reducible refine (at_pt _ _ (by assumption) (by assumption)).mono ?_); rintro e w' ⟨rfl, rfl⟩)) | (go_at_call 22; ((with_reducible refine (at_no _ _ (by assumption)).mono ?_); rintro e w' ⟨rfl, rfl⟩)) | (go_at_call 17; refine (rwrap_any _ _ (by assumption) (by assumption)).mono ?_; rintro e w' ⟨rfl, rfl⟩) | (go_at_call 15; refine (lives_any _).mono ?_; rintro e w' ⟨rfl, hb⟩))
  go_ret
  exact ⟨rfl, hb⟩

set_option maxHeartbeats 2000000 in
theorem words_22 (a b p q : Int) (w : World) (la : -9223372036854775808 ≤ a) (ma : a ≤ 9223372036854775807) (lb : -9223372036854775808 ≤ b) (mb : b ≤ 9223372036854775807)
    (p0 : p < 1 ∨ 2305843009213693952 < p) (p2 : 1 ≤ p) (p3 : 2305843009213693952 < p) (q2 : 1 ≤ q) (q3 : 2305843009213693952 < q) :
    Calls Try.prog 9 #[.int .i64 a, .int .i64 b, .int .i64 p, .int .i64 q] w fun e w' => e = .returned (.bool true) ∧ Below w.heap.size w w' := by
  have f0 : (cw a != cw a) = false := by simp
  have f1 : (!((wd (cw a) == wd (cw b)) == (cw a == cw b))) = false := ne_beq _ _ (by rw [Bool.eq_iff_iff]; simp only [beq_iff_eq]; unfold wd; omega)
  have g2 : (pt p != 0) = false := by unfold pt; rw [if_neg (by omega)]; rfl
  go_enter Try.func9, Try.ntmps9
  go_wp2_with (first | (go_at_call 19; ((with_reducible refine (tag_wd _ _).mono ?_); rintro e w' ⟨rfl, rfl⟩)) | (go_at_call 20; ((with_reducible refine (untag_wd _ _).mono ?_); rintro e w' ⟨rfl, rfl⟩)) | (go_at_call 20; ((with_reducible refine (untag_pt _ _).mono ?_); rintro e w' ⟨rfl, rfl⟩)) | (go_at_call 21; ((with_reducible refine (point_pt _ _).mono ?_); rintro e w' ⟨rfl, rfl⟩)) | (go_at_call 22; ((with_reducible refine (at_wd _ _).mono ?_); rintro e w' ⟨rfl, rfl⟩)) | (go_at_call 22; ((with_reducible refine (at_pt _ _ (by assumption) (by assumption)).mono ?_); rintro e w' ⟨rfl, rfl⟩)) | (go_at_call 22; ((with_reducible refine (at_no _ _ (by assumption)).mono ?_); rintro e w' ⟨rfl, rfl⟩)) | (go_at_call 17; refine (rwrap_any _ _ (by assumption) (by assumption)).mono ?_; rintro e w' ⟨rfl, rfl⟩) | (go_at_call 15; refine (lives_any _).mono ?_; rintro e w' ⟨rfl, hb⟩))
  go_ret
  exact ⟨rfl, hb⟩

theorem intsWords_walk (a b p q : Int) (w : World) (w0 : (Lit.int .i64 a).wf = true) (w1 : (Lit.int .i64 b).wf = true) (_w2 : (Lit.int .i64 p).wf = true) (_w3 : (Lit.int .i64 q).wf = true) :
    Calls Try.prog 9 #[.int .i64 a, .int .i64 b, .int .i64 p, .int .i64 q] w fun e w' => e = .returned (.bool true) ∧ Below w.heap.size w w' := by
  obtain ⟨la, ma⟩ := bounds_i64 w0
  obtain ⟨lb, mb⟩ := bounds_i64 w1
  rcases (by omega : (1 ≤ p ∧ p ≤ 2305843009213693952) ∨ p < 1 ∨ (1 ≤ p ∧ 2305843009213693952 < p)) with ⟨p0, p1⟩ | p1 | ⟨p0, p1⟩ <;> rcases (by omega : (1 ≤ q ∧ q ≤ 2305843009213693952) ∨ q < 1 ∨ (1 ≤ q ∧ 2305843009213693952 < q)) with ⟨q0, q1⟩ | q1 | ⟨q0, q1⟩
  · exact words_00 a b p q w la ma lb mb p0 p1 q0 q1
  · exact words_01 a b p q w la ma lb mb p0 p1 q1
  · exact words_02 a b p q w la ma lb mb p0 p1 q0 q1
  · exact words_10 a b p q w la ma lb mb (.inl p1) p1 q0 q1
  · exact words_11 a b p q w la ma lb mb (.inl p1) p1 q1
  · exact words_12 a b p q w la ma lb mb (.inl p1) p1 q0 q1
  · exact words_20 a b p q w la ma lb mb (.inr p1) p0 p1 q0 q1
  · exact words_21 a b p q w la ma lb mb (.inr p1) p0 p1 q1
  · exact words_22 a b p q w la ma lb mb (.inr p1) p0 p1 q0 q1

theorem tag_half (n : Int) (w : World) (h : n % 2 = 1) (l : -9223372036854775808 ≤ n) (m : n ≤ 9223372036854775807) : Calls Try.prog 19 #[.int .i64 (n / 2)] w fun e w' => e = .returned (.int .i64 n) ∧ w = w' := by
  have := tag_any (n / 2) w
  rw [cw_id (n / 2) (by omega) (by omega), show 2 * (n / 2) + 1 = n from by omega] at this
  exact this
set_option maxHeartbeats 1000000 in
theorem intsKinds_walk (n : Int) (w : World) (w0 : (Lit.int .i64 n).wf = true) :
    Calls Try.prog 10 #[.int .i64 n] w fun e w' => e = .returned (.bool true) ∧ Below w.heap.size w w' := by
  obtain ⟨l, m⟩ := bounds_i64 w0
  clear w0
  rcases (by omega : n % 2 = 1 ∨ n % 2 = 0) with h | h
  · rcases (by omega : 0 < n ∨ n < 0) with h1 | h1
    · have f1 : (n % 2 != 0) = true := by rw [h]; rfl
      have f2 : (n % 2 == 0) = false := by rw [h]; rfl
      have H := Lib.hid h; clear h
      go_enter Try.func10, Try.ntmps10
      go_wp2_with fail
      refine (untag_odd n w H.out).mono ?_
      rintro e w' ⟨rfl, rfl⟩
      go_wp2_with fail
      refine (at_out n w (.inr H.out)).mono ?_
      rintro e w' ⟨rfl, rfl⟩
      go_wp2_with fail
      refine (tag_half n w H.out l m).mono ?_
      rintro e w' ⟨rfl, rfl⟩
      go_wp2_with (go_at_call 15; refine (lives_any _).mono ?_; rintro e w' ⟨rfl, hb⟩)
      go_ret
      exact ⟨rfl, hb⟩
    · have f1 : (n.tmod 2 != 0) = true := by rw [bne_iff_ne]; intro hh; have := Int.dvd_of_tmod_eq_zero hh; omega
      have H := Lib.hid h; clear h
      go_enter Try.func10, Try.ntmps10
      go_wp2_with fail
      refine (untag_odd n w H.out).mono ?_
      rintro e w' ⟨rfl, rfl⟩
      go_wp2_with fail
      refine (at_out n w (.inr H.out)).mono ?_
      rintro e w' ⟨rfl, rfl⟩
      go_wp2_with fail
      refine (tag_half n w H.out l m).mono ?_
      rintro e w' ⟨rfl, rfl⟩
      go_wp2_with (go_at_call 15; refine (lives_any _).mono ?_; rintro e w' ⟨rfl, hb⟩)
      go_ret
      exact ⟨rfl, hb⟩
  · rcases (by omega : 0 < n ∨ n ≤ 0) with h1 | h1
    · have f1 : (n % 2 != 0) = false := by rw [h]; rfl
      have f2 : (n % 2 == 0) = true := by rw [h]; rfl
      have H := Lib.hid h; clear h
      go_enter Try.func10, Try.ntmps10
      go_wp2_with fail
      refine (untag_even n w H.out).mono ?_
      rintro e w' ⟨rfl, rfl⟩
      go_wp2_with fail
      refine (at_in n w h1 H.out).mono ?_
      rintro e w' ⟨rfl, rfl⟩
      have f3 : (2 * (n / 2) == n) = true := by have := H.out; simp; omega
      go_wp2_with (go_at_call 15; refine (lives_any _).mono ?_; rintro e w' ⟨rfl, hb⟩)
      go_ret
      exact ⟨rfl, hb⟩
    · have f1 : (n.tmod 2 != 0) = false := by
        have : n.tmod 2 = 0 := Int.tmod_eq_zero_of_dvd (by omega)
        rw [this]; rfl
      have H := Lib.hid h; clear h
      go_enter Try.func10, Try.ntmps10
      go_wp2_with fail
      refine (untag_even n w H.out).mono ?_
      rintro e w' ⟨rfl, rfl⟩
      go_wp2_with fail
      refine (at_out n w (.inl h1)).mono ?_
      rintro e w' ⟨rfl, rfl⟩
      go_wp2_with (go_at_call 15; refine (lives_any _).mono ?_; rintro e w' ⟨rfl, hb⟩)
      go_ret
      exact ⟨rfl, hb⟩
end Go.Proofs.Ytihenoielkkdkaa
