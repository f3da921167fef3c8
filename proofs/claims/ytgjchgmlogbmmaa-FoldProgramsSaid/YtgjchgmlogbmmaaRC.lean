/- A part of the proofs of chapter 11, squeezed, merged and shrunk by group.py: Iz FPlain FThe FWf FWt. -/
import Derived.WalkKit
import Derived.Laws.BitsAllLaws
import Derived.WalkSpells
import Derived.WalkLawsBesides
import Derived.Lib.Hide
import Derived.Test.YtgjchgmlogbmmaaProg
import Derived.Test.YtgjchgmlogbmmaaR2
/- Turned from another seat: do_any rdo_any. -/
namespace Go.Proofs.Ytgjchgmlogbmmaa.I
open Go.RowKit
set_option linter.unusedVariables false

/-- A number wrapped to 63 bits. -/
def cw (n : Int) : Int := (n + 4611686018427387904) % 9223372036854775808 - 4611686018427387904
theorem cw_shift (n : Int) : wrap64 (n * 2) / 2 = cw n := by unfold wrap64 cw; omega
theorem cw_wrap (n : Int) : cw (wrap64 n) = cw n := by unfold wrap64 cw; omega
theorem cw_id (n : Int) (h : -4611686018427387904 ≤ n) (h' : n ≤ 4611686018427387903) : cw n = n := by unfold cw; omega
theorem cw_lo (n : Int) : -4611686018427387904 ≤ cw n := by unfold cw; omega
theorem cw_hi (n : Int) : cw n ≤ 4611686018427387903 := by unfold cw; omega
theorem cw_ex (n : Int) : ∃ k : Int, cw n = n + k * 9223372036854775808 := by
 refine ⟨-((n + 4611686018427387904) / 9223372036854775808), ?_⟩
 unfold cw; omega
theorem cw_of (n m k : Int) (h : n = m + k * 9223372036854775808) : cw n = cw m := by unfold cw; omega
theorem cw_up' (n : Int) (h : 4611686018427387903 < n) (h' : n ≤ 9223372036854775807) : n - 4611686018427387904 - 4611686018427387904 = cw n := by
 unfold cw; omega
theorem cw_down (n : Int) (h : n < -4611686018427387904) (h' : -9223372036854775808 ≤ n) : n + 4611686018427387904 + 4611686018427387904 = cw n := by
 unfold cw; omega
theorem cw_add_l (a b : Int) : cw (cw a + b) = cw (a + b) := by
 obtain ⟨k, h⟩ := cw_ex a; exact cw_of _ _ k (by omega)
theorem cw_add_r (a b : Int) : cw (a + cw b) = cw (a + b) := by
 obtain ⟨k, h⟩ := cw_ex b; exact cw_of _ _ k (by omega)
theorem cw_neg (a : Int) : cw (-cw a) = cw (-a) := by
 obtain ⟨k, h⟩ := cw_ex a; exact cw_of _ _ (-k) (by omega)
theorem cw_mul_l (a b : Int) : cw (cw a * b) = cw (a * b) := by
 obtain ⟨k, h⟩ := cw_ex a
 refine cw_of _ _ (k * b) ?_
 rw [h, Int.add_mul, Int.mul_right_comm]
def pw (k : Nat) : Int := 2 ^ (63 - k)
theorem pw_step (k : Nat) (C : Int) (hk : k < 63) (h : C < pw k) : C / 2 < pw (k + 1) := by
 unfold pw at *
 have e : 63 - k = (63 - (k + 1)) + 1 := by omega
 rw [e, Int.pow_succ] at h
 omega
/-- After k bits of the second number: what is still to come, and what is there, come to the product. -/
structure MulRel (T : Int) (k : Nat) (A C O : Int) : Prop where
 sum : cw (O + A * C) = cw T
 a0 : -4611686018427387904 ≤ A
 a1 : A ≤ 4611686018427387903
 c0 : 0 ≤ C
 c1 : C < pw k
 o0 : -4611686018427387904 ≤ O
 o1 : O ≤ 4611686018427387903
theorem mul_start (a c : Int) (h0 : -4611686018427387904 ≤ a) (h1 : a ≤ 4611686018427387903) (c0 : 0 ≤ c) (c1 : c ≤ 4611686018427387904) : MulRel (a * c) 0 a c 0 :=
 ⟨by rw [Int.zero_add], h0, h1, c0, by unfold pw; simp; omega, by decide, by decide⟩
theorem mul_odd {T : Int} {k : Nat} {A C O : Int} (h : MulRel T k A C O) (hk : k < 63) (hb : C % 2 = 1) : MulRel T (k + 1) (cw (A + A)) (C / 2) (cw (O + A)) := by
 refine ⟨?_, cw_lo _, cw_hi _, by have := h.c0; omega, pw_step k C hk h.c1, cw_lo _, cw_hi _⟩
 rw [← h.sum, cw_add_l, ← cw_add_r, cw_mul_l, cw_add_r]
 have e : C = 2 * (C / 2) + 1 := by omega
 congr 1
 generalize C / 2 = q at *
 subst e
 rw [Int.add_mul, Int.mul_add, ← Int.mul_assoc, Int.mul_comm A 2, Int.mul_assoc, Int.mul_one]
 omega
theorem mul_even {T : Int} {k : Nat} {A C O : Int} (h : MulRel T k A C O) (hk : k < 63) (hb : C % 2 = 0) : MulRel T (k + 1) (cw (A + A)) (C / 2) O := by
 refine ⟨?_, cw_lo _, cw_hi _, by have := h.c0; omega, pw_step k C hk h.c1, h.o0, h.o1⟩
 rw [← h.sum, ← cw_add_r, cw_mul_l, cw_add_r]
 have e : C = 2 * (C / 2) := by omega
 congr 1
 generalize C / 2 = q at *
 subst e
 rw [Int.add_mul, ← Int.mul_assoc, Int.mul_comm A 2, Int.mul_assoc]
 omega
theorem mul_end {T : Int} {A C O : Int} (h : MulRel T 63 A C O) : O = cw T := by
 have h1 := h.c1
 have h0 := h.c0
 have e : C = 0 := by unfold pw at h1; simp at h1; omega
 have := h.sum
 rw [e, Int.mul_zero, Int.add_zero, cw_id O h.o0 h.o1] at this
 exact this
theorem tmod_neg2 (C : Int) (h : 0 ≤ C) : (-C).tmod 2 = -(C % 2) := by
 rw [Int.neg_tmod, Int.tmod_eq_emod_of_nonneg h]
theorem ret_i {k : IntKind} {a b : Int} (h : a = b) : Ending.returned (.int k a) = .returned (.int k b) := by rw [h]
theorem ret_b {a b : Bool} (h : a = b) : Ending.returned (.bool a) = .returned (.bool b) := by rw [h]
set_option maxHeartbeats 400000 in
theorem wrap_any (n : Int) (w : World) :
  Calls Try.prog 70 #[.int .i64 n] w fun e w' => e = .returned (.int .i64 (cw n)) ∧ w = w' := by
 go_enter Try.func70, Try.ntmps70
 go_wp2
 go_ret
 exact ⟨ret_i (cw_shift n), rfl⟩
set_option maxHeartbeats 400000 in
theorem rwrap_any (n : Int) (w : World) (h1 : -9223372036854775808 ≤ n) (h2 : n ≤ 9223372036854775807) :
  Calls Try.prog 31 #[.int .i64 n] w fun e w' => e = .returned (.int .i64 (cw n)) ∧ w = w' := by
 by_cases ha : 4611686018427387903 < n
 ·have e := cw_up' n ha h2
  have H := Lib.hid e; clear e
  go_enter Try.func31, Try.ntmps31
  go_wp2
  go_ret
  exact ⟨ret_i H.out, rfl⟩
 ·by_cases hb : n < -4611686018427387904
  ·have e := cw_down n hb h1
   have H := Lib.hid e; clear e
   go_enter Try.func31, Try.ntmps31
   go_wp2
   go_ret
   exact ⟨ret_i H.out, rfl⟩
  ·have e := cw_id n (by omega) (by omega)
   have H := Lib.hid e; clear e
   go_enter Try.func31, Try.ntmps31
   go_wp2
   go_ret
   exact ⟨ret_i H.out.symm, rfl⟩
/-- Is a number an integer of 63 bits? -/
def isI (n : Int) : Bool := decide (-4611686018427387904 ≤ n) && decide (n ≤ 4611686018427387903)
theorem isI_t {n : Int} (h : -4611686018427387904 ≤ n) (h' : n ≤ 4611686018427387903) : isI n = true := by simp [isI, h, h']
theorem isI_f {n : Int} (h : n < -4611686018427387904 ∨ 4611686018427387903 < n) : isI n = false := by
 simp only [isI, Bool.and_eq_false_iff, decide_eq_false_iff_not]; omega
set_option maxHeartbeats 400000 in
theorem is_any (n : Int) (w : World) :
  Calls Try.prog 69 #[.int .i64 n] w fun e w' => e = .returned (.bool (isI n)) ∧ w = w' := by
 by_cases h1 : -4611686018427387904 ≤ n <;> by_cases h2 : n ≤ 4611686018427387903
 ·have H := Lib.hid (isI_t h1 h2)
  go_enter Try.func69, Try.ntmps69
  go_wp2
  go_ret
  exact ⟨ret_b H.out.symm, rfl⟩
 ·have H := Lib.hid (isI_f (.inr (by omega : 4611686018427387903 < n)))
  go_enter Try.func69, Try.ntmps69
  go_wp2
  go_ret
  exact ⟨ret_b H.out.symm, rfl⟩
 all_goals
  have H := Lib.hid (isI_f (.inl (by omega : n < -4611686018427387904)))
  go_enter Try.func69, Try.ntmps69
  go_wp2
  go_ret
  exact ⟨ret_b H.out.symm, rfl⟩
set_option maxHeartbeats 400000 in
theorem ris_any (n : Int) (w : World) :
  Calls Try.prog 29 #[.int .i64 n] w fun e w' => e = .returned (.bool (isI n)) ∧ w = w' := by
 by_cases h1 : -4611686018427387904 ≤ n <;> by_cases h2 : n ≤ 4611686018427387903
 ·have H := Lib.hid (isI_t h1 h2)
  go_enter Try.func29, Try.ntmps29
  go_wp2
  go_ret
  exact ⟨ret_b H.out.symm, rfl⟩
 ·have H := Lib.hid (isI_f (.inr (by omega : 4611686018427387903 < n)))
  go_enter Try.func29, Try.ntmps29
  go_wp2
  go_ret
  exact ⟨ret_b H.out.symm, rfl⟩
 all_goals
  have H := Lib.hid (isI_f (.inl (by omega : n < -4611686018427387904)))
  go_enter Try.func29, Try.ntmps29
  go_wp2
  go_ret
  exact ⟨ret_b H.out.symm, rfl⟩
set_option maxHeartbeats 400000 in
theorem radd_any (a b : Int) (w : World) (a0 : -4611686018427387904 ≤ a) (a1 : a ≤ 4611686018427387903) (b0 : -4611686018427387904 ≤ b) (b1 : b ≤ 4611686018427387903) :
  Calls Try.prog 30 #[.int .i64 a, .int .i64 b] w fun e w' => e = .returned (.int .i64 (cw (a + b))) ∧ w = w' := by
 go_enter Try.func30, Try.ntmps30
 go_wp2_with (go_at_call 31; refine (rwrap_any _ _ (by omega) (by omega)).mono ?_; rintro e w' ⟨rfl, rfl⟩)
 go_ret
 exact ⟨rfl, rfl⟩
set_option maxHeartbeats 400000 in
theorem rmul_pos (a b : Int) (w : World) (a0 : -4611686018427387904 ≤ a) (a1 : a ≤ 4611686018427387903) (b0 : 0 ≤ b) (b1 : b ≤ 4611686018427387903) :
  Calls Try.prog 32 #[.int .i64 a, .int .i64 b] w fun e w' => e = .returned (.int .i64 (cw (a * b))) ∧ w = w' := by
 have hs := mul_start a b a0 a1 b0 (by omega)
 have hnb : decide (b < 0) = false := by simp; omega
 go_enter Try.func32, Try.ntmps32
 go_wp2
 go_loop [0, 1, 6, 7] (fun av bv ov i => ∃ k : Nat, k ≤ 63 ∧ i = .int .i64 k ∧ ∃ A C O : Int, av = .int .i64 A ∧ bv = .int .i64 C ∧ ov = .int .i64 O ∧ MulRel (a * b) k A C O ∧ C ≤ 4611686018427387904) (fun _ _ _ i => 63 - (intOf i).toNat)
 case atStart => exact ⟨0, by omega, rfl, _, _, _, rfl, rfl, rfl, hs, by omega⟩
 case round =>
  obtain ⟨k, hk, rfl, A, C, O, rfl, rfl, rfl, hr, hC1⟩ := hrel
  have hA0 := hr.a0
  have hA1 := hr.a1
  have hC0 := hr.c0
  have hO0 := hr.o0
  have hO1 := hr.o1
  by_cases hlt : k < 63
  ·rcases (by omega : C % 2 = 1 ∨ C % 2 = 0) with hp | hp
   ·have hn := mul_odd hr hlt hp
    have ht : (C % 2 != 0) = true := by rw [hp]; rfl
    clear hp hs
    go_wp2_with (go_at_call 31; refine (rwrap_any _ _ (by omega) (by omega)).mono ?_; rintro e w' ⟨rfl, rfl⟩)
    go_round
    case rel => exact ⟨k + 1, by omega, by go_num, _, _, _, rfl, rfl, rfl, hn, by omega⟩
    case measure => simp [intOf]; omega
   ·have hn := mul_even hr hlt hp
    have ht : (C % 2 != 0) = false := by rw [hp]; rfl
    clear hp hs
    go_wp2_with (go_at_call 31; refine (rwrap_any _ _ (by omega) (by omega)).mono ?_; rintro e w' ⟨rfl, rfl⟩)
    go_round
    case rel => exact ⟨k + 1, by omega, by go_num, _, _, _, rfl, rfl, rfl, hn, by omega⟩
    case measure => simp [intOf]; omega
  ·have e : k = 63 := by omega
   subst e
   have he := mul_end hr
   have H := Lib.hid he; clear he hr
   go_wp2
   go_ret
   exact ⟨ret_i H.out, rfl⟩
set_option maxHeartbeats 400000 in
theorem rmul_neg (a b : Int) (w : World) (a0 : -4611686018427387904 ≤ a) (a1 : a ≤ 4611686018427387903) (b0 : -4611686018427387904 ≤ b) (b1 : b < 0) :
  Calls Try.prog 32 #[.int .i64 a, .int .i64 b] w fun e w' => e = .returned (.int .i64 (cw (a * b))) ∧ w = w' := by
 obtain ⟨c, rfl⟩ : ∃ c : Int, b = -c := ⟨-b, by omega⟩
 have hs := mul_start a c a0 a1 (by omega) (by omega)
 have hnb : decide (-c < 0) = true := by simp; omega
 go_enter Try.func32, Try.ntmps32
 go_wp2
 go_loop [0, 1, 6, 7] (fun av bv ov i => ∃ k : Nat, k ≤ 63 ∧ i = .int .i64 k ∧ ∃ A C O : Int, av = .int .i64 A ∧ bv = .int .i64 (-C) ∧ ov = .int .i64 O ∧ MulRel (a * c) k A C O ∧ C ≤ 4611686018427387904) (fun _ _ _ i => 63 - (intOf i).toNat)
 case atStart => exact ⟨0, by omega, rfl, _, _, _, rfl, rfl, rfl, hs, by omega⟩
 case round =>
  obtain ⟨k, hk, rfl, A, C, O, rfl, rfl, rfl, hr, hC1⟩ := hrel
  have hA0 := hr.a0
  have hA1 := hr.a1
  have hC0 := hr.c0
  have hO0 := hr.o0
  have hO1 := hr.o1
  have hm := tmod_neg2 C hC0
  have hq : wrap64 (-C.tdiv 2) = -(C / 2) := by rw [Int.tdiv_eq_ediv_of_nonneg hC0]; unfold wrap64; omega
  by_cases hlt : k < 63
  ·rcases (by omega : C % 2 = 1 ∨ C % 2 = 0) with hp | hp
   ·have hn := mul_odd hr hlt hp
    have ht : (-C).tmod 2 = -1 := by rw [hm, hp]
    clear hp hs hm
    go_wp2_with (go_at_call 31; refine (rwrap_any _ _ (by omega) (by omega)).mono ?_; rintro e w' ⟨rfl, rfl⟩)
    go_round
    case rel => exact ⟨k + 1, by omega, by go_num, _, _, _, rfl, rfl, rfl, hn, by omega⟩
    case measure => simp [intOf]; omega
   ·have hn := mul_even hr hlt hp
    have ht : (-C).tmod 2 = 0 := by rw [hm, hp]; rfl
    clear hp hs hm
    go_wp2_with (go_at_call 31; refine (rwrap_any _ _ (by omega) (by omega)).mono ?_; rintro e w' ⟨rfl, rfl⟩)
    go_round
    case rel => exact ⟨k + 1, by omega, by go_num, _, _, _, rfl, rfl, rfl, hn, by omega⟩
    case measure => simp [intOf]; omega
  ·have e : k = 63 := by omega
   subst e
   have he : cw (-O) = cw (a * -c) := by rw [mul_end hr, cw_neg, Int.mul_neg]
   have H := Lib.hid he; clear he hr hm hq
   go_wp2_with (go_at_call 31; refine (rwrap_any _ _ (by omega) (by omega)).mono ?_; rintro e w' ⟨rfl, rfl⟩)
   go_ret
   exact ⟨ret_i H.out, rfl⟩
theorem rmul_any (a b : Int) (w : World) (a0 : -4611686018427387904 ≤ a) (a1 : a ≤ 4611686018427387903) (b0 : -4611686018427387904 ≤ b) (b1 : b ≤ 4611686018427387903) :
  Calls Try.prog 32 #[.int .i64 a, .int .i64 b] w fun e w' => e = .returned (.int .i64 (cw (a * b))) ∧ w = w' := by
 by_cases h : 0 ≤ b
 ·exact rmul_pos a b w a0 a1 h b1
 ·exact rmul_neg a b w a0 a1 b0 (by omega)
/-- What an operation's text and two numbers come to, and the error. -/
def doF (p : List UInt8) (a b : Int) : Int × Int :=
 if isI a && isI b then
  if p == [43] then (cw (a + b), 0)
  else if p == [45] then (cw (a - b), 0)
  else if p == [42] then (cw (a * b), 0)
  else if p == [47] then (if b == 0 then (0, 3) else (cw (a.tdiv b), 0))
  else if p == [37] then (if b == 0 then (0, 3) else (a.tmod b, 0))
  else if p == [61] then (if a == b then (1, 0) else (0, 0))
  else if p == [60] then (if a < b then (1, 0) else (0, 0))
  else (0, 1)
 else (0, 1)
theorem ret2_ii {k l : IntKind} {a b c d : Int} (h : a = b) (h' : c = d) : Ending.returned (.tuple #[.int k a, .int l c]) = .returned (.tuple #[.int k b, .int l d]) := by rw [h, h']
theorem b_tf (b : Bool) (h : b = true) (h' : b = false) : False := by rw [h] at h'; cases h'
theorem tdiv_in (a b : Int) (a0 : -4611686018427387904 ≤ a) (a1 : a ≤ 4611686018427387903) : -4611686018427387904 ≤ a.tdiv b ∧ a.tdiv b ≤ 4611686018427387904 := by
 have h := Int.natAbs_tdiv_le_natAbs a b
 omega
theorem tmod_in (a b : Int) (a0 : -4611686018427387904 ≤ a) (a1 : a ≤ 4611686018427387903) : -4611686018427387904 ≤ a.tmod b ∧ a.tmod b ≤ 4611686018427387903 := by
 rcases (by omega : 0 ≤ a ∨ a < 0) with h | h
 ·have := Int.tmod_nonneg b h
  have h2 : (a.tmod b).natAbs = a.natAbs % b.natAbs := Int.natAbs_tmod a b
  have := Nat.mod_le a.natAbs b.natAbs
  omega
 ·have h2 : (a.tmod b).natAbs = a.natAbs % b.natAbs := Int.natAbs_tmod a b
  have := Nat.mod_le a.natAbs b.natAbs
  obtain ⟨c, rfl⟩ : ∃ c : Int, a = -c := ⟨-a, by omega⟩
  have e : (-c).tmod b = -(c.tmod b) := Int.neg_tmod ..
  have := Int.tmod_nonneg b (show 0 ≤ c by omega)
  omega
theorem left_eq (a b : Int) (a0 : -4611686018427387904 ≤ a) (a1 : a ≤ 4611686018427387903) : wrap64 (a - wrap64 (a.tdiv b * b)) = a.tmod b := by
 have h := tdiv_in a b a0 a1
 have h2 := tmod_in a b a0 a1
 have h3 := Int.tmod_def a b
 rw [Int.mul_comm (a.tdiv b)]
 generalize b * a.tdiv b = t at *
 unfold wrap64
 omega
set_option maxHeartbeats 1000000 in
theorem do_in (op : ByteArray) (a b : Int) (w : World) (a0 : -4611686018427387904 ≤ a) (a1 : a ≤ 4611686018427387903) (b0 : -4611686018427387904 ≤ b) (b1 : b ≤ 4611686018427387903) :
  Calls Try.prog 57 #[.string op, .int .i64 a, .int .i64 b] w fun e w' => e = .returned (.tuple #[.int .i64 (doF op.toList a b).1, .int .i64 (doF op.toList a b).2]) ∧ w = w' := by
 have ia := isI_t a0 a1
 have ib := isI_t b0 b1
 by_cases h0 : b = 0
 ·subst h0
  go_enter Try.func57, Try.ntmps57
  go_wp2_with (first | (go_at_call 70; refine (wrap_any _ _).mono ?_; rintro e w' ⟨rfl, rfl⟩) | (go_at_call 69; refine (is_any _ _).mono ?_; rintro e w' ⟨rfl, rfl⟩) | go_in)
  all_goals
   go_ret2
   refine ⟨ret2_ii ?_ ?_, rfl⟩ <;> first | (simp [doF, *]; done) | (simp [doF, *]; rw [if_neg (by omega)]; done) | exact (b_tf (op.toList == [47]) (by assumption) (by assumption)).elim | (simp_all; done)
 ·have hb : (b == 0) = false := by simp [h0]
  have hb' : (b != 0) = true := by simp [h0]
  go_enter Try.func57, Try.ntmps57
  go_wp2_with (first | (go_at_call 70; refine (wrap_any _ _).mono ?_; rintro e w' ⟨rfl, rfl⟩) | (go_at_call 69; refine (is_any _ _).mono ?_; rintro e w' ⟨rfl, rfl⟩) | go_in)
  all_goals
   go_ret2
   refine ⟨ret2_ii ?_ ?_, rfl⟩ <;> first | (simp [doF, *]; done) | (simp [doF, cw_wrap, *]; done) | (simp [doF, *]; rw [if_neg (by omega)]; done) | exact (b_tf (op.toList == [47]) (by assumption) (by assumption)).elim | (simp_all; done)
set_option maxHeartbeats 1000000 in
theorem do_out (op : ByteArray) (a b : Int) (w : World) (h : (isI a && isI b) = false) :
  Calls Try.prog 57 #[.string op, .int .i64 a, .int .i64 b] w fun e w' => e = .returned (.tuple #[.int .i64 (doF op.toList a b).1, .int .i64 (doF op.toList a b).2]) ∧ w = w' := by
 have e : doF op.toList a b = (0, 1) := by unfold doF; rw [if_neg (by rw [h]; decide)]
 rw [e]
 clear e
 cases ha : isI a
 ·clear h
  go_enter Try.func57, Try.ntmps57
  go_wp2_with (first | (go_at_call 70; refine (wrap_any _ _).mono ?_; rintro e w' ⟨rfl, rfl⟩) | (go_at_call 69; refine (is_any _ _).mono ?_; rintro e w' ⟨rfl, rfl⟩) | go_in)
  go_ret2
  exact ⟨rfl, rfl⟩
 ·have hb : isI b = false := by simpa [ha] using h
  clear h
  go_enter Try.func57, Try.ntmps57
  go_wp2_with (first | (go_at_call 70; refine (wrap_any _ _).mono ?_; rintro e w' ⟨rfl, rfl⟩) | (go_at_call 69; refine (is_any _ _).mono ?_; rintro e w' ⟨rfl, rfl⟩) | go_in)
  go_ret2
  exact ⟨rfl, rfl⟩
theorem do_any (op : ByteArray) (a b : Int) (w : World) :
  Calls Try.prog 57 #[.string op, .int .i64 a, .int .i64 b] w fun e w' => e = .returned (.tuple #[.int .i64 (doF op.toList a b).1, .int .i64 (doF op.toList a b).2]) ∧ w = w' := by
 by_cases h : (isI a && isI b) = true
 ·have h2 := h
  simp only [isI, Bool.and_eq_true, decide_eq_true_eq] at h2
  exact do_in op a b w h2.1.1 h2.1.2 h2.2.1 h2.2.2
 ·exact do_out op a b w (by simpa using h)
set_option maxHeartbeats 1000000 in
theorem rdo_in (op : ByteArray) (a b : Int) (w : World) (a0 : -4611686018427387904 ≤ a) (a1 : a ≤ 4611686018427387903) (b0 : -4611686018427387904 ≤ b) (b1 : b ≤ 4611686018427387903) :
  Calls Try.prog 16 #[.string op, .int .i64 a, .int .i64 b] w fun e w' => e = .returned (.tuple #[.int .i64 (doF op.toList a b).1, .int .i64 (doF op.toList a b).2]) ∧ w = w' := by
 have ia := isI_t a0 a1
 have ib := isI_t b0 b1
 by_cases h0 : b = 0
 ·subst h0
  go_enter Try.func16, Try.ntmps16
  go_wp2_with (first | (go_at_call 31; refine (rwrap_any _ _ (by omega) (by omega)).mono ?_; rintro e w' ⟨rfl, rfl⟩) | (go_at_call 29; refine (ris_any _ _).mono ?_; rintro e w' ⟨rfl, rfl⟩) | (go_at_call 30; refine (radd_any _ _ _ (by omega) (by omega) (by omega) (by omega)).mono ?_; rintro e w' ⟨rfl, rfl⟩) | (go_at_call 32; refine (rmul_any _ _ _ (by omega) (by omega) (by omega) (by omega)).mono ?_; rintro e w' ⟨rfl, rfl⟩) | go_in)
  all_goals
   go_ret2
   refine ⟨ret2_ii ?_ ?_, rfl⟩ <;> first | (simp [doF, *]; done) | (simp [doF, *]; rw [if_neg (by omega)]; done) | exact (b_tf (op.toList == [47]) (by assumption) (by assumption)).elim | (simp_all; done)
 ·have hb : (b == 0) = false := by simp [h0]
  have hb' : (b != 0) = true := by simp [h0]
  have hd := tdiv_in a b a0 a1
  have hl := left_eq a b a0 a1
  go_enter Try.func16, Try.ntmps16
  go_wp2_with (first | (go_at_call 31; refine (rwrap_any _ _ (by omega) (by omega)).mono ?_; rintro e w' ⟨rfl, rfl⟩) | (go_at_call 29; refine (ris_any _ _).mono ?_; rintro e w' ⟨rfl, rfl⟩) | (go_at_call 30; refine (radd_any _ _ _ (by omega) (by omega) (by omega) (by omega)).mono ?_; rintro e w' ⟨rfl, rfl⟩) | (go_at_call 32; refine (rmul_any _ _ _ (by omega) (by omega) (by omega) (by omega)).mono ?_; rintro e w' ⟨rfl, rfl⟩) | go_in)
  all_goals
   go_ret2
   refine ⟨ret2_ii ?_ ?_, rfl⟩ <;> first | (simp [doF, *]; done) | (simp [doF, *]; rw [if_neg (by omega)]; done) | exact (b_tf (op.toList == [47]) (by assumption) (by assumption)).elim | (simp_all; done)
set_option maxHeartbeats 1000000 in
theorem rdo_out (op : ByteArray) (a b : Int) (w : World) (h : (isI a && isI b) = false) :
  Calls Try.prog 16 #[.string op, .int .i64 a, .int .i64 b] w fun e w' => e = .returned (.tuple #[.int .i64 (doF op.toList a b).1, .int .i64 (doF op.toList a b).2]) ∧ w = w' := by
 have e : doF op.toList a b = (0, 1) := by unfold doF; rw [if_neg (by rw [h]; decide)]
 rw [e]
 clear e
 cases ha : isI a
 ·clear h
  go_enter Try.func16, Try.ntmps16
  go_wp2_with (first | (go_at_call 31; refine (rwrap_any _ _ (by omega) (by omega)).mono ?_; rintro e w' ⟨rfl, rfl⟩) | (go_at_call 29; refine (ris_any _ _).mono ?_; rintro e w' ⟨rfl, rfl⟩) | (go_at_call 30; refine (radd_any _ _ _ (by omega) (by omega) (by omega) (by omega)).mono ?_; rintro e w' ⟨rfl, rfl⟩) | (go_at_call 32; refine (rmul_any _ _ _ (by omega) (by omega) (by omega) (by omega)).mono ?_; rintro e w' ⟨rfl, rfl⟩) | go_in)
  go_ret2
  exact ⟨rfl, rfl⟩
 ·have hb : isI b = false := by simpa [ha] using h
  clear h
  go_enter Try.func16, Try.ntmps16
  go_wp2_with (first | (go_at_call 31; refine (rwrap_any _ _ (by omega) (by omega)).mono ?_; rintro e w' ⟨rfl, rfl⟩) | (go_at_call 29; refine (ris_any _ _).mono ?_; rintro e w' ⟨rfl, rfl⟩) | (go_at_call 30; refine (radd_any _ _ _ (by omega) (by omega) (by omega) (by omega)).mono ?_; rintro e w' ⟨rfl, rfl⟩) | (go_at_call 32; refine (rmul_any _ _ _ (by omega) (by omega) (by omega) (by omega)).mono ?_; rintro e w' ⟨rfl, rfl⟩) | go_in)
  go_ret2
  exact ⟨rfl, rfl⟩
theorem rdo_any (op : ByteArray) (a b : Int) (w : World) :
  Calls Try.prog 16 #[.string op, .int .i64 a, .int .i64 b] w fun e w' => e = .returned (.tuple #[.int .i64 (doF op.toList a b).1, .int .i64 (doF op.toList a b).2]) ∧ w = w' := by
 by_cases h : (isI a && isI b) = true
 ·have h2 := h
  simp only [isI, Bool.and_eq_true, decide_eq_true_eq] at h2
  exact rdo_in op a b w h2.1.1 h2.1.2 h2.2.1 h2.2.2
 ·exact rdo_out op a b w (by simpa using h)
end Go.Proofs.Ytgjchgmlogbmmaa.I
/- The plain mathematics of layer 11: what is still, names free, folding. -/
namespace Go.Proofs.Ytgjchgmlogbmmaa
set_option linter.unusedVariables false

section
variable (a : Int) (b : List UInt8) (c : Int) (d : Nat) (e : List (List UInt8)) (f : List Nd)
theorem kd_mk : (Nd.mk a b c d e f).kd = a := rfl
theorem tx_mk : (Nd.mk a b c d e f).tx = b := rfl
theorem nm_mk : (Nd.mk a b c d e f).nm = c := rfl
theorem at_mk : (Nd.mk a b c d e f).at_ = d := rfl
theorem ns_mk : (Nd.mk a b c d e f).ns = e := rfl
theorem ks_mk : (Nd.mk a b c d e f).ks = f := rfl
end
theorem Nd.ind {P : Nd → Prop} (h : ∀ x : Nd, (∀ y ∈ x.ks, P y) → P x) (x : Nd) : P x := h x fun y hy => Nd.ind h y
 termination_by SizeOf.sizeOf x
 decreasing_by
  cases x
  simp only [Nd.ks] at hy
  have := List.sizeOf_lt_of_mem hy
  simp only [Nd.mk.sizeOf_spec]
  omega
mutual
def stillF : Nd → Bool
 | .mk kd _ _ _ _ ks => (kd == 1 || kd == 2 || kd == 3 || kd == 4 || kd == 6) || (kd == 5 && stillL ks)
def stillL : List Nd → Bool
 | [] => true
 | x :: xs => stillF x && stillL xs
end
mutual
def namesF : Nd → List (List UInt8)
 | .mk kd tx _ _ _ ks => (if kd == 4 then [tx] else []) ++ namesL ks
def namesL : List Nd → List (List UInt8)
 | [] => []
 | x :: xs => namesF x ++ namesL xs
end
/-- The names that a node binds in its kid number i, behind the kid prev. -/
def bindsF (kd : Int) (tx : List UInt8) (prev : Nd) (i : Nat) : List (List UInt8) :=
 if kd == 6 || kd == 9 then [tx] else if kd == 8 || kd == 12 then (if i == 1 then [tx] else []) else if kd == 11 then (if 0 < i ∧ i % 2 = 0 then namesF prev else []) else []
/-- Is kid number i an exp? -/
def bindsB (kd : Int) (i : Nat) : Bool := !(kd == 11) || i % 2 == 0
mutual
def freeF : Nd → List (List UInt8) → List (List UInt8) → List (List UInt8)
 | .mk kd tx _ _ _ ks, b, l => freeL ks kd tx nd0 0 b (if kd == 4 && !b.contains tx && !l.contains tx then l ++ [tx] else l)
def freeL : List Nd → Int → List UInt8 → Nd → Nat → List (List UInt8) → List (List UInt8) → List (List UInt8)
 | [], _, _, _, _, _, l => l
 | x :: xs, kd, tx, p, i, b, l => freeL xs kd tx x (i + 1) b (if bindsB kd i = true then freeF x (b ++ bindsF kd tx p i) l else l)
end
mutual
def occF : Nd → List UInt8 → Bool
 | .mk kd tx _ _ _ ks, s => if kd == 4 then tx == s else occL ks kd tx nd0 0 s
def occL : List Nd → Int → List UInt8 → Nd → Nat → List UInt8 → Bool
 | [], _, _, _, _, _ => false
 | x :: xs, kd, tx, p, i, s => (bindsB kd i && !(bindsF kd tx p i).contains s && occF x s) || occL xs kd tx x (i + 1) s
end
mutual
def allF : Nd → List (List UInt8) → List (List UInt8)
 | .mk kd tx _ _ _ ks, l => allL ks (if kd == 4 && !l.contains tx then l ++ [tx] else l)
def allL : List Nd → List (List UInt8) → List (List UInt8)
 | [], l => l
 | x :: xs, l => allL xs (allF x l)
end
/-- An operation's node with the kids a and b. -/
def opN (n a b : Nd) : Nd :=
 if n.tx == [94] then (if a.kd == 2 && b.kd == 2 && decide (a.tx.length + b.tx.length ≤ 60) then .mk 2 (a.tx ++ b.tx) 0 n.at_ [] [] else n)
 else if a.kd == 1 && b.kd == 1 then
  (if (I.doF n.tx a.nm b.nm).2 == 0 && decide (0 ≤ (I.doF n.tx a.nm b.nm).1) then
   (if n.tx == [61] || n.tx == [60] then (if (I.doF n.tx a.nm b.nm).1 == 1 then .mk 5 [84, 114, 117, 101] 0 n.at_ [] [] else .mk 5 [70, 97, 108, 115, 101] 0 n.at_ [] [])
    else .mk 1 [] (I.doF n.tx a.nm b.nm).1 n.at_ [] []) else n)
 else n
/-- An exp whose kids are folded. -/
def redF (n : Nd) : Nd :=
 if n.kd == 13 then opN n (n.ks.getD 0 nd0) (n.ks.getD 1 nd0)
 else if n.kd == 10 then
  (if (n.ks.getD 0 nd0).kd == 5 && (n.ks.getD 0 nd0).ks.isEmpty && (n.ks.getD 0 nd0).tx == [84, 114, 117, 101] then n.ks.getD 1 nd0
   else if (n.ks.getD 0 nd0).kd == 5 && (n.ks.getD 0 nd0).ks.isEmpty && (n.ks.getD 0 nd0).tx == [70, 97, 108, 115, 101] then n.ks.getD 2 nd0 else n)
 else if n.kd == 8 || n.kd == 9 then (if stillF (n.ks.getD 0 nd0) && !occF (n.ks.getD 1 nd0) n.tx then n.ks.getD 1 nd0 else n)
 else if n.kd == 14 then (if stillF (n.ks.getD 0 nd0) then n.ks.getD 1 nd0 else n)
 else n
mutual
def expN : Nd → Nd
 | .mk kd tx nm at_ ns ks => redF (.mk kd tx nm at_ ns (expK ks kd 0))
def expK : List Nd → Int → Nat → List Nd
 | [], _, _ => []
 | x :: xs, kd, i => (if bindsB kd i = true then expN x else x) :: expK xs kd (i + 1)
end
def declN (x : Nd) : Nd := if x.kd == 28 || x.kd == 29 then .mk x.kd x.tx x.nm x.at_ x.ns (x.ks.map expN) else x
def progK : List Nd → List Nd
 | [] => []
 | [x] => [expN x]
 | x :: y :: xs => declN x :: progK (y :: xs)
def progN (x : Nd) : Nd := .mk x.kd x.tx x.nm x.at_ x.ns (progK x.ks)
/-- As a parser gives them. -/
def kdOk (kd : Int) (n : Nat) : Bool := (!(kd == 13) || n == 2) && (!(kd == 10) || n == 3) && (!(kd == 8 || kd == 9) || n == 2) && (!(kd == 14) || n == 2) && (!(kd == 4) || n == 0) && (decide (0 ≤ kd) && decide (kd ≤ 100))
mutual
def wfN : Nd → Bool
 | .mk kd tx nm at_ ns ks => kdOk kd ks.length && decide (tx.length ≤ 60) && decide (ns.length ≤ 100000) && decide (ks.length ≤ 100000) && wfL ks
def wfL : List Nd → Bool
 | [] => true
 | x :: xs => wfN x && wfL xs
end
end Go.Proofs.Ytgjchgmlogbmmaa
/- Laws of folding: names free, folding twice. -/
namespace Go.Proofs.Ytgjchgmlogbmmaa
set_option linter.unusedVariables false

def WfN (x : Nd) : Prop := wfN x = true
theorem wfN_iff (x : Nd) : WfN x ↔ kdOk x.kd x.ks.length = true ∧ x.tx.length ≤ 60 ∧ x.ns.length ≤ 100000 ∧ x.ks.length ≤ 100000 ∧ wfL x.ks = true := by
 cases x
 simp only [WfN, wfN, Nd.kd, Nd.ks, Nd.tx, Nd.ns, Bool.and_eq_true, decide_eq_true_eq, and_assoc]
theorem wfL_iff : ∀ (l : List Nd), wfL l = true ↔ ∀ x ∈ l, WfN x
 | [] => by simp [wfL]
 | x :: xs => by simp [wfL, WfN, wfL_iff xs]
theorem len_two {l : List Nd} (h : l.length = 2) : ∃ a b, l = [a, b] := by
 match l, h with
 | [a, b], _ => exact ⟨a, b, rfl⟩
theorem len_three {l : List Nd} (h : l.length = 3) : ∃ a b c, l = [a, b, c] := by
 match l, h with
 | [a, b, c], _ => exact ⟨a, b, c, rfl⟩
theorem WfN.kd {x : Nd} (h : WfN x) : kdOk x.kd x.ks.length = true := ((wfN_iff x).1 h).1
theorem WfN.tx {x : Nd} (h : WfN x) : x.tx.length ≤ 60 := ((wfN_iff x).1 h).2.1
theorem WfN.ns {x : Nd} (h : WfN x) : x.ns.length ≤ 100000 := ((wfN_iff x).1 h).2.2.1
theorem WfN.len {x : Nd} (h : WfN x) : x.ks.length ≤ 100000 := ((wfN_iff x).1 h).2.2.2.1
theorem WfN.ks {x : Nd} (h : WfN x) : ∀ y ∈ x.ks, WfN y := (wfL_iff _).1 ((wfN_iff x).1 h).2.2.2.2
theorem WfN.range {x : Nd} (h : WfN x) : 0 ≤ x.kd ∧ x.kd ≤ 100 := by
 have := h.kd
 unfold kdOk at this
 simp only [Bool.and_eq_true, decide_eq_true_eq] at this
 exact this.2
theorem WfN.name {x : Nd} (h : WfN x) (hk : x.kd = 4) : x.ks = [] := by
 have := h.kd
 rw [hk] at this
 simpa [kdOk] using this
theorem WfN.two {x : Nd} (h : WfN x) (hk : x.kd = 13 ∨ x.kd = 8 ∨ x.kd = 9 ∨ x.kd = 14) : ∃ a b, x.ks = [a, b] := by
 have h1 := h.kd
 have : x.ks.length = 2 := by rcases hk with e | e | e | e <;> rw [e] at h1 <;> simpa [kdOk] using h1
 exact len_two this
theorem WfN.three {x : Nd} (h : WfN x) (hk : x.kd = 10) : ∃ a b c, x.ks = [a, b, c] := by
 have h1 := h.kd
 rw [hk] at h1
 exact len_three (by simpa [kdOk] using h1)

theorem freeF_eq (x : Nd) (b l : List (List UInt8)) : freeF x b l = freeL x.ks x.kd x.tx nd0 0 b (if x.kd == 4 && !b.contains x.tx && !l.contains x.tx then l ++ [x.tx] else l) := by cases x; rfl
theorem occF_eq (x : Nd) (s : List UInt8) : occF x s = if x.kd == 4 then x.tx == s else occL x.ks x.kd x.tx nd0 0 s := by cases x; rfl
theorem allF_eq (x : Nd) (l : List (List UInt8)) : allF x l = allL x.ks (if x.kd == 4 && !l.contains x.tx then l ++ [x.tx] else l) := by cases x; rfl
theorem expN_eq (x : Nd) : expN x = redF (.mk x.kd x.tx x.nm x.at_ x.ns (expK x.ks x.kd 0)) := by cases x; rfl
theorem stillF_eq (x : Nd) : stillF x = ((x.kd == 1 || x.kd == 2 || x.kd == 3 || x.kd == 4 || x.kd == 6) || (x.kd == 5 && stillL x.ks)) := by cases x; rfl

theorem freeL_mem (kd : Int) (tx : List UInt8) : ∀ (xs : List Nd), (∀ x ∈ xs, ∀ b l s, s ∈ freeF x b l ↔ s ∈ l ∨ (s ∉ b ∧ occF x s = true)) → ∀ (p : Nd) (i : Nat) (b l : List (List UInt8)) (s : List UInt8),
  s ∈ freeL xs kd tx p i b l ↔ s ∈ l ∨ (s ∉ b ∧ occL xs kd tx p i s = true)
 | [], _, p, i, b, l, s => by simp [freeL, occL]
 | x :: xs, h, p, i, b, l, s => by
  rw [freeL, freeL_mem kd tx xs (fun y hy => h y (List.mem_cons_of_mem _ hy)), occL]
  by_cases hb : bindsB kd i = true
  ·rw [if_pos hb, h x List.mem_cons_self, hb]
   simp only [List.mem_append, Bool.true_and, Bool.or_eq_true, Bool.and_eq_true, Bool.not_eq_true', List.contains_eq_mem, decide_eq_false_iff_not]
   constructor
   ·rintro ((h1 | ⟨h1, h2⟩) | ⟨h1, h2⟩)
    ·exact .inl h1
    ·exact .inr ⟨fun e => h1 (.inl e), .inl ⟨fun e => h1 (.inr e), h2⟩⟩
    ·exact .inr ⟨h1, .inr h2⟩
   ·rintro (h1 | ⟨h1, ⟨h2, h3⟩ | h2⟩)
    ·exact .inl (.inl h1)
    ·exact .inl (.inr ⟨fun e => e.elim h1 h2, h3⟩)
    ·exact .inr ⟨h1, h2⟩
  ·rw [if_neg hb]
   have hb' : bindsB kd i = false := by simpa using hb
   simp [hb']
theorem free_mem (x : Nd) : WfN x → ∀ b l s, s ∈ freeF x b l ↔ s ∈ l ∨ (s ∉ b ∧ occF x s = true) := by
 induction x using Nd.ind with
 | h x ih =>
  intro hw b l s
  rw [freeF_eq, freeL_mem _ _ _ (fun y hy => ih y hy (hw.ks y hy)), occF_eq]
  by_cases hk : x.kd = 4
  ·rw [hw.name hk, hk]
   simp only [occL, Bool.false_eq_true, and_false, or_false, beq_self_eq_true, Bool.true_and, if_true, Bool.and_eq_true, Bool.not_eq_true', List.contains_eq_mem, decide_eq_false_iff_not, beq_iff_eq]
   by_cases h1 : x.tx ∉ b ∧ x.tx ∉ l
   ·rw [if_pos h1]
    simp only [List.mem_append, List.mem_singleton]
    constructor
    ·rintro (h2 | h2)
     ·exact .inl h2
     ·exact .inr ⟨by rw [h2]; exact h1.1, h2.symm⟩
    ·rintro (h2 | h2)
     ·exact .inl h2
     ·exact .inr h2.2.symm
   ·rw [if_neg h1]
    constructor
    ·exact .inl
    ·rintro (h2 | ⟨h2, h3⟩)
     ·exact h2
     ·subst h3
      by_cases h4 : x.tx ∈ l
      ·exact h4
      ·exact absurd ⟨h2, h4⟩ h1
  ·have : (x.kd == 4) = false := beq_eq_false_iff_ne.2 hk
   simp only [this, Bool.false_and, Bool.false_eq_true, if_false]
theorem free_occ {x : Nd} (h : WfN x) (s : List UInt8) : (freeF x [] []).contains s = occF x s := by
 rw [Bool.eq_iff_iff, List.contains_iff_mem, free_mem x h]
 simp
theorem freeL_nodup (kd : Int) (tx : List UInt8) : ∀ (xs : List Nd), (∀ x ∈ xs, ∀ b l, l.Nodup → (freeF x b l).Nodup) → ∀ (p : Nd) (i : Nat) (b l : List (List UInt8)), l.Nodup → (freeL xs kd tx p i b l).Nodup
 | [], _, p, i, b, l, h => h
 | x :: xs, h, p, i, b, l, hl => by
  rw [freeL]
  refine freeL_nodup kd tx xs (fun y hy => h y (List.mem_cons_of_mem _ hy)) _ _ _ _ ?_
  split
  ·exact h x List.mem_cons_self _ _ hl
  ·exact hl
theorem nodup_snoc {α : Type} {l : List α} {a : α} (h : l.Nodup) (ha : a ∉ l) : (l ++ [a]).Nodup := by
 rw [List.nodup_append]
 exact ⟨h, by simp, fun x hx y hy e => ha (by rw [List.mem_singleton] at hy; rw [← hy, ← e]; exact hx)⟩
theorem free_nodup (x : Nd) : ∀ b l, l.Nodup → (freeF x b l).Nodup := by
 induction x using Nd.ind with
 | h x ih =>
  intro b l hl
  rw [freeF_eq]
  refine freeL_nodup _ _ _ ih _ _ _ _ ?_
  split
  ·rename_i h
   simp only [Bool.and_eq_true, Bool.not_eq_true', List.contains_eq_mem, decide_eq_false_iff_not] at h
   exact nodup_snoc hl h.2
  ·exact hl
theorem allL_sub : ∀ (xs : List Nd), (∀ x ∈ xs, ∀ l s, s ∈ l ∨ occF x s = true → s ∈ allF x l) → ∀ (kd : Int) (tx : List UInt8) (p : Nd) (i : Nat) l s, s ∈ l ∨ occL xs kd tx p i s = true → s ∈ allL xs l
 | [], _, kd, tx, p, i, l, s, h => by
  rcases h with h | h
  ·exact h
  ·simp [occL] at h
 | x :: xs, h, kd, tx, p, i, l, s, hs => by
  rw [allL]
  have hx := h x List.mem_cons_self
  refine allL_sub xs (fun y hy => h y (List.mem_cons_of_mem _ hy)) kd tx x (i + 1) _ s ?_
  rcases hs with hs | hs
  ·exact .inl (hx _ _ (.inl hs))
  ·rw [occL, Bool.or_eq_true] at hs
   rcases hs with hs | hs
   ·simp only [Bool.and_eq_true] at hs
    exact .inl (hx _ _ (.inr hs.2))
   ·exact .inr hs
theorem all_sub (x : Nd) : WfN x → ∀ l s, s ∈ l ∨ occF x s = true → s ∈ allF x l := by
 induction x using Nd.ind with
 | h x ih =>
  intro hw l s hs
  rw [allF_eq]
  rw [occF_eq] at hs
  by_cases hk : x.kd = 4
  ·rw [hk] at hs ⊢
   rw [hw.name hk]
   simp only [beq_self_eq_true, if_true, beq_iff_eq, Bool.true_and, allL] at hs ⊢
   split
   ·rcases hs with hs | hs
    ·exact List.mem_append_left _ hs
    ·rw [hs]; simp
   ·rename_i h
    rcases hs with hs | hs
    ·exact hs
    ·simp only [Bool.not_eq_true', List.contains_eq_mem, decide_eq_false_iff_not, Decidable.not_not] at h
     rw [← hs]; exact h
  ·have e : (x.kd == 4) = false := beq_eq_false_iff_ne.2 hk
   simp only [e, Bool.false_and, Bool.false_eq_true, if_false] at hs ⊢
   exact allL_sub _ (fun y hy => ih y hy (hw.ks y hy)) _ _ _ _ _ _ hs
theorem allL_nodup : ∀ (xs : List Nd), (∀ x ∈ xs, ∀ l, l.Nodup → (allF x l).Nodup) → ∀ l, l.Nodup → (allL xs l).Nodup
 | [], _, l, h => h
 | x :: xs, h, l, hl => allL_nodup xs (fun y hy => h y (List.mem_cons_of_mem _ hy)) _ (h x List.mem_cons_self _ hl)
theorem all_nodup (x : Nd) : ∀ l, l.Nodup → (allF x l).Nodup := by
 induction x using Nd.ind with
 | h x ih =>
  intro l hl
  rw [allF_eq]
  refine allL_nodup _ ih _ ?_
  split
  ·rename_i h
   simp only [Bool.and_eq_true, Bool.not_eq_true', List.contains_eq_mem, decide_eq_false_iff_not] at h
   exact nodup_snoc hl h.2
  ·exact hl
/-- The document's names free. -/
def rfreeF (x : Nd) : List (List UInt8) := (allF x []).filter (occF x)
theorem rfree_mem {x : Nd} (h : WfN x) (s : List UInt8) : s ∈ rfreeF x ↔ occF x s = true := by
 rw [rfreeF, List.mem_filter]
 exact ⟨fun h => h.2, fun hs => ⟨all_sub x h [] s (.inr hs), hs⟩⟩
theorem sub_len {α : Type} [DecidableEq α] : ∀ (l m : List α), l.Nodup → (∀ a ∈ l, a ∈ m) → l.length ≤ m.length
 | [], m, _, _ => Nat.zero_le _
 | a :: l, m, hn, hs => by
  have ha : a ∈ m := hs a List.mem_cons_self
  rw [List.nodup_cons] at hn
  have := sub_len l (m.erase a) hn.2 fun b hb => by
   have hne : b ≠ a := fun e => hn.1 (e ▸ hb)
   exact (List.mem_erase_of_ne hne).2 (hs b (List.mem_cons_of_mem _ hb))
  rw [List.length_erase_of_mem ha] at this
  have := List.length_pos_of_mem ha
  simp only [List.length_cons]; omega
theorem free_len {x : Nd} (h : WfN x) : (freeF x [] []).length = (rfreeF x).length := by
 have e : ∀ s, s ∈ freeF x [] [] ↔ s ∈ rfreeF x := fun s => by
  rw [rfree_mem h, ← free_occ h, List.contains_iff_mem]
 exact Nat.le_antisymm (sub_len _ _ (free_nodup x _ _ List.nodup_nil) fun a ha => (e a).1 ha)
  (sub_len _ _ ((all_nodup x [] List.nodup_nil).filter _) fun a ha => (e a).2 ha)

theorem expK_len (kd : Int) : ∀ (xs : List Nd) (i : Nat), (expK xs kd i).length = xs.length
 | [], _ => rfl
 | x :: xs, i => by simp [expK, expK_len kd xs]
theorem expK_get (kd : Int) : ∀ (xs : List Nd) (i k : Nat), (expK xs kd i)[k]? = xs[k]?.map fun x => if bindsB kd (i + k) = true then expN x else x
 | [], _, _ => by simp [expK]
 | x :: xs, i, 0 => by simp [expK]
 | x :: xs, i, k + 1 => by
  rw [expK, List.getElem?_cons_succ, List.getElem?_cons_succ, expK_get kd xs, show i + 1 + k = i + (k + 1) by omega]
theorem expK_mem {kd : Int} {xs : List Nd} {i : Nat} {y : Nd} (h : y ∈ expK xs kd i) : ∃ x ∈ xs, y = x ∨ y = expN x := by
 obtain ⟨k, hk⟩ := List.mem_iff_getElem?.1 h
 rw [expK_get] at hk
 rcases hx : xs[k]? with _ | x
 ·rw [hx] at hk; cases hk
 ·rw [hx] at hk
  simp only [Option.map_some, Option.some.injEq] at hk
  refine ⟨x, List.mem_of_getElem? hx, ?_⟩
  rw [← hk]; split
  ·exact .inr rfl
  ·exact .inl rfl
theorem wf_leaf {kd : Int} {tx : List UInt8} {nm : Int} {at_ : Nat} (h1 : tx.length ≤ 60) (h2 : kdOk kd 0 = true) : WfN (.mk kd tx nm at_ [] []) := by
 rw [wfN_iff]
 exact ⟨h2, h1, Nat.zero_le _, Nat.zero_le _, rfl⟩
theorem wf_nd0 : WfN nd0 := rfl
theorem wf_getD {l : List Nd} (h : ∀ y ∈ l, WfN y) (k : Nat) : WfN (l.getD k nd0) := by
 rw [List.getD_eq_getElem?_getD]
 rcases hx : l[k]? with _ | x
 ·rfl
 ·exact h x (List.mem_of_getElem? hx)
theorem wf_red {x : Nd} (h : WfN x) : WfN (redF x) := by
 unfold redF
 have k0 := wf_getD h.ks 0
 have k1 := wf_getD h.ks 1
 have k2 := wf_getD h.ks 2
 repeat' split
 all_goals first | assumption | skip
 unfold opN
 repeat' split
 all_goals first | assumption | (exact wf_leaf (by decide) rfl) | skip
 rename_i _ _ h1
 simp only [Bool.and_eq_true, decide_eq_true_eq] at h1
 exact wf_leaf (by rw [List.length_append]; exact h1.2) rfl
theorem wf_exp (x : Nd) : WfN x → WfN (expN x) := by
 induction x using Nd.ind with
 | h x ih =>
  intro hw
  rw [expN_eq]
  refine wf_red ((wfN_iff _).2 ⟨?_, hw.tx, hw.ns, ?_, (wfL_iff _).2 fun y hy => ?_⟩)
  ·show kdOk x.kd (expK x.ks x.kd 0).length = true
   rw [expK_len]; exact hw.kd
  ·show (expK x.ks x.kd 0).length ≤ 100000
   rw [expK_len]; exact hw.len
  ·obtain ⟨z, hz, e⟩ := expK_mem hy
   rcases e with e | e <;> rw [e]
   ·exact hw.ks z hz
   ·exact ih z hz (hw.ks z hz)
theorem occL_exp (kd : Int) (tx s : List UInt8) : ∀ (xs : List Nd), (∀ x ∈ xs, occF (expN x) s = true → occF x s = true) → ∀ (p q : Nd) (i : Nat), bindsF kd tx p i = bindsF kd tx q i → occL (expK xs kd i) kd tx p i s = true → occL xs kd tx q i s = true
 | [], _, p, q, i, e, h => by simp [expK, occL] at h
 | x :: xs, hx, p, q, i, e, h => by
  rw [expK, occL, Bool.or_eq_true] at h
  rw [occL, Bool.or_eq_true, ← e]
  rcases h with h | h
  ·refine .inl ?_
   simp only [Bool.and_eq_true] at h ⊢
   refine ⟨h.1, ?_⟩
   rw [if_pos h.1.1] at h
   exact hx x List.mem_cons_self h.2
  ·refine .inr (occL_exp kd tx s xs (fun y hy => hx y (List.mem_cons_of_mem _ hy)) _ x (i + 1) ?_ h)
   by_cases hb : bindsB kd i = true
   ·rw [if_pos hb]
    unfold bindsF
    by_cases h11 : kd = 11
    ·have : ¬ (0 < i + 1 ∧ (i + 1) % 2 = 0) := by
      rw [h11] at hb
      simp only [bindsB, beq_self_eq_true, Bool.not_true, Bool.false_or, beq_iff_eq] at hb
      omega
     simp only [this, if_false]
    ·have : (kd == 11) = false := beq_eq_false_iff_ne.2 h11
     simp only [this, Bool.false_eq_true, if_false]
   ·rw [if_neg hb]
theorem bindsB_ne {kd : Int} (h : kd ≠ 11) (i : Nat) : bindsB kd i = true := by
 rw [bindsB, beq_eq_false_iff_ne.2 h]; rfl
theorem occ_red {x : Nd} {s : List UInt8} (hw : WfN x) (h : occF (redF x) s = true) : occF x s = true := by
 unfold redF at h
 have el : ∀ (kd : Int) (tx : List UInt8) (nm : Int) (at_ : Nat), kd ≠ 4 → occF (.mk kd tx nm at_ [] []) s = true → False := fun kd tx nm at_ hk h => by
  rw [occF_eq] at h
  simp [Nd.kd, Nd.ks, occL, hk] at h
 have kid : ∀ (k : Nat) (y : Nd), x.kd ≠ 4 → x.kd ≠ 11 → x.ks[k]? = some y → occF y s = true → (bindsF x.kd x.tx nd0 k).contains s = false → (∀ p, bindsF x.kd x.tx p k = bindsF x.kd x.tx nd0 k) → occF x s = true := fun k y h4 h11 hk hs hb hp => by
  rw [occF_eq, if_neg (by simpa using h4)]
  have gen : ∀ (xs : List Nd) (p : Nd) (i k : Nat), xs[k]? = some y → (∀ p, (bindsF x.kd x.tx p (i + k)).contains s = false) → occL xs x.kd x.tx p i s = true := by
   intro xs
   induction xs with
   | nil => intro p i k hk; simp at hk
   | cons z zs ih =>
    intro p i k hk hb
    rw [occL, Bool.or_eq_true]
    cases k with
    | zero =>
     simp only [List.getElem?_cons_zero, Option.some.injEq] at hk
     refine .inl ?_
     rw [bindsB_ne h11, show (bindsF x.kd x.tx p i).contains s = false from hb p, hk, hs]; rfl
    | succ k =>
     refine .inr (ih z (i + 1) k (by simpa using hk) fun p => ?_)
     rw [show i + 1 + k = i + (k + 1) by omega]; exact hb p
  exact gen x.ks nd0 0 k hk fun p => by rw [Nat.zero_add, hp p]; exact hb
 split at h
 ·rename_i hk
  unfold opN at h
  repeat' split at h
  all_goals first | exact h | exact (el _ _ _ _ (by decide) h).elim
 split at h
 ·rename_i hk
  have hk : x.kd = 10 := by simpa using hk
  obtain ⟨a, b, c, e⟩ := hw.three hk
  rw [e] at h
  have bf : ∀ p i, bindsF x.kd x.tx p i = [] := fun p i => by rw [hk]; rfl
  split at h
  ·exact kid 1 b (by rw [hk]; decide) (by rw [hk]; decide) (by rw [e]; rfl) h (by rw [bf]; rfl) (fun p => by rw [bf, bf])
  ·split at h
   ·exact kid 2 c (by rw [hk]; decide) (by rw [hk]; decide) (by rw [e]; rfl) h (by rw [bf]; rfl) (fun p => by rw [bf, bf])
   ·exact h
 split at h
 ·rename_i hk
  have hk : x.kd = 8 ∨ x.kd = 9 := by simpa using hk
  obtain ⟨a, b, e⟩ := hw.two (by omega)
  rw [e] at h
  split at h
  ·rename_i hc
   simp only [Bool.and_eq_true, Bool.not_eq_true'] at hc
   have hc2 : occF b x.tx = false := hc.2
   have hne : x.tx ≠ s := fun e => by rw [e] at hc2; rw [show occF b s = true from h] at hc2; cases hc2
   have bf : ∀ p, bindsF x.kd x.tx p 1 = [x.tx] := fun p => by rcases hk with hk | hk <;> rw [hk] <;> rfl
   refine kid 1 b (by omega) (by omega) (by rw [e]; rfl) h ?_ (fun p => by rw [bf, bf])
   rw [bf]; simp [Ne.symm hne]
  ·exact h
 split at h
 ·rename_i hk
  have hk : x.kd = 14 := by simpa using hk
  obtain ⟨a, b, e⟩ := hw.two (by omega)
  have bf : ∀ p i, bindsF x.kd x.tx p i = [] := fun p i => by rw [hk]; rfl
  rw [e] at h
  split at h
  ·exact kid 1 b (by omega) (by omega) (by rw [e]; rfl) h (by rw [bf]; rfl) (fun p => by rw [bf, bf])
  ·exact h
 exact h
theorem wf_kids {x : Nd} (h : WfN x) : WfN (.mk x.kd x.tx x.nm x.at_ x.ns (expK x.ks x.kd 0)) := by
 refine (wfN_iff _).2 ⟨?_, h.tx, h.ns, ?_, (wfL_iff _).2 fun y hy => ?_⟩
 ·show kdOk x.kd (expK x.ks x.kd 0).length = true
  rw [expK_len]; exact h.kd
 ·show (expK x.ks x.kd 0).length ≤ 100000
  rw [expK_len]; exact h.len
 ·obtain ⟨z, hz, e⟩ := expK_mem hy
  rcases e with e | e <;> rw [e]
  ·exact h.ks z hz
  ·exact wf_exp z (h.ks z hz)
/-- Folding makes no name free. -/
theorem occ_exp (x : Nd) : WfN x → ∀ s, occF (expN x) s = true → occF x s = true := by
 induction x using Nd.ind with
 | h x ih =>
  intro hw s h
  rw [expN_eq] at h
  have h1 := occ_red (wf_kids hw) h
  rw [occF_eq] at h1 ⊢
  by_cases hk : x.kd = 4
  ·simp only [kd_mk, tx_mk, hk, beq_self_eq_true, if_true] at h1 ⊢
   exact h1
  ·have e : (x.kd == 4) = false := beq_eq_false_iff_ne.2 hk
   simp only [kd_mk, tx_mk, ks_mk, e, Bool.false_eq_true, if_false] at h1 ⊢
   exact occL_exp _ _ _ _ (fun y hy hs => ih y hy (hw.ks y hy) s hs) _ _ _ rfl h1
theorem expK_fix (kd : Int) : ∀ (xs : List Nd) (i : Nat), (∀ x ∈ xs, expN (expN x) = expN x) → expK (expK xs kd i) kd i = expK xs kd i
 | [], _, _ => rfl
 | x :: xs, i, h => by
  rw [expK, expK, expK_fix kd xs (i + 1) fun y hy => h y (List.mem_cons_of_mem _ hy)]
  congr 1
  by_cases hb : bindsB kd i = true
  ·simp only [if_pos hb]; exact h x List.mem_cons_self
  ·simp only [if_neg hb]
theorem exp_leaf (kd : Int) (tx : List UInt8) (nm : Int) (at_ : Nat) (h : kd = 1 ∨ kd = 2 ∨ kd = 5) : expN (.mk kd tx nm at_ [] []) = .mk kd tx nm at_ [] [] := by
 rw [expN_eq]
 rcases h with rfl | rfl | rfl <;> rfl
theorem op_cases (m a b : Nd) : opN m a b = m ∨ ∃ kd tx nm, (kd = 1 ∨ kd = 2 ∨ kd = 5) ∧ opN m a b = .mk kd tx nm m.at_ [] [] := by
 unfold opN
 repeat' split
 all_goals first | exact .inl rfl | exact .inr ⟨_, _, _, by decide, rfl⟩
/-- What is folded stays as it is. -/
theorem exp_exp (x : Nd) : WfN x → expN (expN x) = expN x := by
 induction x using Nd.ind with
 | h x ih =>
  intro hw
  have hk := fun y (hy : y ∈ x.ks) => ih y hy (hw.ks y hy)
  obtain ⟨m, hm⟩ : ∃ m, Nd.mk x.kd x.tx x.nm x.at_ x.ns (expK x.ks x.kd 0) = m := ⟨_, rfl⟩
  have e1 : expN x = redF m := by rw [expN_eq, hm]
  have hmm : expN m = redF m := by
   rw [expN_eq, ← hm]
   simp only [kd_mk, tx_mk, nm_mk, at_mk, ns_mk, ks_mk]
   rw [expK_fix _ _ _ hk]
  have wm : WfN m := by rw [← hm]; exact wf_kids hw
  have kid : ∀ k y, m.kd ≠ 11 → m.ks[k]? = some y → expN y = y := fun k y h11 hy => by
   rw [← hm] at hy h11
   simp only [ks_mk, kd_mk] at hy h11
   rw [expK_get] at hy
   rcases hx : x.ks[k]? with _ | z
   ·rw [hx] at hy; cases hy
   ·rw [hx] at hy
    simp only [Option.map_some, Option.some.injEq, bindsB_ne h11, if_true] at hy
    rw [← hy]; exact hk z (List.mem_of_getElem? hx)
  rw [e1]
  have same : redF m = m → expN (redF m) = redF m := fun h => by rw [h, hmm, h]
  clear hm e1 hk ih hw
  by_cases h13 : m.kd = 13
  ·have er : redF m = opN m (m.ks.getD 0 nd0) (m.ks.getD 1 nd0) := by unfold redF; rw [h13]; rfl
   rw [er] at same ⊢
   rcases op_cases m (m.ks.getD 0 nd0) (m.ks.getD 1 nd0) with h | ⟨kd, tx, nm, h1, h⟩
   ·exact same h
   ·rw [h]; exact exp_leaf _ _ _ _ h1
  by_cases h10 : m.kd = 10
  ·obtain ⟨a, b, c, e⟩ := wm.three h10
   have k1 := kid 1 b (by omega) (by rw [e]; rfl)
   have k2 := kid 2 c (by omega) (by rw [e]; rfl)
   unfold redF at same ⊢
   rw [h10, e] at same ⊢
   by_cases c1 : ((([a, b, c] : List Nd).getD 0 nd0).kd == 5 && (([a, b, c] : List Nd).getD 0 nd0).ks.isEmpty && (([a, b, c] : List Nd).getD 0 nd0).tx == [84, 114, 117, 101]) = true
   ·simp only [c1, if_true]; exact k1
   ·by_cases c2 : ((([a, b, c] : List Nd).getD 0 nd0).kd == 5 && (([a, b, c] : List Nd).getD 0 nd0).ks.isEmpty && (([a, b, c] : List Nd).getD 0 nd0).tx == [70, 97, 108, 115, 101]) = true
    ·simp only [if_neg c1, if_pos c2]; exact k2
    ·simp only [if_neg c1, if_neg c2] at same ⊢
     exact same rfl
  by_cases h89 : m.kd = 8 ∨ m.kd = 9
  ·obtain ⟨a, b, e⟩ := wm.two (by omega)
   have k1 := kid 1 b (by omega) (by rw [e]; rfl)
   have er : redF m = if stillF a && !occF b m.tx then b else m := by unfold redF; rw [e]; rcases h89 with h | h <;> rw [h] <;> rfl
   rw [er] at same ⊢
   split
   ·exact k1
   ·rename_i hc
    rw [if_neg hc] at same
    exact same rfl
  by_cases h14 : m.kd = 14
  ·obtain ⟨a, b, e⟩ := wm.two (by omega)
   have k1 := kid 1 b (by omega) (by rw [e]; rfl)
   have er : redF m = if stillF a then b else m := by unfold redF; rw [e, h14]; rfl
   rw [er] at same ⊢
   split
   ·exact k1
   ·rename_i hc
    rw [if_neg hc] at same
    exact same rfl
  ·refine same ?_
   unfold redF
   have a1 : (m.kd == 13) = false := beq_eq_false_iff_ne.2 h13
   have a2 : (m.kd == 10) = false := beq_eq_false_iff_ne.2 h10
   have a3 : (m.kd == 8 || m.kd == 9) = false := by simp; omega
   have a4 : (m.kd == 14) = false := beq_eq_false_iff_ne.2 h14
   simp only [a1, a2, a3, a4, Bool.false_eq_true, if_false]
theorem decl_decl (x : Nd) (h : WfN x) : declN (declN x) = declN x := by
 unfold declN
 by_cases hk : (x.kd == 28 || x.kd == 29) = true
 ·simp only [if_pos hk, kd_mk, tx_mk, nm_mk, at_mk, ns_mk, ks_mk, List.map_map]
  congr 1
  exact List.map_congr_left fun y hy => exp_exp y (h.ks y hy)
 ·simp only [if_neg hk]
theorem prog_prog (x : Nd) (h : WfN x) : progN (progN x) = progN x := by
 have gen : ∀ l : List Nd, (∀ y ∈ l, WfN y) → progK (progK l) = progK l := by
  intro l
  induction l with
  | nil => intro _; rfl
  | cons a t ih =>
   intro hl
   cases t with
   | nil =>
    show [expN (expN a)] = [expN a]
    rw [exp_exp a (hl a List.mem_cons_self)]
   | cons b t =>
    have ih' := ih fun y hy => hl y (List.mem_cons_of_mem _ hy)
    obtain ⟨c, u, e⟩ : ∃ c u, progK (b :: t) = c :: u := by
     cases t with
     | nil => exact ⟨_, _, rfl⟩
     | cons d t => exact ⟨_, _, rfl⟩
    show progK (declN a :: progK (b :: t)) = declN a :: progK (b :: t)
    rw [e] at ih' ⊢
    show declN (declN a) :: progK (c :: u) = _
    rw [ih', decl_decl a (hl a List.mem_cons_self)]
 unfold progN
 simp only [kd_mk, tx_mk, nm_mk, at_mk, ns_mk, ks_mk]
 rw [gen x.ks h.ks]
theorem progK_len : ∀ l : List Nd, (progK l).length = l.length
 | [] => rfl
 | [_] => rfl
 | _ :: y :: xs => by rw [progK, List.length_cons, progK_len (y :: xs)]; rfl
theorem progK_get : ∀ (l : List Nd) (k : Nat), (progK l)[k]? = l[k]?.map fun x => if k + 1 = l.length then expN x else declN x
 | [], _ => by simp [progK]
 | [x], 0 => by simp [progK]
 | [x], k + 1 => by simp [progK]
 | x :: y :: xs, 0 => by simp [progK]
 | x :: y :: xs, k + 1 => by
  rw [progK, List.getElem?_cons_succ, List.getElem?_cons_succ, progK_get (y :: xs)]
  simp
theorem wf_decl {x : Nd} (h : WfN x) : WfN (declN x) := by
 unfold declN
 split
 ·refine (wfN_iff _).2 ⟨?_, h.tx, h.ns, ?_, (wfL_iff _).2 fun y hy => ?_⟩
  ·show kdOk x.kd (x.ks.map expN).length = true
   rw [List.length_map]; exact h.kd
  ·show (x.ks.map expN).length ≤ 100000
   rw [List.length_map]; exact h.len
  ·obtain ⟨z, hz, rfl⟩ := List.mem_map.1 hy
   exact wf_exp z (h.ks z hz)
 ·exact h
theorem wf_prog {x : Nd} (h : WfN x) : WfN (progN x) := by
 refine (wfN_iff _).2 ⟨?_, h.tx, h.ns, ?_, (wfL_iff _).2 fun y hy => ?_⟩
 ·show kdOk x.kd (progK x.ks).length = true
  rw [progK_len]; exact h.kd
 ·show (progK x.ks).length ≤ 100000
  rw [progK_len]; exact h.len
 ·obtain ⟨k, hk⟩ := List.mem_iff_getElem?.1 hy
  have hk : (progK x.ks)[k]? = some y := hk
  rw [progK_get] at hk
  rcases hx : x.ks[k]? with _ | z
  ·rw [hx] at hk; cases hk
  ·rw [hx] at hk
   simp only [Option.map_some, Option.some.injEq] at hk
   have hz := h.ks z (List.mem_of_getElem? hx)
   rw [← hk]; split
   ·exact wf_exp z hz
   ·exact wf_decl hz
end Go.Proofs.Ytgjchgmlogbmmaa
/- What the parser gives is in good order: so many kids as each kind has, texts of at most 60 bytes. -/
namespace Go.Proofs.Ytgjchgmlogbmmaa
open Go.Proofs.Ytgjchgmlogbmmaa.S (unqF)
set_option linter.unusedVariables false

theorem unq_len : ∀ (f : Nat) (r acc : List UInt8) (k : Nat), (S.unq f r acc k).1.length ≤ 60
 | 0, _, _, _ => Nat.zero_le _
 | f + 1, rest, acc, k => by
  unfold S.unq
  cases rest with
  | nil => exact Nat.zero_le _
  | cons c r =>
   dsimp only
   repeat' split
   all_goals first | exact unq_len f _ _ _ | exact Nat.zero_le _ | skip
   rename_i h
   show acc.length ≤ 60
   omega
theorem tokF_text (l : List UInt8) : (tokF l).text.length ≤ 60 := by
 unfold tokF
 cases l with
 | nil => exact Nat.zero_le _
 | cons c r =>
  dsimp only
  repeat' split
  all_goals first | exact Nat.zero_le _ | skip
  ·unfold unqF
   dsimp only
   repeat' split
   all_goals first | exact unq_len _ _ _ _ | exact Nat.zero_le _
  all_goals (simp only [List.length_cons, List.length_nil]; omega)
theorem toks_text : ∀ {l : List UInt8} {i : Nat} {T : List Tok}, Toks l i T → ∀ t ∈ T, t.text.length ≤ 60 := by
 intro l i T h
 induction h with
 | fin l i h => intro t ht; rw [List.mem_singleton] at ht; subst ht; exact Nat.zero_le _
 | one l i ts kd tx nm n hr hk ht ih =>
  intro t hm
  rcases List.mem_cons.1 hm with rfl | hm
  ·have := tokF_text (l.drop (gapL l))
   rw [hr] at this; exact this
  ·exact ih t hm
/-- A node with any number of kids, so many names and kids at most. -/
structure Fw (p m : Nat) (x : Nd) : Prop where
 kd : ∀ n, kdOk x.kd n = true
 tx : x.tx.length ≤ 60
 ns : x.ns.length ≤ p
 len : x.ks.length ≤ m
 ks : ∀ y ∈ x.ks, WfN y
structure WfR (r : Rec) : Prop where
 exp : ∀ s, WfN (r.exp s).1
 pat : ∀ s, WfN (r.pat s).1
 ty : ∀ s, WfN (r.ty s).1
section
variable {p m : Nat} {x y : Nd}
theorem Fw.wf (h : Fw p m x) (hp : p ≤ 100000) (hm : m ≤ 100000) : WfN x := (wfN_iff x).2 ⟨h.kd _, h.tx, Nat.le_trans h.ns hp, Nat.le_trans h.len hm, (wfL_iff _).2 h.ks⟩
theorem Fw.add (h : Fw p m x) (hy : WfN y) : Fw p (m + 1) (x.add y) := by
 cases x
 obtain ⟨a, b, c, d, e⟩ := h
 refine ⟨a, b, c, ?_, fun z hz => ?_⟩
 ·simp only [Nd.add, ks_mk, List.length_append, List.length_singleton] at d ⊢; omega
 ·simp only [Nd.add, ks_mk, List.mem_append, List.mem_singleton] at hz
  rcases hz with hz | rfl
  ·exact e z hz
  ·exact hy
theorem Fw.mono {q n : Nat} (h : Fw p m x) (hp : p ≤ q) (hm : m ≤ n) : Fw q n x := ⟨h.kd, h.tx, Nat.le_trans h.ns hp, Nat.le_trans h.len hm, h.ks⟩
theorem Fw.setTx (h : Fw p m x) {t : List UInt8} (ht : t.length ≤ 60) : Fw p m (x.setTx t) := by cases x; exact ⟨h.kd, ht, h.ns, h.len, h.ks⟩
theorem Fw.setKd (h : Fw p m x) {k : Int} (hk : ∀ n, kdOk k n = true) : Fw p m (x.setKd k) := by cases x; exact ⟨hk, h.tx, h.ns, h.len, h.ks⟩
theorem Fw.addNs (h : Fw p m x) (t : List UInt8) : Fw (p + 1) m (x.addNs t) := by
 cases x
 refine ⟨h.kd, h.tx, ?_, h.len, h.ks⟩
 have := h.ns
 simp only [Nd.addNs, ns_mk, List.length_append, List.length_singleton] at this ⊢; omega
theorem Fw.leaf {k : Int} {t : List UInt8} {v : Int} {a : Nat} (hk : ∀ n, kdOk k n = true) (ht : t.length ≤ 60) : Fw 0 0 (.mk k t v a [] []) := ⟨hk, ht, Nat.le_refl _, Nat.le_refl _, fun y hy => by simp [ks_mk] at hy⟩
end
section
variable {T : List Tok} (hT : ∀ t ∈ T, t.text.length ≤ 60) (hl : T.length ≤ 5000) {r : Rec} (R : WfR r)
include hT in
theorem tk_text (s : PS) : (tkF T s).text.length ≤ 60 := by
 unfold tkF
 rw [List.getD_eq_getElem?_getD]
 rcases h : T[s.i]? with _ | t
 ·exact Nat.zero_le _
 ·exact hT t (List.mem_of_getElem? h)
include hT in
theorem step_text (s : PS) : (stepT T s).text.length ≤ 60 := by
 unfold stepT
 split
 ·exact Nat.zero_le _
 ·exact tk_text hT s
include hT in
theorem text_text (s : PS) (k : Int) : (textT T s k).length ≤ 60 := by
 unfold textT
 split
 ·exact step_text hT s
 ·exact Nat.zero_le _
include hT in
theorem wf_leafN (s : PS) (k : Int) (h : kdOk k 0 = true) : WfN (leafN T s k) := (wfN_iff _).2 ⟨h, step_text hT s, Nat.zero_le _, Nat.zero_le _, rfl⟩
include hT R in
theorem wf_patom (s : PS) : WfN (patomF T r s).1 := by
 unfold patomF
 repeat' split
 all_goals first | exact wf_leafN hT _ _ rfl | exact wf_leaf (Nat.zero_le _) rfl | exact R.pat _ | exact wf_nd0
include hT R in
theorem fw_patL : ∀ (f : Nat) (n : Nd) (s : PS) (m : Nat), Fw 0 m n → Fw 0 (m + f) (patL T r f n s).1
 | 0, n, s, m, h => h
 | f + 1, n, s, m, h => by
  unfold patL
  split
  ·exact h.mono (Nat.le_refl _) (by omega)
  ·split
   ·exact h.mono (Nat.le_refl _) (by omega)
   ·exact (fw_patL f _ _ _ (h.add (wf_patom hT R s))).mono (Nat.le_refl _) (by omega)
include hT R in
theorem wf_pat (s : PS) : WfN (patF T r s).1 := by
 unfold patF
 split
 ·dsimp only
  split
  ·rename_i h
   have h : kdF T (enterF T s) = 4 := by simpa using h
   refine (fw_patL hT R 5 _ _ 0 ?_).wf (by omega) (by omega)
   have e : (patomF T r (enterF T s)).1 = leafN T (enterF T s) 5 := by
    unfold patomF
    rw [if_neg (by rw [h]; decide), if_neg (by rw [h]; decide), if_pos h]
   rw [e]
   exact .leaf (fun n => rfl) (step_text hT _)
  ·exact wf_patom hT R _
 ·exact wf_nd0
include hT R in
theorem fw_tyL : ∀ (f : Nat) (n : Nd) (s : PS) (m : Nat), Fw 0 m n → Fw 0 (m + f) (tyL T r f n s).1
 | 0, n, s, m, h => h
 | f + 1, n, s, m, h => by
  unfold tyL
  repeat' split
  ·exact (fw_tyL f _ _ _ (h.add (wf_leaf (step_text hT s) rfl))).mono (Nat.le_refl _) (by omega)
  ·exact (fw_tyL f _ _ _ (h.add (R.ty _))).mono (Nat.le_refl _) (by omega)
  all_goals exact h.mono (Nat.le_refl _) (by omega)
include hT hl R in
theorem wf_ty (s : PS) : WfN (tyF T r s).1 := by
 unfold tyF
 split
 ·exact (fw_tyL hT R T.length _ _ 0 (.leaf (fun n => rfl) (text_text hT _ _))).wf (by omega) (by omega)
 ·exact wf_nd0
include R in
theorem fw_conL : ∀ (f : Nat) (b : Bool) (n : Nd) (s : PS) (m : Nat), Fw 0 m n → Fw 0 (m + f) (conL T r f b n s).1
 | 0, b, n, s, m, h => h
 | f + 1, b, n, s, m, h => by
  unfold conL
  split
  ·exact (fw_conL f _ _ _ _ (h.add (R.ty _))).mono (Nat.le_refl _) (by omega)
  ·exact h.mono (Nat.le_refl _) (by omega)
include hT hl R in
theorem wf_con (s : PS) : WfN (conF T r s).1 := (fw_conL R _ _ _ _ 0 (.leaf (fun n => rfl) (text_text hT _ _))).wf (by omega) (by omega)
theorem fw_namL : ∀ (f : Nat) (n : Nd) (s : PS) (p m : Nat), Fw p m n → Fw (p + f) m (namL T f n s).1
 | 0, n, s, p, m, h => h
 | f + 1, n, s, p, m, h => by
  unfold namL
  repeat' split
  ·exact h.mono (by omega) (Nat.le_refl _)
  ·exact (fw_namL f _ _ _ _ (h.addNs _)).mono (by omega) (Nat.le_refl _)
  ·exact h.mono (by omega) (Nat.le_refl _)
include hT hl R in
theorem fw_cosL : ∀ (f : Nat) (b : Bool) (n : Nd) (s : PS) (p m : Nat), Fw p m n → Fw p (m + f) (cosL T r f b n s).1
 | 0, b, n, s, p, m, h => h
 | f + 1, b, n, s, p, m, h => by
  unfold cosL
  split
  ·exact (fw_cosL f _ _ _ _ _ (h.add (wf_con hT hl R _))).mono (Nat.le_refl _) (by omega)
  ·exact h.mono (Nat.le_refl _) (by omega)
/-- What a declaration of a name has. -/
def DeclOk (x : Nd) : Prop := x.kd = 28 ∨ x.kd = 29 → ∃ a, x.ks = [a] ∧ x.nm = 0 ∧ x.ns = []
include hT hl R in
theorem wf_declF (s : PS) : WfN (declF T r s).1 ∧ DeclOk (declF T r s).1 := by
 unfold declF
 dsimp only
 split
 ·have h0 : Fw 0 0 (((Nd.mk 0 [] 0 (stepT T s).at_ [] []).setKd 25).setTx (textT T (stepF T s) 3)) := .leaf (fun n => rfl) (text_text hT _ _)
  have h1 := fw_cosL hT hl R (T.length + 1) true _ (wantF T (namL T 5 (((Nd.mk 0 [] 0 (stepT T s).at_ [] []).setKd 25).setTx (textT T (stepF T s) 3)) (textF T (stepF T s) 3)).2 [61]) _ _ (fw_namL (T := T) 5 _ (textF T (stepF T s) 3) 0 0 h0)
  refine ⟨h1.wf (by omega) (by omega), ?_⟩
  have keepN : ∀ (f : Nat) (n : Nd) (s : PS), (namL T f n s).1.kd = n.kd := by
   intro f
   induction f with
   | zero => intro n s; rfl
   | succ f ih =>
    intro n s
    unfold namL
    repeat' split
    all_goals first | rfl | (rw [ih]; cases n; rfl)
  have keep : ∀ (f : Nat) (b : Bool) (n : Nd) (s : PS), (cosL T r f b n s).1.kd = n.kd := by
   intro f
   induction f with
   | zero => intro b n s; rfl
   | succ f ih =>
    intro b n s
    unfold cosL
    split
    ·dsimp only
     rw [ih]; cases n; rfl
    ·rfl
  intro hk
  rw [keep, keepN] at hk
  have : (25 : Int) = 28 ∨ (25 : Int) = 29 := hk
  omega
 ·have he : ∀ s', WfN (r.exp s').1 := R.exp
  have fin : ∀ (k : Int) (t : List UInt8) (a : Nat) (e : Nd), (k = 28 ∨ k = 29) → t.length ≤ 60 → WfN e → WfN (.mk k t 0 a [] [e]) ∧ DeclOk (.mk k t 0 a [] [e]) := fun k t a e hk ht he =>
   ⟨(wfN_iff _).2 ⟨by rcases hk with rfl | rfl <;> rfl, ht, Nat.zero_le _, by simp [ks_mk], (wfL_iff _).2 fun y hy => by rw [ks_mk, List.mem_singleton] at hy; rw [hy]; exact he⟩, fun _ => ⟨e, rfl, rfl, rfl⟩⟩
  split
  ·exact fin 29 _ _ _ (.inr rfl) (text_text hT _ _) (he _)
  ·exact fin 28 _ _ _ (.inl rfl) (text_text hT _ _) (he _)
include R in
theorem fw_matL : ∀ (f : Nat) (b : Bool) (n : Nd) (s : PS) (m : Nat), Fw 0 m n → Fw 0 (m + 2 * f) (matL T r f b n s).1
 | 0, b, n, s, m, h => h
 | f + 1, b, n, s, m, h => by
  unfold matL
  split
  ·exact (fw_matL f _ _ _ _ ((h.add (R.pat _)).add (R.exp _))).mono (Nat.le_refl _) (by omega)
  ·exact h.mono (Nat.le_refl _) (by omega)
include R in
theorem wf_whole (s : PS) : WfN (wholeF r s).1 := R.exp _
include hT hl R in
theorem wf_atom (s : PS) : WfN (atomF T r s).1 := by
 unfold atomF
 repeat' split
 all_goals first | exact wf_leafN hT _ _ rfl | skip
 all_goals dsimp only
 all_goals repeat' split
 all_goals first | exact wf_leaf (Nat.zero_le _) rfl | exact R.exp _ | exact wf_nd0 | skip
 ·exact (((((Fw.leaf (k := 0) (t := []) (v := 0) (a := atF T s) (fun n => rfl) (Nat.zero_le _)).add (wf_whole R _)).setKd (k := 12) (fun n => rfl)).setTx (text_text hT _ _)).add (wf_whole R _)).wf (by omega) (by omega)
 ·exact (fw_matL R (T.length + 1) _ _ _ _ (((Fw.leaf (k := 0) (t := []) (v := 0) (a := atF T s) (fun n => rfl) (Nat.zero_le _)).add (wf_whole R _)).setKd (k := 11) (fun n => rfl))).wf (by omega) (by omega)
theorem wf_pair {k : Int} {t : List UInt8} {a : Nat} {x y : Nd} (hk : kdOk k 2 = true) (ht : t.length ≤ 60) (hx : WfN x) (hy : WfN y) : WfN (.mk k t 0 a [] [x, y]) :=
 (wfN_iff _).2 ⟨hk, ht, Nat.zero_le _, by simp [ks_mk], (wfL_iff _).2 fun z hz => by
  simp only [ks_mk, List.mem_cons, List.not_mem_nil, or_false] at hz
  rcases hz with rfl | rfl
  ·exact hx
  ·exact hy⟩
include hT hl R in
theorem fw_appL : ∀ (f : Nat) (b : Bool) (n : Nd) (s : PS) (m : Nat), (b = true → Fw 0 m n) → WfN n → m + f ≤ 100000 → WfN (appL T r f b n s).1
 | 0, b, n, s, m, h, hn, hm => hn
 | f + 1, b, n, s, m, h, hn, hm => by
  unfold appL
  repeat' split
  ·exact hn
  ·rename_i hb _
   exact fw_appL f _ _ _ (m + 1) (fun _ => (h hb).add (wf_atom hT hl R _)) (((h hb).add (wf_atom hT hl R _)).wf (by omega) (by omega)) (by omega)
  ·rename_i hb
   exact fw_appL f _ _ _ m (fun h => absurd h hb) (wf_pair rfl (Nat.zero_le _) hn (wf_atom hT hl R _)) (by omega)
  ·exact hn
theorem app_kinds (k : Nat) : ∀ n, kdOk (appKinds.getD k 0) n = true := by
 intro n
 match k with
 | 0 | 1 | 2 | 3 | 4 | 5 | 6 | 7 => rfl
 | k + 8 => rfl
include hT hl R in
theorem wf_app (s : PS) : WfN (appF T r s).1 := by
 unfold appF
 split
 ·have h0 : Fw 0 0 (Nd.mk (appKinds.getD (keyN T s) 0) [] 0 (stepT T s).at_ [] []) := .leaf (app_kinds _) (Nat.zero_le _)
  dsimp only
  split
  ·exact ((h0.add (wf_atom hT hl R _)).add (wf_atom hT hl R _)).wf (by omega) (by omega)
  ·exact (h0.add (wf_atom hT hl R _)).wf (by omega) (by omega)
 ·refine fw_appL hT hl R (T.length + 1) _ _ _ 0 (fun h => ?_) (wf_atom hT hl R _) (by omega)
  have h : kdF T s = 4 := by simpa using h
  have e : (atomF T r s).1 = leafN T s 5 := by
   unfold atomF
   rw [if_neg (by rw [h]; decide), if_neg (by rw [h]; decide), if_neg (by rw [h]; decide), if_pos h]
  rw [e]
  exact .leaf (fun n => rfl) (step_text hT _)
theorem op_len (s : PS) (a b c : List UInt8) (ha : a.length ≤ 60) (hb : b.length ≤ 60) (hc : c.length ≤ 60) : (opF T s a b c).length ≤ 60 := by
 unfold opF
 repeat' split
 all_goals first | assumption | exact Nat.zero_le _
include hT hl R in
theorem wf_prodL : ∀ (f : Nat) (n : Nd) (s : PS), WfN n → WfN (prodL T r f n s).1
 | 0, n, s, h => h
 | f + 1, n, s, h => by
  unfold prodL
  dsimp only
  split
  ·exact h
  ·exact wf_prodL f _ _ (wf_pair rfl (op_len _ _ _ _ (by decide) (by decide) (by decide)) h (wf_app hT hl R _))
include hT hl R in
theorem wf_prod (s : PS) : WfN (prodF T r s).1 := wf_prodL hT hl R _ _ _ (wf_app hT hl R _)
include hT hl R in
theorem wf_sumL : ∀ (f : Nat) (n : Nd) (s : PS), WfN n → WfN (sumL T r f n s).1
 | 0, n, s, h => h
 | f + 1, n, s, h => by
  unfold sumL
  dsimp only
  split
  ·exact h
  ·exact wf_sumL f _ _ (wf_pair rfl (op_len _ _ _ _ (by decide) (by decide) (by decide)) h (wf_prod hT hl R _))
include hT hl R in
theorem wf_sum (s : PS) : WfN (sumF T r s).1 := wf_sumL hT hl R _ _ _ (wf_prod hT hl R _)
include hT hl R in
theorem wf_cmp (s : PS) : WfN (cmpF T r s).1 := by
 unfold cmpF
 dsimp only
 split
 ·exact wf_sum hT hl R _
 ·exact wf_pair rfl (op_len _ _ _ _ (by decide) (by decide) (by decide)) (wf_sum hT hl R _) (wf_sum hT hl R _)
include hT hl R in
theorem wf_inner (s : PS) : WfN (innerF T r s).1 := by
 unfold innerF
 dsimp only
 split
 ·split
  ·exact wf_pair (k := 9) rfl (text_text hT _ _) (R.exp _) (R.exp _)
  ·exact wf_pair (k := 8) rfl (text_text hT _ _) (R.exp _) (R.exp _)
 ·split
  ·exact ((((Fw.leaf (k := 0) (t := []) (v := 0) (a := atF T s) (fun n => rfl) (Nat.zero_le _)).setKd (k := 6) (fun n => rfl)).setTx (text_text hT _ _)).add (R.exp _)).wf (by omega) (by omega)
  ·split
   ·refine (wfN_iff _).2 ⟨rfl, Nat.zero_le _, Nat.zero_le _, (show 3 ≤ 100000 by decide), (wfL_iff _).2 fun z hz => ?_⟩
    simp only [Nd.add, Nd.setKd, ks_mk, List.nil_append, List.cons_append, List.mem_cons, List.not_mem_nil, or_false] at hz
    rcases hz with rfl | rfl | rfl
    ·exact R.exp _
    ·exact R.exp _
    ·exact R.exp _
   ·split
    ·exact wf_pair rfl (Nat.zero_le _) (wf_cmp hT hl R _) (R.exp _)
    ·exact wf_cmp hT hl R _
include hT hl R in
theorem wf_expF (s : PS) : WfN (expF T r s).1 := by
 unfold expF
 split
 ·exact wf_inner hT hl R _
 ·exact wf_nd0
end
theorem wf_rules {T : List Tok} (hT : ∀ t ∈ T, t.text.length ≤ 60) (hl : T.length ≤ 5000) : ∀ n, WfR (rules T n)
 | 0 => ⟨fun _ => wf_nd0, fun _ => wf_nd0, fun _ => wf_nd0⟩
 | n + 1 => ⟨wf_expF hT hl (wf_rules hT hl n), wf_pat hT (wf_rules hT hl n), wf_ty hT hl (wf_rules hT hl n)⟩
theorem fw_progL {T : List Tok} (hT : ∀ t ∈ T, t.text.length ≤ 60) (hl : T.length ≤ 5000) : ∀ (f : Nat) (n : Nd) (s : PS) (m : Nat), Fw 0 m n → (∀ y ∈ n.ks, DeclOk y) → Fw 0 (m + f) (progL T f n s).1 ∧ ∀ y ∈ (progL T f n s).1.ks, DeclOk y
 | 0, n, s, m, h, hd => ⟨h, hd⟩
 | f + 1, n, s, m, h, hd => by
  unfold progL
  repeat' split
  ·exact ⟨h.mono (Nat.le_refl _) (by omega), hd⟩
  ·have hw := wf_declF hT hl (wf_rules hT hl 42) s
   have := fw_progL hT hl f (n.add (declF T (rules T 42) s).1) (declF T (rules T 42) s).2 (m + 1) (h.add hw.1) (fun y hy => by
    rw [show (n.add (declF T (rules T 42) s).1).ks = n.ks ++ [(declF T (rules T 42) s).1] from by cases n; rfl, List.mem_append, List.mem_singleton] at hy
    rcases hy with hy | rfl
    ·exact hd y hy
    ·exact hw.2)
   exact ⟨this.1.mono (Nat.le_refl _) (by omega), this.2⟩
  ·exact ⟨h.mono (Nat.le_refl _) (by omega), hd⟩
/-- A program's node. -/
theorem prog_wf (l : List UInt8) : WfN (progF l).1 ∧ ((progF l).2.2 = 0 → (progF l).1.ks ≠ []) ∧ ∀ k x, (progF l).1.ks[k]? = some x → k + 1 < (progF l).1.ks.length → DeclOk x := by
 have z : WfN nd0 ∧ ((0 : Int) = 1 → nd0.ks ≠ []) ∧ ∀ k x, nd0.ks[k]? = some x → k + 1 < nd0.ks.length → DeclOk x := ⟨wf_nd0, fun h => absurd h (by decide), fun k x h _ => by simp [nd0, Nd.ks] at h⟩
 unfold progF
 split
 ·rename_i he
  obtain ⟨T, p, e, h⟩ : ∃ T p e, tokensF l = (T, p, e) := ⟨_, _, _, rfl⟩
  rw [h] at he ⊢
  simp only at he
  subst he
  have ht := of_tokensF h
  have hT := toks_text ht
  have hl : T.length ≤ 5000 := by
   have := ht.len
   have h2 : l.length ≤ 2000 := by
    unfold tokensF at h
    split at h
    ·injection h with h1 h2; injection h2 with h2 h3; cases h3
    ·omega
   omega
  dsimp only
  unfold progT
  dsimp only
  have hp := fw_progL hT hl (T.length + 1) (.mk 30 [] 0 (atF T ⟨0, 0, 0, false, 0⟩) [] []) ⟨0, 0, 0, false, 0⟩ 0 (.leaf (fun n => rfl) (Nat.zero_le _)) (fun y hy => by simp [ks_mk] at hy)
  generalize progL T (T.length + 1) (.mk 30 [] 0 (atF T ⟨0, 0, 0, false, 0⟩) [] []) ⟨0, 0, 0, false, 0⟩ = q at *
  obtain ⟨n, s⟩ := q
  simp only at hp ⊢
  have hy := (wf_rules hT hl 42).exp (wantF T s [100, 111])
  generalize (rules T 42).exp (wantF T s [100, 111]) = y at *
  generalize (if kdF T y.2 = 0 then y.2 else failF T y.2 14) = s2
  split
  ·refine ⟨(hp.1.add hy).wf (by omega) (by omega), fun _ => ?_, fun k x hk hlt => ?_⟩
   ·dsimp only
    cases n; simp [Nd.add, ks_mk]
   ·dsimp only at hk hlt
    have e : ∀ y : Nd, (n.add y).ks = n.ks ++ [y] := fun y => by cases n; rfl
    rw [e] at hk hlt
    rw [List.length_append, List.length_singleton] at hlt
    rw [List.getElem?_append_left (by omega)] at hk
    exact hp.2 x (List.mem_of_getElem? hk)
  ·rename_i hne
   exact ⟨wf_nd0, fun h => absurd h hne, fun k x h _ => by simp [nd0, Nd.ks] at h⟩
 ·rename_i hne
  exact ⟨wf_nd0, fun h => absurd h hne, fun k x h _ => by simp [nd0, Nd.ks] at h⟩
end Go.Proofs.Ytgjchgmlogbmmaa
/- How many names there are in what the parser gives: no more than tokens. -/
namespace Go.Proofs.Ytgjchgmlogbmmaa
set_option linter.unusedVariables false

def kwN (kd : Int) : Nat := if kd == 4 || kd == 6 || kd == 8 || kd == 9 || kd == 12 then 1 else 0
mutual
def wtN : Nd → Nat
 | .mk kd _ _ _ _ ks => kwN kd + wtL ks
def wtL : List Nd → Nat
 | [] => 0
 | x :: xs => wtN x + wtL xs
end
theorem wtN_eq (x : Nd) : wtN x = kwN x.kd + wtL x.ks := by cases x; rfl
theorem wtL_app : ∀ (l m : List Nd), wtL (l ++ m) = wtL l + wtL m
 | [], m => by simp [wtL]
 | x :: l, m => by rw [List.cons_append, wtL, wtL, wtL_app l m]; omega
theorem wtL_mem : ∀ {l : List Nd} {x : Nd}, x ∈ l → wtN x ≤ wtL l
 | y :: l, x, h => by
  rw [wtL]
  rcases List.mem_cons.1 h with rfl | h
  ·omega
  ·have := wtL_mem h; omega
theorem wt_kid {x y : Nd} (h : y ∈ x.ks) : wtN y ≤ wtN x := by
 rw [wtN_eq x]; have := wtL_mem h; omega
theorem kw_le (k : Int) : kwN k ≤ 1 := by unfold kwN; split <;> omega
theorem namesL_len : ∀ (l : List Nd), (∀ x ∈ l, (namesF x).length ≤ wtN x) → (namesL l).length ≤ wtL l
 | [], _ => Nat.le_refl _
 | x :: l, h => by
  rw [namesL, wtL, List.length_append]
  have := h x List.mem_cons_self
  have := namesL_len l fun y hy => h y (List.mem_cons_of_mem _ hy)
  omega
theorem namesF_eq (x : Nd) : namesF x = (if x.kd == 4 then [x.tx] else []) ++ namesL x.ks := by cases x; rfl
theorem names_len (x : Nd) : (namesF x).length ≤ wtN x := by
 induction x using Nd.ind with
 | h x ih =>
  rw [namesF_eq, wtN_eq, List.length_append]
  have := namesL_len x.ks ih
  have : (if x.kd == 4 then [x.tx] else []).length ≤ kwN x.kd := by
   unfold kwN
   by_cases h : (x.kd == 4) = true
   ·simp [h]
   ·simp [h]
  omega
theorem binds_len (kd : Int) (tx : List UInt8) (p : Nd) (i : Nat) : (bindsF kd tx p i).length ≤ kwN kd + wtN p := by
 unfold bindsF
 have hp := names_len p
 unfold kwN
 by_cases h1 : (kd == 6 || kd == 9) = true
 ·have : (kd == 4 || kd == 6 || kd == 8 || kd == 9 || kd == 12) = true := by simp at h1 ⊢; omega
  simp only [if_pos h1, if_pos this, List.length_singleton]; omega
 ·rw [if_neg h1]
  by_cases h2 : (kd == 8 || kd == 12) = true
  ·have : (kd == 4 || kd == 6 || kd == 8 || kd == 9 || kd == 12) = true := by simp at h2 ⊢; omega
   rw [if_pos h2, if_pos this]
   split
   ·simp only [List.length_singleton]; omega
   ·simp
  ·rw [if_neg h2]
   repeat' split
   all_goals first | (simp only [List.length_nil]; omega) | omega
theorem freeL_len (kd : Int) (tx : List UInt8) : ∀ (xs : List Nd), (∀ x ∈ xs, ∀ b l, (freeF x b l).length ≤ l.length + wtN x) → ∀ p i b l, (freeL xs kd tx p i b l).length ≤ l.length + wtL xs
 | [], _, p, i, b, l => Nat.le_refl _
 | x :: xs, h, p, i, b, l => by
  rw [freeL, wtL]
  have h1 := freeL_len kd tx xs (fun y hy => h y (List.mem_cons_of_mem _ hy)) x (i + 1) b (if bindsB kd i = true then freeF x (b ++ bindsF kd tx p i) l else l)
  have h2 : (if bindsB kd i = true then freeF x (b ++ bindsF kd tx p i) l else l).length ≤ l.length + wtN x := by
   split
   ·exact h x List.mem_cons_self _ _
   ·omega
  omega
theorem freeF_len (x : Nd) : ∀ b l, (freeF x b l).length ≤ l.length + wtN x := by
 induction x using Nd.ind with
 | h x ih =>
  intro b l
  rw [freeF_eq, wtN_eq]
  have h1 := freeL_len x.kd x.tx x.ks ih nd0 0 b (if x.kd == 4 && !b.contains x.tx && !l.contains x.tx then l ++ [x.tx] else l)
  have h2 : (if x.kd == 4 && !b.contains x.tx && !l.contains x.tx then l ++ [x.tx] else l).length ≤ l.length + kwN x.kd := by
   split
   ·rename_i h
    simp only [Bool.and_eq_true, beq_iff_eq] at h
    rw [h.1.1]; simp [kwN]
   ·omega
  omega
theorem allL_len : ∀ (xs : List Nd), (∀ x ∈ xs, ∀ l, (allF x l).length ≤ l.length + wtN x) → ∀ l, (allL xs l).length ≤ l.length + wtL xs
 | [], _, l => Nat.le_refl _
 | x :: xs, h, l => by
  rw [allL, wtL]
  have h1 := allL_len xs (fun y hy => h y (List.mem_cons_of_mem _ hy)) (allF x l)
  have h2 := h x List.mem_cons_self l
  omega
theorem allF_len (x : Nd) : ∀ l, (allF x l).length ≤ l.length + wtN x := by
 induction x using Nd.ind with
 | h x ih =>
  intro l
  rw [allF_eq, wtN_eq]
  have h1 := allL_len x.ks ih (if x.kd == 4 && !l.contains x.tx then l ++ [x.tx] else l)
  have h2 : (if x.kd == 4 && !l.contains x.tx then l ++ [x.tx] else l).length ≤ l.length + kwN x.kd := by
   split
   ·rename_i h
    simp only [Bool.and_eq_true, beq_iff_eq] at h
    rw [h.1]; simp [kwN]
   ·omega
  omega
theorem wt_getD (l : List Nd) (k : Nat) : wtN (l.getD k nd0) ≤ wtL l := by
 rw [List.getD_eq_getElem?_getD]
 rcases hx : l[k]? with _ | x
 ·show wtN nd0 ≤ _
  exact Nat.zero_le _
 ·exact wtL_mem (List.mem_of_getElem? hx)
theorem wt_red (x : Nd) : wtN (redF x) ≤ wtN x := by
 have k0 := wt_getD x.ks 0
 have k1 := wt_getD x.ks 1
 have k2 := wt_getD x.ks 2
 have e := wtN_eq x
 unfold redF
 repeat' split
 all_goals first | omega | skip
 rcases op_cases x (x.ks.getD 0 nd0) (x.ks.getD 1 nd0) with h | ⟨kd, tx, nm, h1, h⟩
 ·rw [h]; exact Nat.le_refl _
 ·rw [h]
  rcases h1 with rfl | rfl | rfl <;> exact Nat.zero_le _
theorem wt_expK (kd : Int) : ∀ (xs : List Nd), (∀ x ∈ xs, wtN (expN x) ≤ wtN x) → ∀ i, wtL (expK xs kd i) ≤ wtL xs
 | [], _, i => Nat.le_refl _
 | x :: xs, h, i => by
  rw [expK, wtL, wtL]
  have h1 := wt_expK kd xs (fun y hy => h y (List.mem_cons_of_mem _ hy)) (i + 1)
  have h2 : wtN (if bindsB kd i = true then expN x else x) ≤ wtN x := by
   split
   ·exact h x List.mem_cons_self
   ·exact Nat.le_refl _
  omega
theorem wt_exp (x : Nd) : wtN (expN x) ≤ wtN x := by
 induction x using Nd.ind with
 | h x ih =>
  rw [expN_eq]
  refine Nat.le_trans (wt_red _) ?_
  rw [wtN_eq, wtN_eq x]
  simp only [kd_mk, ks_mk]
  have := wt_expK x.kd x.ks ih 0
  omega
structure WtR (r : Rec) : Prop where
 exp : ∀ s, wtN (r.exp s).1 + s.i ≤ (r.exp s).2.i
 pat : ∀ s, wtN (r.pat s).1 + s.i ≤ (r.pat s).2.i
 ty : ∀ s, wtN (r.ty s).1 + s.i ≤ (r.ty s).2.i
section
variable {T : List Tok} {r : Rec} (R : WtR r)
theorem fail_i (s : PS) (c : Int) : (failF T s c).i = s.i := by unfold failF; split <;> rfl
theorem step_i (s : PS) : s.i ≤ (stepF T s).i := by unfold stepF; split <;> simp
theorem step_1 {s : PS} (h : kdF T s ≠ 0) : (stepF T s).i = s.i + 1 := by unfold stepF; rw [if_neg h]
theorem is_k {s : PS} {x : List UInt8} (h : isF T s x = true) : kdF T s ≠ 0 := by
 unfold isF at h
 simp only [Bool.and_eq_true, Bool.or_eq_true, beq_iff_eq] at h
 omega
theorem is_1 {s : PS} {x : List UInt8} (h : isF T s x = true) : (stepF T s).i = s.i + 1 := step_1 (is_k h)
theorem want_i (s : PS) (x : List UInt8) : s.i ≤ (wantF T s x).i := by
 unfold wantF
 split
 ·exact step_i s
 ·rw [fail_i]; exact Nat.le_refl _
theorem text_i (s : PS) (k : Int) : s.i ≤ (textF T s k).i := by
 unfold textF
 split
 ·exact step_i s
 ·rw [fail_i]; exact Nat.le_refl _
theorem wt_mk0 (k : Int) (t : List UInt8) (v : Int) (a : Nat) (n : List (List UInt8)) : wtN (.mk k t v a n []) = kwN k := by simp [wtN, wtL]
theorem wt_leaf (s : PS) (k : Int) : wtN (leafN T s k) = kwN k := wt_mk0 _ _ _ _ _
theorem wt_add (x y : Nd) : wtN (x.add y) = wtN x + wtN y := by
 cases x; simp only [Nd.add, wtN, wtL_app, wtL]; omega
theorem wt_setTx (x : Nd) (t : List UInt8) : wtN (x.setTx t) = wtN x := by cases x; rfl
theorem wt_addNs (x : Nd) (t : List UInt8) : wtN (x.addNs t) = wtN x := by cases x; rfl
theorem wt_setKd (x : Nd) (k : Int) : wtN (x.setKd k) + kwN x.kd = wtN x + kwN k := by cases x; simp only [Nd.setKd, wtN, kd_mk]; omega
theorem wt_nd0 : wtN nd0 = 0 := rfl
theorem enter_i (s : PS) : (enterF T s).i = s.i := by
 have h : (deepF T s).i = s.i := by unfold deepF; split <;> first | rw [fail_i] | rfl
 unfold enterF
 split <;> exact h
theorem up_i (s : PS) : (up s).i = s.i := rfl
include R in
theorem wt_patom (s : PS) : wtN (patomF T r s).1 + s.i ≤ (patomF T r s).2.i := by
 have h0 := step_i (T := T) s
 unfold patomF
 split
 ·rw [wt_leaf]; show 0 + s.i ≤ (stepF T s).i; omega
 split
 ·rename_i h
  rw [wt_leaf]; have := step_1 (T := T) (s := s) (by omega); show 1 + s.i ≤ (stepF T s).i; omega
 split
 ·rw [wt_leaf]; show 0 + s.i ≤ (stepF T s).i; omega
 split
 ·rw [wt_mk0]; show 0 + s.i ≤ (stepF T s).i; omega
 split
 ·have h1 := R.pat (stepF T s)
  have h2 := want_i (T := T) (r.pat (stepF T s)).2 [41]
  dsimp only; omega
 ·rw [wt_nd0, fail_i]; omega
include R in
theorem wt_patL : ∀ (f : Nat) (n : Nd) (s : PS), wtN (patL T r f n s).1 + s.i ≤ wtN n + (patL T r f n s).2.i
 | 0, n, s => Nat.le_refl _
 | f + 1, n, s => by
  unfold patL
  split
  ·exact Nat.le_refl _
  split
  ·rw [fail_i]; exact Nat.le_refl _
  ·have h1 := wt_patL f (n.add (patomF T r s).1) (patomF T r s).2
   have h2 := wt_patom (T := T) R s
   rw [wt_add] at h1; omega
include R in
theorem wt_pat (s : PS) : wtN (patF T r s).1 + s.i ≤ (patF T r s).2.i := by
 have h0 := enter_i (T := T) s
 have h1 := wt_patom (T := T) R (enterF T s)
 have h2 := wt_patL (T := T) R 5 (patomF T r (enterF T s)).1 (patomF T r (enterF T s)).2
 unfold patF
 split
 ·dsimp only
  split
  ·rw [up_i]; omega
  ·rw [up_i]; omega
 ·rw [wt_nd0]; dsimp only; omega
include R in
theorem wt_tyL : ∀ (f : Nat) (n : Nd) (s : PS), wtN (tyL T r f n s).1 + s.i ≤ wtN n + (tyL T r f n s).2.i
 | 0, n, s => Nat.le_refl _
 | f + 1, n, s => by
  have h0 := step_i (T := T) s
  unfold tyL
  repeat' split
  ·have h1 := wt_tyL f (n.add (.mk 27 (stepT T s).text 0 (stepT T s).at_ [] [])) (stepF T s)
   rw [wt_add, wt_mk0, show kwN 27 = 0 from rfl] at h1; omega
  ·have h1 := wt_tyL f (n.add (r.ty (stepF T s)).1) (wantF T (r.ty (stepF T s)).2 [41])
   have h2 := R.ty (stepF T s)
   have h3 := want_i (T := T) (r.ty (stepF T s)).2 [41]
   rw [wt_add] at h1; omega
  all_goals exact Nat.le_refl _
include R in
theorem wt_ty (s : PS) : wtN (tyF T r s).1 + s.i ≤ (tyF T r s).2.i := by
 have h0 := enter_i (T := T) s
 have h1 := text_i (T := T) (enterF T s) 3
 have h2 := wt_tyL (T := T) R T.length (.mk 27 (textT T (enterF T s) 3) 0 (atF T (enterF T s)) [] []) (textF T (enterF T s) 3)
 rw [wt_mk0, show kwN 27 = 0 from rfl] at h2
 unfold tyF
 split
 ·dsimp only
  rw [up_i]; omega
 ·rw [wt_nd0]; dsimp only; omega
include R in
theorem wt_conL : ∀ (f : Nat) (b : Bool) (n : Nd) (s : PS), wtN (conL T r f b n s).1 + s.i ≤ wtN n + (conL T r f b n s).2.i
 | 0, b, n, s => Nat.le_refl _
 | f + 1, b, n, s => by
  have h0 := step_i (T := T) s
  unfold conL
  split
  ·dsimp only
   generalize hs1 : (if n.ks.length = 4 then failF T (stepF T s) 16 else stepF T s) = s1
   have h3 : s.i ≤ s1.i := by
    rw [← hs1]
    split
    ·rw [fail_i]; exact h0
    ·exact h0
   have h1 := wt_conL f (isF T (r.ty s1).2 [44]) (n.add (r.ty s1).1) (r.ty s1).2
   have h2 := R.ty s1
   rw [wt_add] at h1; omega
  ·exact Nat.le_refl _
include R in
theorem wt_con (s : PS) : wtN (conF T r s).1 + s.i ≤ (conF T r s).2.i := by
 have h1 := text_i (T := T) s 4
 have h2 := wt_conL (T := T) R (T.length + 1) (isF T (textF T s 4) [111, 102]) (.mk 26 (textT T s 4) 0 (atF T s) [] []) (textF T s 4)
 rw [wt_mk0, show kwN 26 = 0 from rfl] at h2
 unfold conF
 omega
include R in
theorem wt_whole (s : PS) : wtN (wholeF r s).1 + s.i ≤ (wholeF r s).2.i := R.exp { s with flat := false }
include R in
theorem wt_value (n : Nd) (s : PS) : wtN (valueF T r n s).1 + s.i ≤ wtN n + (valueF T r n s).2.i := by
 unfold valueF
 dsimp only
 generalize hs1 : (if isF T s [114, 101, 99] = true then stepF T s else s) = s1
 have h1 : s.i ≤ s1.i := by
  rw [← hs1]; split
  ·exact step_i s
  ·exact Nat.le_refl _
 have h2 := text_i (T := T) s1 3
 have h3 := want_i (T := T) (textF T s1 3) [61]
 generalize hs2 : wantF T (textF T s1 3) [61] = s2 at *
 generalize hs3 : (if isF T s [114, 101, 99] = true ∧ isF T s2 [102, 117, 110] = false ∧ s2.deep < 40 then failF T s2 14 else s2) = s3
 have h4 : s2.i ≤ s3.i := by
  rw [← hs3]; split
  ·rw [fail_i]; exact Nat.le_refl _
  ·exact Nat.le_refl _
 have h5 := R.exp s3
 rw [wt_add, wt_setTx]; omega
theorem wt_namL : ∀ (f : Nat) (n : Nd) (s : PS), wtN (namL T f n s).1 + s.i ≤ wtN n + (namL T f n s).2.i
 | 0, n, s => Nat.le_refl _
 | f + 1, n, s => by
  have h0 := step_i (T := T) s
  unfold namL
  repeat' split
  ·rw [fail_i]; exact Nat.le_refl _
  ·have h1 := wt_namL f (n.addNs (stepT T s).text) (stepF T s)
   rw [wt_addNs] at h1; omega
  ·exact Nat.le_refl _
include R in
theorem wt_cosL : ∀ (f : Nat) (b : Bool) (n : Nd) (s : PS), wtN (cosL T r f b n s).1 + s.i ≤ wtN n + (cosL T r f b n s).2.i
 | 0, b, n, s => Nat.le_refl _
 | f + 1, b, n, s => by
  unfold cosL
  split
  ·dsimp only
   generalize hs1 : (if n.ks.length = 20 then failF T s 16 else s) = s1
   have h3 : s.i ≤ s1.i := by
    rw [← hs1]; split
    ·rw [fail_i]; exact Nat.le_refl _
    ·exact Nat.le_refl _
   have h2 := wt_con (T := T) R s1
   generalize hs2 : (if isF T (conF T r s1).2 [124] = true then stepF T (conF T r s1).2 else (conF T r s1).2) = s2
   have h4 : (conF T r s1).2.i ≤ s2.i := by
    rw [← hs2]; split
    ·exact step_i _
    ·exact Nat.le_refl _
   have h1 := wt_cosL f (isF T (conF T r s1).2 [124]) (n.add (conF T r s1).1) s2
   rw [wt_add] at h1; omega
  ·exact Nat.le_refl _
include R in
theorem wt_decl (s : PS) : wtN (declF T r s).1 + s.i ≤ (declF T r s).2.i := by
 have h0 := step_i (T := T) s
 unfold declF
 dsimp only
 split
 ·have h1 := text_i (T := T) (stepF T s) 3
  have h2 := wt_namL (T := T) 5 (((Nd.mk 0 [] 0 (stepT T s).at_ [] []).setKd 25).setTx (textT T (stepF T s) 3)) (textF T (stepF T s) 3)
  rw [show wtN (((Nd.mk 0 [] 0 (stepT T s).at_ [] []).setKd 25).setTx (textT T (stepF T s) 3)) = 0 from rfl] at h2
  generalize namL T 5 (((Nd.mk 0 [] 0 (stepT T s).at_ [] []).setKd 25).setTx (textT T (stepF T s) 3)) (textF T (stepF T s) 3) = x at *
  have h3 := want_i (T := T) x.2 [61]
  have h4 := wt_cosL (T := T) R (T.length + 1) true x.1 (wantF T x.2 [61])
  generalize cosL T r (T.length + 1) true x.1 (wantF T x.2 [61]) = y at *
  have h5 := want_i (T := T) y.2 [59]
  dsimp only; omega
 ·have h2 := wt_value (T := T) R ((Nd.mk 0 [] 0 (stepT T s).at_ [] []).setKd 28) { stepF T s with flat := true }
  rw [show wtN ((Nd.mk 0 [] 0 (stepT T s).at_ [] []).setKd 28) = 0 from rfl] at h2
  have hk : (valueF T r ((Nd.mk 0 [] 0 (stepT T s).at_ [] []).setKd 28) { stepF T s with flat := true }).1.kd = 28 := rfl
  generalize valueF T r ((Nd.mk 0 [] 0 (stepT T s).at_ [] []).setKd 28) { stepF T s with flat := true } = x at *
  have h3 := want_i (T := T) { x.2 with flat := false } [59]
  have h4 := wt_setKd x.1 29
  rw [hk, show kwN 28 = 0 from rfl, show kwN 29 = 0 from rfl] at h4
  dsimp only at h2 h3 ⊢
  split <;> omega
include R in
theorem wt_matL : ∀ (f : Nat) (b : Bool) (n : Nd) (s : PS), wtN (matL T r f b n s).1 + s.i ≤ wtN n + (matL T r f b n s).2.i
 | 0, b, n, s => Nat.le_refl _
 | f + 1, b, n, s => by
  unfold matL
  split
  ·dsimp only
   generalize hs0 : (if n.ks.length = 41 then failF T s 16 else s) = s0
   have h3 : s.i ≤ s0.i := by
    rw [← hs0]; split
    ·rw [fail_i]; exact Nat.le_refl _
    ·exact Nat.le_refl _
   have h4 := want_i (T := T) s0 [124]
   generalize wantF T s0 [124] = s1 at *
   have h5 := R.pat s1
   have h6 := want_i (T := T) (r.pat s1).2 [45, 62]
   generalize wantF T (r.pat s1).2 [45, 62] = s2 at *
   have h7 := wt_whole R s2
   have h1 := wt_matL f (isF T (wholeF r s2).2 [124]) ((n.add (r.pat s1).1).add (wholeF r s2).1) (wholeF r s2).2
   rw [wt_add, wt_add] at h1; omega
  ·exact Nat.le_refl _
include R in
theorem wt_atom (s : PS) : wtN (atomF T r s).1 + s.i ≤ (atomF T r s).2.i := by
 have h0 := step_i (T := T) s
 unfold atomF
 split
 ·rw [wt_leaf]; show 0 + s.i ≤ (stepF T s).i; omega
 split
 ·rw [wt_leaf]; show 0 + s.i ≤ (stepF T s).i; omega
 split
 ·rename_i h
  rw [wt_leaf]; have := step_1 (T := T) (s := s) (by omega); show 1 + s.i ≤ (stepF T s).i; omega
 split
 ·rw [wt_leaf]; show 0 + s.i ≤ (stepF T s).i; omega
 dsimp only
 split
 ·show 0 + _ ≤ _; dsimp only; omega
 split
 ·split
  ·have h1 := step_i (T := T) (stepF T s)
   show 0 + _ ≤ _; dsimp only; omega
  ·have h1 := wt_whole R (stepF T s)
   have h2 := want_i (T := T) (wholeF r (stepF T s)).2 [41]
   dsimp only; omega
 split
 ·rename_i h
  have h1 := is_1 h
  have h2 := wt_whole R (stepF T s)
  generalize wholeF r (stepF T s) = x at *
  have h3 := want_i (T := T) x.2 [119, 105, 116, 104]
  generalize wantF T x.2 [119, 105, 116, 104] = s2 at *
  have h4 := text_i (T := T) s2 3
  have h5 := want_i (T := T) (textF T s2 3) [45, 62]
  have h6 := wt_whole R (wantF T (textF T s2 3) [45, 62])
  generalize wholeF r (wantF T (textF T s2 3) [45, 62]) = y at *
  have h7 := want_i (T := T) y.2 [101, 110, 100]
  dsimp only
  have h8 := wt_setKd ((Nd.mk 0 [] 0 (atF T s) [] []).add x.1) 12
  rw [wt_add, show ((Nd.mk 0 [] 0 (atF T s) [] []).add x.1).kd = 0 from rfl, show kwN 0 = 0 from rfl, show kwN 12 = 1 from rfl, wt_mk0, show kwN 0 = 0 from rfl] at h8
  rw [wt_add, wt_setTx]; omega
 split
 ·have h2 := wt_whole R (stepF T s)
  generalize wholeF r (stepF T s) = x at *
  have h3 := want_i (T := T) x.2 [119, 105, 116, 104]
  have h4 := wt_matL (T := T) R (T.length + 1) true (((Nd.mk 0 [] 0 (atF T s) [] []).add x.1).setKd 11) (wantF T x.2 [119, 105, 116, 104])
  generalize matL T r (T.length + 1) true (((Nd.mk 0 [] 0 (atF T s) [] []).add x.1).setKd 11) (wantF T x.2 [119, 105, 116, 104]) = y at *
  have h7 := want_i (T := T) y.2 [101, 110, 100]
  have h8 := wt_setKd ((Nd.mk 0 [] 0 (atF T s) [] []).add x.1) 11
  rw [wt_add, show ((Nd.mk 0 [] 0 (atF T s) [] []).add x.1).kd = 0 from rfl, show kwN 0 = 0 from rfl, show kwN 11 = 0 from rfl, wt_mk0, show kwN 0 = 0 from rfl] at h8
  dsimp only; omega
 ·rw [wt_nd0, fail_i]; omega
theorem wt_two (k : Int) (t : List UInt8) (a : Nat) (x y : Nd) : wtN (.mk k t 0 a [] [x, y]) = kwN k + (wtN x + wtN y) := by simp [wtN, wtL]
include R in
theorem wt_appL : ∀ (f : Nat) (b : Bool) (n : Nd) (s : PS), wtN (appL T r f b n s).1 + s.i ≤ wtN n + (appL T r f b n s).2.i
 | 0, b, n, s => Nat.le_refl _
 | f + 1, b, n, s => by
  have h0 := wt_atom (T := T) R s
  unfold appL
  repeat' split
  ·rw [fail_i]; exact Nat.le_refl _
  ·have h1 := wt_appL f b (n.add (atomF T r s).1) (atomF T r s).2
   rw [wt_add] at h1; omega
  ·have h1 := wt_appL f b (.mk 7 [] 0 n.at_ [] [n, (atomF T r s).1]) (atomF T r s).2
   rw [wt_two, show kwN 7 = 0 from rfl] at h1; omega
  ·exact Nat.le_refl _
theorem kw_app (k : Nat) : kwN (appKinds.getD k 0) = 0 := by
 match k with
 | 0 | 1 | 2 | 3 | 4 | 5 | 6 | 7 => rfl
 | k + 8 => rfl
include R in
theorem wt_app (s : PS) : wtN (appF T r s).1 + s.i ≤ (appF T r s).2.i := by
 have h0 := step_i (T := T) s
 unfold appF
 split
 ·dsimp only
  have h1 := wt_atom (T := T) R (stepF T s)
  have h2 := wt_atom (T := T) R (atomF T r (stepF T s)).2
  split
  ·rw [wt_add, wt_add, wt_mk0, kw_app]; dsimp only; omega
  ·rw [wt_add, wt_mk0, kw_app]; dsimp only; omega
 ·dsimp only
  have h1 := wt_atom (T := T) R s
  have h2 := wt_appL (T := T) R (T.length + 1) (decide (kdF T s = 4)) (atomF T r s).1 (atomF T r s).2
  omega
include R in
theorem wt_prodL : ∀ (f : Nat) (n : Nd) (s : PS), wtN (prodL T r f n s).1 + s.i ≤ wtN n + (prodL T r f n s).2.i
 | 0, n, s => Nat.le_refl _
 | f + 1, n, s => by
  have h0 := step_i (T := T) s
  have h1 := wt_app (T := T) R (stepF T s)
  unfold prodL
  dsimp only
  split
  ·exact Nat.le_refl _
  ·have h2 := wt_prodL f (binN (opF T s [42] [47] [37]) n (appF T r (stepF T s)).1) (appF T r (stepF T s)).2
   rw [show wtN (binN (opF T s [42] [47] [37]) n (appF T r (stepF T s)).1) = _ from wt_two _ _ _ _ _, show kwN 13 = 0 from rfl] at h2
   omega
include R in
theorem wt_prod (s : PS) : wtN (prodF T r s).1 + s.i ≤ (prodF T r s).2.i := by
 have h1 := wt_app (T := T) R s
 have h2 := wt_prodL (T := T) R (T.length + 1) (appF T r s).1 (appF T r s).2
 unfold prodF; omega
include R in
theorem wt_sumL : ∀ (f : Nat) (n : Nd) (s : PS), wtN (sumL T r f n s).1 + s.i ≤ wtN n + (sumL T r f n s).2.i
 | 0, n, s => Nat.le_refl _
 | f + 1, n, s => by
  have h0 := step_i (T := T) s
  have h1 := wt_prod (T := T) R (stepF T s)
  unfold sumL
  dsimp only
  split
  ·exact Nat.le_refl _
  ·have h2 := wt_sumL f (binN (opF T s [43] [45] [94]) n (prodF T r (stepF T s)).1) (prodF T r (stepF T s)).2
   rw [show wtN (binN (opF T s [43] [45] [94]) n (prodF T r (stepF T s)).1) = _ from wt_two _ _ _ _ _, show kwN 13 = 0 from rfl] at h2
   omega
include R in
theorem wt_sum (s : PS) : wtN (sumF T r s).1 + s.i ≤ (sumF T r s).2.i := by
 have h1 := wt_prod (T := T) R s
 have h2 := wt_sumL (T := T) R (T.length + 1) (prodF T r s).1 (prodF T r s).2
 unfold sumF; omega
include R in
theorem wt_cmp (s : PS) : wtN (cmpF T r s).1 + s.i ≤ (cmpF T r s).2.i := by
 have h1 := wt_sum (T := T) R s
 have h2 := step_i (T := T) (sumF T r s).2
 have h3 := wt_sum (T := T) R (stepF T (sumF T r s).2)
 unfold cmpF
 dsimp only
 split
 ·exact h1
 ·rw [show wtN (binN (opF T (sumF T r s).2 [61] [60] [61]) (sumF T r s).1 (sumF T r (stepF T (sumF T r s).2)).1) = _ from wt_two _ _ _ _ _, show kwN 13 = 0 from rfl]
  dsimp only; omega
include R in
theorem wt_inner (s : PS) : wtN (innerF T r s).1 + s.i ≤ (innerF T r s).2.i := by
 unfold innerF
 dsimp only
 split
 ·rename_i h
  have h1 := is_1 h
  have h2 := wt_value (T := T) R ((Nd.mk 0 [] 0 (atF T s) [] []).setKd 8) (stepF T s)
  have hk : (valueF T r ((Nd.mk 0 [] 0 (atF T s) [] []).setKd 8) (stepF T s)).1.kd = 8 := rfl
  rw [show wtN ((Nd.mk 0 [] 0 (atF T s) [] []).setKd 8) = 1 from rfl] at h2
  generalize valueF T r ((Nd.mk 0 [] 0 (atF T s) [] []).setKd 8) (stepF T s) = x at *
  have h3 := want_i (T := T) x.2 [105, 110]
  have h4 := R.exp (wantF T x.2 [105, 110])
  have h5 := wt_setKd x.1 9
  rw [hk, show kwN 8 = 1 from rfl, show kwN 9 = 1 from rfl] at h5
  rw [wt_add]
  dsimp only
  split <;> omega
 split
 ·rename_i h
  have h1 := is_1 h
  have h2 := text_i (T := T) (stepF T s) 3
  have h3 := want_i (T := T) (textF T (stepF T s) 3) [45, 62]
  have h4 := R.exp (wantF T (textF T (stepF T s) 3) [45, 62])
  rw [wt_add, wt_setTx, show wtN ((Nd.mk 0 [] 0 (atF T s) [] []).setKd 6) = 1 from rfl]
  dsimp only; omega
 split
 ·have h0 := step_i (T := T) s
  have h1 := R.exp (stepF T s)
  have h2 := want_i (T := T) (r.exp (stepF T s)).2 [116, 104, 101, 110]
  have h3 := R.exp (wantF T (r.exp (stepF T s)).2 [116, 104, 101, 110])
  have h4 := want_i (T := T) (r.exp (wantF T (r.exp (stepF T s)).2 [116, 104, 101, 110])).2 [101, 108, 115, 101]
  have h5 := R.exp (wantF T (r.exp (wantF T (r.exp (stepF T s)).2 [116, 104, 101, 110])).2 [101, 108, 115, 101])
  rw [wt_add, wt_add, wt_add, show wtN ((Nd.mk 0 [] 0 (atF T s) [] []).setKd 10) = 0 from rfl]
  dsimp only; omega
 ·have h1 := wt_cmp (T := T) R s
  have h2 := step_i (T := T) (cmpF T r s).2
  have h3 := R.exp (stepF T (cmpF T r s).2)
  split
  ·rw [wt_two, show kwN 14 = 0 from rfl]; dsimp only; omega
  ·exact h1
include R in
theorem wt_expF (s : PS) : wtN (expF T r s).1 + s.i ≤ (expF T r s).2.i := by
 have h0 := enter_i (T := T) s
 have h1 := wt_inner (T := T) R (enterF T s)
 unfold expF
 split
 ·dsimp only; rw [up_i]; omega
 ·rw [wt_nd0]; dsimp only; omega
end
theorem wt_rules (T : List Tok) : ∀ n, WtR (rules T n)
 | 0 => ⟨fun s => by show wtN nd0 + _ ≤ _; rw [wt_nd0]; dsimp only [rules]; omega, fun s => by show wtN nd0 + _ ≤ _; rw [wt_nd0]; dsimp only [rules]; omega, fun s => by show wtN nd0 + _ ≤ _; rw [wt_nd0]; dsimp only [rules]; omega⟩
 | n + 1 => ⟨wt_expF (wt_rules T n), wt_pat (wt_rules T n), wt_ty (wt_rules T n)⟩
theorem wt_progL (T : List Tok) : ∀ (f : Nat) (n : Nd) (s : PS), wtN (progL T f n s).1 + s.i ≤ wtN n + (progL T f n s).2.i
 | 0, n, s => Nat.le_refl _
 | f + 1, n, s => by
  have h0 := wt_decl (T := T) (wt_rules T 42) s
  unfold progL
  repeat' split
  ·rw [fail_i]; exact Nat.le_refl _
  ·have h1 := wt_progL T f (n.add (declF T (rules T 42) s).1) (declF T (rules T 42) s).2
   rw [wt_add] at h1; omega
  ·exact Nat.le_refl _
theorem i_progL {T : List Tok} (E : Ends T) : ∀ (f : Nat) (n : Nd) (s : PS), s.i < T.length → Goes T s (progL T f n s).2
 | 0, n, s, h => .refl h
 | f + 1, n, s, h => by
  unfold progL
  repeat' split
  ·exact goes_fail h _
  ·have h1 := goes_decl E (fine_rules E 42) h
   exact h1.trans (i_progL E f _ _ h1.lt)
  ·exact .refl h
/-- A program's names: no more than 2001. -/
theorem prog_wt (l : List UInt8) : wtN (progF l).1 ≤ 2001 := by
 unfold progF
 split
 ·rename_i he
  obtain ⟨T, p, e, h⟩ : ∃ T p e, tokensF l = (T, p, e) := ⟨_, _, _, rfl⟩
  rw [h] at he ⊢
  simp only at he
  subst he
  have ht := of_tokensF h
  have E : Ends T := ⟨List.length_pos_iff.2 ht.ne, fun k hk => (ht.places k T[k] (List.getElem?_eq_getElem hk)).1⟩
  have hl : T.length ≤ 2001 := by
   have := ht.len
   have h2 : l.length ≤ 2000 := by
    unfold tokensF at h
    split at h
    ·injection h with h1 h2; injection h2 with h2 h3; cases h3
    ·omega
   omega
  dsimp only
  unfold progT
  dsimp only
  have h0 : (⟨0, 0, 0, false, 0⟩ : PS).i < T.length := E.pos
  have h1 := wt_progL T (T.length + 1) (.mk 30 [] 0 (atF T ⟨0, 0, 0, false, 0⟩) [] []) ⟨0, 0, 0, false, 0⟩
  have h2 := i_progL E (T.length + 1) (.mk 30 [] 0 (atF T ⟨0, 0, 0, false, 0⟩) [] []) ⟨0, 0, 0, false, 0⟩ h0
  rw [wt_mk0, show kwN 30 = 0 from rfl] at h1
  generalize progL T (T.length + 1) (.mk 30 [] 0 (atF T ⟨0, 0, 0, false, 0⟩) [] []) ⟨0, 0, 0, false, 0⟩ = q at *
  have h3 := want_i (T := T) q.2 [100, 111]
  have h4 := (wt_rules T 42).exp (wantF T q.2 [100, 111])
  have h5 := ((h2.want E [100, 111]).exp (fine_rules E 42)).lt
  generalize (rules T 42).exp (wantF T q.2 [100, 111]) = y at *
  generalize (if kdF T y.2 = 0 then y.2 else failF T y.2 14) = s2
  split
  ·dsimp only
   rw [wt_add]; omega
  ·exact Nat.zero_le _
 ·exact Nat.zero_le _
end Go.Proofs.Ytgjchgmlogbmmaa
