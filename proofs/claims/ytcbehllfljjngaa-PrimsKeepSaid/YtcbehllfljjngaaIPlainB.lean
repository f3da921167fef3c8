/- Plain arithmetic: the product bit by bit; what a sum of integers of 63 bits comes to. -/
import Derived.Test.YtcbehllfljjngaaIPlain
namespace Go.Proofs.Ytcbehllfljjngaa.I
open Go.RowKit

def pw (k : Nat) : Int := 2 ^ (63 - k)
theorem pw_step (k : Nat) (C : Int) (hk : k < 63) (h : C < pw k) : C / 2 < pw (k + 1) := by
  unfold pw at *
  have e : 63 - k = (63 - (k + 1)) + 1 := by omega
  rw [e, Int.pow_succ] at h
  omega
/-- After k bits of the second number: what is still to come, and what is there, come to the product. -/
structure MulRel (T : Int) (k : Nat) (A C O : Int) : Prop where
  sum : cw (O + A * C) = cw T
  a0 : -4611686018427387904 ≤ A
  a1 : A ≤ 4611686018427387903
  c0 : 0 ≤ C
  c1 : C < pw k
  o0 : -4611686018427387904 ≤ O
  o1 : O ≤ 4611686018427387903
theorem mul_start (a c : Int) (h0 : -4611686018427387904 ≤ a) (h1 : a ≤ 4611686018427387903) (c0 : 0 ≤ c) (c1 : c ≤ 4611686018427387904) : MulRel (a * c) 0 a c 0 :=
  ⟨by rw [Int.zero_add], h0, h1, c0, by unfold pw; simp; omega, by decide, by decide⟩
theorem mul_odd {T : Int} {k : Nat} {A C O : Int} (h : MulRel T k A C O) (hk : k < 63) (hb : C % 2 = 1) : MulRel T (k + 1) (cw (A + A)) (C / 2) (cw (O + A)) := by
  refine ⟨?_, cw_lo _, cw_hi _, by have := h.c0; omega, pw_step k C hk h.c1, cw_lo _, cw_hi _⟩
  rw [← h.sum, cw_add_l, ← cw_add_r, cw_mul_l, cw_add_r]
  have e : C = 2 * (C / 2) + 1 := by omega
  congr 1
  generalize C / 2 = q at *
  subst e
  rw [Int.add_mul, Int.mul_add, ← Int.mul_assoc, Int.mul_comm A 2, Int.mul_assoc, Int.mul_one]
  omega
theorem mul_even {T : Int} {k : Nat} {A C O : Int} (h : MulRel T k A C O) (hk : k < 63) (hb : C % 2 = 0) : MulRel T (k + 1) (cw (A + A)) (C / 2) O := by
  refine ⟨?_, cw_lo _, cw_hi _, by have := h.c0; omega, pw_step k C hk h.c1, h.o0, h.o1⟩
  rw [← h.sum, ← cw_add_r, cw_mul_l, cw_add_r]
  have e : C = 2 * (C / 2) := by omega
  congr 1
  generalize C / 2 = q at *
  subst e
  rw [Int.add_mul, ← Int.mul_assoc, Int.mul_comm A 2, Int.mul_assoc]
  omega
theorem mul_end {T : Int} {A C O : Int} (h : MulRel T 63 A C O) : O = cw T := by
  have h1 := h.c1
  have h0 := h.c0
  have e : C = 0 := by unfold pw at h1; simp at h1; omega
  have := h.sum
  rw [e, Int.mul_zero, Int.add_zero, cw_id O h.o0 h.o1] at this
  exact this
theorem tmod_neg2 (C : Int) (h : 0 ≤ C) : (-C).tmod 2 = -(C % 2) := by
  rw [Int.neg_tmod, Int.tmod_eq_emod_of_nonneg h]
theorem tdiv_neg2 (C : Int) (h : 0 ≤ C) : (-C).tdiv 2 = -(C / 2) := by
  rw [Int.neg_tdiv, Int.tdiv_eq_ediv_of_nonneg h]
end Go.Proofs.Ytcbehllfljjngaa.I
