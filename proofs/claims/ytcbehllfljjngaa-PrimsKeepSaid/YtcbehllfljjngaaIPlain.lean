/- Plain arithmetic of integers of 63 bits: wrapping, products bit by bit, quotients; no program in sight. -/
import Derived.WalkKit
import Derived.Laws.BitsAllLaws
namespace Go.Proofs.Ytcbehllfljjngaa.I
open Go.RowKit

/-- A number wrapped to 63 bits. -/
def cw (n : Int) : Int := (n + 4611686018427387904) % 9223372036854775808 - 4611686018427387904

theorem cw_shift (n : Int) : wrap64 (n * 2) / 2 = cw n := by unfold wrap64 cw; omega
theorem cw_wrap (n : Int) : cw (wrap64 n) = cw n := by unfold wrap64 cw; omega
theorem cw_id (n : Int) (h : -4611686018427387904 ≤ n) (h' : n ≤ 4611686018427387903) : cw n = n := by unfold cw; omega
theorem cw_lo (n : Int) : -4611686018427387904 ≤ cw n := by unfold cw; omega
theorem cw_hi (n : Int) : cw n ≤ 4611686018427387903 := by unfold cw; omega
theorem cw_ex (n : Int) : ∃ k : Int, cw n = n + k * 9223372036854775808 := by
  refine ⟨-((n + 4611686018427387904) / 9223372036854775808), ?_⟩
  unfold cw; omega
theorem cw_of (n m k : Int) (h : n = m + k * 9223372036854775808) : cw n = cw m := by unfold cw; omega
theorem cw_uniq (n m k : Int) (h : n = m + k * 9223372036854775808) (h1 : -4611686018427387904 ≤ n) (h2 : n ≤ 4611686018427387903) : n = cw m := by
  rw [← cw_of n m k h, cw_id n h1 h2]
theorem cw_cw (n : Int) : cw (cw n) = cw n := cw_id _ (cw_lo n) (cw_hi n)
/-- The reference's wrap, by one step. -/
theorem cw_up (n : Int) (h : 4611686018427387903 < n) (h' : n ≤ 9223372036854775807) : wrap64 (wrap64 (n - 4611686018427387904) - 4611686018427387904) = cw n := by
  unfold wrap64 cw; omega
theorem cw_up' (n : Int) (h : 4611686018427387903 < n) (h' : n ≤ 9223372036854775807) : n - 4611686018427387904 - 4611686018427387904 = cw n := by
  unfold cw; omega
theorem cw_down (n : Int) (h : n < -4611686018427387904) (h' : -9223372036854775808 ≤ n) : n + 4611686018427387904 + 4611686018427387904 = cw n := by
  unfold cw; omega
theorem cw_add_l (a b : Int) : cw (cw a + b) = cw (a + b) := by
  obtain ⟨k, h⟩ := cw_ex a; exact cw_of _ _ k (by omega)
theorem cw_add_r (a b : Int) : cw (a + cw b) = cw (a + b) := by
  obtain ⟨k, h⟩ := cw_ex b; exact cw_of _ _ k (by omega)
theorem cw_sub_l (a b : Int) : cw (cw a - b) = cw (a - b) := by
  obtain ⟨k, h⟩ := cw_ex a; exact cw_of _ _ k (by omega)
theorem cw_sub_r (a b : Int) : cw (a - cw b) = cw (a - b) := by
  obtain ⟨k, h⟩ := cw_ex b; exact cw_of _ _ (-k) (by omega)
theorem cw_neg (a : Int) : cw (-cw a) = cw (-a) := by
  obtain ⟨k, h⟩ := cw_ex a; exact cw_of _ _ (-k) (by omega)
theorem cw_mul_l (a b : Int) : cw (cw a * b) = cw (a * b) := by
  obtain ⟨k, h⟩ := cw_ex a
  refine cw_of _ _ (k * b) ?_
  rw [h, Int.add_mul, Int.mul_right_comm]
theorem cw_mul_r (a b : Int) : cw (a * cw b) = cw (a * b) := by
  rw [Int.mul_comm, cw_mul_l, Int.mul_comm]

/-! Bits of a word. -/
theorem and_one (n : Int) : bits .and .i64 n 1 = n % 2 := by
  have h : bits .and .i64 n 1 = IntKind.i64.wrap ((BitVec.ofInt 64 n &&& BitVec.ofInt 64 1).toNat : Int) := rfl
  rw [h, BitVec.toNat_and]
  have e1 : (BitVec.ofInt 64 1).toNat = 1 := by decide
  rw [e1, Nat.and_one_is_mod, BitVec.toNat_ofInt]
  unfold IntKind.wrap
  simp [IntKind.bits, IntKind.signed]
  omega
theorem or_one (n : Int) : bits .or .i64 (wrap64 (n * 2)) 1 = 2 * cw n + 1 := by
  have h : bits .or .i64 (wrap64 (n * 2)) 1 = IntKind.i64.wrap ((BitVec.ofInt 64 (wrap64 (n * 2)) ||| BitVec.ofInt 64 1).toNat : Int) := rfl
  rw [h, BitVec.toNat_or]
  have e1 : (BitVec.ofInt 64 1).toNat = 1 := by decide
  rw [e1, nat_join 1 _ 1 (by rw [BitVec.toNat_ofInt]; unfold wrap64; omega) (by decide), BitVec.toNat_ofInt]
  unfold IntKind.wrap
  simp [IntKind.bits, IntKind.signed]
  unfold wrap64 cw
  omega
end Go.Proofs.Ytcbehllfljjngaa.I
