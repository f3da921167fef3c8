/- Plain: the value of digits, by a high and a low part. -/
import Derived.Test.YtihenoielkkdkaaPlainR
namespace Go.Proofs.Ytihenoielkkdkaa
open Go.RowKit
set_option linter.unusedVariables false

theorem valD_app (a b : List UInt8) : valD (a ++ b) = valD a * 10 ^ b.length + valD b := by
  unfold valD
  rw [List.foldl_append]
  generalize a.foldl (fun n c => 10 * n + (c.toNat - 48)) 0 = n
  induction b generalizing n with
  | nil => simp
  | cons c b ih =>
    rw [List.foldl_cons, List.foldl_cons, ih, ih (10 * 0 + (c.toNat - 48)), List.length_cons, Nat.pow_succ]
    rw [Nat.add_mul, Nat.mul_zero, Nat.zero_add, Nat.mul_comm 10 n, Nat.mul_assoc, Nat.mul_comm 10 (10 ^ b.length)]
    omega
theorem valD_one (c : UInt8) : valD [c] = c.toNat - 48 := by simp [valD]
theorem valD_lt (l : List UInt8) (h : l.all isDig = true) : valD l < 10 ^ l.length := by
  induction l with
  | nil => simp [valD]
  | cons c l ih =>
    rw [List.all_cons, Bool.and_eq_true] at h
    have := ih h.2
    have hc : c.toNat - 48 ≤ 9 := by
      have := h.1; simp [isDig] at this; omega
    have e : valD (c :: l) = (c.toNat - 48) * 10 ^ l.length + valD l := by
      rw [show c :: l = [c] ++ l from rfl, valD_app, valD_one]
    rw [e, List.length_cons, Nat.pow_succ]
    have : (c.toNat - 48) * 10 ^ l.length ≤ 9 * 10 ^ l.length := Nat.mul_le_mul_right _ hc
    omega
theorem valD_long (d : List UInt8) (b : Bool) (h : digsOk d b = true) (hl : 19 < d.length) : 4611686018427387904 < valD d := by
  cases d with
  | nil => simp at hl
  | cons c l =>
    unfold digsOk at h
    simp only [Bool.and_eq_true, List.all_cons] at h
    obtain ⟨⟨_, h1⟩, h2, h3⟩ := h
    have hd : decide (1 < (c :: l).length) = true := by simp at hl ⊢; omega
    rw [hd] at h1
    have hc : c ≠ 48 := by
      rintro rfl
      simp at h1
    have hc2 : c.toNat ≠ 48 := fun hh => hc (UInt8.toNat.inj hh)
    have h0 : 1 ≤ c.toNat - 48 := by simp [isDig] at h2; omega
    have e : valD (c :: l) = (c.toNat - 48) * 10 ^ l.length + valD l := by
      rw [show c :: l = [c] ++ l from rfl, valD_app, valD_one]
    have hp : 10 ^ 19 ≤ 10 ^ l.length := Nat.pow_le_pow_right (by decide) (by simp at hl; omega)
    have : 1 * 10 ^ l.length ≤ (c.toNat - 48) * 10 ^ l.length := Nat.mul_le_mul_right _ h0
    rw [e]
    have : (10 : Nat) ^ 19 = 10000000000000000000 := by decide
    omega
/-- The high part and the low part, behind k digits. -/
def hiD (l : List UInt8) (k : Nat) : Nat := valD (l.take (min k (l.length - 9)))
def loD (l : List UInt8) (k : Nat) : Nat := valD ((l.take k).drop (l.length - 9))
theorem hi_lt (l : List UInt8) (k : Nat) (h : l.all isDig = true) (hl : l.length ≤ 19) : hiD l k < 10000000000 := by
  unfold hiD
  have h1 := valD_lt (l.take (min k (l.length - 9))) (by rw [List.all_eq_true] at h ⊢; exact fun x hx => h x (List.mem_of_mem_take hx))
  have h2 : 10 ^ (l.take (min k (l.length - 9))).length ≤ 10 ^ 10 := Nat.pow_le_pow_right (by decide) (by rw [List.length_take]; omega)
  have : (10 : Nat) ^ 10 = 10000000000 := by decide
  omega
theorem lo_lt (l : List UInt8) (k : Nat) (h : l.all isDig = true) (hk : k ≤ l.length) : loD l k < 1000000000 := by
  unfold loD
  have h1 := valD_lt ((l.take k).drop (l.length - 9)) (by rw [List.all_eq_true] at h ⊢; exact fun x hx => h x (List.mem_of_mem_take (List.mem_of_mem_drop hx)))
  have h2 : 10 ^ ((l.take k).drop (l.length - 9)).length ≤ 10 ^ 9 := Nat.pow_le_pow_right (by decide) (by rw [List.length_drop, List.length_take]; omega)
  have : (10 : Nat) ^ 9 = 1000000000 := by decide
  omega
theorem hi_step {d : ByteArray} {k : Nat} (h : k < d.size) (hh : 9 < d.size - k) : hiD d.data.toList (k + 1) = 10 * hiD d.data.toList k + (d[k].toNat - 48) ∧ loD d.data.toList (k + 1) = loD d.data.toList k := by
  have hl : d.data.toList.length = d.size := by simp
  unfold hiD loD
  rw [hl, show min (k + 1) (d.size - 9) = k + 1 from by omega, show min k (d.size - 9) = k from by omega, take_get d k h, valD_snoc]
  refine ⟨rfl, ?_⟩
  rw [List.drop_eq_nil_of_le (by simp; omega), List.drop_eq_nil_of_le (by simp; omega)]
theorem lo_step {d : ByteArray} {k : Nat} (h : k < d.size) (hh : d.size - k ≤ 9) : hiD d.data.toList (k + 1) = hiD d.data.toList k ∧ loD d.data.toList (k + 1) = 10 * loD d.data.toList k + (d[k].toNat - 48) := by
  have hl : d.data.toList.length = d.size := by simp
  unfold hiD loD
  rw [hl, show min (k + 1) (d.size - 9) = d.size - 9 from by omega, show min k (d.size - 9) = d.size - 9 from by omega, take_get d k h]
  refine ⟨rfl, ?_⟩
  rw [List.drop_append_of_le_length (by simp; omega), valD_snoc]
theorem hi_lo_end (d : ByteArray) : valD d.data.toList = hiD d.data.toList d.size * 1000000000 + loD d.data.toList d.size := by
  have hl : d.data.toList.length = d.size := by simp
  unfold hiD loD
  rw [hl, show min d.size (d.size - 9) = d.size - 9 from by omega, List.take_of_length_le (by simp : d.data.toList.length ≤ d.size)]
  conv => lhs; rw [← List.take_append_drop (d.size - 9) d.data.toList]
  rw [valD_app, List.length_drop, hl]
  by_cases h9 : 9 ≤ d.size
  · rw [show d.size - (d.size - 9) = 9 from by omega]
  · rw [show d.size - 9 = 0 from by omega]; simp [valD]
end Go.Proofs.Ytihenoielkkdkaa
