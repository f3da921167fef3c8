/- The walks of layer 4: what a byte may be. -/
import Derived.Test.YtmjjjnmfkdidgaaDoorPlain
import Derived.Test.YtmjjjnmfkdidgaaDoorMem
import Derived.Test.YtmjjjnmfkdidgaaDoorIq
import Derived.Test.YtmjjjnmfkdidgaaDoorShelf
namespace Go.Proofs.YtmjjjnmfkdidgaaDoor
open Go.RowKit
set_option linter.unusedVariables false
attribute [local go_sem ↓] Go.wp_at_zero Go.wp_at_succ

theorem rt_b {a b : Bool} (h : a = b) : Ending.returned (.bool a) = .returned (.bool b) := by rw [h]
theorem digit_any (c : UInt8) (w : World) : Calls Tryd.prog 24 #[.int .u8 (c.toNat : Int)] w fun e w' => e = .returned (.bool (digB c)) ∧ w = w' := by
  have HF : Hid (digB c = (decide (48 ≤ c.toNat) && decide (c.toNat ≤ 57))) := rfl
  have hc := c.toNat_lt
  generalize c.toNat = n at *
  by_cases h1 : 48 ≤ n
  · have d1 : decide (48 ≤ (n : Int)) = true := decide_eq_true (by omega)
    by_cases h2 : n ≤ 57
    · have d2 : decide ((n : Int) ≤ 57) = true := decide_eq_true (by omega)
      have HG : Hid (digB c = true) := by show _ = _; rw [HF.out, decide_eq_true h1, decide_eq_true h2]; rfl
      rw [HG.out]
      go_enter Tryd.func24, Tryd.ntmps24
      go_wp2
      go_ret
      exact ⟨rt_b (by simp [*]), rfl⟩
    · have d2 : decide ((n : Int) ≤ 57) = false := decide_eq_false (by omega)
      have HG : Hid (digB c = false) := by show _ = _; rw [HF.out, decide_eq_true h1, decide_eq_false h2]; rfl
      rw [HG.out]
      go_enter Tryd.func24, Tryd.ntmps24
      go_wp2
      go_ret
      exact ⟨rt_b (by simp [*]), rfl⟩
  · have d1 : decide (48 ≤ (n : Int)) = false := decide_eq_false (by omega)
    have HG : Hid (digB c = false) := by show _ = _; rw [HF.out, decide_eq_false h1]; rfl
    rw [HG.out]
    go_enter Tryd.func24, Tryd.ntmps24
    go_wp2
    go_ret
    exact ⟨rt_b (by simp [*]), rfl⟩
theorem small_any (c : UInt8) (w : World) : Calls Tryd.prog 27 #[.int .u8 (c.toNat : Int)] w fun e w' => e = .returned (.bool (smaB c)) ∧ w = w' := by
  have HF : Hid (smaB c = (decide (97 ≤ c.toNat) && decide (c.toNat ≤ 122))) := rfl
  have hc := c.toNat_lt
  generalize c.toNat = n at *
  by_cases h1 : 97 ≤ n
  · have d1 : decide (97 ≤ (n : Int)) = true := decide_eq_true (by omega)
    by_cases h2 : n ≤ 122
    · have d2 : decide ((n : Int) ≤ 122) = true := decide_eq_true (by omega)
      have HG : Hid (smaB c = true) := by show _ = _; rw [HF.out, decide_eq_true h1, decide_eq_true h2]; rfl
      rw [HG.out]
      go_enter Tryd.func27, Tryd.ntmps27
      go_wp2
      go_ret
      exact ⟨rt_b (by simp [*]), rfl⟩
    · have d2 : decide ((n : Int) ≤ 122) = false := decide_eq_false (by omega)
      have HG : Hid (smaB c = false) := by show _ = _; rw [HF.out, decide_eq_true h1, decide_eq_false h2]; rfl
      rw [HG.out]
      go_enter Tryd.func27, Tryd.ntmps27
      go_wp2
      go_ret
      exact ⟨rt_b (by simp [*]), rfl⟩
  · have d1 : decide (97 ≤ (n : Int)) = false := decide_eq_false (by omega)
    have HG : Hid (smaB c = false) := by show _ = _; rw [HF.out, decide_eq_false h1]; rfl
    rw [HG.out]
    go_enter Tryd.func27, Tryd.ntmps27
    go_wp2
    go_ret
    exact ⟨rt_b (by simp [*]), rfl⟩
theorem large_any (c : UInt8) (w : World) : Calls Tryd.prog 28 #[.int .u8 (c.toNat : Int)] w fun e w' => e = .returned (.bool (larB c)) ∧ w = w' := by
  have HF : Hid (larB c = (decide (65 ≤ c.toNat) && decide (c.toNat ≤ 90))) := rfl
  have hc := c.toNat_lt
  generalize c.toNat = n at *
  by_cases h1 : 65 ≤ n
  · have d1 : decide (65 ≤ (n : Int)) = true := decide_eq_true (by omega)
    by_cases h2 : n ≤ 90
    · have d2 : decide ((n : Int) ≤ 90) = true := decide_eq_true (by omega)
      have HG : Hid (larB c = true) := by show _ = _; rw [HF.out, decide_eq_true h1, decide_eq_true h2]; rfl
      rw [HG.out]
      go_enter Tryd.func28, Tryd.ntmps28
      go_wp2
      go_ret
      exact ⟨rt_b (by simp [*]), rfl⟩
    · have d2 : decide ((n : Int) ≤ 90) = false := decide_eq_false (by omega)
      have HG : Hid (larB c = false) := by show _ = _; rw [HF.out, decide_eq_true h1, decide_eq_false h2]; rfl
      rw [HG.out]
      go_enter Tryd.func28, Tryd.ntmps28
      go_wp2
      go_ret
      exact ⟨rt_b (by simp [*]), rfl⟩
  · have d1 : decide (65 ≤ (n : Int)) = false := decide_eq_false (by omega)
    have HG : Hid (larB c = false) := by show _ = _; rw [HF.out, decide_eq_false h1]; rfl
    rw [HG.out]
    go_enter Tryd.func28, Tryd.ntmps28
    go_wp2
    go_ret
    exact ⟨rt_b (by simp [*]), rfl⟩
theorem rdigit_any (c : UInt8) (w : World) : Calls Tryd.prog 32 #[.int .u8 (c.toNat : Int)] w fun e w' => e = .returned (.bool (digB c)) ∧ w = w' := by
  have HF : Hid (digB c = (decide (48 ≤ c.toNat) && decide (c.toNat ≤ 57))) := rfl
  have hc := c.toNat_lt
  generalize c.toNat = n at *
  by_cases h1 : 48 ≤ n
  · have d1 : decide (48 ≤ (n : Int)) = true := decide_eq_true (by omega)
    by_cases h2 : n ≤ 57
    · have d2 : decide ((n : Int) ≤ 57) = true := decide_eq_true (by omega)
      have HG : Hid (digB c = true) := by show _ = _; rw [HF.out, decide_eq_true h1, decide_eq_true h2]; rfl
      rw [HG.out]
      go_enter Tryd.func32, Tryd.ntmps32
      go_wp2
      go_ret
      exact ⟨rt_b (by simp [*]), rfl⟩
    · have d2 : decide ((n : Int) ≤ 57) = false := decide_eq_false (by omega)
      have HG : Hid (digB c = false) := by show _ = _; rw [HF.out, decide_eq_true h1, decide_eq_false h2]; rfl
      rw [HG.out]
      go_enter Tryd.func32, Tryd.ntmps32
      go_wp2
      go_ret
      exact ⟨rt_b (by simp [*]), rfl⟩
  · have d1 : decide (48 ≤ (n : Int)) = false := decide_eq_false (by omega)
    have HG : Hid (digB c = false) := by show _ = _; rw [HF.out, decide_eq_false h1]; rfl
    rw [HG.out]
    go_enter Tryd.func32, Tryd.ntmps32
    go_wp2
    go_ret
    exact ⟨rt_b (by simp [*]), rfl⟩
theorem rsmall_any (c : UInt8) (w : World) : Calls Tryd.prog 34 #[.int .u8 (c.toNat : Int)] w fun e w' => e = .returned (.bool (smaB c)) ∧ w = w' := by
  have HF : Hid (smaB c = (decide (97 ≤ c.toNat) && decide (c.toNat ≤ 122))) := rfl
  have hc := c.toNat_lt
  generalize c.toNat = n at *
  by_cases h1 : 97 ≤ n
  · have d1 : decide (97 ≤ (n : Int)) = true := decide_eq_true (by omega)
    by_cases h2 : n ≤ 122
    · have d2 : decide ((n : Int) ≤ 122) = true := decide_eq_true (by omega)
      have HG : Hid (smaB c = true) := by show _ = _; rw [HF.out, decide_eq_true h1, decide_eq_true h2]; rfl
      rw [HG.out]
      go_enter Tryd.func34, Tryd.ntmps34
      go_wp2
      go_ret
      exact ⟨rt_b (by simp [*]), rfl⟩
    · have d2 : decide ((n : Int) ≤ 122) = false := decide_eq_false (by omega)
      have HG : Hid (smaB c = false) := by show _ = _; rw [HF.out, decide_eq_true h1, decide_eq_false h2]; rfl
      rw [HG.out]
      go_enter Tryd.func34, Tryd.ntmps34
      go_wp2
      go_ret
      exact ⟨rt_b (by simp [*]), rfl⟩
  · have d1 : decide (97 ≤ (n : Int)) = false := decide_eq_false (by omega)
    have HG : Hid (smaB c = false) := by show _ = _; rw [HF.out, decide_eq_false h1]; rfl
    rw [HG.out]
    go_enter Tryd.func34, Tryd.ntmps34
    go_wp2
    go_ret
    exact ⟨rt_b (by simp [*]), rfl⟩
theorem rlarge_any (c : UInt8) (w : World) : Calls Tryd.prog 35 #[.int .u8 (c.toNat : Int)] w fun e w' => e = .returned (.bool (larB c)) ∧ w = w' := by
  have HF : Hid (larB c = (decide (65 ≤ c.toNat) && decide (c.toNat ≤ 90))) := rfl
  have hc := c.toNat_lt
  generalize c.toNat = n at *
  by_cases h1 : 65 ≤ n
  · have d1 : decide (65 ≤ (n : Int)) = true := decide_eq_true (by omega)
    by_cases h2 : n ≤ 90
    · have d2 : decide ((n : Int) ≤ 90) = true := decide_eq_true (by omega)
      have HG : Hid (larB c = true) := by show _ = _; rw [HF.out, decide_eq_true h1, decide_eq_true h2]; rfl
      rw [HG.out]
      go_enter Tryd.func35, Tryd.ntmps35
      go_wp2
      go_ret
      exact ⟨rt_b (by simp [*]), rfl⟩
    · have d2 : decide ((n : Int) ≤ 90) = false := decide_eq_false (by omega)
      have HG : Hid (larB c = false) := by show _ = _; rw [HF.out, decide_eq_true h1, decide_eq_false h2]; rfl
      rw [HG.out]
      go_enter Tryd.func35, Tryd.ntmps35
      go_wp2
      go_ret
      exact ⟨rt_b (by simp [*]), rfl⟩
  · have d1 : decide (65 ≤ (n : Int)) = false := decide_eq_false (by omega)
    have HG : Hid (larB c = false) := by show _ = _; rw [HF.out, decide_eq_false h1]; rfl
    rw [HG.out]
    go_enter Tryd.func35, Tryd.ntmps35
    go_wp2
    go_ret
    exact ⟨rt_b (by simp [*]), rfl⟩
end Go.Proofs.YtmjjjnmfkdidgaaDoor
