/- The walks of layer 4: numbers. -/
import Derived.Test.YtmjjjnmfkdidgaaDoorWalkC
namespace Go.Proofs.YtmjjjnmfkdidgaaDoor
open Go.RowKit
set_option linter.unusedVariables false
attribute [local go_sem ↓] Go.wp_at_zero Go.wp_at_succ

set_option maxRecDepth 100000 in
theorem trim_any (s : ByteArray) (w : World) (hs : s.size ≤ 10000) : Calls Tryd.prog 38 #[.string s, .string ⟨#[48]⟩] w fun e w' => e = .returned (.string (noN s)) ∧ w = w' := by
  have CT := Lib.hid (trimb_any s w hs)
  rcases Nat.eq_zero_or_pos s.size with h0 | h0
  · have hs0 : s = ⟨#[]⟩ := ba_ext (by rw [show s.data.toList = [] from List.eq_nil_of_length_eq_zero (by rw [size_list]; exact h0)])
    subst hs0
    clear CT h0 hs
    go_enter Tryd.func38, Tryd.ntmps38
    go_wp2
    go_ret
    exact ⟨rfl, rfl⟩
  · have he := S.emp_f h0
    have he2 := S.emp_n h0
    go_enter Tryd.func38, Tryd.ntmps38
    go_wp2_with (go_at_call 47; refine CT.out.mono ?_; rintro e w' ⟨rfl, rfl⟩)
    go_ret
    exact ⟨rfl, rfl⟩
/-- Digits without noughts ahead; "0" where nothing is left. -/
def dg (s : ByteArray) : ByteArray := if (noN s).size = 0 then ⟨#[48]⟩ else noN s
theorem noN_list (s : ByteArray) : (noN s).data.toList = s.data.toList.dropWhile (· == 48) := by simp [noN]
theorem valD_drop : ∀ (l : List UInt8), I.valD (l.dropWhile (· == 48)) = valT l
  | [] => rfl
  | x :: l => by
    rw [List.dropWhile_cons]
    split
    · rename_i h
      have hx : x = 48 := by simpa using h
      rw [valD_drop l, hx]; rfl
    · rfl
theorem dg_ok {s : ByteArray} (h : ∀ c ∈ s.data.toList, digB c = true) : I.digsOk (dg s).data.toList false = true ∧ I.valD (dg s).data.toList = valT s.data.toList := by
  have hv := valD_drop s.data.toList
  rw [← noN_list] at hv
  unfold dg
  split
  · rename_i h0
    refine ⟨by decide, ?_⟩
    have : (noN s).data.toList = [] := List.eq_nil_of_length_eq_zero (by rw [size_list]; exact h0)
    rw [this] at hv
    rw [← hv]; decide
  · rename_i h0
    refine ⟨?_, hv⟩
    have hl := noN_list s
    have hne : (noN s).data.toList ≠ [] := fun hh => h0 (by rw [← size_list, hh]; rfl)
    have hh : ((noN s).data.toList.head? == some 48) = false := by
      rw [hl]
      have := List.head?_dropWhile_not (· == (48 : UInt8)) s.data.toList
      rcases hq : (s.data.toList.dropWhile (· == 48)).head? with _ | x
      · rfl
      · rw [hq] at this
        simp at this
        simpa using this
    unfold I.digsOk
    rw [hh]
    simp only [Bool.and_eq_true, Bool.not_eq_true', List.isEmpty_eq_false_iff, Bool.false_and, Bool.not_false]
    refine ⟨⟨hne, trivial⟩, ?_⟩
    rw [List.all_eq_true]
    intro c hc
    exact h c ((List.dropWhile_sublist _).subset (hl ▸ hc))
end Go.Proofs.YtmjjjnmfkdidgaaDoor
