/- The walks of layer 4: noughts ahead, digits. -/
import Derived.Test.YtmjjjnmfkdidgaaDoorWalkB
namespace Go.Proofs.YtmjjjnmfkdidgaaDoor
open Go.RowKit
set_option linter.unusedVariables false
attribute [local go_sem ↓] Go.wp_at_zero Go.wp_at_succ

theorem ba_eq {t : ByteArray} {l : List UInt8} (h : t.data.toList = l) : t = ⟨l.toArray⟩ := by
  cases t; simp at h; subst h; simp
theorem ba_ext {t u : ByteArray} (h : t.data.toList = u.data.toList) : t = u := (ba_eq h).trans (by cases u; simp)
theorem tail_list (t : ByteArray) : (t.extract 1 t.size).data.toList = t.data.toList.drop 1 := by
  rw [ByteArray.data_extract, Array.toList_extract]
  simp
  exact List.take_of_length_le (by simp)
theorem drop_while {P : UInt8 → Bool} : ∀ {l : List UInt8} {k : Nat}, k ≤ l.length → (∀ j (c : UInt8), j < k → l[j]? = some c → P c = true) → (k = l.length ∨ ∃ c, l[k]? = some c ∧ P c = false) → l.dropWhile P = l.drop k
  | [], k, h, _, _ => by simp
  | x :: l, 0, _, _, h => by
    rcases h with h | ⟨c, h1, h2⟩
    · simp at h
    · simp at h1; subst h1; rw [List.dropWhile_cons, h2]; rfl
  | x :: l, k + 1, h, hp, he => by
    have hx := hp 0 x (by omega) rfl
    rw [List.dropWhile_cons, hx]
    simp only [if_true, List.drop_succ_cons]
    exact drop_while (by simpa using h) (fun j c hj hc => hp (j + 1) c (by omega) (by simpa using hc)) (by simpa using he)
/-- Without noughts ahead. -/
def noN (s : ByteArray) : ByteArray := ⟨(s.data.toList.dropWhile (· == 48)).toArray⟩
theorem trimb_any (s : ByteArray) (w : World) (hs : s.size ≤ 10000) : Calls Tryd.prog 47 #[.string s, .int .u8 48] w fun e w' => e = .returned (.string (noN s)) ∧ w = w' := by
  go_enter Tryd.func47, Tryd.ntmps47
  go_wp2_with fail
  go_loopg [0, 13] s.size (fun gk v _ wr => ∃ (t : ByteArray) (k : Nat), v = .string t ∧ k + gk = s.size ∧ t.data.toList = s.data.toList.drop k ∧ (∀ j (c : UInt8), j < k → s.data.toList[j]? = some c → (c == 48) = true) ∧ w = wr)
  case atStart => exact ⟨s, 0, rfl, by omega, by simp, fun j c h => by omega, rfl⟩
  case round =>
    obtain ⟨t, k, rfl, hkg, ht, hp, rfl⟩ := hrel
    have HP := Lib.hid hp
    have HT := Lib.hid ht
    have hts : t.size = s.size - k := by
      have := congrArg List.length ht
      rw [List.length_drop, size_list, size_list] at this; exact this
    clear hp ht
    by_cases hlt : k < s.size
    · have h0 : 0 < t.size := by omega
      have d1 : decide ((0 : Int) < (t.size : Int)) = true := decide_eq_true (by omega)
      have d1n : decide (0 < t.size) = true := decide_eq_true h0
      have hg : s.data.toList[k]? = some t[0] := by
        have h1 := get_list t 0 h0
        rw [HT.out, List.getElem?_drop] at h1
        simpa using h1
      have HG := Lib.hid hg
      clear hg
      by_cases hc : t[0] = 48
      · have t1 : ((t[0].toNat : Int) == 48) = true := by rw [hc]; rfl
        have HP2 : Hid (∀ j (c : UInt8), j < k + 1 → s.data.toList[j]? = some c → (c == 48) = true) := fun j c hj h => by
          rcases Nat.lt_or_ge j k with h1 | h1
          · exact HP.out j c h1 h
          · obtain rfl : j = k := by omega
            rw [HG.out] at h; cases h; rw [hc]; rfl
        have HT2 : Hid ((t.extract 1 (s.size - k)).data.toList = s.data.toList.drop (k + 1)) := by
          show _ = _; rw [← hts, tail_list, HT.out, List.drop_drop]
        clear hc
        go_wp2_with fail
        go_roundg (gk - 1)
        case measure => omega
        case rel => exact ⟨_, k + 1, rfl, by omega, HT2.out, HP2.out, rfl⟩
      · have t1 : ((t[0].toNat : Int) == 48) = false := by
          rw [beq_eq_false_iff_ne]; intro h; exact hc (UInt8.toNat_inj.1 (by have : t[0].toNat = 48 := by omega
                                                                             rw [this]; rfl))
        have HE : Hid (t = noN s) := ba_eq (by
          rw [HT.out]
          exact (drop_while (by rw [size_list]; omega) HP.out (.inr ⟨_, HG.out, by rw [beq_eq_false_iff_ne]; exact hc⟩)).symm)
        clear hc
        go_wp2_with fail
        go_ret
        exact ⟨by rw [← HE.out]; rfl, rfl⟩
    · have d1 : decide ((0 : Int) < (t.size : Int)) = false := decide_eq_false (by omega)
      have d1n : decide (0 < t.size) = false := decide_eq_false (by omega)
      have HE : Hid (t = noN s) := ba_eq (by
        rw [HT.out]
        exact (drop_while (by rw [size_list]; omega) HP.out (.inl (by rw [size_list]; omega))).symm)
      go_wp2_with fail
      go_ret
      exact ⟨by rw [← HE.out]; rfl, rfl⟩
end Go.Proofs.YtmjjjnmfkdidgaaDoor
