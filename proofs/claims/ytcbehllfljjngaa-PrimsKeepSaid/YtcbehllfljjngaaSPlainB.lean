/- Plain: a text as numbers, byte by byte. -/
import Derived.Test.YtcbehllfljjngaaSPlain
namespace Go.Proofs.Ytcbehllfljjngaa
open Go.RowKit
set_option linter.unusedVariables false

/-- The numbers behind k bytes. -/
def numsR (l : List UInt8) (k : Nat) : List Int := (List.range ((k + 6) / 7)).map fun i => (leV ((l.drop (7 * i)).take (min 7 (k - 7 * i))) : Int)
def packR (l : List UInt8) (k : Nat) : List Int := (l.length : Int) :: numsR l k
theorem numsR_len (l : List UInt8) (k : Nat) : (numsR l k).length = (k + 6) / 7 := by simp [numsR]
theorem packR_len (l : List UInt8) (k : Nat) : (packR l k).length = (k + 6) / 7 + 1 := by simp [packR, numsR_len]
theorem packR_end (l : List UInt8) : packR l l.length = packF l := by
  unfold packR packF numsR nums
  congr 1
  apply List.map_congr_left
  intro i hi
  rw [List.mem_range] at hi
  congr 2
  by_cases h : 7 ≤ l.length - 7 * i
  · rw [show min 7 (l.length - 7 * i) = 7 from by omega]
  · rw [List.take_of_length_le (by rw [List.length_drop]; omega), List.take_of_length_le (by rw [List.length_drop]; omega)]
theorem numsR_get (l : List UInt8) (k i : Nat) (h : i < (k + 6) / 7) : (numsR l k)[i]? = some (leV ((l.drop (7 * i)).take (min 7 (k - 7 * i))) : Int) := by
  unfold numsR
  rw [List.getElem?_map, List.getElem?_range h]; rfl
theorem numsR_old (l : List UInt8) (k i : Nat) (h : 7 * i + 7 ≤ k) : (leV ((l.drop (7 * i)).take (min 7 (k + 1 - 7 * i))) : Int) = (leV ((l.drop (7 * i)).take (min 7 (k - 7 * i))) : Int) := by
  rw [show min 7 (k + 1 - 7 * i) = 7 from by omega, show min 7 (k - 7 * i) = 7 from by omega]
/-- A byte at which a number begins. -/
theorem numsR_new (s : ByteArray) (k : Nat) (hk : k < s.size) (h7 : k % 7 = 0) : numsR s.data.toList (k + 1) = numsR s.data.toList k ++ [((s[k].toNat * 256 ^ (k % 7) : Nat) : Int)] := by
  have e : (k + 1 + 6) / 7 = (k + 6) / 7 + 1 := by omega
  unfold numsR
  rw [e, List.range_succ, List.map_append]
  congr 1
  · apply List.map_congr_left
    intro i hi
    rw [List.mem_range] at hi
    exact numsR_old _ _ _ (by omega)
  · have ek : 7 * ((k + 6) / 7) = k := by omega
    rw [List.map_cons, List.map_nil, ek, h7, show min 7 (k + 1 - k) = 0 + 1 from by omega, leV_step s k 0 (by omega)]
    simp [leV]
/-- A byte within a number. -/
theorem numsR_in (s : ByteArray) (k : Nat) (hk : k < s.size) (h7 : k % 7 ≠ 0) :
    ∃ x : Int, (packR s.data.toList k)[(k + 6) / 7]? = some x ∧ 0 ≤ x ∧ x < 281474976710656 ∧ packR s.data.toList (k + 1) = (packR s.data.toList k).set ((k + 6) / 7) (x + ((s[k].toNat * 256 ^ (k % 7) : Nat) : Int)) := by
  obtain ⟨J, hJ⟩ : ∃ J, (k + 6) / 7 = J + 1 := ⟨(k + 6) / 7 - 1, by omega⟩
  have hkJ : 7 * J + k % 7 = k := by omega
  have hg := numsR_get s.data.toList k J (by omega)
  rw [show min 7 (k - 7 * J) = k % 7 from by omega] at hg
  refine ⟨_, by unfold packR; rw [hJ, List.getElem?_cons_succ]; exact hg, by omega, ?_, ?_⟩
  · have h1 := leV_small (s.data.toList.drop (7 * J)) (k % 7) (by omega)
    have h2 : (2 : Nat) ^ (8 * (k % 7)) ≤ 2 ^ 48 := Nat.pow_le_pow_right (by decide) (by omega)
    have h3 : (2 : Nat) ^ 48 = 281474976710656 := by decide
    omega
  · unfold packR
    rw [hJ, List.set_cons_succ]
    congr 1
    apply List.ext_getElem?
    intro i
    rw [List.getElem?_set]
    by_cases hi : i < (k + 6) / 7
    · rw [numsR_get _ _ _ (by omega)]
      by_cases hJi : J = i
      · subst hJi
        rw [if_pos rfl, if_pos (by rw [numsR_len]; omega), show min 7 (k + 1 - 7 * J) = k % 7 + 1 from by omega, leV_step s (7 * J) (k % 7) (by omega)]
        have e : s[7 * J + k % 7]'(by omega) = s[k] := by congr 1
        rw [e, pow_256, Int.natCast_add]
      · rw [if_neg hJi, numsR_get _ _ _ (by omega)]
        rw [numsR_old _ _ _ (by omega)]
    · rw [List.getElem?_eq_none (by rw [numsR_len]; omega), if_neg (by omega), List.getElem?_eq_none (by rw [numsR_len]; omega)]
theorem packR_new (s : ByteArray) (k : Nat) (hk : k < s.size) (h7 : k % 7 = 0) : packR s.data.toList (k + 1) = (packR s.data.toList k ++ [0]).set ((k + 6) / 7 + 1) (0 + ((s[k].toNat * 256 ^ (k % 7) : Nat) : Int)) := by
  have e : (packR s.data.toList k).length = (k + 6) / 7 + 1 := packR_len _ _
  rw [List.set_append_right _ _ (by omega), e, Nat.sub_self, Int.zero_add]
  unfold packR
  rw [numsR_new s k hk h7]
  rfl
theorem pow_small (m : Nat) (h : m ≤ 6) : (256 : Nat) ^ m ≤ 281474976710656 := by
  have h1 : (256 : Nat) ^ m ≤ 256 ^ 6 := Nat.pow_le_pow_right (by decide) h
  have h2 : (256 : Nat) ^ 6 = 281474976710656 := by decide
  omega
end Go.Proofs.Ytcbehllfljjngaa
