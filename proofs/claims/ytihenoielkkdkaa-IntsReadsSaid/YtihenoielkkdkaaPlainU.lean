/- Plain: what is shown is read. -/
import Derived.Test.YtihenoielkkdkaaPlainT
namespace Go.Proofs.Ytihenoielkkdkaa
open Go.RowKit
set_option linter.unusedVariables false

theorem dg_all : ∀ (f m : Nat), (dg f m).all isDig = true
  | 0, m => rfl
  | f + 1, m => by
    rw [dg]
    split
    · rename_i h
      simp only [List.all_cons, List.all_nil, Bool.and_true, isDig, UInt8.toNat_ofNat', Bool.and_eq_true, decide_eq_true_eq]
      omega
    · rw [List.all_append, dg_all f, Bool.true_and]
      simp only [List.all_cons, List.all_nil, Bool.and_true, isDig, UInt8.toNat_ofNat', Bool.and_eq_true, decide_eq_true_eq]
      omega
theorem dg_val : ∀ (f m : Nat), m < 10 ^ f → valD (dg f m) = m
  | 0, m, h => by simp at h; subst h; rfl
  | f + 1, m, h => by
    rw [dg]
    split
    · rename_i h1
      rw [valD_one, UInt8.toNat_ofNat']; omega
    · rw [valD_snoc, dg_val f (m / 10) (by rw [Nat.pow_succ] at h; omega), UInt8.toNat_ofNat']
      omega
theorem dg_head : ∀ (f m : Nat), m < 10 ^ (f + 1) → m ≠ 0 → ∃ c, (dg (f + 1) m).head? = some c ∧ c ≠ 48 ∧ c ≠ 45
  | 0, m, h, h0 => by
    refine ⟨UInt8.ofNat (48 + m), by rw [dg, if_pos (by simpa using h)]; rfl, ?_, ?_⟩
    · intro hh
      have := congrArg UInt8.toNat hh
      rw [UInt8.toNat_ofNat'] at this
      rw [show (48 : UInt8).toNat = 48 from rfl] at this
      simp at h; omega
    · intro hh
      have := congrArg UInt8.toNat hh
      rw [UInt8.toNat_ofNat'] at this
      rw [show (45 : UInt8).toNat = 45 from rfl] at this
      simp at h; omega
  | f + 1, m, h, h0 => by
    by_cases h1 : m < 10
    · refine ⟨UInt8.ofNat (48 + m), by rw [dg, if_pos h1]; rfl, ?_, ?_⟩
      · intro hh
        have := congrArg UInt8.toNat hh
        rw [UInt8.toNat_ofNat'] at this
        rw [show (48 : UInt8).toNat = 48 from rfl] at this
        omega
      · intro hh
        have := congrArg UInt8.toNat hh
        rw [UInt8.toNat_ofNat'] at this
        rw [show (45 : UInt8).toNat = 45 from rfl] at this
        omega
    · obtain ⟨c, hc, hn⟩ := dg_head f (m / 10) (by rw [Nat.pow_succ] at h; omega) (by omega)
      refine ⟨c, ?_, hn⟩
      rw [dg, if_neg h1, List.head?_append, hc]; rfl
theorem dg_len : ∀ (f m : Nat), (dg f m).length ≤ f
  | 0, m => by simp [dg]
  | f + 1, m => by
    rw [dg]
    split
    · simp
    · have := dg_len f (m / 10)
      simp; omega
theorem dg_ok (m : Nat) (b : Bool) (h : m < 100000000000000000000) (h0 : m ≠ 0 ∨ b = false) : digsOk (dg 20 m) b = true := by
  by_cases hm : m = 0
  · subst hm
    rcases h0 with h0 | rfl
    · exact absurd rfl h0
    · decide
  · obtain ⟨c, hc, hn, _⟩ := dg_head 19 m (by omega) hm
    unfold digsOk
    rw [hc, dg_all]
    have e : (dg 20 m).isEmpty = false := by
      cases hd : dg 20 m
      · rw [hd] at hc; cases hc
      · rfl
    have e2 : (some c == some (48 : UInt8)) = false := by rw [beq_eq_false_iff_ne]; intro hh; injection hh with hh; exact hn hh
    rw [e, e2]; rfl
theorem show_read (m : Int) (l : -4611686018427387904 ≤ m) (u : m ≤ 4611686018427387903) :
    ∃ d b, Splits ⟨(shw m).toArray⟩ d b ∧ readF d.data.toList b = (m, 0) := by
  by_cases h : m < 0
  · refine ⟨⟨(dg 20 m.natAbs).toArray⟩, true, .inl ⟨rfl, ?_⟩, ?_⟩
    · have e : shw m = 45 :: dg 20 m.natAbs := by unfold shw; rw [if_pos h]
      rw [e]
      refine ⟨by simp [ByteArray.size], rfl, ?_⟩
      apply ByteArray.ext
      rw [ByteArray.data_extract]
      apply Array.ext'
      rw [Array.toList_extract]
      simp [ByteArray.size, List.extract]
    · have hv := dg_val 20 m.natAbs (by have : (10:Nat)^20 = 100000000000000000000 := by decide
                                        omega)
      unfold readF
      rw [show (⟨(dg 20 m.natAbs).toArray⟩ : ByteArray).data.toList = dg 20 m.natAbs from rfl, dg_ok m.natAbs true (by omega) (.inl (by omega)), if_pos rfl, hv, if_neg (by simp; omega), if_pos rfl]
      congr 1; omega
  · have e : shw m = dg 20 m.natAbs := by unfold shw; rw [if_neg h]
    refine ⟨⟨(dg 20 m.natAbs).toArray⟩, false, .inr ⟨rfl, by rw [e], ?_⟩, ?_⟩
    · intro hs h45
      rw [e] at hs
      by_cases hm : m = 0
      · subst hm
        have : shw 0 = [48] := by decide
        have h2 : (⟨(shw 0).toArray⟩ : ByteArray).data.toList[0]? = some 45 := by
          rw [data_get _ 0 (by rw [this]; decide), h45]
        rw [this] at h2; cases h2
      · obtain ⟨c, hc, _, hn⟩ := dg_head 19 m.natAbs (by have : (10:Nat)^20 = 100000000000000000000 := by decide
                                                         omega) (by omega)
        have h2 : (⟨(shw m).toArray⟩ : ByteArray).data.toList[0]? = some 45 := by
          rw [data_get _ 0 (by rw [e]; exact hs), h45]
        rw [e] at h2
        rw [List.head?_eq_getElem?] at hc
        have h3 : (dg 20 m.natAbs)[0]? = some 45 := h2
        rw [hc] at h3
        injection h3 with h3
        exact hn h3
    · have hv := dg_val 20 m.natAbs (by have : (10:Nat)^20 = 100000000000000000000 := by decide
                                        omega)
      unfold readF
      rw [show (⟨(dg 20 m.natAbs).toArray⟩ : ByteArray).data.toList = dg 20 m.natAbs from rfl, dg_ok m.natAbs false (by omega) (.inr rfl), if_pos rfl, hv, if_neg (by omega), if_neg (by decide)]
      congr 1; omega
theorem shw_len (m : Int) : (⟨(shw m).toArray⟩ : ByteArray).size ≤ maxLen := by
  have h : (⟨(shw m).toArray⟩ : ByteArray).size = (shw m).length := rfl
  have h2 : (shw m).length ≤ 21 := by
    unfold shw
    have := dg_len 20 m.natAbs
    split <;> simp <;> omega
  unfold maxLen; omega
end Go.Proofs.Ytihenoielkkdkaa
