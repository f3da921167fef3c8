/- Plain: which texts are digits, and what they come to. -/
import Derived.Test.YtihenoielkkdkaaPlainD
namespace Go.Proofs.Ytihenoielkkdkaa
open Go.RowKit

def isDig (c : UInt8) : Bool := decide (48 ≤ c.toNat) && decide (c.toNat ≤ 57)
/-- Digits as Show has them. -/
def digsOk (d : List UInt8) (below : Bool) : Bool := !d.isEmpty && !(d.head? == some 48 && (decide (1 < d.length) || below)) && d.all isDig
def valD (d : List UInt8) : Nat := d.foldl (fun n c => 10 * n + (c.toNat - 48)) 0
def readF (d : List UInt8) (below : Bool) : Int × Int :=
  if digsOk d below then
    if 4611686018427387904 < valD d ∨ (valD d = 4611686018427387904 ∧ below = false) then (0, 13)
    else if below then (-(valD d : Int), 0) else ((valD d : Int), 0)
  else (0, 1)
/-- A text is a sign and the rest. -/
def Splits (s d : ByteArray) (below : Bool) : Prop :=
  (below = true ∧ ∃ h : 0 < s.size, s[0] = 45 ∧ s.extract 1 s.size = d) ∨ (below = false ∧ s = d ∧ ∀ h : 0 < s.size, s[0] ≠ 45)
theorem splits_ex (s : ByteArray) : ∃ d b, Splits s d b := by
  by_cases h : ∃ h : 0 < s.size, s[0] = 45
  · obtain ⟨h, h'⟩ := h
    exact ⟨_, true, .inl ⟨rfl, h, h', rfl⟩⟩
  · exact ⟨s, false, .inr ⟨rfl, rfl, fun h1 h2 => h ⟨h1, h2⟩⟩⟩
theorem data_get (d : ByteArray) (k : Nat) (h : k < d.size) : d.data.toList[k]? = some d[k] := by
  rw [Array.getElem?_toList, Array.getElem?_eq_getElem (by simpa using h)]; rfl
theorem take_get (d : ByteArray) (k : Nat) (h : k < d.size) : d.data.toList.take (k + 1) = d.data.toList.take k ++ [d[k]] := by
  rw [List.take_add_one, data_get d k h]; rfl
theorem toList_data (d : ByteArray) : d.toList = d.data.toList := ByteArray.toList_eq d
theorem valD_snoc (l : List UInt8) (c : UInt8) : valD (l ++ [c]) = 10 * valD l + (c.toNat - 48) := by simp [valD]
end Go.Proofs.Ytihenoielkkdkaa
