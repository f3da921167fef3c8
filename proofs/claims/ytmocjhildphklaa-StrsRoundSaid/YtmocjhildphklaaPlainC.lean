/- Plain: what is written, read. -/
import Derived.Test.YtmocjhildphklaaWalkE
namespace Go.Proofs.Ytmocjhildphklaa
open Go.RowKit
set_option linter.unusedVariables false

def hexV (c : UInt8) : Option Nat := if 48 ≤ c.toNat ∧ c.toNat ≤ 57 then some (c.toNat - 48) else if 97 ≤ c.toNat ∧ c.toNat ≤ 102 then some (c.toNat - 87) else none
def idxH (c : UInt8) : Int := match hexV c with | some p => (p : Int) | none => -1
/-- What stands behind a backslash: the byte, how many bytes, the error. -/
def escX : List UInt8 → UInt8 × Nat × Int
  | [] => (0, 0, 11)
  | x :: r => match hexV x with
    | none => (0, 0, 10)
    | some p => match r with
      | [] => (0, 0, 11)
      | y :: _ => match hexV y with
        | none => (0, 0, 10)
        | some q => (UInt8.ofNat (16 * p + q), 3, 0)
def escF : List UInt8 → UInt8 × Nat × Int
  | [] => (0, 0, 11)
  | a :: r => if a = 110 then (10, 1, 0) else if a = 34 then (34, 1, 0) else if a = 92 then (92, 1, 0) else if a = 120 then escX r else (0, 0, 10)
theorem hexV_lt {c : UInt8} {p : Nat} (h : hexV c = some p) : p < 16 := by
  unfold hexV at h
  split at h
  · injection h with h; omega
  · split at h
    · injection h with h; omega
    · cases h
theorem hexV_get (c : UInt8) (j : Nat) (hj : j < 16) : hexL.getD j 0 = c ↔ hexV c = some j := by
  have key : ∀ j, j < 16 → hexV (hexL.getD j 0) = some j := by
    intro j hj
    rcases (by omega : j = 0 ∨ j = 1 ∨ j = 2 ∨ j = 3 ∨ j = 4 ∨ j = 5 ∨ j = 6 ∨ j = 7 ∨ j = 8 ∨ j = 9 ∨ j = 10 ∨ j = 11 ∨ j = 12 ∨ j = 13 ∨ j = 14 ∨ j = 15) with rfl | rfl | rfl | rfl | rfl | rfl | rfl | rfl | rfl | rfl | rfl | rfl | rfl | rfl | rfl | rfl <;> rfl
  constructor
  · rintro rfl; exact key j hj
  · intro h
    have h2 := key j hj
    apply UInt8.toNat.inj
    generalize hexL.getD j 0 = d at *
    unfold hexV at h h2
    split at h <;> split at h2 <;> (try split at h) <;> (try split at h2) <;> simp_all <;> omega
end Go.Proofs.Ytmocjhildphklaa
