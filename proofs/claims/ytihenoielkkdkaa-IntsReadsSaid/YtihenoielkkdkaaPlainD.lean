/- Plain: an integer's digits. -/
import Derived.Test.YtihenoielkkdkaaPlain
import Derived.Laws.BytesArg
namespace Go.Proofs.Ytihenoielkkdkaa
open Go.RowKit

/-- The digits of a number, with fuel. -/
def dg : Nat → Nat → List UInt8
  | 0, _ => []
  | f + 1, m => if m < 10 then [UInt8.ofNat (48 + m)] else dg f (m / 10) ++ [UInt8.ofNat (48 + m % 10)]
/-- An integer's digits. -/
def shw (n : Int) : List UInt8 := if n < 0 then 45 :: dg 20 n.natAbs else dg 20 n.natAbs

/-- At the head of a round: what is still to be told, and what has been told. -/
structure ShowRel (m0 k m : Nat) (ds : List UInt8) : Prop where
  len : ds.length = k
  small : m < 10 ^ (19 - k)
  more : k = 0 ∨ m ≠ 0
  all : dg 20 m0 = dg (20 - k) m ++ ds
  le : m ≤ 4611686018427387904
theorem show_start (m0 : Nat) (h : m0 ≤ 4611686018427387904) : ShowRel m0 0 m0 [] :=
  ⟨rfl, by have : (10 : Nat) ^ (19 - 0) = 10000000000000000000 := by decide
           omega, .inl rfl, by simp, h⟩
theorem ShowRel.lt {m0 k m : Nat} {ds : List UInt8} (h : ShowRel m0 k m ds) : k ≤ 18 := by
  rcases h.more with hk | hm
  · omega
  · have := h.small
    rcases Nat.lt_or_ge k 19 with hk | hk
    · omega
    · rw [show 19 - k = 0 from by omega] at this; omega
theorem show_next {m0 k m : Nat} {ds : List UInt8} (h : ShowRel m0 k m ds) (hm : m / 10 ≠ 0) : ShowRel m0 (k + 1) (m / 10) (UInt8.ofNat (48 + m % 10) :: ds) := by
  have hk := h.lt
  refine ⟨by simp [h.len], ?_, .inr hm, ?_, by have := h.le; omega⟩
  · have := h.small
    rw [show 19 - k = (19 - (k + 1)) + 1 from by omega, Nat.pow_succ] at this
    omega
  · rw [h.all, show 20 - k = (20 - (k + 1)) + 1 from by omega, dg, if_neg (by omega), List.append_assoc]
    rfl
theorem show_last {m0 k m : Nat} {ds : List UInt8} (h : ShowRel m0 k m ds) (hm : m / 10 = 0) : dg 20 m0 = UInt8.ofNat (48 + m % 10) :: ds := by
  have hk := h.lt
  rw [h.all, show 20 - k = (20 - (k + 1)) + 1 from by omega, dg, if_pos (by omega), show m % 10 = m from by omega]
  rfl
theorem digit_val (m : Nat) : (48 + (m : Int) % 10) = ((UInt8.ofNat (48 + m % 10)).toNat : Int) := by
  rw [UInt8.toNat_ofNat']; omega
theorem str_of_digits (ds : List UInt8) : strOfNums (ds.map fun b => (b.toNat : Int)) = ⟨ds.toArray⟩ := by
  unfold strOfNums
  congr 2
  rw [List.map_map]
  conv => rhs; rw [← List.map_id ds]
  apply List.map_congr_left
  intro b _
  simp
end Go.Proofs.Ytihenoielkkdkaa
