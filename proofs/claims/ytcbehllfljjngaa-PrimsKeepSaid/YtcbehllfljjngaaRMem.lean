/- Memory of the document's heap: blocks in a list. -/
import Derived.Test.YtcbehllfljjngaaHMem
import Derived.Test.YtcbehllfljjngaaHWalkA
import Derived.Deep.RegionHeld3
import Derived.Deep.RegionLaw
import Derived.Deep.DrawnRows
import Derived.Deep.CutBlock
import Derived.Deep.DeepCutAuto
namespace Go.Proofs.Ytcbehllfljjngaa
open Go.RowKit
set_option linter.unusedVariables false

theorem ty_blk : ElemTy 40 80 3 56 := elemTy (z := .agg #[.int .i64 0, .slice none 0 0, .slice none 0 0]) Try.underlying40 (by kernel_rfl) rfl (by decide)
theorem ty_wrd : ElemTy 78 84 2 16 := elemTy (z := .agg #[.bool false, .int .i64 0]) Try.underlying78 (by kernel_rfl) rfl (by decide)
def blk0 : Blk := ⟨0, []⟩
def posn (H : Hp) (i : Nat) : Nat := 1 + sumSz (H.take i)
theorem posn_zero (H : Hp) : posn H 0 = 1 := rfl
theorem posn_succ {H : Hp} {i : Nat} (h : i < H.length) : posn H (i + 1) = posn H i + (H.getD i blk0).sz := by
  unfold posn
  rw [List.take_succ_eq_append_getElem h, sumSz_snoc, List.getD_eq_getElem?_getD, List.getElem?_eq_getElem h]
  simp only [Option.getD_some]; omega
theorem posn_all (H : Hp) : posn H H.length = topN H := by unfold posn topN; rw [List.take_length]
theorem posn_app (H X : Hp) (i : Nat) (h : i ≤ H.length) : posn (H ++ X) i = posn H i := by unfold posn; rw [List.take_append_of_le_length h]
theorem posn_mono {H : Hp} : ∀ {i j : Nat}, i < j → j ≤ H.length → posn H i < posn H j := by
  intro i j hij
  induction j with
  | zero => omega
  | succ j ih =>
    intro hj
    have h1 := posn_succ (H := H) (i := j) (by omega)
    unfold Blk.sz at h1
    rcases Nat.lt_or_ge i j with h | h
    · have := ih h (by omega); omega
    · obtain rfl : i = j := by omega
      omega
theorem posn_le (H : Hp) {i : Nat} (h : i ≤ H.length) : posn H i ≤ topN H := by
  rcases Nat.lt_or_ge i H.length with h1 | h1
  · have := posn_mono h1 (Nat.le_refl _); rw [posn_all] at this; omega
  · obtain rfl : i = H.length := by omega
    rw [posn_all]; exact Nat.le_refl _
theorem goAt_posn : ∀ (H : Hp) (s i : Nat), i < H.length → goAt s H ((s + sumSz (H.take i) : Nat) : Int) = some (H.getD i blk0)
  | [], _, i, h => absurd h (by simp)
  | b :: H, s, 0, _ => by simp [goAt, sumSz]
  | b :: H, s, i + 1, h => by
    have e : sumSz ((b :: H).take (i + 1)) = b.sz + sumSz (H.take i) := by simp [sumSz]
    rw [e]
    unfold goAt
    rw [if_neg (by unfold Blk.sz; omega), show s + (b.sz + sumSz (H.take i)) = (s + b.sz) + sumSz (H.take i) from by omega, goAt_posn H (s + b.sz) i (by simpa using h)]
    rfl
theorem blkAt_posn {H : Hp} {i : Nat} (h : i < H.length) : blkAt H (posn H i : Nat) = some (H.getD i blk0) := goAt_posn H 1 i h
theorem goAt_ex : ∀ (H : Hp) (s : Nat) (p : Int) (b : Blk), goAt s H p = some b → ∃ i, i < H.length ∧ p = ((s + sumSz (H.take i) : Nat) : Int) ∧ H.getD i blk0 = b
  | [], _, _, _, h => by cases h
  | c :: H, s, p, b, h => by
    unfold goAt at h
    split at h
    · rename_i hp
      simp only [Option.some.injEq] at h
      exact ⟨0, by simp, by simpa [sumSz] using hp, h⟩
    · obtain ⟨i, h1, h2, h3⟩ := goAt_ex H (s + c.sz) p b h
      refine ⟨i + 1, by simpa using h1, ?_, h3⟩
      have e : sumSz ((c :: H).take (i + 1)) = c.sz + sumSz (H.take i) := by simp [sumSz]
      rw [e, h2]; omega
theorem blkAt_ex {H : Hp} {p : Int} {b : Blk} (h : blkAt H p = some b) : ∃ i, i < H.length ∧ p = (posn H i : Nat) ∧ H.getD i blk0 = b := goAt_ex H 1 p b h
/-- What a word is: a block's number or a number; whether it may stand. -/
def wdF (H : Hp) (z : Int) : Bool × Int × Bool :=
  if z % 2 = 1 then (false, z, true) else match (List.range H.length).find? (fun k => decide (z = 2 * (posn H k : Nat))) with
    | some k => (true, (k : Int), true)
    | none => (false, 0, false)
theorem find_first {P : Nat → Bool} {n k : Nat} (hk : k < n) (hp : P k = true) (hn : ∀ j, j < k → P j = false) : (List.range n).find? P = some k := by
  rw [List.find?_range_eq_some]
  exact ⟨hp, by simpa using hk, fun j hj => by rw [hn j hj]; rfl⟩
theorem wdF_odd {H : Hp} {z : Int} (h : z % 2 = 1) : wdF H z = (false, z, true) := by unfold wdF; rw [if_pos h]
theorem wdF_yes {H : Hp} {z : Int} {k : Nat} (hk : k < H.length) (h : z = 2 * (posn H k : Nat)) : wdF H z = (true, (k : Int), true) := by
  unfold wdF
  rw [if_neg (by omega), find_first (P := fun k => decide (z = 2 * (posn H k : Nat))) hk (decide_eq_true h) (fun j hj => decide_eq_false (fun h2 => by have := posn_mono hj (by omega : k ≤ H.length); omega))]
theorem wdF_no {H : Hp} {z : Int} (h0 : z % 2 = 0) (h : ∀ j, j < H.length → z ≠ 2 * (posn H j : Nat)) : wdF H z = (false, 0, false) := by
  unfold wdF
  rw [if_neg (by omega)]
  have : (List.range H.length).find? (fun k => decide (z = 2 * (posn H k : Nat))) = none := by
    rw [List.find?_eq_none]
    intro k hk
    simpa using h k (by simpa using hk)
  rw [this]
theorem wdF_may (H : Hp) (z : Int) : (wdF H z).2.2 = mayF H z := by
  rcases (by omega : z % 2 = 1 ∨ z % 2 = 0) with h | h
  · rw [wdF_odd h]; unfold mayF; rw [decide_eq_true h]; rfl
  · unfold mayF
    rw [decide_eq_false (by omega)]
    rcases hq : blkF H z with _ | b
    · rw [wdF_no h]
      · rfl
      · intro j hj hz
        have h1 : 1 ≤ posn H j := by unfold posn; omega
        unfold blkF at hq
        rw [if_pos ⟨by omega, h⟩, hz, show (2 * (posn H j : Int)) / 2 = (posn H j : Nat) from by omega, blkAt_posn hj] at hq
        cases hq
    · obtain ⟨_, h2, _⟩ := placeF_some hq
      obtain ⟨i, hi, hp, _⟩ := blkAt_ex h2
      rw [wdF_yes hi (by omega)]; rfl
theorem wdF_blk {H : Hp} {z : Int} {k : Int} {o : Bool} (h : wdF H z = (true, k, o)) : ∃ i : Nat, k = i ∧ i < H.length ∧ z = 2 * (posn H i : Nat) ∧ blkF H z = some (H.getD i blk0) ∧ o = true := by
  unfold wdF at h
  split at h
  · simp at h
  · split at h
    · rename_i i hf
      rw [List.find?_range_eq_some] at hf
      simp only [Prod.mk.injEq, true_and] at h
      have hz := of_decide_eq_true hf.1
      have hi : i < H.length := by simpa using hf.2.1
      refine ⟨i, h.1.symm, hi, hz, ?_, h.2.symm⟩
      have h1 : 1 ≤ posn H i := by unfold posn; omega
      unfold blkF
      rw [if_pos ⟨by omega, by omega⟩, hz, show (2 * (posn H i : Int)) / 2 = (posn H i : Nat) from by omega]
      exact blkAt_posn hi
    · simp at h
theorem wdF_nblk {H : Hp} {z : Int} (h : (wdF H z).1 = false) : blkF H z = none := by
  rcases hq : blkF H z with _ | b
  · rfl
  · obtain ⟨_, h2, h0⟩ := placeF_some hq
    obtain ⟨i, hi, hp, _⟩ := blkAt_ex h2
    have he : z % 2 = 0 := by
      unfold blkF at hq
      split at hq
      · rename_i h3; exact h3.2
      · cases hq
    rw [wdF_yes hi (by omega)] at h
    cases h
end Go.Proofs.Ytcbehllfljjngaa
