/- Plain facts of a heap of blocks: what its memory holds, where its blocks lie. -/
import Derived.WalkKit
namespace Go.Proofs.Ytcbehllfljjngaa
open Go.RowKit
set_option linter.unusedVariables false

structure Blk where
  tag : Nat
  fs : List Int
abbrev Hp := List Blk
def Blk.sz (b : Blk) : Nat := 1 + b.fs.length
def Blk.hdr (b : Blk) : Int := (b.fs.length : Int) * 256 + b.tag
def Blk.mem (b : Blk) : List Int := b.hdr :: b.fs
theorem Blk.mem_len (b : Blk) : b.mem.length = b.sz := by unfold Blk.mem Blk.sz; simp; omega
/-- The words of all blocks; nobody's place ahead. -/
def memL (H : Hp) : List Int := 0 :: H.flatMap Blk.mem
def sumSz (H : Hp) : Nat := (H.map Blk.sz).sum
def topN (H : Hp) : Nat := 1 + sumSz H
theorem sumSz_snoc (H : Hp) (b : Blk) : sumSz (H ++ [b]) = sumSz H + b.sz := by simp [sumSz]
theorem topN_snoc (H : Hp) (b : Blk) : topN (H ++ [b]) = topN H + b.sz := by unfold topN; rw [sumSz_snoc]; omega
theorem flat_len : ∀ H : Hp, (H.flatMap Blk.mem).length = sumSz H
  | [] => rfl
  | b :: H => by rw [List.flatMap_cons, List.length_append, flat_len H, Blk.mem_len]; simp [sumSz]
theorem memL_len (H : Hp) : (memL H).length = topN H := by unfold memL topN; rw [List.length_cons, flat_len]; omega
theorem memL_snoc (H : Hp) (b : Blk) : memL (H ++ [b]) = memL H ++ b.mem := by simp [memL]
/-- The block that begins at a place. -/
def goAt : Nat → Hp → Int → Option Blk
  | _, [], _ => none
  | s, b :: H, p => if p = s then some b else goAt (s + b.sz) H p
def blkAt (H : Hp) (p : Int) : Option Blk := goAt 1 H p
theorem goAt_lt : ∀ (H : Hp) (s : Nat) (p : Int) (b : Blk), goAt s H p = some b → (s : Int) ≤ p ∧ p + b.sz ≤ (s + sumSz H : Nat)
  | [], _, _, _, h => by cases h
  | c :: H, s, p, b, h => by
    have e : sumSz (c :: H) = c.sz + sumSz H := by simp [sumSz]
    rw [e]
    unfold goAt at h
    split at h
    · rename_i hp
      simp only [Option.some.injEq] at h
      subst h
      omega
    · have := goAt_lt H (s + c.sz) p b h
      omega
theorem goAt_snoc (b : Blk) : ∀ (H : Hp) (s : Nat) (p : Int), goAt s (H ++ [b]) p = if (goAt s H p).isSome = true then goAt s H p else if p = (s + sumSz H : Nat) then some b else none
  | [], s, p => by simp [goAt, sumSz]
  | c :: H, s, p => by
    have e : sumSz (c :: H) = c.sz + sumSz H := by simp [sumSz]
    rw [List.cons_append]
    unfold goAt
    split
    · simp
    · rw [goAt_snoc b H (s + c.sz) p, e]
      simp only [show s + c.sz + sumSz H = s + (c.sz + sumSz H) from by omega]
theorem blkAt_snoc (H : Hp) (b : Blk) (p : Int) : blkAt (H ++ [b]) p = if (blkAt H p).isSome = true then blkAt H p else if p = (topN H : Nat) then some b else none := goAt_snoc b H 1 p
theorem blkAt_lt {H : Hp} {p : Int} {b : Blk} (h : blkAt H p = some b) : 1 ≤ p ∧ p + b.sz ≤ (topN H : Nat) := by
  have := goAt_lt H 1 p b h
  unfold topN; omega
theorem goAt_mem : ∀ (H : Hp) (s : Nat) (p : Int) (b : Blk) (pre : List Int), pre.length = s → goAt s H p = some b → ∃ k : Nat, p = k ∧ ((pre ++ H.flatMap Blk.mem).drop k).take b.sz = b.mem
  | [], _, _, _, _, _, h => by cases h
  | c :: H, s, p, b, pre, hs, h => by
    unfold goAt at h
    split at h
    · rename_i hp
      simp only [Option.some.injEq] at h
      subst h
      refine ⟨s, hp, ?_⟩
      rw [List.flatMap_cons, List.drop_append_of_le_length (by omega), List.drop_of_length_le (by omega), List.nil_append, List.take_append_of_le_length (by rw [Blk.mem_len]; exact Nat.le_refl _), List.take_of_length_le (by rw [Blk.mem_len]; exact Nat.le_refl _)]
    · obtain ⟨k, hk, ht⟩ := goAt_mem H (s + c.sz) p b (pre ++ c.mem) (by rw [List.length_append, Blk.mem_len]; omega) h
      exact ⟨k, hk, by rw [List.flatMap_cons, ← List.append_assoc]; exact ht⟩
theorem blkAt_mem {H : Hp} {p : Int} {b : Blk} (h : blkAt H p = some b) : ∃ k : Nat, p = k ∧ 1 ≤ k ∧ k + b.sz ≤ topN H ∧ ((memL H).drop k).take b.sz = b.mem := by
  obtain ⟨k, hk, ht⟩ := goAt_mem H 1 p b [0] rfl h
  have := blkAt_lt h
  exact ⟨k, hk, by omega, by omega, ht⟩
/-- A word's place. -/
def placeF (H : Hp) (w : Int) : Int := if 0 < w ∧ w % 2 = 0 ∧ (blkAt H (w / 2)).isSome = true then w / 2 else 0
/-- A word's block. -/
def blkF (H : Hp) (w : Int) : Option Blk := if 0 < w ∧ w % 2 = 0 then blkAt H (w / 2) else none
theorem placeF_some {H : Hp} {w : Int} {b : Blk} (h : blkF H w = some b) : placeF H w = w / 2 ∧ blkAt H (w / 2) = some b ∧ 0 < w := by
  unfold blkF at h
  split at h
  · rename_i h1
    unfold placeF
    rw [if_pos ⟨h1.1, h1.2, by rw [h]; rfl⟩]
    exact ⟨rfl, h, h1.1⟩
  · cases h
theorem placeF_none {H : Hp} {w : Int} (h : blkF H w = none) : placeF H w = 0 := by
  unfold blkF at h
  unfold placeF
  split at h
  · rw [if_neg (fun h2 => by rw [h] at h2; exact absurd h2.2.2 (by decide))]
  · rename_i h1; rw [if_neg (fun h2 => h1 ⟨h2.1, h2.2.1⟩)]
theorem placeF_pos {H : Hp} {w : Int} {b : Blk} (h : blkF H w = some b) : 1 ≤ placeF H w := by
  obtain ⟨h1, h2, _⟩ := placeF_some h
  rw [h1]; exact (blkAt_lt h2).1
def mayF (H : Hp) (w : Int) : Bool := decide (w % 2 = 1) || (blkF H w).isSome
def tagF (H : Hp) (w : Int) : Int := match blkF H w with | some b => b.tag | none => -1
def fieldsF (H : Hp) (w : Int) : List Int := match blkF H w with | some b => b.fs | none => []
/-- All tags and sizes are small. -/
def WfI (z : Int) : Prop := (Lit.int .i64 z).wf = true
def WfH (H : Hp) : Prop := ∀ b ∈ H, b.tag ≤ 201 ∧ b.fs.length ≤ 60 ∧ ∀ z ∈ b.fs, WfI z
theorem goAt_in : ∀ (H : Hp) (s : Nat) (p : Int) (b : Blk), goAt s H p = some b → b ∈ H
  | [], _, _, _, h => by cases h
  | c :: H, s, p, b, h => by
    unfold goAt at h
    split at h
    · simp only [Option.some.injEq] at h; subst h; exact List.mem_cons_self ..
    · exact List.mem_cons_of_mem _ (goAt_in H _ p b h)
theorem blkF_in {H : Hp} {w : Int} {b : Blk} (h : blkF H w = some b) : b ∈ H := by
  unfold blkF at h
  split at h
  · exact goAt_in _ _ _ _ h
  · cases h
theorem hdr_quo {b : Blk} (h : b.tag ≤ 201) : b.hdr / 256 = b.fs.length := by unfold Blk.hdr; omega
theorem hdr_rem {b : Blk} (h : b.tag ≤ 201) : b.hdr % 256 = b.tag := by unfold Blk.hdr; omega
/-- Making a block. -/
def mkOk (N : Nat) (H : Hp) (tag : Int) (fs : List Int) : Bool := decide (0 ≤ tag) && decide (tag ≤ 201) && decide (fs.length ≤ 60) && (decide (tag = 201) || fs.all (mayF H))
def mkH (N : Nat) (H : Hp) (tag : Int) (fs : List Int) : Hp := if mkOk N H tag fs = true ∧ topN H + fs.length ≤ N then H ++ [⟨tag.toNat, fs⟩] else H
def mkR (N : Nat) (H : Hp) (tag : Int) (fs : List Int) : Int := if mkOk N H tag fs = true ∧ topN H + fs.length ≤ N then 2 * (topN H : Nat) else 0
def mkE (N : Nat) (H : Hp) (tag : Int) (fs : List Int) : Int := if mkOk N H tag fs = true then (if topN H + fs.length ≤ N then 0 else 2) else 1
theorem mkH_wf {N : Nat} {H : Hp} {tag : Int} {fs : List Int} (h : WfH H) (hf : ∀ z ∈ fs, WfI z) : WfH (mkH N H tag fs) := by
  unfold mkH
  split
  · rename_i hk
    have h1 := hk.1
    unfold mkOk at h1
    simp only [Bool.and_eq_true, decide_eq_true_eq] at h1
    intro b hb
    rcases List.mem_append.1 hb with hb | hb
    · exact h b hb
    · simp only [List.mem_singleton] at hb
      subst hb
      exact ⟨by show tag.toNat ≤ 201; omega, h1.1.2, hf⟩
  · exact h
end Go.Proofs.Ytcbehllfljjngaa
