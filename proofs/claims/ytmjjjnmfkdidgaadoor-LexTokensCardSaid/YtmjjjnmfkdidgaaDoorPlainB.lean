/- The plain mathematics of layer 4: a key is a word of the text of all keys. -/
import Derived.Test.YtmjjjnmfkdidgaaDoorPlain
import Derived.Lib.IndexMore
namespace Go.Proofs.YtmjjjnmfkdidgaaDoor
set_option linter.unusedVariables false

theorem cont_nil (sub : List UInt8) (h : sub ≠ []) : Lib.contains [] sub = false := by
  unfold Lib.contains Lib.index
  cases sub with
  | nil => exact absurd rfl h
  | cons c r => rfl
theorem cont_cons (b : UInt8) (l sub : List UInt8) : Lib.contains (b :: l) sub = (sub.isPrefixOf (b :: l) || Lib.contains l sub) := by
  unfold Lib.contains
  rw [Lib.index]
  split
  · rename_i h; rw [h]; simp
  · rename_i h
    have h' : sub.isPrefixOf (b :: l) = false := Bool.eq_false_iff.2 h
    rw [h', Bool.false_or]
    split
    · rename_i h2
      rw [beq_iff_eq.1 h2]
    · rename_i h2
      have h3 : Lib.index l sub ≠ -1 := by simpa using h2
      have h4 := Lib.index_ge l sub
      rw [decide_eq_true (by omega : 0 ≤ Lib.index l sub + 1), decide_eq_true (by omega : 0 ≤ Lib.index l sub)]
def joinL : List (List UInt8) → List UInt8
  | [] => [32]
  | w :: W => 32 :: (w ++ joinL W)
theorem joinL_head (W : List (List UInt8)) : ∃ r, joinL W = 32 :: r := by
  cases W with
  | nil => exact ⟨[], rfl⟩
  | cons w W => exact ⟨_, rfl⟩
theorem pre_eq : ∀ (s w r : List UInt8), (32 : UInt8) ∉ s → (32 : UInt8) ∉ w → (s ++ [32]).isPrefixOf (w ++ 32 :: r) = (s == w)
  | [], [], r, _, _ => by simp [List.isPrefixOf]
  | [], c :: w, r, _, h => by
    have hc : ((32 : UInt8) == c) = false := beq_eq_false_iff_ne.2 fun e => h (by simp [e])
    simp [List.isPrefixOf, hc]
  | d :: s, [], r, h, _ => by
    have hc : (d == (32 : UInt8)) = false := beq_eq_false_iff_ne.2 fun e => h (by simp [e])
    simp [List.isPrefixOf, hc]
  | d :: s, c :: w, r, h1, h2 => by
    have ih := pre_eq s w r (fun h => h1 (by simp [h])) (fun h => h2 (by simp [h]))
    show (d == c && (s ++ [32]).isPrefixOf (w ++ 32 :: r)) = _
    rw [ih]
    rfl
theorem cont_skip (t : List UInt8) (J : List UInt8) : ∀ (w : List UInt8), (32 : UInt8) ∉ w → Lib.contains (w ++ J) (32 :: t) = Lib.contains J (32 :: t)
  | [], _ => rfl
  | c :: w, h => by
    have hc : ((32 : UInt8) == c) = false := beq_eq_false_iff_ne.2 fun e => h (by simp [e])
    rw [List.cons_append, cont_cons, cont_skip t J w (fun h' => h (by simp [h']))]
    have : (32 :: t).isPrefixOf (c :: (w ++ J)) = false := by
      show ((32 : UInt8) == c && _) = false
      rw [hc]; rfl
    rw [this]; rfl
theorem cont_join (s : List UInt8) (hs : (32 : UInt8) ∉ s) : ∀ (W : List (List UInt8)), (∀ w ∈ W, (32 : UInt8) ∉ w) → Lib.contains (joinL W) (32 :: (s ++ [32])) = W.contains s
  | [], _ => by
    show Lib.contains [32] (32 :: (s ++ [32])) = false
    rw [cont_cons, cont_nil _ (by simp), Bool.or_false]
    show ((32 : UInt8) == 32 && (s ++ [32]).isPrefixOf []) = false
    cases s <;> rfl
  | w :: W, h => by
    obtain ⟨r, hr⟩ := joinL_head W
    show Lib.contains (32 :: (w ++ joinL W)) _ = _
    rw [cont_cons, cont_skip _ _ w (h w (by simp)), cont_join s hs W (fun x hx => h x (by simp [hx])), List.contains_cons]
    congr 1
    show ((32 : UInt8) == 32 && (s ++ [32]).isPrefixOf (w ++ joinL W)) = _
    rw [hr, pre_eq s w r hs (h w (by simp))]
    rfl
theorem cont_one (s : List UInt8) : Lib.contains s [32] = decide ((32 : UInt8) ∈ s) := by
  induction s with
  | nil => rw [cont_nil _ (by simp)]; rfl
  | cons c s ih =>
    rw [cont_cons, ih]
    by_cases h : c = 32
    · subst h; simp [List.isPrefixOf]
    · have h' : ¬ (32 : UInt8) = c := fun e => h e.symm
      simp [List.isPrefixOf, h']
theorem keyL_ok : ∀ w ∈ keyL, (32 : UInt8) ∉ w := by decide
theorem key_blank (s : List UInt8) (h : (32 : UInt8) ∈ s) : keyB s = false := by
  unfold keyB
  rw [Bool.eq_false_iff]
  intro hc
  exact keyL_ok s (List.contains_iff_mem.1 hc) h
theorem key_word (s : List UInt8) (h : (32 : UInt8) ∉ s) : Lib.contains (joinL keyL) (32 :: (s ++ [32])) = keyB s := cont_join s h keyL keyL_ok
end Go.Proofs.YtmjjjnmfkdidgaaDoor
