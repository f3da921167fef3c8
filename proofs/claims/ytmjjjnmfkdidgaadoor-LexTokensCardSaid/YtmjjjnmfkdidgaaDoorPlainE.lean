/- The plain mathematics of layer 4: a source's tokens, a byte at a time. -/
import Derived.Test.YtmjjjnmfkdidgaaDoorPlainD
namespace Go.Proofs.YtmjjjnmfkdidgaaDoor
set_option linter.unusedVariables false

theorem toks_fuel : ∀ (n : Nat) (l : List UInt8), l.length ≤ n → ∀ f g, l.length < f → l.length < g → ∀ i acc, toksA f l i acc = toksA g l i acc
  | n, l, h, f, g, hf, hg, i, acc => by
    obtain ⟨f, rfl⟩ : ∃ k, f = k + 1 := ⟨f - 1, by omega⟩
    obtain ⟨g, rfl⟩ : ∃ k, g = k + 1 := ⟨g - 1, by omega⟩
    by_cases he : (tokF (l.drop (gapL l))).e = 0
    · by_cases hk : (tokF (l.drop (gapL l))).kind = 0
      · rw [toks_end f l i acc he hk, toks_end g l i acc he hk]
      · rw [toks_more f l i acc he hk, toks_more g l i acc he hk]
        have hfit := tok_fit (l.drop (gapL l))
        have h1 := hfit.2.1 he hk
        have h2 := hfit.2.2 he
        rw [List.length_drop] at h2
        have hgl := gapL_le l
        rcases n with _ | n
        · omega
        · exact toks_fuel n _ (by rw [List.length_drop, List.length_drop]; omega) f g (by rw [List.length_drop, List.length_drop]; omega) (by rw [List.length_drop, List.length_drop]; omega) _ _
    · rw [toks_err f l i acc he, toks_err g l i acc he]
/-- The tokens from here on, behind acc. -/
def runT (l : List UInt8) (i : Nat) (acc : List Tok) : List Tok × Nat × Int := toksA (l.length + 1) l i acc
theorem runT_gap (l : List UInt8) (i k : Nat) (acc : List Tok) (h : gapL l = k + gapL (l.drop k)) : runT l i acc = runT (l.drop k) (i + k) acc := by
  unfold runT
  have hd : (l.drop k).drop (gapL (l.drop k)) = l.drop (gapL l) := by rw [List.drop_drop, h]
  have hi : i + k + gapL (l.drop k) = i + gapL l := by rw [h]; omega
  have hgl := gapL_le l
  have hgk := gapL_le (l.drop k)
  rw [List.length_drop] at hgk
  have e1 := toks_err (l.drop k).length (l.drop k) (i + k) acc
  have e2 := toks_end (l.drop k).length (l.drop k) (i + k) acc
  have e3 := toks_more (l.drop k).length (l.drop k) (i + k) acc
  rw [hd, hi] at e1 e2 e3
  by_cases he : (tokF (l.drop (gapL l))).e = 0
  · by_cases hk : (tokF (l.drop (gapL l))).kind = 0
    · rw [toks_end _ l i acc he hk, e2 he hk]
    · rw [toks_more _ l i acc he hk, e3 he hk]
      have hfit := tok_fit (l.drop (gapL l))
      have h1 := hfit.2.1 he hk
      have h2 := hfit.2.2 he
      rw [List.length_drop] at h2
      exact toks_fuel _ _ (Nat.le_refl _) _ _ (by rw [List.length_drop, List.length_drop]; omega) (by rw [List.length_drop, List.length_drop, List.length_drop]; omega) _ _
  · rw [toks_err _ l i acc he, e1 he]
theorem runT_end (i : Nat) (acc : List Tok) : runT [] i acc = (acc ++ [⟨0, [], 0, i⟩], 0, 0) := by
  unfold runT
  rw [toks_end _ [] i acc rfl rfl]; rfl
theorem runT_err (l : List UInt8) (i : Nat) (acc : List Tok) (hg : gapL l = 0) (h : (tokF l).e ≠ 0) : runT l i acc = ([], i, (tokF l).e) := by
  unfold runT
  have := toks_err l.length l i acc
  rw [hg, List.drop_zero] at this
  exact this h
theorem runT_more (l : List UInt8) (i : Nat) (acc : List Tok) (hg : gapL l = 0) (h : (tokF l).e = 0) (hk : (tokF l).kind ≠ 0) : runT l i acc = runT (l.drop (tokF l).n) (i + (tokF l).n) (acc ++ [⟨(tokF l).kind, (tokF l).text, (tokF l).num, i⟩]) := by
  unfold runT
  have h3 := toks_more l.length l i acc
  have h1 := (tok_fit l).2.1 h hk
  have h2 := (tok_fit l).2.2 h
  rw [hg, List.drop_zero] at h3
  rw [h3 h hk]
  exact toks_fuel _ _ (Nat.le_refl _) _ _ (by rw [List.length_drop]; omega) (by omega) _ _
end Go.Proofs.YtmjjjnmfkdidgaaDoor
