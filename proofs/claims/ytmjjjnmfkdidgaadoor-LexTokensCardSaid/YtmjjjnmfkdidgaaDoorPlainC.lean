/- The plain mathematics of layer 4: a source's tokens. -/
import Derived.Test.YtmjjjnmfkdidgaaDoorWalkJ
namespace Go.Proofs.YtmjjjnmfkdidgaaDoor
set_option linter.unusedVariables false

/-- The tokens from place i on, behind acc: the tokens, the place, the error. -/
def toksA : Nat → List UInt8 → Nat → List Tok → List Tok × Nat × Int
  | 0, _, _, acc => (acc, 0, 0)
  | f + 1, l, i, acc =>
    if (tokF (l.drop (gapL l))).e ≠ 0 then ([], i + gapL l, (tokF (l.drop (gapL l))).e)
    else if (tokF (l.drop (gapL l))).kind = 0 then (acc ++ [⟨0, [], 0, i + gapL l⟩], 0, 0)
    else toksA f ((l.drop (gapL l)).drop (tokF (l.drop (gapL l))).n) (i + gapL l + (tokF (l.drop (gapL l))).n)
      (acc ++ [⟨(tokF (l.drop (gapL l))).kind, (tokF (l.drop (gapL l))).text, (tokF (l.drop (gapL l))).num, i + gapL l⟩])
def tokensF (l : List UInt8) : List Tok × Nat × Int := if 2000 < l.length then ([], 0, 12) else toksA (l.length + 1) l 0 []
theorem nameK_pos (c : UInt8) (l : List UInt8) : nameK c l = 4 ∨ nameK c l = 6 ∨ nameK c l = 3 := by
  unfold nameK; split
  · exact .inl rfl
  · split
    · exact .inr (.inl rfl)
    · exact .inr (.inr rfl)
theorem tw_le (P : UInt8 → Bool) (l : List UInt8) : (l.takeWhile P).length ≤ l.length := (List.takeWhile_sublist P).length_le
/-- What a token is: its kind, and how many bytes. -/
theorem tok_fit (l : List UInt8) : ((tokF l).e = 0 ∧ (tokF l).kind = 0 ↔ l = []) ∧ ((tokF l).e = 0 → (tokF l).kind ≠ 0 → 0 < (tokF l).n) ∧ ((tokF l).e = 0 → (tokF l).n ≤ l.length) := by
  cases l with
  | nil => exact ⟨⟨fun _ => rfl, fun _ => ⟨rfl, rfl⟩⟩, fun _ h => absurd rfl h, fun _ => Nat.le_refl _⟩
  | cons c r =>
    rcases h1 : digB c with _ | _
    · by_cases h2 : c = 34
      · subst h2
        rw [tok_text]
        have h := unqF_le (34 :: r)
        exact ⟨⟨fun h => absurd h.2 (show ¬ ((2 : Int) = 0) by decide), fun h => by cases h⟩, fun h0 _ => by have := h.2 h0; show 0 < (S.unqF (34 :: r)).2.1; omega, fun _ => h.1⟩
      · rcases h3 : (smaB c || larB c) with _ | _
        · rcases h4 : signL.contains c with _ | _
          · rw [tok_odd c r h1 h2 h3 h4]
            exact ⟨⟨fun h => absurd h.1 (by decide), fun h => by cases h⟩, fun h => absurd h (by decide), fun h => absurd h (by decide)⟩
          · rw [tok_sign c r h1 h2 h3 h4]
            split
            · rename_i ha
              refine ⟨⟨fun h => absurd h.2 (by decide), fun h => by cases h⟩, fun _ _ => (by decide : (0 : Nat) < 2), fun _ => ?_⟩
              unfold arrB at ha
              have := congrArg List.length (beq_iff_eq.1 ha)
              rw [List.length_take] at this
              show 2 ≤ _
              simp only [List.length_cons, List.length_nil] at this ⊢; omega
            · exact ⟨⟨fun h => absurd h.2 (show ¬ ((5 : Int) = 0) by decide), fun h => by cases h⟩, fun _ _ => (by decide : (0 : Nat) < 1), fun _ => by show 1 ≤ _; simp⟩
        · rw [tok_name c r h1 h2 h3]
          have hp : 0 < ((c :: r).takeWhile innB).length := by rw [List.takeWhile_cons, if_pos (by unfold innB; rw [h3]; rfl)]; simp
          split
          · exact ⟨⟨fun h => absurd h.1 (by decide), fun h => by cases h⟩, fun h => absurd h (by decide), fun h => absurd h (by decide)⟩
          · exact ⟨⟨fun h => by have := nameK_pos c ((c :: r).takeWhile innB); have h' : nameK c ((c :: r).takeWhile innB) = 0 := h.2; omega, fun h => by cases h⟩, fun _ _ => hp, fun _ => tw_le _ _⟩
    · rw [tok_num c r h1]
      have hp : 0 < ((c :: r).takeWhile digB).length := by rw [List.takeWhile_cons, if_pos h1]; simp
      split
      · exact ⟨⟨fun h => absurd h.1 (by decide), fun h => by cases h⟩, fun h => absurd h (by decide), fun h => absurd h (by decide)⟩
      · exact ⟨⟨fun h => absurd h.2 (show ¬ ((1 : Int) = 0) by decide), fun h => by cases h⟩, fun _ _ => hp, fun _ => tw_le _ _⟩
theorem tok_zero (l : List UInt8) (h : (tokF l).e = 0) (h2 : (tokF l).kind = 0) : tokF l = ⟨0, [], 0, 0, 0⟩ := by
  rw [(tok_fit l).1.1 ⟨h, h2⟩]; rfl
theorem gapL_le (l : List UInt8) : gapL l ≤ l.length := gap_le _ _
theorem toks_err (f : Nat) (l : List UInt8) (i : Nat) (acc : List Tok) (h : (tokF (l.drop (gapL l))).e ≠ 0) : toksA (f + 1) l i acc = ([], i + gapL l, (tokF (l.drop (gapL l))).e) := by
  show (if _ then _ else _) = _; rw [if_pos h]
theorem toks_end (f : Nat) (l : List UInt8) (i : Nat) (acc : List Tok) (h : (tokF (l.drop (gapL l))).e = 0) (h2 : (tokF (l.drop (gapL l))).kind = 0) : toksA (f + 1) l i acc = (acc ++ [⟨0, [], 0, i + gapL l⟩], 0, 0) := by
  show (if _ then _ else if _ then _ else _) = _; rw [if_neg (by rw [h]; decide), if_pos h2]
theorem toks_more (f : Nat) (l : List UInt8) (i : Nat) (acc : List Tok) (h : (tokF (l.drop (gapL l))).e = 0) (h2 : (tokF (l.drop (gapL l))).kind ≠ 0) : toksA (f + 1) l i acc =
    toksA f ((l.drop (gapL l)).drop (tokF (l.drop (gapL l))).n) (i + gapL l + (tokF (l.drop (gapL l))).n) (acc ++ [⟨(tokF (l.drop (gapL l))).kind, (tokF (l.drop (gapL l))).text, (tokF (l.drop (gapL l))).num, i + gapL l⟩]) := by
  show (if _ then _ else if _ then _ else _) = _; rw [if_neg (by rw [h]; decide), if_neg h2]
/-- A token's cells. -/
def tkC (t : Tok) : List Value := [.int .i64 t.kind, .string ⟨t.text.toArray⟩, .int .i64 t.num, .int .i64 (t.at_ : Int)]
def mkToks (ts : List Tok) : List Value := ts.flatMap tkC
theorem mkToks_len (ts : List Tok) : (mkToks ts).length = ts.length * 4 := by
  induction ts with
  | nil => rfl
  | cons t ts ih => unfold mkToks at ih ⊢; rw [List.flatMap_cons, List.length_append, ih, List.length_cons]; unfold tkC; simp; omega
theorem mkToks_snoc (ts : List Tok) (t : Tok) : mkToks (ts ++ [t]) = mkToks ts ++ tkC t := by
  unfold mkToks; rw [List.flatMap_append]; simp
theorem mkToks_get (ts : List Tok) (k : Nat) (t : Tok) (h : ts[k]? = some t) : (mkToks ts)[k * 4]? = some (.int .i64 t.kind) ∧ (mkToks ts)[k * 4 + 1]? = some (.string ⟨t.text.toArray⟩) ∧ (mkToks ts)[k * 4 + 2]? = some (.int .i64 t.num) ∧ (mkToks ts)[k * 4 + 3]? = some (.int .i64 (t.at_ : Int)) := by
  induction ts generalizing k with
  | nil => simp at h
  | cons u ts ih =>
    cases k with
    | zero =>
      simp only [List.getElem?_cons_zero, Option.some.injEq] at h
      subst h
      exact ⟨rfl, rfl, rfl, rfl⟩
    | succ k =>
      have := ih k (by simpa using h)
      have e : mkToks (u :: ts) = tkC u ++ mkToks ts := by unfold mkToks; rw [List.flatMap_cons]
      rw [e]
      have hl : (tkC u).length = 4 := rfl
      refine ⟨?_, ?_, ?_, ?_⟩
      all_goals rw [List.getElem?_append_right (by rw [hl]; omega), hl]
      · rw [show (k + 1) * 4 - 4 = k * 4 by omega]; exact this.1
      · rw [show (k + 1) * 4 + 1 - 4 = k * 4 + 1 by omega]; exact this.2.1
      · rw [show (k + 1) * 4 + 2 - 4 = k * 4 + 2 by omega]; exact this.2.2.1
      · rw [show (k + 1) * 4 + 3 - 4 = k * 4 + 3 by omega]; exact this.2.2.2
end Go.Proofs.YtmjjjnmfkdidgaaDoor
