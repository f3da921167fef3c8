/- The plain mathematics of layer 4: what a run of tokens is, and two sources with a gap between. -/
import Derived.Test.YtmjjjnmfkdidgaaDoorPlainC
namespace Go.Proofs.YtmjjjnmfkdidgaaDoor
set_option linter.unusedVariables false

/-- The tokens of a source from place i on. -/
inductive Toks : List UInt8 → Nat → List Tok → Prop
  | fin (l : List UInt8) (i : Nat) (h : l.drop (gapL l) = []) : Toks l i [⟨0, [], 0, i + gapL l⟩]
  | one (l : List UInt8) (i : Nat) (ts : List Tok) (kd : Int) (tx : List UInt8) (nm : Int) (n : Nat) (hr : tokF (l.drop (gapL l)) = ⟨kd, tx, nm, n, 0⟩) (hk : kd ≠ 0) (ht : Toks (l.drop (gapL l + n)) (i + gapL l + n) ts) :
      Toks l i (⟨kd, tx, nm, i + gapL l⟩ :: ts)
theorem tok_len {l : List UInt8} {kd : Int} {tx : List UInt8} {nm : Int} {n : Nat} (hr : tokF l = ⟨kd, tx, nm, n, 0⟩) (hk : kd ≠ 0) : 0 < n ∧ n ≤ l.length := by
  have h := tok_fit l
  rw [hr] at h
  exact ⟨h.2.1 rfl hk, h.2.2 rfl⟩
theorem toks_of {l : List UInt8} {i : Nat} {ts : List Tok} (h : Toks l i ts) : ∀ f acc, l.length < f → toksA f l i acc = (acc ++ ts, 0, 0) := by
  induction h with
  | fin l i h =>
    intro f acc hf
    obtain ⟨f, rfl⟩ : ∃ g, f = g + 1 := ⟨f - 1, by omega⟩
    exact toks_end f l i acc (by rw [h]; rfl) (by rw [h]; rfl)
  | one l i ts kd tx nm n hr hk ht ih =>
    intro f acc hf
    obtain ⟨f, rfl⟩ : ∃ g, f = g + 1 := ⟨f - 1, by omega⟩
    have hn := tok_len hr hk
    have hg := gapL_le l
    rw [List.length_drop] at hn
    rw [toks_more f l i acc (by rw [hr]) (by rw [hr]; exact hk), hr]
    dsimp only
    rw [List.drop_drop, ih f _ (by rw [List.length_drop]; omega), List.append_assoc, List.singleton_append]
theorem of_toks : ∀ (f : Nat) (l : List UInt8) (i : Nat) (acc ts : List Tok) (p : Nat), l.length < f → toksA f l i acc = (ts, p, 0) → ∃ us, Toks l i us ∧ ts = acc ++ us ∧ p = 0
  | 0, _, _, _, _, _, h, _ => by omega
  | f + 1, l, i, acc, ts, p, hf, h => by
    by_cases he : (tokF (l.drop (gapL l))).e = 0
    · by_cases hk : (tokF (l.drop (gapL l))).kind = 0
      · rw [toks_end f l i acc he hk] at h
        injection h with h1 h2
        injection h2 with h2 h3
        exact ⟨_, .fin l i ((tok_fit _).1.1 ⟨he, hk⟩), h1.symm, h2.symm⟩
      · rw [toks_more f l i acc he hk] at h
        rcases hr : tokF (l.drop (gapL l)) with ⟨kd, tx, nm, n, e⟩
        rw [hr] at h he hk
        dsimp only at h he hk
        subst he
        have hn := tok_len hr hk
        have hg := gapL_le l
        rw [List.length_drop] at hn
        rw [List.drop_drop] at h
        obtain ⟨us, h1, h2, h3⟩ := of_toks f _ _ _ _ _ (by rw [List.length_drop]; omega) h
        exact ⟨_, .one l i us kd tx nm n hr hk h1, by rw [h2, List.append_assoc, List.singleton_append], h3⟩
    · rw [toks_err f l i acc he] at h
      injection h with h1 h2
      injection h2 with h2 h3
      exact absurd h3 he
theorem tokensF_of {l : List UInt8} {ts : List Tok} (h : Toks l 0 ts) (hl : l.length ≤ 2000) : tokensF l = (ts, 0, 0) := by
  unfold tokensF
  rw [if_neg (by omega), toks_of h _ _ (Nat.lt_succ_self _)]; rfl
theorem of_tokensF {l : List UInt8} {ts : List Tok} {p : Nat} (h : tokensF l = (ts, p, 0)) : Toks l 0 ts := by
  unfold tokensF at h
  split at h
  · injection h with h1 h2
    injection h2 with h2 h3
    cases h3
  · obtain ⟨us, h1, h2, _⟩ := of_toks _ _ _ _ _ _ (Nat.lt_succ_self _) h
    rw [h2]; exact h1
/-- Refused: no tokens. -/
theorem toksA_bad : ∀ (f : Nat) (l : List UInt8) (i : Nat) (acc ts : List Tok) (p : Nat) (e : Int), toksA f l i acc = (ts, p, e) → e ≠ 0 → ts = []
  | 0, _, _, _, _, _, _, h, he => by
    unfold toksA at h
    injection h with h1 h2
    injection h2 with h2 h3
    exact absurd h3.symm he
  | f + 1, l, i, acc, ts, p, e, h, he => by
    by_cases h0 : (tokF (l.drop (gapL l))).e = 0
    · by_cases hk : (tokF (l.drop (gapL l))).kind = 0
      · rw [toks_end f l i acc h0 hk] at h
        injection h with h1 h2
        injection h2 with h2 h3
        exact absurd h3.symm he
      · rw [toks_more f l i acc h0 hk] at h
        exact toksA_bad f _ _ _ _ _ _ h he
    · rw [toks_err f l i acc h0] at h
      injection h with h1 h2
      exact h1.symm
theorem tokensF_bad {l : List UInt8} {ts : List Tok} {p : Nat} {e : Int} (h : tokensF l = (ts, p, e)) (he : e ≠ 0) : ts = [] := by
  unfold tokensF at h
  split at h
  · injection h with h1 h2; exact h1.symm
  · exact toksA_bad _ _ _ _ _ _ _ h he
theorem Toks.ne {l : List UInt8} {i : Nat} {ts : List Tok} (h : Toks l i ts) : ts ≠ [] := by cases h <;> simp
/-- No more tokens than bytes, and one. -/
theorem Toks.len {l : List UInt8} {i : Nat} {ts : List Tok} (h : Toks l i ts) : ts.length ≤ l.length + 1 := by
  induction h with
  | fin l i h => simp
  | one l i ts kd tx nm n hr hk ht ih =>
    have hn := tok_len hr hk
    rw [List.length_drop] at hn ih
    rw [List.length_cons]; omega
/-- Where tokens stand. -/
theorem Toks.places {l : List UInt8} {i : Nat} {ts : List Tok} (h : Toks l i ts) : ∀ k t, ts[k]? = some t → ((t.kind = 0) ↔ k + 1 = ts.length) ∧ (t.at_ = i + l.length ↔ k + 1 = ts.length) ∧ i ≤ t.at_ ∧ (∀ u, ts[k + 1]? = some u → t.at_ < u.at_) := by
  induction h with
  | fin l i h =>
    intro k t hk
    have hg := gapL_le l
    have h2 : gapL l = l.length := by
      have := congrArg List.length h
      rw [List.length_drop, List.length_nil] at this; omega
    cases k with
    | zero =>
      simp only [List.getElem?_cons_zero, Option.some.injEq] at hk
      subst hk
      exact ⟨by simp, by simp [h2], by simp, by simp⟩
    | succ k => simp at hk
  | one l i ts kd tx nm n hr hk ht ih =>
    intro k t hkt
    have hn := tok_len hr hk
    have hg := gapL_le l
    have hne := ht.ne
    rw [List.length_drop] at hn
    have hlen : 0 < ts.length := List.length_pos_iff.2 hne
    have hll : i + gapL l + n + (l.drop (gapL l + n)).length = i + l.length := by rw [List.length_drop]; omega
    rw [hll] at ih
    cases k with
    | zero =>
      simp only [List.getElem?_cons_zero, Option.some.injEq] at hkt
      subst hkt
      dsimp only
      refine ⟨⟨fun h => absurd h hk, fun h => by simp only [List.length_cons] at h; omega⟩, ⟨fun h => by omega, fun h => by simp only [List.length_cons] at h; omega⟩, by omega, fun u hu => ?_⟩
      simp only [List.getElem?_cons_succ] at hu
      have := (ih 0 u hu).2.2.1
      omega
    | succ k =>
      simp only [List.getElem?_cons_succ] at hkt
      obtain ⟨a, b, c, d⟩ := ih k t hkt
      refine ⟨by rw [a]; simp, by rw [b]; simp, by omega, fun u hu => d u (by simpa using hu)⟩
/-- Tokens later by d. -/
def Tok.late (d : Nat) (t : Tok) : Tok := ⟨t.kind, t.text, t.num, t.at_ + d⟩
theorem Toks.late {l : List UInt8} {i : Nat} {ts : List Tok} (h : Toks l i ts) (d : Nat) : Toks l (i + d) (ts.map (Tok.late d)) := by
  induction h with
  | fin l i h =>
    have e : i + gapL l + d = i + d + gapL l := by omega
    simp only [List.map_cons, List.map_nil, Tok.late, e]
    exact .fin l (i + d) h
  | one l i ts kd tx nm n hr hk ht ih =>
    have e : i + gapL l + d = i + d + gapL l := by omega
    have e2 : i + gapL l + n + d = i + d + gapL l + n := by omega
    simp only [List.map_cons, Tok.late, e]
    rw [e2] at ih
    exact .one l (i + d) _ kd tx nm n hr hk ih
/-- A gap ahead. -/
theorem Toks.pre {p t : List UInt8} {i : Nat} {us : List Tok} (h : Toks t (i + p.length) us) (hp : gapL (p ++ t) = p.length + gapL t) : Toks (p ++ t) i us := by
  have hd : ∀ k, (p ++ t).drop (p.length + k) = t.drop k := fun k => by rw [← List.drop_drop, List.drop_left]
  cases h with
  | fin _ _ h =>
    have := Toks.fin (p ++ t) i (by rw [hp, hd]; exact h)
    rw [hp, ← Nat.add_assoc] at this
    exact this
  | one _ _ ts kd tx nm n hr hk ht =>
    have := Toks.one (p ++ t) i ts kd tx nm n (by rw [hp, hd]; exact hr) hk (by rw [hp, Nat.add_assoc p.length, hd, show i + (p.length + gapL t) + n = i + p.length + gapL t + n from by omega]; exact ht)
    rw [hp, ← Nat.add_assoc] at this
    exact this
theorem gap_fuel : ∀ (n : Nat) (l : List UInt8), l.length ≤ n → ∀ f g, l.length ≤ f → l.length ≤ g → gapF f l = gapF g l
  | 0, l, h, f, g, hf, hg => by
    have : l = [] := List.eq_nil_of_length_eq_zero (by omega)
    subst this
    cases f <;> cases g <;> rfl
  | n + 1, l, h, f, g, hf, hg => by
    cases l with
    | nil => cases f <;> cases g <;> rfl
    | cons c r =>
      simp only [List.length_cons] at h hf hg
      obtain ⟨f, rfl⟩ : ∃ k, f = k + 1 := ⟨f - 1, by omega⟩
      obtain ⟨g, rfl⟩ : ∃ k, g = k + 1 := ⟨g - 1, by omega⟩
      unfold gapF
      dsimp only
      split
      · rw [gap_fuel n r (by omega) f g (by omega) (by omega)]
      · split
        · rename_i h35
          have hp : 0 < ((c :: r).takeWhile (· ≠ 10)).length := by
            rw [List.takeWhile_cons, if_pos (by rw [h35]; decide)]; simp
          have hl : ((c :: r).drop ((c :: r).takeWhile (· ≠ 10)).length).length ≤ r.length := by rw [List.length_drop, List.length_cons]; omega
          rw [gap_fuel n _ (by omega) f g (by omega) (by omega)]
        · rfl
theorem gapL_blank (c : UInt8) (r : List UInt8) (h : c = 32 ∨ c = 9 ∨ c = 10) : gapL (c :: r) = 1 + gapL r := by
  unfold gapL
  show (if c = 32 ∨ c = 9 ∨ c = 10 then 1 + gapF r.length r else _) = 1 + gapF r.length r
  rw [if_pos h]
theorem gapL_rem (c : UInt8) (r : List UInt8) (h : c = 35) : gapL (c :: r) = ((c :: r).takeWhile (· ≠ 10)).length + gapL ((c :: r).drop ((c :: r).takeWhile (· ≠ 10)).length) := by
  have hp : 0 < ((c :: r).takeWhile (· ≠ 10)).length := by
    rw [List.takeWhile_cons, if_pos (by rw [h]; decide)]; simp
  have hl : ((c :: r).drop ((c :: r).takeWhile (· ≠ 10)).length).length ≤ r.length := by rw [List.length_drop, List.length_cons]; omega
  have e : gapL (c :: r) = ((c :: r).takeWhile (· ≠ 10)).length + gapF r.length ((c :: r).drop ((c :: r).takeWhile (· ≠ 10)).length) := by
    unfold gapL
    show (if c = 32 ∨ c = 9 ∨ c = 10 then _ else if c = 35 then _ else _) = _
    rw [if_neg (by rw [h]; decide), if_pos h]
  rw [e]
  unfold gapL
  rw [gap_fuel _ _ (Nat.le_refl _) r.length _ hl (Nat.le_refl _)]
theorem gapL_other (c : UInt8) (r : List UInt8) (h : ¬ (c = 32 ∨ c = 9 ∨ c = 10)) (h2 : c ≠ 35) : gapL (c :: r) = 0 := by
  unfold gapL
  show (if c = 32 ∨ c = 9 ∨ c = 10 then _ else if c = 35 then _ else _) = _
  rw [if_neg h, if_neg h2]
theorem tw_stop {P : UInt8 → Bool} {x : UInt8} (hx : P x = false) (R : List UInt8) : ∀ s : List UInt8, (s ++ x :: R).takeWhile P = s.takeWhile P
  | [] => by rw [List.nil_append, List.takeWhile_cons, if_neg (by rw [hx]; decide)]; rfl
  | c :: s => by
    rw [List.cons_append, List.takeWhile_cons, List.takeWhile_cons, tw_stop hx R s]
/-- A gap is the same whatever stands behind the line's end, or goes on behind it. -/
theorem gap_local : ∀ (n : Nat) (s : List UInt8), s.length ≤ n → (gapL (s ++ [10]) = s.length + 1 ∧ ∀ R, gapL (s ++ 10 :: R) = s.length + 1 + gapL R) ∨ (gapL (s ++ [10]) < s.length + 1 ∧ ∀ R, gapL (s ++ 10 :: R) = gapL (s ++ [10]))
  | n, [], _ => .inl ⟨by rw [List.nil_append, gapL_blank _ _ (by decide)]; rfl, fun R => by rw [List.nil_append, gapL_blank _ _ (by decide)]; rfl⟩
  | 0, c :: s, h => by simp at h
  | n + 1, c :: s, h => by
    simp only [List.length_cons] at h
    by_cases hb : c = 32 ∨ c = 9 ∨ c = 10
    · rcases gap_local n s (by omega) with ⟨h1, h2⟩ | ⟨h1, h2⟩
      · refine .inl ⟨?_, fun R => ?_⟩
        · rw [List.cons_append, gapL_blank _ _ hb, h1, List.length_cons]; omega
        · rw [List.cons_append, gapL_blank _ _ hb, h2, List.length_cons]; omega
      · refine .inr ⟨?_, fun R => ?_⟩
        · rw [List.cons_append, gapL_blank _ _ hb, List.length_cons]; omega
        · rw [List.cons_append, gapL_blank _ _ hb, h2, List.cons_append, gapL_blank _ _ hb]
    · by_cases h35 : c = 35
      · have hp : 0 < ((c :: s).takeWhile (· ≠ 10)).length := by
          rw [List.takeWhile_cons, if_pos (by rw [h35]; decide)]; simp
        have hle := tw_le (· ≠ 10) (c :: s)
        have hx : ∀ R, gapL (c :: s ++ 10 :: R) = ((c :: s).takeWhile (· ≠ 10)).length + gapL ((c :: s).drop ((c :: s).takeWhile (· ≠ 10)).length ++ 10 :: R) := fun R => by
          rw [List.cons_append, gapL_rem _ _ h35, ← List.cons_append, tw_stop (by decide), List.drop_append_of_le_length hle]
        have hlen : ((c :: s).drop ((c :: s).takeWhile (· ≠ 10)).length).length = s.length + 1 - ((c :: s).takeWhile (· ≠ 10)).length := by rw [List.length_drop, List.length_cons]
        rw [List.length_cons] at hle
        rcases gap_local n ((c :: s).drop ((c :: s).takeWhile (· ≠ 10)).length) (by omega) with ⟨h1, h2⟩ | ⟨h1, h2⟩
        · refine .inl ⟨?_, fun R => ?_⟩
          · rw [hx, h1, List.length_cons]; omega
          · rw [hx, h2, List.length_cons]; omega
        · refine .inr ⟨?_, fun R => ?_⟩
          · rw [hx, List.length_cons]; omega
          · rw [hx, h2, hx]
      · exact .inr ⟨by rw [List.cons_append, gapL_other _ _ hb h35]; simp, fun R => by rw [List.cons_append, gapL_other _ _ hb h35, List.cons_append, gapL_other _ _ hb h35]⟩
theorem escX_local (r R : List UInt8) (h : (S.escX (r ++ [10])).2.2 = 0) : S.escX (r ++ 10 :: R) = S.escX (r ++ [10]) ∧ 2 ≤ r.length := by
  have h10 : S.hexV 10 = none := by decide
  rcases r with _ | ⟨x, _ | ⟨y, r⟩⟩
  · simp [S.escX, h10] at h
  · simp only [List.cons_append, List.nil_append] at h ⊢
    unfold S.escX at h
    dsimp only at h
    rcases hv : S.hexV x with _ | p
    · rw [hv] at h; simp at h
    · rw [hv] at h; dsimp only at h; rw [h10] at h; simp at h
  · exact ⟨rfl, by simp⟩
theorem escF_local (r R : List UInt8) (h : (S.escF (r ++ [10])).2.2 = 0) : S.escF (r ++ 10 :: R) = S.escF (r ++ [10]) ∧ (S.escF (r ++ [10])).2.1 ≤ r.length := by
  rcases r with _ | ⟨a, r⟩
  · simp [S.escF] at h
  · simp only [List.cons_append] at h ⊢
    unfold S.escF at h ⊢
    dsimp only at h ⊢
    split
    · exact ⟨rfl, by simp⟩
    · split
      · exact ⟨rfl, by simp⟩
      · split
        · exact ⟨rfl, by simp⟩
        · rename_i h1 h2 h3
          rw [if_neg h1, if_neg h2, if_neg h3] at h
          split
          · rename_i h4
            rw [if_pos h4] at h
            have h5 := escX_local r R h
            refine ⟨h5.1, ?_⟩
            rw [(S.escX_len _ h).1, List.length_cons]; omega
          · exact ⟨rfl, by simp⟩
theorem unq_local (R : List UInt8) : ∀ (f : Nat) (r acc : List UInt8) (k f' : Nat), f ≤ f' → (S.unq f (r ++ [10]) acc k).2.2 = 0 → S.unq f' (r ++ 10 :: R) acc k = S.unq f (r ++ [10]) acc k ∧ (S.unq f (r ++ [10]) acc k).2.1 ≤ k + r.length
  | 0, _, _, _, _, _, h => by simp [S.unq] at h
  | f + 1, [], acc, k, f', hf, h => by
    rw [List.nil_append] at h
    unfold S.unq at h
    simp at h
  | f + 1, c :: r, acc, k, f', hf, h => by
    obtain ⟨f', rfl⟩ : ∃ g, f' = g + 1 := ⟨f' - 1, by omega⟩
    simp only [List.cons_append] at h ⊢
    unfold S.unq at h ⊢
    dsimp only at h ⊢
    split
    · rename_i h1; rw [if_pos h1] at h; simp at h
    · rename_i h1
      rw [if_neg h1] at h
      split
      · split
        · exact ⟨rfl, by simp⟩
        · exact ⟨rfl, by simp only [List.length_cons]; omega⟩
      · rename_i h2
        rw [if_neg h2] at h
        split
        · rename_i h3
          rw [if_pos h3] at h
          by_cases hz : (S.escF (r ++ [10])).2.2 = 0
          · rw [if_pos hz] at h
            obtain ⟨e1, e2⟩ := escF_local r R hz
            have hn := S.escF_len _ hz
            rw [e1, if_pos hz, if_pos hz]
            rw [List.drop_append_of_le_length e2] at h ⊢
            rw [List.drop_append_of_le_length e2]
            have ih := unq_local R f (r.drop (S.escF (r ++ [10])).2.1) _ _ f' (by omega) h
            refine ⟨ih.1, ?_⟩
            have := ih.2
            rw [List.length_drop] at this
            simp only [List.length_cons]; omega
          · rw [if_neg hz] at h; exact absurd h hz
        · rename_i h3
          rw [if_neg h3] at h
          split
          · rename_i h4
            rw [if_pos h4] at h
            have ih := unq_local R f r _ _ f' (by omega) h
            refine ⟨ih.1, ?_⟩
            have := ih.2
            simp only [List.length_cons]; omega
          · rename_i h4; rw [if_neg h4] at h; simp at h
/-- A token is the same whatever stands behind the line's end. -/
theorem tok_local (c : UInt8) (r R : List UInt8) {kd : Int} {tx : List UInt8} {nm : Int} {n : Nat} (h : tokF (c :: r ++ [10]) = ⟨kd, tx, nm, n, 0⟩) : tokF (c :: r ++ 10 :: R) = ⟨kd, tx, nm, n, 0⟩ ∧ n ≤ r.length + 1 := by
  have hD := fun R => tw_stop (P := digB) (x := 10) (by decide) R (c :: r)
  have hN := fun R => tw_stop (P := innB) (x := 10) (by decide) R (c :: r)
  have lD := tw_le digB (c :: r)
  have lN := tw_le innB (c :: r)
  simp only [List.cons_append, List.length_cons] at *
  rcases h1 : digB c with _ | _
  · by_cases h2 : c = 34
    · subst h2
      rw [tok_text] at h ⊢
      injection h with e1 e2 e3 e4 e5
      unfold S.unqF at e2 e4 e5 ⊢
      dsimp only at e2 e4 e5 ⊢
      rw [if_pos rfl] at e2 e4 e5
      rw [if_pos rfl]
      obtain ⟨q1, q2⟩ := unq_local R _ r [] 1 ((r ++ 10 :: R).length + 1) (by simp) e5
      rw [q1, e2, e4, e5, e1, e3]
      rw [e4] at q2
      exact ⟨rfl, by omega⟩
    · rcases h3 : (smaB c || larB c) with _ | _
      · rcases h4 : signL.contains c with _ | _
        · rw [tok_odd c _ h1 h2 h3 h4] at h
          injection h with e1 e2 e3 e4 e5
          exact absurd e5 (by decide)
        · rw [tok_sign c _ h1 h2 h3 h4] at h ⊢
          have ha : arrB (c :: (r ++ 10 :: R)) = arrB (c :: (r ++ [10])) := by
            unfold arrB
            rcases r with _ | ⟨d, r⟩ <;> simp
          rw [ha]
          refine ⟨h, ?_⟩
          split at h
          · rename_i hh
            injection h with e1 e2 e3 e4 e5
            subst e4
            rcases r with _ | ⟨d, r⟩
            · unfold arrB at hh; simp at hh
            · simp
          · injection h with e1 e2 e3 e4 e5
            omega
      · rw [tok_name c _ h1 h2 h3, hN] at h ⊢
        refine ⟨h, ?_⟩
        split at h
        · injection h with e1 e2 e3 e4 e5
          exact absurd e5 (by decide)
        · injection h with e1 e2 e3 e4 e5
          omega
  · rw [tok_num c _ h1, hD] at h ⊢
    refine ⟨h, ?_⟩
    split at h
    · injection h with e1 e2 e3 e4 e5
      exact absurd e5 (by decide)
    · injection h with e1 e2 e3 e4 e5
      omega
/-- Two sources with a gap between. -/
theorem Toks.join {L : List UInt8} {i : Nat} {ts : List Tok} (h : Toks L i ts) : ∀ (s g t : List UInt8) (us : List Tok), L = s ++ [10] → gapL (g ++ t) = g.length + gapL t → Toks t (i + (s.length + 1 + g.length)) us →
    Toks (s ++ 10 :: (g ++ t)) i (ts.dropLast ++ us) := by
  induction h with
  | fin l i h =>
    intro s g t us hL hg ht
    subst hL
    have hq : gapL (s ++ 10 :: (g ++ t)) = s.length + 1 + gapL (g ++ t) := by
      rcases gap_local _ s (Nat.le_refl _) with ⟨_, h2⟩ | ⟨h1, _⟩
      · exact h2 _
      · have := congrArg List.length h
        rw [List.length_drop, List.length_append, List.length_singleton, List.length_nil] at this
        omega
    rw [hg] at hq
    have e : s ++ 10 :: (g ++ t) = (s ++ 10 :: g) ++ t := by simp
    have el : (s ++ 10 :: g).length = s.length + 1 + g.length := by simp; omega
    rw [e] at hq ⊢
    show Toks _ _ ([] ++ us)
    rw [List.nil_append]
    exact Toks.pre (by rw [el]; exact ht) (by rw [hq, el]; omega)
  | one l i ts kd tx nm n hr hk h ih =>
    intro s g t us hL hg ht
    subst hL
    rcases gap_local _ s (Nat.le_refl _) with ⟨h1, h2⟩ | ⟨h1, h2⟩
    · rw [List.drop_eq_nil_of_le (by rw [h1]; simp)] at hr
      have e0 : tokF [] = ⟨0, [], 0, 0, 0⟩ := rfl
      rw [e0] at hr
      injection hr with e1
      exact absurd e1.symm hk
    · have hgl := h2 (g ++ t)
      generalize gapL (s ++ [10]) = G at *
      rw [List.drop_append_of_le_length (by omega)] at hr
      have hlen : (s.drop G).length = s.length - G := List.length_drop
      rcases hsd : s.drop G with _ | ⟨c, r⟩
      · rw [hsd] at hr
        have e0 : tokF ([] ++ [10]) = ⟨0, [], 0, 0, 10⟩ := rfl
        rw [e0] at hr
        injection hr with e1 e2 e3 e4 e5
        exact absurd e5 (by decide)
      · rw [hsd] at hr hlen
        obtain ⟨q1, q2⟩ := tok_local c r (g ++ t) hr
        rw [List.length_cons] at hlen
        have hdl := h.ne
        rw [List.dropLast_cons_of_ne_nil hdl]
        have hI := ih (s.drop (G + n)) g t us (by rw [List.drop_append_of_le_length (by omega)]) hg (by rw [List.length_drop, show i + G + n + (s.length - (G + n) + 1 + g.length) = i + (s.length + 1 + g.length) from by omega]; exact ht)
        have e1 : (s ++ 10 :: (g ++ t)).drop G = c :: r ++ 10 :: (g ++ t) := by rw [List.drop_append_of_le_length (by omega), hsd]
        have e2 : (s ++ 10 :: (g ++ t)).drop (G + n) = s.drop (G + n) ++ 10 :: (g ++ t) := by rw [List.drop_append_of_le_length (by omega)]
        have := Toks.one (s ++ 10 :: (g ++ t)) i (ts.dropLast ++ us) kd tx nm n (by rw [hgl, e1]; exact q1) hk (by rw [hgl, e2]; exact hI)
        rw [hgl] at this
        exact this
end Go.Proofs.YtmjjjnmfkdidgaaDoor
