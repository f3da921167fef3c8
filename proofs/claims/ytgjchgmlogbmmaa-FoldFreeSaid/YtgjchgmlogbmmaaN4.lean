import Derived.Test.YtgjchgmlogbmmaaN3
import Derived.BigQuiet
import Derived.StillTailTactics
/- Laws of folding: names free, folding twice. -/
namespace Go.Proofs.Ytgjchgmlogbmmaa
set_option linter.unusedVariables false

def WfN (x : Nd) : Prop := wfN x = true
theorem wfN_iff (x : Nd) : WfN x ↔ kdOk x.kd x.ks.length = true ∧ x.tx.length ≤ 60 ∧ x.ns.length ≤ 100000 ∧ x.ks.length ≤ 100000 ∧ wfL x.ks = true := by
  cases x
  simp only [WfN, wfN, Nd.kd, Nd.ks, Nd.tx, Nd.ns, Bool.and_eq_true, decide_eq_true_eq, and_assoc]
theorem wfL_iff : ∀ (l : List Nd), wfL l = true ↔ ∀ x ∈ l, WfN x
  | [] => by simp [wfL]
  | x :: xs => by simp [wfL, WfN, wfL_iff xs]
theorem len_two {l : List Nd} (h : l.length = 2) : ∃ a b, l = [a, b] := by
  match l, h with
  | [a, b], _ => exact ⟨a, b, rfl⟩
theorem len_three {l : List Nd} (h : l.length = 3) : ∃ a b c, l = [a, b, c] := by
  match l, h with
  | [a, b, c], _ => exact ⟨a, b, c, rfl⟩
theorem WfN.kd {x : Nd} (h : WfN x) : kdOk x.kd x.ks.length = true := ((wfN_iff x).1 h).1
theorem WfN.tx {x : Nd} (h : WfN x) : x.tx.length ≤ 60 := ((wfN_iff x).1 h).2.1
theorem WfN.ns {x : Nd} (h : WfN x) : x.ns.length ≤ 100000 := ((wfN_iff x).1 h).2.2.1
theorem WfN.len {x : Nd} (h : WfN x) : x.ks.length ≤ 100000 := ((wfN_iff x).1 h).2.2.2.1
theorem WfN.ks {x : Nd} (h : WfN x) : ∀ y ∈ x.ks, WfN y := (wfL_iff _).1 ((wfN_iff x).1 h).2.2.2.2
theorem WfN.range {x : Nd} (h : WfN x) : 0 ≤ x.kd ∧ x.kd ≤ 100 := by
  have := h.kd
  unfold kdOk at this
  simp only [Bool.and_eq_true, decide_eq_true_eq] at this
  exact this.2
theorem WfN.name {x : Nd} (h : WfN x) (hk : x.kd = 4) : x.ks = [] := by
  have := h.kd
  rw [hk] at this
  simpa [kdOk] using this
theorem WfN.two {x : Nd} (h : WfN x) (hk : x.kd = 13 ∨ x.kd = 8 ∨ x.kd = 9 ∨ x.kd = 14) : ∃ a b, x.ks = [a, b] := by
  have h1 := h.kd
  have : x.ks.length = 2 := by rcases hk with e | e | e | e <;> rw [e] at h1 <;> simpa [kdOk] using h1
  exact len_two this
theorem WfN.three {x : Nd} (h : WfN x) (hk : x.kd = 10) : ∃ a b c, x.ks = [a, b, c] := by
  have h1 := h.kd
  rw [hk] at h1
  exact len_three (by simpa [kdOk] using h1)

theorem freeF_eq (x : Nd) (b l : List (List UInt8)) : freeF x b l = freeL x.ks x.kd x.tx nd0 0 b (if x.kd == 4 && !b.contains x.tx && !l.contains x.tx then l ++ [x.tx] else l) := by cases x; rfl
theorem occF_eq (x : Nd) (s : List UInt8) : occF x s = if x.kd == 4 then x.tx == s else occL x.ks x.kd x.tx nd0 0 s := by cases x; rfl
theorem allF_eq (x : Nd) (l : List (List UInt8)) : allF x l = allL x.ks (if x.kd == 4 && !l.contains x.tx then l ++ [x.tx] else l) := by cases x; rfl
theorem expN_eq (x : Nd) : expN x = redF (.mk x.kd x.tx x.nm x.at_ x.ns (expK x.ks x.kd 0)) := by cases x; rfl
theorem stillF_eq (x : Nd) : stillF x = ((x.kd == 1 || x.kd == 2 || x.kd == 3 || x.kd == 4 || x.kd == 6) || (x.kd == 5 && stillL x.ks)) := by cases x; rfl

theorem freeL_mem (kd : Int) (tx : List UInt8) : ∀ (xs : List Nd), (∀ x ∈ xs, ∀ b l s, s ∈ freeF x b l ↔ s ∈ l ∨ (s ∉ b ∧ occF x s = true)) → ∀ (p : Nd) (i : Nat) (b l : List (List UInt8)) (s : List UInt8),
    s ∈ freeL xs kd tx p i b l ↔ s ∈ l ∨ (s ∉ b ∧ occL xs kd tx p i s = true)
  | [], _, p, i, b, l, s => by simp [freeL, occL]
  | x :: xs, h, p, i, b, l, s => by
    rw [freeL, freeL_mem kd tx xs (fun y hy => h y (List.mem_cons_of_mem _ hy)), occL]
    by_cases hb : bindsB kd i = true
    · rw [if_pos hb, h x List.mem_cons_self, hb]
      simp only [List.mem_append, Bool.true_and, Bool.or_eq_true, Bool.and_eq_true, Bool.not_eq_true', List.contains_eq_mem, decide_eq_false_iff_not]
      constructor
      · rintro ((h1 | ⟨h1, h2⟩) | ⟨h1, h2⟩)
        · exact .inl h1
        · exact .inr ⟨fun e => h1 (.inl e), .inl ⟨fun e => h1 (.inr e), h2⟩⟩
        · exact .inr ⟨h1, .inr h2⟩
      · rintro (h1 | ⟨h1, ⟨h2, h3⟩ | h2⟩)
        · exact .inl (.inl h1)
        · exact .inl (.inr ⟨fun e => e.elim h1 h2, h3⟩)
        · exact .inr ⟨h1, h2⟩
    · rw [if_neg hb]
      have hb' : bindsB kd i = false := by simpa using hb
      simp [hb']
theorem free_mem (x : Nd) : WfN x → ∀ b l s, s ∈ freeF x b l ↔ s ∈ l ∨ (s ∉ b ∧ occF x s = true) := by
  induction x using Nd.ind with
  | h x ih =>
    intro hw b l s
    rw [freeF_eq, freeL_mem _ _ _ (fun y hy => ih y hy (hw.ks y hy)), occF_eq]
    by_cases hk : x.kd = 4
    · rw [hw.name hk, hk]
      simp only [occL, Bool.false_eq_true, and_false, or_false, beq_self_eq_true, Bool.true_and, if_true, Bool.and_eq_true, Bool.not_eq_true', List.contains_eq_mem, decide_eq_false_iff_not, beq_iff_eq]
      by_cases h1 : x.tx ∉ b ∧ x.tx ∉ l
      · rw [if_pos h1]
        simp only [List.mem_append, List.mem_singleton]
        constructor
        · rintro (h2 | h2)
          · exact .inl h2
          · exact .inr ⟨by rw [h2]; exact h1.1, h2.symm⟩
        · rintro (h2 | h2)
          · exact .inl h2
          · exact .inr h2.2.symm
      · rw [if_neg h1]
        constructor
        · exact .inl
        · rintro (h2 | ⟨h2, h3⟩)
          · exact h2
          · subst h3
            by_cases h4 : x.tx ∈ l
            · exact h4
            · exact absurd ⟨h2, h4⟩ h1
    · have : (x.kd == 4) = false := beq_eq_false_iff_ne.2 hk
      simp only [this, Bool.false_and, Bool.false_eq_true, if_false]
theorem free_occ {x : Nd} (h : WfN x) (s : List UInt8) : (freeF x [] []).contains s = occF x s := by
  rw [Bool.eq_iff_iff, List.contains_iff_mem, free_mem x h]
  simp
theorem freeL_nodup (kd : Int) (tx : List UInt8) : ∀ (xs : List Nd), (∀ x ∈ xs, ∀ b l, l.Nodup → (freeF x b l).Nodup) → ∀ (p : Nd) (i : Nat) (b l : List (List UInt8)), l.Nodup → (freeL xs kd tx p i b l).Nodup
  | [], _, p, i, b, l, h => h
  | x :: xs, h, p, i, b, l, hl => by
    rw [freeL]
    refine freeL_nodup kd tx xs (fun y hy => h y (List.mem_cons_of_mem _ hy)) _ _ _ _ ?_
    split
    · exact h x List.mem_cons_self _ _ hl
    · exact hl
theorem nodup_snoc {α : Type} {l : List α} {a : α} (h : l.Nodup) (ha : a ∉ l) : (l ++ [a]).Nodup := by
  rw [List.nodup_append]
  exact ⟨h, by simp, fun x hx y hy e => ha (by rw [List.mem_singleton] at hy; rw [← hy, ← e]; exact hx)⟩
theorem free_nodup (x : Nd) : ∀ b l, l.Nodup → (freeF x b l).Nodup := by
  induction x using Nd.ind with
  | h x ih =>
    intro b l hl
    rw [freeF_eq]
    refine freeL_nodup _ _ _ ih _ _ _ _ ?_
    split
    · rename_i h
      simp only [Bool.and_eq_true, Bool.not_eq_true', List.contains_eq_mem, decide_eq_false_iff_not] at h
      exact nodup_snoc hl h.2
    · exact hl
theorem allL_sub : ∀ (xs : List Nd), (∀ x ∈ xs, ∀ l s, s ∈ l ∨ occF x s = true → s ∈ allF x l) → ∀ (kd : Int) (tx : List UInt8) (p : Nd) (i : Nat) l s, s ∈ l ∨ occL xs kd tx p i s = true → s ∈ allL xs l
  | [], _, kd, tx, p, i, l, s, h => by
    rcases h with h | h
    · exact h
    · simp [occL] at h
  | x :: xs, h, kd, tx, p, i, l, s, hs => by
    rw [allL]
    have hx := h x List.mem_cons_self
    refine allL_sub xs (fun y hy => h y (List.mem_cons_of_mem _ hy)) kd tx x (i + 1) _ s ?_
    rcases hs with hs | hs
    · exact .inl (hx _ _ (.inl hs))
    · rw [occL, Bool.or_eq_true] at hs
      rcases hs with hs | hs
      · simp only [Bool.and_eq_true] at hs
        exact .inl (hx _ _ (.inr hs.2))
      · exact .inr hs
theorem all_sub (x : Nd) : WfN x → ∀ l s, s ∈ l ∨ occF x s = true → s ∈ allF x l := by
  induction x using Nd.ind with
  | h x ih =>
    intro hw l s hs
    rw [allF_eq]
    rw [occF_eq] at hs
    by_cases hk : x.kd = 4
    · rw [hk] at hs ⊢
      rw [hw.name hk]
      simp only [beq_self_eq_true, if_true, beq_iff_eq, Bool.true_and, allL] at hs ⊢
      split
      · rcases hs with hs | hs
        · exact List.mem_append_left _ hs
        · rw [hs]; simp
      · rename_i h
        rcases hs with hs | hs
        · exact hs
        · simp only [Bool.not_eq_true', List.contains_eq_mem, decide_eq_false_iff_not, Decidable.not_not] at h
          rw [← hs]; exact h
    · have e : (x.kd == 4) = false := beq_eq_false_iff_ne.2 hk
      simp only [e, Bool.false_and, Bool.false_eq_true, if_false] at hs ⊢
      exact allL_sub _ (fun y hy => ih y hy (hw.ks y hy)) _ _ _ _ _ _ hs
theorem allL_nodup : ∀ (xs : List Nd), (∀ x ∈ xs, ∀ l, l.Nodup → (allF x l).Nodup) → ∀ l, l.Nodup → (allL xs l).Nodup
  | [], _, l, h => h
  | x :: xs, h, l, hl => allL_nodup xs (fun y hy => h y (List.mem_cons_of_mem _ hy)) _ (h x List.mem_cons_self _ hl)
theorem all_nodup (x : Nd) : ∀ l, l.Nodup → (allF x l).Nodup := by
  induction x using Nd.ind with
  | h x ih =>
    intro l hl
    rw [allF_eq]
    refine allL_nodup _ ih _ ?_
    split
    · rename_i h
      simp only [Bool.and_eq_true, Bool.not_eq_true', List.contains_eq_mem, decide_eq_false_iff_not] at h
      exact nodup_snoc hl h.2
    · exact hl
/-- The document's names free. -/
def rfreeF (x : Nd) : List (List UInt8) := (allF x []).filter (occF x)
theorem rfree_mem {x : Nd} (h : WfN x) (s : List UInt8) : s ∈ rfreeF x ↔ occF x s = true := by
  rw [rfreeF, List.mem_filter]
  exact ⟨fun h => h.2, fun hs => ⟨all_sub x h [] s (.inr hs), hs⟩⟩
theorem sub_len {α : Type} [DecidableEq α] : ∀ (l m : List α), l.Nodup → (∀ a ∈ l, a ∈ m) → l.length ≤ m.length
  | [], m, _, _ => Nat.zero_le _
  | a :: l, m, hn, hs => by
    have ha : a ∈ m := hs a List.mem_cons_self
    rw [List.nodup_cons] at hn
    have := sub_len l (m.erase a) hn.2 fun b hb => by
      have hne : b ≠ a := fun e => hn.1 (e ▸ hb)
      exact (List.mem_erase_of_ne hne).2 (hs b (List.mem_cons_of_mem _ hb))
    rw [List.length_erase_of_mem ha] at this
    have := List.length_pos_of_mem ha
    simp only [List.length_cons]; omega
theorem free_len {x : Nd} (h : WfN x) : (freeF x [] []).length = (rfreeF x).length := by
  have e : ∀ s, s ∈ freeF x [] [] ↔ s ∈ rfreeF x := fun s => by
    rw [rfree_mem h, ← free_occ h, List.contains_iff_mem]
  exact Nat.le_antisymm (sub_len _ _ (free_nodup x _ _ List.nodup_nil) fun a ha => (e a).1 ha)
    (sub_len _ _ ((all_nodup x [] List.nodup_nil).filter _) fun a ha => (e a).2 ha)

theorem expK_len (kd : Int) : ∀ (xs : List Nd) (i : Nat), (expK xs kd i).length = xs.length
  | [], _ => rfl
  | x :: xs, i => by simp [expK, expK_len kd xs]
theorem expK_get (kd : Int) : ∀ (xs : List Nd) (i k : Nat), (expK xs kd i)[k]? = xs[k]?.map fun x => if bindsB kd (i + k) = true then expN x else x
  | [], _, _ => by simp [expK]
  | x :: xs, i, 0 => by simp [expK]
  | x :: xs, i, k + 1 => by
    rw [expK, List.getElem?_cons_succ, List.getElem?_cons_succ, expK_get kd xs, show i + 1 + k = i + (k + 1) by omega]
theorem expK_mem {kd : Int} {xs : List Nd} {i : Nat} {y : Nd} (h : y ∈ expK xs kd i) : ∃ x ∈ xs, y = x ∨ y = expN x := by
  obtain ⟨k, hk⟩ := List.mem_iff_getElem?.1 h
  rw [expK_get] at hk
  rcases hx : xs[k]? with _ | x
  · rw [hx] at hk; cases hk
  · rw [hx] at hk
    simp only [Option.map_some, Option.some.injEq] at hk
    refine ⟨x, List.mem_of_getElem? hx, ?_⟩
    rw [← hk]; split
    · exact .inr rfl
    · exact .inl rfl
theorem wf_leaf {kd : Int} {tx : List UInt8} {nm : Int} {at_ : Nat} (h1 : tx.length ≤ 60) (h2 : kdOk kd 0 = true) : WfN (.mk kd tx nm at_ [] []) := by
  rw [wfN_iff]
  exact ⟨h2, h1, Nat.zero_le _, Nat.zero_le _, rfl⟩
theorem wf_nd0 : WfN nd0 := rfl
theorem wf_getD {l : List Nd} (h : ∀ y ∈ l, WfN y) (k : Nat) : WfN (l.getD k nd0) := by
  rw [List.getD_eq_getElem?_getD]
  rcases hx : l[k]? with _ | x
  · rfl
  · exact h x (List.mem_of_getElem? hx)
theorem wf_red {x : Nd} (h : WfN x) : WfN (redF x) := by
  unfold redF
  have k0 := wf_getD h.ks 0
  have k1 := wf_getD h.ks 1
  have k2 := wf_getD h.ks 2
  repeat' split
  all_goals first | assumption | skip
  unfold opN
  repeat' split
  all_goals first | assumption | (exact wf_leaf (by decide) rfl) | skip
  rename_i _ _ h1
  simp only [Bool.and_eq_true, decide_eq_true_eq] at h1
  exact wf_leaf (by rw [List.length_append]; exact h1.2) rfl
theorem wf_exp (x : Nd) : WfN x → WfN (expN x) := by
  induction x using Nd.ind with
  | h x ih =>
    intro hw
    rw [expN_eq]
    refine wf_red ((wfN_iff _).2 ⟨?_, hw.tx, hw.ns, ?_, (wfL_iff _).2 fun y hy => ?_⟩)
    · show kdOk x.kd (expK x.ks x.kd 0).length = true
      rw [expK_len]; exact hw.kd
    · show (expK x.ks x.kd 0).length ≤ 100000
      rw [expK_len]; exact hw.len
    · obtain ⟨z, hz, e⟩ := expK_mem hy
      rcases e with e | e <;> rw [e]
      · exact hw.ks z hz
      · exact ih z hz (hw.ks z hz)
theorem occL_exp (kd : Int) (tx s : List UInt8) : ∀ (xs : List Nd), (∀ x ∈ xs, occF (expN x) s = true → occF x s = true) → ∀ (p q : Nd) (i : Nat), bindsF kd tx p i = bindsF kd tx q i → occL (expK xs kd i) kd tx p i s = true → occL xs kd tx q i s = true
  | [], _, p, q, i, e, h => by simp [expK, occL] at h
  | x :: xs, hx, p, q, i, e, h => by
    rw [expK, occL, Bool.or_eq_true] at h
    rw [occL, Bool.or_eq_true, ← e]
    rcases h with h | h
    · refine .inl ?_
      simp only [Bool.and_eq_true] at h ⊢
      refine ⟨h.1, ?_⟩
      rw [if_pos h.1.1] at h
      exact hx x List.mem_cons_self h.2
    · refine .inr (occL_exp kd tx s xs (fun y hy => hx y (List.mem_cons_of_mem _ hy)) _ x (i + 1) ?_ h)
      by_cases hb : bindsB kd i = true
      · rw [if_pos hb]
        unfold bindsF
        by_cases h11 : kd = 11
        · have : ¬ (0 < i + 1 ∧ (i + 1) % 2 = 0) := by
            rw [h11] at hb
            simp only [bindsB, beq_self_eq_true, Bool.not_true, Bool.false_or, beq_iff_eq] at hb
            omega
          simp only [this, if_false]
        · have : (kd == 11) = false := beq_eq_false_iff_ne.2 h11
          simp only [this, Bool.false_eq_true, if_false]
      · rw [if_neg hb]
theorem bindsB_ne {kd : Int} (h : kd ≠ 11) (i : Nat) : bindsB kd i = true := by
  rw [bindsB, beq_eq_false_iff_ne.2 h]; rfl
theorem occ_red {x : Nd} {s : List UInt8} (hw : WfN x) (h : occF (redF x) s = true) : occF x s = true := by
  unfold redF at h
  have el : ∀ (kd : Int) (tx : List UInt8) (nm : Int) (at_ : Nat), kd ≠ 4 → occF (.mk kd tx nm at_ [] []) s = true → False := fun kd tx nm at_ hk h => by
    rw [occF_eq] at h
    simp [Nd.kd, Nd.ks, occL, hk] at h
  have kid : ∀ (k : Nat) (y : Nd), x.kd ≠ 4 → x.kd ≠ 11 → x.ks[k]? = some y → occF y s = true → (bindsF x.kd x.tx nd0 k).contains s = false → (∀ p, bindsF x.kd x.tx p k = bindsF x.kd x.tx nd0 k) → occF x s = true := fun k y h4 h11 hk hs hb hp => by
    rw [occF_eq, if_neg (by simpa using h4)]
    have gen : ∀ (xs : List Nd) (p : Nd) (i k : Nat), xs[k]? = some y → (∀ p, (bindsF x.kd x.tx p (i + k)).contains s = false) → occL xs x.kd x.tx p i s = true := by
      intro xs
      induction xs with
      | nil => intro p i k hk; simp at hk
      | cons z zs ih =>
        intro p i k hk hb
        rw [occL, Bool.or_eq_true]
        cases k with
        | zero =>
          simp only [List.getElem?_cons_zero, Option.some.injEq] at hk
          refine .inl ?_
          rw [bindsB_ne h11, show (bindsF x.kd x.tx p i).contains s = false from hb p, hk, hs]; rfl
        | succ k =>
          refine .inr (ih z (i + 1) k (by simpa using hk) fun p => ?_)
          rw [show i + 1 + k = i + (k + 1) by omega]; exact hb p
    exact gen x.ks nd0 0 k hk fun p => by rw [Nat.zero_add, hp p]; exact hb
  split at h
  · rename_i hk
    unfold opN at h
    repeat' split at h
    all_goals first | exact h | exact (el _ _ _ _ (by decide) h).elim
  split at h
  · rename_i hk
    have hk : x.kd = 10 := by simpa using hk
    obtain ⟨a, b, c, e⟩ := hw.three hk
    rw [e] at h
    have bf : ∀ p i, bindsF x.kd x.tx p i = [] := fun p i => by rw [hk]; rfl
    split at h
    · exact kid 1 b (by rw [hk]; decide) (by rw [hk]; decide) (by rw [e]; rfl) h (by rw [bf]; rfl) (fun p => by rw [bf, bf])
    · split at h
      · exact kid 2 c (by rw [hk]; decide) (by rw [hk]; decide) (by rw [e]; rfl) h (by rw [bf]; rfl) (fun p => by rw [bf, bf])
      · exact h
  split at h
  · rename_i hk
    have hk : x.kd = 8 ∨ x.kd = 9 := by simpa using hk
    obtain ⟨a, b, e⟩ := hw.two (by omega)
    rw [e] at h
    split at h
    · rename_i hc
      simp only [Bool.and_eq_true, Bool.not_eq_true'] at hc
      have hc2 : occF b x.tx = false := hc.2
      have hne : x.tx ≠ s := fun e => by rw [e] at hc2; rw [show occF b s = true from h] at hc2; cases hc2
      have bf : ∀ p, bindsF x.kd x.tx p 1 = [x.tx] := fun p => by rcases hk with hk | hk <;> rw [hk] <;> rfl
      refine kid 1 b (by omega) (by omega) (by rw [e]; rfl) h ?_ (fun p => by rw [bf, bf])
      rw [bf]; simp [Ne.symm hne]
    · exact h
  split at h
  · rename_i hk
    have hk : x.kd = 14 := by simpa using hk
    obtain ⟨a, b, e⟩ := hw.two (by omega)
    have bf : ∀ p i, bindsF x.kd x.tx p i = [] := fun p i => by rw [hk]; rfl
    rw [e] at h
    split at h
    · exact kid 1 b (by omega) (by omega) (by rw [e]; rfl) h (by rw [bf]; rfl) (fun p => by rw [bf, bf])
    · exact h
  exact h
theorem wf_kids {x : Nd} (h : WfN x) : WfN (.mk x.kd x.tx x.nm x.at_ x.ns (expK x.ks x.kd 0)) := by
  refine (wfN_iff _).2 ⟨?_, h.tx, h.ns, ?_, (wfL_iff _).2 fun y hy => ?_⟩
  · show kdOk x.kd (expK x.ks x.kd 0).length = true
    rw [expK_len]; exact h.kd
  · show (expK x.ks x.kd 0).length ≤ 100000
    rw [expK_len]; exact h.len
  · obtain ⟨z, hz, e⟩ := expK_mem hy
    rcases e with e | e <;> rw [e]
    · exact h.ks z hz
    · exact wf_exp z (h.ks z hz)
/-- Folding makes no name free. -/
theorem occ_exp (x : Nd) : WfN x → ∀ s, occF (expN x) s = true → occF x s = true := by
  induction x using Nd.ind with
  | h x ih =>
    intro hw s h
    rw [expN_eq] at h
    have h1 := occ_red (wf_kids hw) h
    rw [occF_eq] at h1 ⊢
    by_cases hk : x.kd = 4
    · simp only [kd_mk, tx_mk, hk, beq_self_eq_true, if_true] at h1 ⊢
      exact h1
    · have e : (x.kd == 4) = false := beq_eq_false_iff_ne.2 hk
      simp only [kd_mk, tx_mk, ks_mk, e, Bool.false_eq_true, if_false] at h1 ⊢
      exact occL_exp _ _ _ _ (fun y hy hs => ih y hy (hw.ks y hy) s hs) _ _ _ rfl h1
theorem expK_fix (kd : Int) : ∀ (xs : List Nd) (i : Nat), (∀ x ∈ xs, expN (expN x) = expN x) → expK (expK xs kd i) kd i = expK xs kd i
  | [], _, _ => rfl
  | x :: xs, i, h => by
    rw [expK, expK, expK_fix kd xs (i + 1) fun y hy => h y (List.mem_cons_of_mem _ hy)]
    congr 1
    by_cases hb : bindsB kd i = true
    · simp only [if_pos hb]; exact h x List.mem_cons_self
    · simp only [if_neg hb]
theorem exp_leaf (kd : Int) (tx : List UInt8) (nm : Int) (at_ : Nat) (h : kd = 1 ∨ kd = 2 ∨ kd = 5) : expN (.mk kd tx nm at_ [] []) = .mk kd tx nm at_ [] [] := by
  rw [expN_eq]
  rcases h with rfl | rfl | rfl <;> rfl
theorem op_cases (m a b : Nd) : opN m a b = m ∨ ∃ kd tx nm, (kd = 1 ∨ kd = 2 ∨ kd = 5) ∧ opN m a b = .mk kd tx nm m.at_ [] [] := by
  unfold opN
  repeat' split
  all_goals first | exact .inl rfl | exact .inr ⟨_, _, _, by decide, rfl⟩
/-- What is folded stays as it is. -/
theorem exp_exp (x : Nd) : WfN x → expN (expN x) = expN x := by
  induction x using Nd.ind with
  | h x ih =>
    intro hw
    have hk := fun y (hy : y ∈ x.ks) => ih y hy (hw.ks y hy)
    obtain ⟨m, hm⟩ : ∃ m, Nd.mk x.kd x.tx x.nm x.at_ x.ns (expK x.ks x.kd 0) = m := ⟨_, rfl⟩
    have e1 : expN x = redF m := by rw [expN_eq, hm]
    have hmm : expN m = redF m := by
      rw [expN_eq, ← hm]
      simp only [kd_mk, tx_mk, nm_mk, at_mk, ns_mk, ks_mk]
      rw [expK_fix _ _ _ hk]
    have wm : WfN m := by rw [← hm]; exact wf_kids hw
    have kid : ∀ k y, m.kd ≠ 11 → m.ks[k]? = some y → expN y = y := fun k y h11 hy => by
      rw [← hm] at hy h11
      simp only [ks_mk, kd_mk] at hy h11
      rw [expK_get] at hy
      rcases hx : x.ks[k]? with _ | z
      · rw [hx] at hy; cases hy
      · rw [hx] at hy
        simp only [Option.map_some, Option.some.injEq, bindsB_ne h11, if_true] at hy
        rw [← hy]; exact hk z (List.mem_of_getElem? hx)
    rw [e1]
    have same : redF m = m → expN (redF m) = redF m := fun h => by rw [h, hmm, h]
    clear hm e1 hk ih hw
    by_cases h13 : m.kd = 13
    · have er : redF m = opN m (m.ks.getD 0 nd0) (m.ks.getD 1 nd0) := by unfold redF; rw [h13]; rfl
      rw [er] at same ⊢
      rcases op_cases m (m.ks.getD 0 nd0) (m.ks.getD 1 nd0) with h | ⟨kd, tx, nm, h1, h⟩
      · exact same h
      · rw [h]; exact exp_leaf _ _ _ _ h1
    by_cases h10 : m.kd = 10
    · obtain ⟨a, b, c, e⟩ := wm.three h10
      have k1 := kid 1 b (by omega) (by rw [e]; rfl)
      have k2 := kid 2 c (by omega) (by rw [e]; rfl)
      unfold redF at same ⊢
      rw [h10, e] at same ⊢
      by_cases c1 : ((([a, b, c] : List Nd).getD 0 nd0).kd == 5 && (([a, b, c] : List Nd).getD 0 nd0).ks.isEmpty && (([a, b, c] : List Nd).getD 0 nd0).tx == [84, 114, 117, 101]) = true
      · simp only [c1, if_true]; exact k1
      · by_cases c2 : ((([a, b, c] : List Nd).getD 0 nd0).kd == 5 && (([a, b, c] : List Nd).getD 0 nd0).ks.isEmpty && (([a, b, c] : List Nd).getD 0 nd0).tx == [70, 97, 108, 115, 101]) = true
        · simp only [if_neg c1, if_pos c2]; exact k2
        · simp only [if_neg c1, if_neg c2] at same ⊢
          exact same rfl
    by_cases h89 : m.kd = 8 ∨ m.kd = 9
    · obtain ⟨a, b, e⟩ := wm.two (by omega)
      have k1 := kid 1 b (by omega) (by rw [e]; rfl)
      have er : redF m = if stillF a && !occF b m.tx then b else m := by unfold redF; rw [e]; rcases h89 with h | h <;> rw [h] <;> rfl
      rw [er] at same ⊢
      split
      · exact k1
      · rename_i hc
        rw [if_neg hc] at same
        exact same rfl
    by_cases h14 : m.kd = 14
    · obtain ⟨a, b, e⟩ := wm.two (by omega)
      have k1 := kid 1 b (by omega) (by rw [e]; rfl)
      have er : redF m = if stillF a then b else m := by unfold redF; rw [e, h14]; rfl
      rw [er] at same ⊢
      split
      · exact k1
      · rename_i hc
        rw [if_neg hc] at same
        exact same rfl
    · refine same ?_
      unfold redF
      have a1 : (m.kd == 13) = false := beq_eq_false_iff_ne.2 h13
      have a2 : (m.kd == 10) = false := beq_eq_false_iff_ne.2 h10
      have a3 : (m.kd == 8 || m.kd == 9) = false := by simp; omega
      have a4 : (m.kd == 14) = false := beq_eq_false_iff_ne.2 h14
      simp only [a1, a2, a3, a4, Bool.false_eq_true, if_false]
theorem decl_decl (x : Nd) (h : WfN x) : declN (declN x) = declN x := by
  unfold declN
  by_cases hk : (x.kd == 28 || x.kd == 29) = true
  · simp only [if_pos hk, kd_mk, tx_mk, nm_mk, at_mk, ns_mk, ks_mk, List.map_map]
    congr 1
    exact List.map_congr_left fun y hy => exp_exp y (h.ks y hy)
  · simp only [if_neg hk]
theorem prog_prog (x : Nd) (h : WfN x) : progN (progN x) = progN x := by
  have gen : ∀ l : List Nd, (∀ y ∈ l, WfN y) → progK (progK l) = progK l := by
    intro l
    induction l with
    | nil => intro _; rfl
    | cons a t ih =>
      intro hl
      cases t with
      | nil =>
        show [expN (expN a)] = [expN a]
        rw [exp_exp a (hl a List.mem_cons_self)]
      | cons b t =>
        have ih' := ih fun y hy => hl y (List.mem_cons_of_mem _ hy)
        obtain ⟨c, u, e⟩ : ∃ c u, progK (b :: t) = c :: u := by
          cases t with
          | nil => exact ⟨_, _, rfl⟩
          | cons d t => exact ⟨_, _, rfl⟩
        show progK (declN a :: progK (b :: t)) = declN a :: progK (b :: t)
        rw [e] at ih' ⊢
        show declN (declN a) :: progK (c :: u) = _
        rw [ih', decl_decl a (hl a List.mem_cons_self)]
  unfold progN
  simp only [kd_mk, tx_mk, nm_mk, at_mk, ns_mk, ks_mk]
  rw [gen x.ks h.ks]
theorem progK_len : ∀ l : List Nd, (progK l).length = l.length
  | [] => rfl
  | [_] => rfl
  | _ :: y :: xs => by rw [progK, List.length_cons, progK_len (y :: xs)]; rfl
theorem progK_get : ∀ (l : List Nd) (k : Nat), (progK l)[k]? = l[k]?.map fun x => if k + 1 = l.length then expN x else declN x
  | [], _ => by simp [progK]
  | [x], 0 => by simp [progK]
  | [x], k + 1 => by simp [progK]
  | x :: y :: xs, 0 => by simp [progK]
  | x :: y :: xs, k + 1 => by
    rw [progK, List.getElem?_cons_succ, List.getElem?_cons_succ, progK_get (y :: xs)]
    simp
theorem wf_decl {x : Nd} (h : WfN x) : WfN (declN x) := by
  unfold declN
  split
  · refine (wfN_iff _).2 ⟨?_, h.tx, h.ns, ?_, (wfL_iff _).2 fun y hy => ?_⟩
    · show kdOk x.kd (x.ks.map expN).length = true
      rw [List.length_map]; exact h.kd
    · show (x.ks.map expN).length ≤ 100000
      rw [List.length_map]; exact h.len
    · obtain ⟨z, hz, rfl⟩ := List.mem_map.1 hy
      exact wf_exp z (h.ks z hz)
  · exact h
theorem wf_prog {x : Nd} (h : WfN x) : WfN (progN x) := by
  refine (wfN_iff _).2 ⟨?_, h.tx, h.ns, ?_, (wfL_iff _).2 fun y hy => ?_⟩
  · show kdOk x.kd (progK x.ks).length = true
    rw [progK_len]; exact h.kd
  · show (progK x.ks).length ≤ 100000
    rw [progK_len]; exact h.len
  · obtain ⟨k, hk⟩ := List.mem_iff_getElem?.1 hy
    have hk : (progK x.ks)[k]? = some y := hk
    rw [progK_get] at hk
    rcases hx : x.ks[k]? with _ | z
    · rw [hx] at hk; cases hk
    · rw [hx] at hk
      simp only [Option.map_some, Option.some.injEq] at hk
      have hz := h.ks z (List.mem_of_getElem? hx)
      rw [← hk]; split
      · exact wf_exp z hz
      · exact wf_decl hz
end Go.Proofs.Ytgjchgmlogbmmaa
/- Rows of nodes that are read; a node handed in. -/
namespace Go.Proofs.Ytgjchgmlogbmmaa
open Go.RowKit
set_option linter.unusedVariables false

/-- Nodes in a row, to be read. -/
def RowIn (w : World) (b : Nat → Prop) (xs : List Nd) (A : Option Addr) : Prop :=
  (xs = [] → A = none) ∧ ∃ (g : Nat) (fs : Nat → Fr), (xs ≠ [] → A = some ⟨g, 0, none⟩ ∧ b g ∧ g < w.heap.size) ∧
    (∀ k (h : k < xs.length) j v, (ndL xs[k] (fs k))[j]? = some v → w.cell? ⟨g, k * 6 + j, none⟩ = some v) ∧ ∀ k (h : k < xs.length), NodeIn w (fun a => b a ∧ a ≠ g) xs[k] (fs k)
theorem NodeIn.row {w : World} {b : Nat → Prop} {x : Nd} {f : Fr} (h : NodeIn w b x f) : RowIn w b x.ks f.ka := by
  cases h with
  | mk hn0 hn hk0 g fs hk hc hs => exact ⟨fun e => (hk0 e).1, g, fs, hk, hc, hs⟩
theorem NodeIn.kc0 {w : World} {b : Nat → Prop} {x : Nd} {f : Fr} (h : NodeIn w b x f) (e : x.ks = []) : f.ka = none ∧ f.kc = 0 := by
  cases h with
  | mk hn0 hn hk0 g fs hk hc hs => exact hk0 e
section
variable {w w' : World} {b : Nat → Prop} {xs : List Nd} {A : Option Addr} {x : Nd} {f : Fr} {B G : Nat}
theorem RowIn.below (h : RowIn w b xs A) (hb : Below B w w') (hB : w.heap.size ≤ B) : RowIn w' b xs A := by
  obtain ⟨h0, g, fs, h1, h2, h3⟩ := h
  refine ⟨h0, g, fs, fun e => ?_, fun k hk j v hv => ?_, fun k hk => (h3 k hk).later hb hB⟩
  · obtain ⟨e1, e2, e3⟩ := h1 e
    exact ⟨e1, e2, Nat.lt_of_lt_of_le e3 hb.size⟩
  · obtain ⟨e1, e2, e3⟩ := h1 (fun e => by rw [e] at hk; simp at hk)
    exact (World.cell?_of_block (hb.block g (Nat.lt_of_lt_of_le e3 hB))).trans (h2 k hk j v hv)
def ndCells (w : World) (g k : Nat) (y : Nd) (fy : Fr) : Prop :=
  w.cell? ⟨g, k * 6, none⟩ = some (.int .i64 y.kd) ∧ w.cell? ⟨g, k * 6 + 1, none⟩ = some (.string ⟨y.tx.toArray⟩) ∧ w.cell? ⟨g, k * 6 + 2, none⟩ = some (.int .i64 y.nm) ∧
    w.cell? ⟨g, k * 6 + 3, none⟩ = some (.int .i64 (y.at_ : Int)) ∧ w.cell? ⟨g, k * 6 + 4, none⟩ = some (.slice fy.na y.ns.length fy.nc) ∧ w.cell? ⟨g, k * 6 + 5, none⟩ = some (.slice fy.ka y.ks.length fy.kc)
theorem RowIn.at_ (h : RowIn w b xs A) {k : Nat} (hk : k < xs.length) : ∃ g fy, A = some ⟨g, 0, none⟩ ∧ b g ∧ g < w.heap.size ∧ ndCells w g k (xs.getD k nd0) fy ∧ NodeIn w (fun a => b a ∧ a ≠ g) (xs.getD k nd0) fy := by
  obtain ⟨h0, g, fs, h1, h2, h3⟩ := h
  obtain ⟨e1, e2, e3⟩ := h1 (fun e => by rw [e] at hk; simp at hk)
  have e : xs.getD k nd0 = xs[k] := by rw [List.getD_eq_getElem?_getD, List.getElem?_eq_getElem hk]; rfl
  rw [e]
  exact ⟨g, fs k, e1, e2, e3, ⟨h2 k hk 0 _ rfl, h2 k hk 1 _ rfl, h2 k hk 2 _ rfl, h2 k hk 3 _ rfl, h2 k hk 4 _ rfl, h2 k hk 5 _ rfl⟩, h3 k hk⟩
theorem RowIn.any (h : RowIn w b xs A) {k : Nat} (hk : k < xs.length) : ∃ g fy, A = some ⟨g, 0, none⟩ ∧ g < w.heap.size ∧ ndCells w g k (xs.getD k nd0) fy ∧ NodeIn w b (xs.getD k nd0) fy := by
  obtain ⟨g, fy, a, _, c, d, e⟩ := h.at_ hk
  exact ⟨g, fy, a, c, d, e.mono fun a ha _ => ha.1⟩
/-- A node that was handed in, in a block of its own. -/
structure Ag (w w1 : World) (b : Nat → Prop) (G : Nat) (x : Nd) (f : Fr) : Prop where
  X : Whole w1 G 25 (ndL x f).toArray
  n : NodeIn w1 b x f
  bel : Below w.heap.size w w1
theorem Ag.start (h : NodeIn w b x f) : Ag w (w.alloc (.cells (ndL x f).toArray 25)) b w.heap.size x f :=
  ⟨Whole.made _ _ _, h.later ((Below.refl _ _).alloc (Nat.le_refl _) _) (Nat.le_refl _), (Below.refl _ _).alloc (Nat.le_refl _) _⟩
variable {w1 w2 : World}
theorem Ag.later (h : Ag w w1 b G x f) (hb : Below w1.heap.size w1 w2) : Ag w w2 b G x f :=
  ⟨h.X.below hb h.X.lt, h.n.later hb (Nat.le_refl _), h.bel.trans (hb.mono h.bel.size)⟩
theorem Ag.alloc (h : Ag w w1 b G x f) (o : Obj) : Ag w (w1.alloc o) b G x f := h.later ((Below.refl _ _).alloc (Nat.le_refl _) o)
theorem Ag.drew (h : Ag w w1 b G x f) : Ag w w1.drew b G x f := h.later (Below.refl _ _).drew
theorem Ag.drewN (h : Ag w w1 b G x f) (n : Nat) : Ag w (w1.drewN n) b G x f := h.later (below_drewN (Below.refl _ _) n)
theorem Ag.c0 (h : Ag w w1 b G x f) : w1.cell? ⟨G, 0, none⟩ = some (.int .i64 x.kd) := h.X.cell 0
theorem Ag.c1 (h : Ag w w1 b G x f) : w1.cell? ⟨G, 1, none⟩ = some (.string ⟨x.tx.toArray⟩) := h.X.cell 1
theorem Ag.c2 (h : Ag w w1 b G x f) : w1.cell? ⟨G, 2, none⟩ = some (.int .i64 x.nm) := h.X.cell 2
theorem Ag.c3 (h : Ag w w1 b G x f) : w1.cell? ⟨G, 3, none⟩ = some (.int .i64 (x.at_ : Int)) := h.X.cell 3
theorem Ag.c4 (h : Ag w w1 b G x f) : w1.cell? ⟨G, 4, none⟩ = some (.slice f.na x.ns.length f.nc) := h.X.cell 4
theorem Ag.c5 (h : Ag w w1 b G x f) : w1.cell? ⟨G, 5, none⟩ = some (.slice f.ka x.ks.length f.kc) := h.X.cell 5
end
theorem ret_bq {a b : Bool} (h : a = b) : Ending.returned (.bool a) = .returned (.bool b) := by rw [h]
theorem wf_at {xs : List Nd} (h : ∀ y ∈ xs, WfN y) (k : Nat) : WfN (xs.getD k nd0) := wf_getD h k
theorem getD_mem {xs : List Nd} {k : Nat} (h : k < xs.length) : xs.getD k nd0 ∈ xs := by
  rw [List.getD_eq_getElem?_getD, List.getElem?_eq_getElem h]; exact List.getElem_mem h
theorem stillL_all : ∀ {xs : List Nd}, (∀ j, j < xs.length → stillF (xs.getD j nd0) = true) → stillL xs = true
  | [], _ => rfl
  | x :: xs, h => by
    rw [stillL, show stillF x = true from h 0 (Nat.zero_lt_succ _), stillL_all (xs := xs) fun j hj => h (j + 1) (Nat.succ_lt_succ hj)]; rfl
theorem stillL_not : ∀ {xs : List Nd} {k : Nat}, k < xs.length → stillF (xs.getD k nd0) = false → stillL xs = false
  | [], k, h, _ => absurd h (by simp)
  | x :: xs, 0, _, h => by rw [stillL, show stillF x = false from h]; rfl
  | x :: xs, k + 1, h, h2 => by rw [stillL, stillL_not (xs := xs) (Nat.lt_of_succ_lt_succ h) h2, Bool.and_false]
end Go.Proofs.Ytgjchgmlogbmmaa
/- The walks of layer 11: what is still. -/
namespace Go.Proofs.Ytgjchgmlogbmmaa
open Go.RowKit
set_option linter.unusedVariables false
set_option linter.unusedSimpArgs false
attribute [local go_sem ↓] Go.wp_at_zero Go.wp_at_succ

set_option maxRecDepth 100000 in
set_option maxHeartbeats 4000000 in
theorem rstill_any (x : Nd) : WfN x → ∀ (w : World) (b : Nat → Prop) (f : Fr), NodeIn w b x f → Calls Try.prog 25 #[ndV x f] w fun e w' => e = .returned (.bool (stillF x)) ∧ Below w.heap.size w w' := by
  induction x using Nd.ind with
  | h x ih =>
    intro hw w b f hn
    have HA : Hid (Ag w (w.alloc (.cells zN(x, f) 25)) b w.heap.size x f) := Ag.start hn
    have HL : Hid (x.ks.length ≤ 100000) := hw.len
    have IH := Lib.hid (fun y hy => ih y hy (hw.ks y hy))
    have HE := Lib.hid (stillF_eq x)
    clear hn hw ih
    unfold ndV
    by_cases h5 : x.kd = 5
    · have HE5 : Hid (stillF x = stillL x.ks) := by show _ = _; rw [HE.out, h5]; rfl
      have H5 := Lib.hid h5
      clear HE h5
      rw [HE5.out]
      go_enter Try.func25, Try.ntmps25
      go_upto_region 1 with (fail)
      generalize w.alloc (.cells zN(x, f) 25) = w1 at *
      have c0 := HA.out.c0
      rw [H5.out] at c0
      generalize w.heap.size = G at *
      go_wp2_with fail
      clear c0
      go_loopw [3] (fun i wr => ∃ k : Nat, i = .int .i64 (k : Int) ∧ k ≤ x.ks.length ∧ (∀ j, j < k → stillF (x.ks.getD j nd0) = true) ∧ Ag w wr b G x f) (fun i _ => x.ks.length - (intOf i).toNat)
      case atStart => exact ⟨0, rfl, Nat.zero_le _, fun j hj => absurd hj (by omega), HA.out⟩
      case round =>
        obtain ⟨k, rfl, hk, hall, ha⟩ := hrel
        have HR := Lib.hid ha
        have HALL := Lib.hid hall
        have c5 := ha.c5
        clear ha hall HA
        by_cases hlt : k < x.ks.length
        · obtain ⟨g, fy, e, _, ⟨x0, x1, x2, x3, x4, x5⟩, ny⟩ := HR.out.n.row.any hlt
          have CY := Lib.hid (fun wx h => IH.out _ (getD_mem hlt) wx b fy h)
          have HNY := Lib.hid ny
          rw [e] at c5
          clear e
          have HN : Hid (stillF (x.ks.getD k nd0) = false → stillL x.ks = false) := fun h => stillL_not hlt h
          have i0 : (0 : Int) ≤ (k : Int) := by omega
          have i1 : (k : Int) < (x.ks.length : Int) := by omega
          have i2 : (k : Int) < 100000 := by have := HL.out; omega
          have HS : Hid (∀ j, j < k + 1 → j < k ∨ j = k) := fun j hj => by omega
          have HD : Hid (stillF (x.ks.getD k nd0) = true → ∀ j, j < k + 1 → stillF (x.ks.getD j nd0) = true) := fun h j hj => by
            rcases HS.out j hj with h' | rfl
            · exact HALL.out j h'
            · exact h
          clear HALL HS
          generalize x.ks.getD k nd0 = y at *
          go_wp2_with fail
          refine (CY.out _ HNY.out).mono ?_
          rintro e w3 ⟨rfl, b3⟩
          have HR3 := Lib.hid (HR.out.later b3)
          clear HR b3 HNY CY x0 x1 x2 x3 x4 x5 c5
          obtain ⟨sb, hsb⟩ : ∃ sb, stillF y = sb := ⟨_, rfl⟩
          have HSB := Lib.hid hsb
          rw [hsb]
          clear hsb
          rcases sb with _ | _
          · have HS := Lib.hid (HN.out HSB.out)
            go_wp2_with fail
            go_ret
            exact ⟨ret_bq HS.out.symm, HR3.out.bel⟩
          · go_wp2_with fail
            go_roundw
            case rel => exact ⟨k + 1, by go_num, by omega, HD.out HSB.out, HR3.out⟩
            case measure => simp [intOf]; omega
        · have i1 : ¬ (k : Int) < (x.ks.length : Int) := by omega
          have hs : stillL x.ks = true := stillL_all fun j hj => HALL.out j (by omega)
          have HS := Lib.hid hs
          clear hs
          go_wp2_with fail
          go_ret
          exact ⟨ret_bq HS.out.symm, HR.out.bel⟩
    · have H5 := Lib.hid h5
      clear h5
      go_enter Try.func25, Try.ntmps25
      go_upto_region 1 with (fail)
      generalize w.alloc (.cells zN(x, f) 25) = w1 at *
      have c0 := HA.out.c0
      generalize w.heap.size = G at *
      have q5 : (x.kd == 5) = false := beq_eq_false_iff_ne.2 H5.out
      generalize x.kd = c at *
      clear H5
      go_wp2_with fail
      all_goals
        go_ret
        exact ⟨by (have h := HE.out; clear HE; simp_all), HA.out.bel⟩
end Go.Proofs.Ytgjchgmlogbmmaa
/- The walks of layer 11: still, in the program: a closure over kids. -/
namespace Go.Proofs.Ytgjchgmlogbmmaa
open Go.RowKit
set_option linter.unusedVariables false
set_option linter.unusedSimpArgs false
attribute [local go_sem ↓] Go.wp_at_zero Go.wp_at_succ

/-- What is asked of a kid. -/
def StillC (y : Nd) : Prop := ∀ (w : World) (b : Nat → Prop) (f : Fr), NodeIn w b y f → Calls Try.prog 59 #[ndV y f] w fun e w' => e = .returned (.bool (stillF y)) ∧ Below w.heap.size w w'
theorem still1_any (y : Nd) (C : StillC y) (w : World) (b : Nat → Prop) (f : Fr) (hn : NodeIn w b y f) :
    Calls Try.prog 73 #[ndV y f] w fun e w' => e = .returned (.bool (!stillF y)) ∧ Below w.heap.size w w' := by
  have HA : Hid (Ag w (w.alloc (.cells zN(y, f) 25)) b w.heap.size y f) := Ag.start hn
  have HC := Lib.hid (fun wx h => C wx b f h)
  clear hn C
  unfold ndV
  go_enter Try.func73, Try.ntmps73
  go_upto_region 1 with (fail)
  generalize w.alloc (.cells zN(y, f) 25) = w1 at *
  have c0 := HA.out.c0
  have c1 := HA.out.c1
  have c2 := HA.out.c2
  have c3 := HA.out.c3
  have c4 := HA.out.c4
  have c5 := HA.out.c5
  generalize w.heap.size = G at *
  go_wp2_with fail
  refine (HC.out w1 HA.out.n).mono ?_
  rintro e w2 ⟨rfl, b2⟩
  have HA2 := Lib.hid (HA.out.later b2)
  clear HA b2 HC c0 c1 c2 c3 c4 c5
  go_wp2_with fail
  go_ret
  exact ⟨rfl, HA2.out.bel⟩
set_option maxRecDepth 100000 in
set_option maxHeartbeats 4000000 in
theorem indexf_any (xs : List Nd) (C : ∀ y ∈ xs, StillC y) (hl : xs.length ≤ 100000) (w : World) (b : Nat → Prop) (A : Option Addr) (c : Nat) (hr : RowIn w b xs A) :
    Calls Try.prog 77 #[.slice A xs.length c, .func (.func 73) #[] #[]] w fun e w' => (∃ v : Int, e = .returned (.int .i64 v) ∧ (0 ≤ v ↔ stillL xs = false)) ∧ Below w.heap.size w w' := by
  have HL : Hid (xs.length ≤ 100000) := hl
  have HR := Lib.hid hr
  have HC := Lib.hid C
  clear hl hr C
  go_enter Try.func77, Try.ntmps77
  go_wp2_with fail
  go_loopw [8] (fun i wr => ∃ k : Nat, i = .int .i64 (k : Int) ∧ k ≤ xs.length ∧ (∀ j, j < k → stillF (xs.getD j nd0) = true) ∧ Below w.heap.size w wr) (fun i _ => xs.length - (intOf i).toNat)
  case atStart => exact ⟨0, rfl, Nat.zero_le _, fun j hj => absurd hj (by omega), Below.refl _ _⟩
  case round =>
    obtain ⟨k, rfl, hk, hall, hb⟩ := hrel
    have HB := Lib.hid hb
    have HALL := Lib.hid hall
    clear hall hb
    by_cases hlt : k < xs.length
    · obtain ⟨g, fy, rfl, _, ⟨x0, x1, x2, x3, x4, x5⟩, ny⟩ := (HR.out.below HB.out (Nat.le_refl _)).any hlt
      have CY := Lib.hid (still1_any _ (HC.out _ (getD_mem hlt)) wr b fy ny)
      have HN : Hid (stillF (xs.getD k nd0) = false → stillL xs = false) := fun h => stillL_not hlt h
      have i0 : (0 : Int) ≤ (k : Int) := by omega
      have i1 : (k : Int) < (xs.length : Int) := by omega
      have i2 : (k : Int) < 100000 := by have := HL.out; omega
      have HD : Hid (stillF (xs.getD k nd0) = true → ∀ j, j < k + 1 → stillF (xs.getD j nd0) = true) := fun h j hj => by
        rcases (by omega : j < k ∨ j = k) with h' | rfl
        · exact HALL.out j h'
        · exact h
      clear HALL ny
      generalize xs.getD k nd0 = y at *
      unfold ndV at CY
      go_wp2_with fail
      refine CY.out.mono ?_
      rintro e w3 ⟨rfl, b3⟩
      have HB3 := Lib.hid (HB.out.trans (b3.mono HB.out.size))
      clear HB b3 CY x0 x1 x2 x3 x4 x5
      obtain ⟨sb, hsb⟩ : ∃ sb, stillF y = sb := ⟨_, rfl⟩
      have HSB := Lib.hid hsb
      rw [hsb]
      clear hsb
      rcases sb with _ | _
      · have HS := Lib.hid (HN.out HSB.out)
        go_wp2_with fail
        go_ret
        exact ⟨⟨_, rfl, fun _ => HS.out, fun _ => i0⟩, HB3.out⟩
      · go_wp2_with fail
        go_roundw
        case rel => exact ⟨k + 1, by go_num, by omega, HD.out HSB.out, HB3.out⟩
        case measure => simp [intOf]; omega
    · have i1 : ¬ (k : Int) < (xs.length : Int) := by omega
      have HS : Hid (stillL xs = true) := stillL_all fun j hj => HALL.out j (by omega)
      go_wp2_with fail
      go_ret
      exact ⟨⟨_, rfl, fun h => absurd h (by decide), fun h => by rw [HS.out] at h; cases h⟩, HB.out⟩
theorem containsf_any (xs : List Nd) (C : ∀ y ∈ xs, StillC y) (hl : xs.length ≤ 100000) (w : World) (b : Nat → Prop) (A : Option Addr) (c : Nat) (hr : RowIn w b xs A) :
    Calls Try.prog 72 #[.slice A xs.length c, .func (.func 73) #[] #[]] w fun e w' => e = .returned (.bool (!stillL xs)) ∧ Below w.heap.size w w' := by
  have CI := Lib.hid (indexf_any xs C hl w b A c hr)
  clear hl hr C
  go_enter Try.func72, Try.ntmps72
  go_wp2_with fail
  refine CI.out.mono ?_
  rintro e w2 ⟨⟨v, rfl, hv⟩, b2⟩
  have HV := Lib.hid hv
  have HB := Lib.hid b2
  clear CI hv b2
  by_cases h : 0 ≤ v
  · have HS := Lib.hid (HV.out.1 h)
    go_wp2_with fail
    go_ret
    exact ⟨ret_bq (by rw [HS.out] <;> rfl), HB.out⟩
  · have HS : Hid (stillL xs = true) := by
      have := mt HV.out.2 h
      show _ = _
      simpa using this
    go_wp2_with fail
    go_ret
    exact ⟨ret_bq (by rw [HS.out]; exact decide_eq_false (by omega)), HB.out⟩
set_option maxRecDepth 100000 in
set_option maxHeartbeats 4000000 in
theorem still_any (x : Nd) : WfN x → StillC x := by
  induction x using Nd.ind with
  | h x ih =>
    intro hw w b f hn
    have HA : Hid (Ag w (w.alloc (.cells zN(x, f) 25)) b w.heap.size x f) := Ag.start hn
    have HL : Hid (x.ks.length ≤ 100000) := hw.len
    have IH := Lib.hid (fun y hy => ih y hy (hw.ks y hy))
    have HE := Lib.hid (stillF_eq x)
    clear hn hw ih
    unfold ndV
    go_enter Try.func59, Try.ntmps59
    go_upto_region 1 with (fail)
    generalize w.alloc (.cells zN(x, f) 25) = w1 at *
    have c0 := HA.out.c0
    generalize w.heap.size = G at *
    by_cases h5 : x.kd = 5
    · have HE5 : Hid (stillF x = stillL x.ks) := by show _ = _; rw [HE.out, h5]; rfl
      rw [h5] at c0
      have c5 := HA.out.c5
      have CC := Lib.hid (containsf_any x.ks IH.out HL.out w1 b f.ka f.kc HA.out.n.row)
      clear HE h5
      go_wp2_with fail
      refine CC.out.mono ?_
      rintro e w2 ⟨rfl, b2⟩
      have HA2 := Lib.hid (HA.out.later b2)
      clear HA b2 CC c0 c5
      go_wp2_with fail
      go_ret
      exact ⟨ret_bq (by rw [HE5.out] <;> simp), HA2.out.bel⟩
    · have q5 : (x.kd == 5) = false := beq_eq_false_iff_ne.2 h5
      generalize x.kd = c at *
      clear h5
      go_wp2_with fail
      all_goals
        go_ret
        exact ⟨by (have h := HE.out; clear HE; simp_all), HA.out.bel⟩
end Go.Proofs.Ytgjchgmlogbmmaa
/- What the parser gives is in good order: so many kids as each kind has, texts of at most 60 bytes. -/
namespace Go.Proofs.Ytgjchgmlogbmmaa
open Go.Proofs.Ytgjchgmlogbmmaa.S (unqF)
set_option linter.unusedVariables false

theorem unq_len : ∀ (f : Nat) (r acc : List UInt8) (k : Nat), (S.unq f r acc k).1.length ≤ 60
  | 0, _, _, _ => Nat.zero_le _
  | f + 1, rest, acc, k => by
    unfold S.unq
    cases rest with
    | nil => exact Nat.zero_le _
    | cons c r =>
      dsimp only
      repeat' split
      all_goals first | exact unq_len f _ _ _ | exact Nat.zero_le _ | skip
      rename_i h
      show acc.length ≤ 60
      omega
theorem tokF_text (l : List UInt8) : (tokF l).text.length ≤ 60 := by
  unfold tokF
  cases l with
  | nil => exact Nat.zero_le _
  | cons c r =>
    dsimp only
    repeat' split
    all_goals first | exact Nat.zero_le _ | skip
    · unfold unqF
      dsimp only
      repeat' split
      all_goals first | exact unq_len _ _ _ _ | exact Nat.zero_le _
    all_goals (simp only [List.length_cons, List.length_nil]; omega)
theorem toks_text : ∀ {l : List UInt8} {i : Nat} {T : List Tok}, Toks l i T → ∀ t ∈ T, t.text.length ≤ 60 := by
  intro l i T h
  induction h with
  | fin l i h => intro t ht; rw [List.mem_singleton] at ht; subst ht; exact Nat.zero_le _
  | one l i ts kd tx nm n hr hk ht ih =>
    intro t hm
    rcases List.mem_cons.1 hm with rfl | hm
    · have := tokF_text (l.drop (gapL l))
      rw [hr] at this; exact this
    · exact ih t hm
/-- A node with any number of kids, so many names and kids at most. -/
structure Fw (p m : Nat) (x : Nd) : Prop where
  kd : ∀ n, kdOk x.kd n = true
  tx : x.tx.length ≤ 60
  ns : x.ns.length ≤ p
  len : x.ks.length ≤ m
  ks : ∀ y ∈ x.ks, WfN y
structure WfR (r : Rec) : Prop where
  exp : ∀ s, WfN (r.exp s).1
  pat : ∀ s, WfN (r.pat s).1
  ty : ∀ s, WfN (r.ty s).1
section
variable {p m : Nat} {x y : Nd}
theorem Fw.wf (h : Fw p m x) (hp : p ≤ 100000) (hm : m ≤ 100000) : WfN x := (wfN_iff x).2 ⟨h.kd _, h.tx, Nat.le_trans h.ns hp, Nat.le_trans h.len hm, (wfL_iff _).2 h.ks⟩
theorem Fw.add (h : Fw p m x) (hy : WfN y) : Fw p (m + 1) (x.add y) := by
  cases x
  obtain ⟨a, b, c, d, e⟩ := h
  refine ⟨a, b, c, ?_, fun z hz => ?_⟩
  · simp only [Nd.add, ks_mk, List.length_append, List.length_singleton] at d ⊢; omega
  · simp only [Nd.add, ks_mk, List.mem_append, List.mem_singleton] at hz
    rcases hz with hz | rfl
    · exact e z hz
    · exact hy
theorem Fw.mono {q n : Nat} (h : Fw p m x) (hp : p ≤ q) (hm : m ≤ n) : Fw q n x := ⟨h.kd, h.tx, Nat.le_trans h.ns hp, Nat.le_trans h.len hm, h.ks⟩
theorem Fw.setTx (h : Fw p m x) {t : List UInt8} (ht : t.length ≤ 60) : Fw p m (x.setTx t) := by cases x; exact ⟨h.kd, ht, h.ns, h.len, h.ks⟩
theorem Fw.setKd (h : Fw p m x) {k : Int} (hk : ∀ n, kdOk k n = true) : Fw p m (x.setKd k) := by cases x; exact ⟨hk, h.tx, h.ns, h.len, h.ks⟩
theorem Fw.addNs (h : Fw p m x) (t : List UInt8) : Fw (p + 1) m (x.addNs t) := by
  cases x
  refine ⟨h.kd, h.tx, ?_, h.len, h.ks⟩
  have := h.ns
  simp only [Nd.addNs, ns_mk, List.length_append, List.length_singleton] at this ⊢; omega
theorem Fw.leaf {k : Int} {t : List UInt8} {v : Int} {a : Nat} (hk : ∀ n, kdOk k n = true) (ht : t.length ≤ 60) : Fw 0 0 (.mk k t v a [] []) := ⟨hk, ht, Nat.le_refl _, Nat.le_refl _, fun y hy => by simp [ks_mk] at hy⟩
end
section
variable {T : List Tok} (hT : ∀ t ∈ T, t.text.length ≤ 60) (hl : T.length ≤ 5000) {r : Rec} (R : WfR r)
include hT in
theorem tk_text (s : PS) : (tkF T s).text.length ≤ 60 := by
  unfold tkF
  rw [List.getD_eq_getElem?_getD]
  rcases h : T[s.i]? with _ | t
  · exact Nat.zero_le _
  · exact hT t (List.mem_of_getElem? h)
include hT in
theorem step_text (s : PS) : (stepT T s).text.length ≤ 60 := by
  unfold stepT
  split
  · exact Nat.zero_le _
  · exact tk_text hT s
include hT in
theorem text_text (s : PS) (k : Int) : (textT T s k).length ≤ 60 := by
  unfold textT
  split
  · exact step_text hT s
  · exact Nat.zero_le _
include hT in
theorem wf_leafN (s : PS) (k : Int) (h : kdOk k 0 = true) : WfN (leafN T s k) := (wfN_iff _).2 ⟨h, step_text hT s, Nat.zero_le _, Nat.zero_le _, rfl⟩
include hT R in
theorem wf_patom (s : PS) : WfN (patomF T r s).1 := by
  unfold patomF
  repeat' split
  all_goals first | exact wf_leafN hT _ _ rfl | exact wf_leaf (Nat.zero_le _) rfl | exact R.pat _ | exact wf_nd0
include hT R in
theorem fw_patL : ∀ (f : Nat) (n : Nd) (s : PS) (m : Nat), Fw 0 m n → Fw 0 (m + f) (patL T r f n s).1
  | 0, n, s, m, h => h
  | f + 1, n, s, m, h => by
    unfold patL
    split
    · exact h.mono (Nat.le_refl _) (by omega)
    · split
      · exact h.mono (Nat.le_refl _) (by omega)
      · exact (fw_patL f _ _ _ (h.add (wf_patom hT R s))).mono (Nat.le_refl _) (by omega)
include hT R in
theorem wf_pat (s : PS) : WfN (patF T r s).1 := by
  unfold patF
  split
  · dsimp only
    split
    · rename_i h
      have h : kdF T (enterF T s) = 4 := by simpa using h
      refine (fw_patL hT R 5 _ _ 0 ?_).wf (by omega) (by omega)
      have e : (patomF T r (enterF T s)).1 = leafN T (enterF T s) 5 := by
        unfold patomF
        rw [if_neg (by rw [h]; decide), if_neg (by rw [h]; decide), if_pos h]
      rw [e]
      exact .leaf (fun n => rfl) (step_text hT _)
    · exact wf_patom hT R _
  · exact wf_nd0
include hT R in
theorem fw_tyL : ∀ (f : Nat) (n : Nd) (s : PS) (m : Nat), Fw 0 m n → Fw 0 (m + f) (tyL T r f n s).1
  | 0, n, s, m, h => h
  | f + 1, n, s, m, h => by
    unfold tyL
    repeat' split
    · exact (fw_tyL f _ _ _ (h.add (wf_leaf (step_text hT s) rfl))).mono (Nat.le_refl _) (by omega)
    · exact (fw_tyL f _ _ _ (h.add (R.ty _))).mono (Nat.le_refl _) (by omega)
    all_goals exact h.mono (Nat.le_refl _) (by omega)
include hT hl R in
theorem wf_ty (s : PS) : WfN (tyF T r s).1 := by
  unfold tyF
  split
  · exact (fw_tyL hT R T.length _ _ 0 (.leaf (fun n => rfl) (text_text hT _ _))).wf (by omega) (by omega)
  · exact wf_nd0
include R in
theorem fw_conL : ∀ (f : Nat) (b : Bool) (n : Nd) (s : PS) (m : Nat), Fw 0 m n → Fw 0 (m + f) (conL T r f b n s).1
  | 0, b, n, s, m, h => h
  | f + 1, b, n, s, m, h => by
    unfold conL
    split
    · exact (fw_conL f _ _ _ _ (h.add (R.ty _))).mono (Nat.le_refl _) (by omega)
    · exact h.mono (Nat.le_refl _) (by omega)
include hT hl R in
theorem wf_con (s : PS) : WfN (conF T r s).1 := (fw_conL R _ _ _ _ 0 (.leaf (fun n => rfl) (text_text hT _ _))).wf (by omega) (by omega)
theorem fw_namL : ∀ (f : Nat) (n : Nd) (s : PS) (p m : Nat), Fw p m n → Fw (p + f) m (namL T f n s).1
  | 0, n, s, p, m, h => h
  | f + 1, n, s, p, m, h => by
    unfold namL
    repeat' split
    · exact h.mono (by omega) (Nat.le_refl _)
    · exact (fw_namL f _ _ _ _ (h.addNs _)).mono (by omega) (Nat.le_refl _)
    · exact h.mono (by omega) (Nat.le_refl _)
include hT hl R in
theorem fw_cosL : ∀ (f : Nat) (b : Bool) (n : Nd) (s : PS) (p m : Nat), Fw p m n → Fw p (m + f) (cosL T r f b n s).1
  | 0, b, n, s, p, m, h => h
  | f + 1, b, n, s, p, m, h => by
    unfold cosL
    split
    · exact (fw_cosL f _ _ _ _ _ (h.add (wf_con hT hl R _))).mono (Nat.le_refl _) (by omega)
    · exact h.mono (Nat.le_refl _) (by omega)
/-- What a declaration of a name has. -/
def DeclOk (x : Nd) : Prop := x.kd = 28 ∨ x.kd = 29 → ∃ a, x.ks = [a] ∧ x.nm = 0 ∧ x.ns = []
include hT hl R in
theorem wf_declF (s : PS) : WfN (declF T r s).1 ∧ DeclOk (declF T r s).1 := by
  unfold declF
  dsimp only
  split
  · have h0 : Fw 0 0 (((Nd.mk 0 [] 0 (stepT T s).at_ [] []).setKd 25).setTx (textT T (stepF T s) 3)) := .leaf (fun n => rfl) (text_text hT _ _)
    have h1 := fw_cosL hT hl R (T.length + 1) true _ (wantF T (namL T 5 (((Nd.mk 0 [] 0 (stepT T s).at_ [] []).setKd 25).setTx (textT T (stepF T s) 3)) (textF T (stepF T s) 3)).2 [61]) _ _ (fw_namL (T := T) 5 _ (textF T (stepF T s) 3) 0 0 h0)
    refine ⟨h1.wf (by omega) (by omega), ?_⟩
    have keepN : ∀ (f : Nat) (n : Nd) (s : PS), (namL T f n s).1.kd = n.kd := by
      intro f
      induction f with
      | zero => intro n s; rfl
      | succ f ih =>
        intro n s
        unfold namL
        repeat' split
        all_goals first | rfl | (rw [ih]; cases n; rfl)
    have keep : ∀ (f : Nat) (b : Bool) (n : Nd) (s : PS), (cosL T r f b n s).1.kd = n.kd := by
      intro f
      induction f with
      | zero => intro b n s; rfl
      | succ f ih =>
        intro b n s
        unfold cosL
        split
        · dsimp only
          rw [ih]; cases n; rfl
        · rfl
    intro hk
    rw [keep, keepN] at hk
    have : (25 : Int) = 28 ∨ (25 : Int) = 29 := hk
    omega
  · have he : ∀ s', WfN (r.exp s').1 := R.exp
    have fin : ∀ (k : Int) (t : List UInt8) (a : Nat) (e : Nd), (k = 28 ∨ k = 29) → t.length ≤ 60 → WfN e → WfN (.mk k t 0 a [] [e]) ∧ DeclOk (.mk k t 0 a [] [e]) := fun k t a e hk ht he =>
      ⟨(wfN_iff _).2 ⟨by rcases hk with rfl | rfl <;> rfl, ht, Nat.zero_le _, by simp [ks_mk], (wfL_iff _).2 fun y hy => by rw [ks_mk, List.mem_singleton] at hy; rw [hy]; exact he⟩, fun _ => ⟨e, rfl, rfl, rfl⟩⟩
    split
    · exact fin 29 _ _ _ (.inr rfl) (text_text hT _ _) (he _)
    · exact fin 28 _ _ _ (.inl rfl) (text_text hT _ _) (he _)
include R in
theorem fw_matL : ∀ (f : Nat) (b : Bool) (n : Nd) (s : PS) (m : Nat), Fw 0 m n → Fw 0 (m + 2 * f) (matL T r f b n s).1
  | 0, b, n, s, m, h => h
  | f + 1, b, n, s, m, h => by
    unfold matL
    split
    · exact (fw_matL f _ _ _ _ ((h.add (R.pat _)).add (R.exp _))).mono (Nat.le_refl _) (by omega)
    · exact h.mono (Nat.le_refl _) (by omega)
include R in
theorem wf_whole (s : PS) : WfN (wholeF r s).1 := R.exp _
include hT hl R in
theorem wf_atom (s : PS) : WfN (atomF T r s).1 := by
  unfold atomF
  repeat' split
  all_goals first | exact wf_leafN hT _ _ rfl | skip
  all_goals dsimp only
  all_goals repeat' split
  all_goals first | exact wf_leaf (Nat.zero_le _) rfl | exact R.exp _ | exact wf_nd0 | skip
  · exact (((((Fw.leaf (k := 0) (t := []) (v := 0) (a := atF T s) (fun n => rfl) (Nat.zero_le _)).add (wf_whole R _)).setKd (k := 12) (fun n => rfl)).setTx (text_text hT _ _)).add (wf_whole R _)).wf (by omega) (by omega)
  · exact (fw_matL R (T.length + 1) _ _ _ _ (((Fw.leaf (k := 0) (t := []) (v := 0) (a := atF T s) (fun n => rfl) (Nat.zero_le _)).add (wf_whole R _)).setKd (k := 11) (fun n => rfl))).wf (by omega) (by omega)
theorem wf_pair {k : Int} {t : List UInt8} {a : Nat} {x y : Nd} (hk : kdOk k 2 = true) (ht : t.length ≤ 60) (hx : WfN x) (hy : WfN y) : WfN (.mk k t 0 a [] [x, y]) :=
  (wfN_iff _).2 ⟨hk, ht, Nat.zero_le _, by simp [ks_mk], (wfL_iff _).2 fun z hz => by
    simp only [ks_mk, List.mem_cons, List.not_mem_nil, or_false] at hz
    rcases hz with rfl | rfl
    · exact hx
    · exact hy⟩
include hT hl R in
theorem fw_appL : ∀ (f : Nat) (b : Bool) (n : Nd) (s : PS) (m : Nat), (b = true → Fw 0 m n) → WfN n → m + f ≤ 100000 → WfN (appL T r f b n s).1
  | 0, b, n, s, m, h, hn, hm => hn
  | f + 1, b, n, s, m, h, hn, hm => by
    unfold appL
    repeat' split
    · exact hn
    · rename_i hb _
      exact fw_appL f _ _ _ (m + 1) (fun _ => (h hb).add (wf_atom hT hl R _)) (((h hb).add (wf_atom hT hl R _)).wf (by omega) (by omega)) (by omega)
    · rename_i hb
      exact fw_appL f _ _ _ m (fun h => absurd h hb) (wf_pair rfl (Nat.zero_le _) hn (wf_atom hT hl R _)) (by omega)
    · exact hn
theorem app_kinds (k : Nat) : ∀ n, kdOk (appKinds.getD k 0) n = true := by
  intro n
  match k with
  | 0 | 1 | 2 | 3 | 4 | 5 | 6 | 7 => rfl
  | k + 8 => rfl
include hT hl R in
theorem wf_app (s : PS) : WfN (appF T r s).1 := by
  unfold appF
  split
  · have h0 : Fw 0 0 (Nd.mk (appKinds.getD (keyN T s) 0) [] 0 (stepT T s).at_ [] []) := .leaf (app_kinds _) (Nat.zero_le _)
    dsimp only
    split
    · exact ((h0.add (wf_atom hT hl R _)).add (wf_atom hT hl R _)).wf (by omega) (by omega)
    · exact (h0.add (wf_atom hT hl R _)).wf (by omega) (by omega)
  · refine fw_appL hT hl R (T.length + 1) _ _ _ 0 (fun h => ?_) (wf_atom hT hl R _) (by omega)
    have h : kdF T s = 4 := by simpa using h
    have e : (atomF T r s).1 = leafN T s 5 := by
      unfold atomF
      rw [if_neg (by rw [h]; decide), if_neg (by rw [h]; decide), if_neg (by rw [h]; decide), if_pos h]
    rw [e]
    exact .leaf (fun n => rfl) (step_text hT _)
theorem op_len (s : PS) (a b c : List UInt8) (ha : a.length ≤ 60) (hb : b.length ≤ 60) (hc : c.length ≤ 60) : (opF T s a b c).length ≤ 60 := by
  unfold opF
  repeat' split
  all_goals first | assumption | exact Nat.zero_le _
include hT hl R in
theorem wf_prodL : ∀ (f : Nat) (n : Nd) (s : PS), WfN n → WfN (prodL T r f n s).1
  | 0, n, s, h => h
  | f + 1, n, s, h => by
    unfold prodL
    dsimp only
    split
    · exact h
    · exact wf_prodL f _ _ (wf_pair rfl (op_len _ _ _ _ (by decide) (by decide) (by decide)) h (wf_app hT hl R _))
include hT hl R in
theorem wf_prod (s : PS) : WfN (prodF T r s).1 := wf_prodL hT hl R _ _ _ (wf_app hT hl R _)
include hT hl R in
theorem wf_sumL : ∀ (f : Nat) (n : Nd) (s : PS), WfN n → WfN (sumL T r f n s).1
  | 0, n, s, h => h
  | f + 1, n, s, h => by
    unfold sumL
    dsimp only
    split
    · exact h
    · exact wf_sumL f _ _ (wf_pair rfl (op_len _ _ _ _ (by decide) (by decide) (by decide)) h (wf_prod hT hl R _))
include hT hl R in
theorem wf_sum (s : PS) : WfN (sumF T r s).1 := wf_sumL hT hl R _ _ _ (wf_prod hT hl R _)
include hT hl R in
theorem wf_cmp (s : PS) : WfN (cmpF T r s).1 := by
  unfold cmpF
  dsimp only
  split
  · exact wf_sum hT hl R _
  · exact wf_pair rfl (op_len _ _ _ _ (by decide) (by decide) (by decide)) (wf_sum hT hl R _) (wf_sum hT hl R _)
include hT hl R in
theorem wf_inner (s : PS) : WfN (innerF T r s).1 := by
  unfold innerF
  dsimp only
  split
  · split
    · exact wf_pair (k := 9) rfl (text_text hT _ _) (R.exp _) (R.exp _)
    · exact wf_pair (k := 8) rfl (text_text hT _ _) (R.exp _) (R.exp _)
  · split
    · exact ((((Fw.leaf (k := 0) (t := []) (v := 0) (a := atF T s) (fun n => rfl) (Nat.zero_le _)).setKd (k := 6) (fun n => rfl)).setTx (text_text hT _ _)).add (R.exp _)).wf (by omega) (by omega)
    · split
      · refine (wfN_iff _).2 ⟨rfl, Nat.zero_le _, Nat.zero_le _, (show 3 ≤ 100000 by decide), (wfL_iff _).2 fun z hz => ?_⟩
        simp only [Nd.add, Nd.setKd, ks_mk, List.nil_append, List.cons_append, List.mem_cons, List.not_mem_nil, or_false] at hz
        rcases hz with rfl | rfl | rfl
        · exact R.exp _
        · exact R.exp _
        · exact R.exp _
      · split
        · exact wf_pair rfl (Nat.zero_le _) (wf_cmp hT hl R _) (R.exp _)
        · exact wf_cmp hT hl R _
include hT hl R in
theorem wf_expF (s : PS) : WfN (expF T r s).1 := by
  unfold expF
  split
  · exact wf_inner hT hl R _
  · exact wf_nd0
end
theorem wf_rules {T : List Tok} (hT : ∀ t ∈ T, t.text.length ≤ 60) (hl : T.length ≤ 5000) : ∀ n, WfR (rules T n)
  | 0 => ⟨fun _ => wf_nd0, fun _ => wf_nd0, fun _ => wf_nd0⟩
  | n + 1 => ⟨wf_expF hT hl (wf_rules hT hl n), wf_pat hT (wf_rules hT hl n), wf_ty hT hl (wf_rules hT hl n)⟩
theorem fw_progL {T : List Tok} (hT : ∀ t ∈ T, t.text.length ≤ 60) (hl : T.length ≤ 5000) : ∀ (f : Nat) (n : Nd) (s : PS) (m : Nat), Fw 0 m n → (∀ y ∈ n.ks, DeclOk y) → Fw 0 (m + f) (progL T f n s).1 ∧ ∀ y ∈ (progL T f n s).1.ks, DeclOk y
  | 0, n, s, m, h, hd => ⟨h, hd⟩
  | f + 1, n, s, m, h, hd => by
    unfold progL
    repeat' split
    · exact ⟨h.mono (Nat.le_refl _) (by omega), hd⟩
    · have hw := wf_declF hT hl (wf_rules hT hl 42) s
      have := fw_progL hT hl f (n.add (declF T (rules T 42) s).1) (declF T (rules T 42) s).2 (m + 1) (h.add hw.1) (fun y hy => by
        rw [show (n.add (declF T (rules T 42) s).1).ks = n.ks ++ [(declF T (rules T 42) s).1] from by cases n; rfl, List.mem_append, List.mem_singleton] at hy
        rcases hy with hy | rfl
        · exact hd y hy
        · exact hw.2)
      exact ⟨this.1.mono (Nat.le_refl _) (by omega), this.2⟩
    · exact ⟨h.mono (Nat.le_refl _) (by omega), hd⟩
/-- A program's node. -/
theorem prog_wf (l : List UInt8) : WfN (progF l).1 ∧ ((progF l).2.2 = 0 → (progF l).1.ks ≠ []) ∧ ∀ k x, (progF l).1.ks[k]? = some x → k + 1 < (progF l).1.ks.length → DeclOk x := by
  have z : WfN nd0 ∧ ((0 : Int) = 1 → nd0.ks ≠ []) ∧ ∀ k x, nd0.ks[k]? = some x → k + 1 < nd0.ks.length → DeclOk x := ⟨wf_nd0, fun h => absurd h (by decide), fun k x h _ => by simp [nd0, Nd.ks] at h⟩
  unfold progF
  split
  · rename_i he
    obtain ⟨T, p, e, h⟩ : ∃ T p e, tokensF l = (T, p, e) := ⟨_, _, _, rfl⟩
    rw [h] at he ⊢
    simp only at he
    subst he
    have ht := of_tokensF h
    have hT := toks_text ht
    have hl : T.length ≤ 5000 := by
      have := ht.len
      have h2 : l.length ≤ 2000 := by
        unfold tokensF at h
        split at h
        · injection h with h1 h2; injection h2 with h2 h3; cases h3
        · omega
      omega
    dsimp only
    unfold progT
    dsimp only
    have hp := fw_progL hT hl (T.length + 1) (.mk 30 [] 0 (atF T ⟨0, 0, 0, false, 0⟩) [] []) ⟨0, 0, 0, false, 0⟩ 0 (.leaf (fun n => rfl) (Nat.zero_le _)) (fun y hy => by simp [ks_mk] at hy)
    generalize progL T (T.length + 1) (.mk 30 [] 0 (atF T ⟨0, 0, 0, false, 0⟩) [] []) ⟨0, 0, 0, false, 0⟩ = q at *
    obtain ⟨n, s⟩ := q
    simp only at hp ⊢
    have hy := (wf_rules hT hl 42).exp (wantF T s [100, 111])
    generalize (rules T 42).exp (wantF T s [100, 111]) = y at *
    generalize (if kdF T y.2 = 0 then y.2 else failF T y.2 14) = s2
    split
    · refine ⟨(hp.1.add hy).wf (by omega) (by omega), fun _ => ?_, fun k x hk hlt => ?_⟩
      · dsimp only
        cases n; simp [Nd.add, ks_mk]
      · dsimp only at hk hlt
        have e : ∀ y : Nd, (n.add y).ks = n.ks ++ [y] := fun y => by cases n; rfl
        rw [e] at hk hlt
        rw [List.length_append, List.length_singleton] at hlt
        rw [List.getElem?_append_left (by omega)] at hk
        exact hp.2 x (List.mem_of_getElem? hk)
    · rename_i hne
      exact ⟨wf_nd0, fun h => absurd h hne, fun k x h _ => by simp [nd0, Nd.ks] at h⟩
  · rename_i hne
    exact ⟨wf_nd0, fun h => absurd h hne, fun k x h _ => by simp [nd0, Nd.ks] at h⟩
end Go.Proofs.Ytgjchgmlogbmmaa
/- How many names there are in what the parser gives: no more than tokens. -/
namespace Go.Proofs.Ytgjchgmlogbmmaa
set_option linter.unusedVariables false

def kwN (kd : Int) : Nat := if kd == 4 || kd == 6 || kd == 8 || kd == 9 || kd == 12 then 1 else 0
mutual
def wtN : Nd → Nat
  | .mk kd _ _ _ _ ks => kwN kd + wtL ks
def wtL : List Nd → Nat
  | [] => 0
  | x :: xs => wtN x + wtL xs
end
theorem wtN_eq (x : Nd) : wtN x = kwN x.kd + wtL x.ks := by cases x; rfl
theorem wtL_app : ∀ (l m : List Nd), wtL (l ++ m) = wtL l + wtL m
  | [], m => by simp [wtL]
  | x :: l, m => by rw [List.cons_append, wtL, wtL, wtL_app l m]; omega
theorem wtL_mem : ∀ {l : List Nd} {x : Nd}, x ∈ l → wtN x ≤ wtL l
  | y :: l, x, h => by
    rw [wtL]
    rcases List.mem_cons.1 h with rfl | h
    · omega
    · have := wtL_mem h; omega
theorem wt_kid {x y : Nd} (h : y ∈ x.ks) : wtN y ≤ wtN x := by
  rw [wtN_eq x]; have := wtL_mem h; omega
theorem kw_le (k : Int) : kwN k ≤ 1 := by unfold kwN; split <;> omega
theorem namesL_len : ∀ (l : List Nd), (∀ x ∈ l, (namesF x).length ≤ wtN x) → (namesL l).length ≤ wtL l
  | [], _ => Nat.le_refl _
  | x :: l, h => by
    rw [namesL, wtL, List.length_append]
    have := h x List.mem_cons_self
    have := namesL_len l fun y hy => h y (List.mem_cons_of_mem _ hy)
    omega
theorem namesF_eq (x : Nd) : namesF x = (if x.kd == 4 then [x.tx] else []) ++ namesL x.ks := by cases x; rfl
theorem names_len (x : Nd) : (namesF x).length ≤ wtN x := by
  induction x using Nd.ind with
  | h x ih =>
    rw [namesF_eq, wtN_eq, List.length_append]
    have := namesL_len x.ks ih
    have : (if x.kd == 4 then [x.tx] else []).length ≤ kwN x.kd := by
      unfold kwN
      by_cases h : (x.kd == 4) = true
      · simp [h]
      · simp [h]
    omega
theorem binds_len (kd : Int) (tx : List UInt8) (p : Nd) (i : Nat) : (bindsF kd tx p i).length ≤ kwN kd + wtN p := by
  unfold bindsF
  have hp := names_len p
  unfold kwN
  by_cases h1 : (kd == 6 || kd == 9) = true
  · have : (kd == 4 || kd == 6 || kd == 8 || kd == 9 || kd == 12) = true := by simp at h1 ⊢; omega
    simp only [if_pos h1, if_pos this, List.length_singleton]; omega
  · rw [if_neg h1]
    by_cases h2 : (kd == 8 || kd == 12) = true
    · have : (kd == 4 || kd == 6 || kd == 8 || kd == 9 || kd == 12) = true := by simp at h2 ⊢; omega
      rw [if_pos h2, if_pos this]
      split
      · simp only [List.length_singleton]; omega
      · simp
    · rw [if_neg h2]
      repeat' split
      all_goals first | (simp only [List.length_nil]; omega) | omega
theorem freeL_len (kd : Int) (tx : List UInt8) : ∀ (xs : List Nd), (∀ x ∈ xs, ∀ b l, (freeF x b l).length ≤ l.length + wtN x) → ∀ p i b l, (freeL xs kd tx p i b l).length ≤ l.length + wtL xs
  | [], _, p, i, b, l => Nat.le_refl _
  | x :: xs, h, p, i, b, l => by
    rw [freeL, wtL]
    have h1 := freeL_len kd tx xs (fun y hy => h y (List.mem_cons_of_mem _ hy)) x (i + 1) b (if bindsB kd i = true then freeF x (b ++ bindsF kd tx p i) l else l)
    have h2 : (if bindsB kd i = true then freeF x (b ++ bindsF kd tx p i) l else l).length ≤ l.length + wtN x := by
      split
      · exact h x List.mem_cons_self _ _
      · omega
    omega
theorem freeF_len (x : Nd) : ∀ b l, (freeF x b l).length ≤ l.length + wtN x := by
  induction x using Nd.ind with
  | h x ih =>
    intro b l
    rw [freeF_eq, wtN_eq]
    have h1 := freeL_len x.kd x.tx x.ks ih nd0 0 b (if x.kd == 4 && !b.contains x.tx && !l.contains x.tx then l ++ [x.tx] else l)
    have h2 : (if x.kd == 4 && !b.contains x.tx && !l.contains x.tx then l ++ [x.tx] else l).length ≤ l.length + kwN x.kd := by
      split
      · rename_i h
        simp only [Bool.and_eq_true, beq_iff_eq] at h
        rw [h.1.1]; simp [kwN]
      · omega
    omega
theorem allL_len : ∀ (xs : List Nd), (∀ x ∈ xs, ∀ l, (allF x l).length ≤ l.length + wtN x) → ∀ l, (allL xs l).length ≤ l.length + wtL xs
  | [], _, l => Nat.le_refl _
  | x :: xs, h, l => by
    rw [allL, wtL]
    have h1 := allL_len xs (fun y hy => h y (List.mem_cons_of_mem _ hy)) (allF x l)
    have h2 := h x List.mem_cons_self l
    omega
theorem allF_len (x : Nd) : ∀ l, (allF x l).length ≤ l.length + wtN x := by
  induction x using Nd.ind with
  | h x ih =>
    intro l
    rw [allF_eq, wtN_eq]
    have h1 := allL_len x.ks ih (if x.kd == 4 && !l.contains x.tx then l ++ [x.tx] else l)
    have h2 : (if x.kd == 4 && !l.contains x.tx then l ++ [x.tx] else l).length ≤ l.length + kwN x.kd := by
      split
      · rename_i h
        simp only [Bool.and_eq_true, beq_iff_eq] at h
        rw [h.1]; simp [kwN]
      · omega
    omega
theorem wt_getD (l : List Nd) (k : Nat) : wtN (l.getD k nd0) ≤ wtL l := by
  rw [List.getD_eq_getElem?_getD]
  rcases hx : l[k]? with _ | x
  · show wtN nd0 ≤ _
    exact Nat.zero_le _
  · exact wtL_mem (List.mem_of_getElem? hx)
theorem wt_red (x : Nd) : wtN (redF x) ≤ wtN x := by
  have k0 := wt_getD x.ks 0
  have k1 := wt_getD x.ks 1
  have k2 := wt_getD x.ks 2
  have e := wtN_eq x
  unfold redF
  repeat' split
  all_goals first | omega | skip
  rcases op_cases x (x.ks.getD 0 nd0) (x.ks.getD 1 nd0) with h | ⟨kd, tx, nm, h1, h⟩
  · rw [h]; exact Nat.le_refl _
  · rw [h]
    rcases h1 with rfl | rfl | rfl <;> exact Nat.zero_le _
theorem wt_expK (kd : Int) : ∀ (xs : List Nd), (∀ x ∈ xs, wtN (expN x) ≤ wtN x) → ∀ i, wtL (expK xs kd i) ≤ wtL xs
  | [], _, i => Nat.le_refl _
  | x :: xs, h, i => by
    rw [expK, wtL, wtL]
    have h1 := wt_expK kd xs (fun y hy => h y (List.mem_cons_of_mem _ hy)) (i + 1)
    have h2 : wtN (if bindsB kd i = true then expN x else x) ≤ wtN x := by
      split
      · exact h x List.mem_cons_self
      · exact Nat.le_refl _
    omega
theorem wt_exp (x : Nd) : wtN (expN x) ≤ wtN x := by
  induction x using Nd.ind with
  | h x ih =>
    rw [expN_eq]
    refine Nat.le_trans (wt_red _) ?_
    rw [wtN_eq, wtN_eq x]
    simp only [kd_mk, ks_mk]
    have := wt_expK x.kd x.ks ih 0
    omega
structure WtR (r : Rec) : Prop where
  exp : ∀ s, wtN (r.exp s).1 + s.i ≤ (r.exp s).2.i
  pat : ∀ s, wtN (r.pat s).1 + s.i ≤ (r.pat s).2.i
  ty : ∀ s, wtN (r.ty s).1 + s.i ≤ (r.ty s).2.i
section
variable {T : List Tok} {r : Rec} (R : WtR r)
theorem fail_i (s : PS) (c : Int) : (failF T s c).i = s.i := by unfold failF; split <;> rfl
theorem step_i (s : PS) : s.i ≤ (stepF T s).i := by unfold stepF; split <;> simp
theorem step_1 {s : PS} (h : kdF T s ≠ 0) : (stepF T s).i = s.i + 1 := by unfold stepF; rw [if_neg h]
theorem is_k {s : PS} {x : List UInt8} (h : isF T s x = true) : kdF T s ≠ 0 := by
  unfold isF at h
  simp only [Bool.and_eq_true, Bool.or_eq_true, beq_iff_eq] at h
  omega
theorem is_1 {s : PS} {x : List UInt8} (h : isF T s x = true) : (stepF T s).i = s.i + 1 := step_1 (is_k h)
theorem want_i (s : PS) (x : List UInt8) : s.i ≤ (wantF T s x).i := by
  unfold wantF
  split
  · exact step_i s
  · rw [fail_i]; exact Nat.le_refl _
theorem text_i (s : PS) (k : Int) : s.i ≤ (textF T s k).i := by
  unfold textF
  split
  · exact step_i s
  · rw [fail_i]; exact Nat.le_refl _
theorem wt_mk0 (k : Int) (t : List UInt8) (v : Int) (a : Nat) (n : List (List UInt8)) : wtN (.mk k t v a n []) = kwN k := by simp [wtN, wtL]
theorem wt_leaf (s : PS) (k : Int) : wtN (leafN T s k) = kwN k := wt_mk0 _ _ _ _ _
theorem wt_add (x y : Nd) : wtN (x.add y) = wtN x + wtN y := by
  cases x; simp only [Nd.add, wtN, wtL_app, wtL]; omega
theorem wt_setTx (x : Nd) (t : List UInt8) : wtN (x.setTx t) = wtN x := by cases x; rfl
theorem wt_addNs (x : Nd) (t : List UInt8) : wtN (x.addNs t) = wtN x := by cases x; rfl
theorem wt_setKd (x : Nd) (k : Int) : wtN (x.setKd k) + kwN x.kd = wtN x + kwN k := by cases x; simp only [Nd.setKd, wtN, kd_mk]; omega
theorem wt_nd0 : wtN nd0 = 0 := rfl
theorem enter_i (s : PS) : (enterF T s).i = s.i := by
  have h : (deepF T s).i = s.i := by unfold deepF; split <;> first | rw [fail_i] | rfl
  unfold enterF
  split <;> exact h
theorem up_i (s : PS) : (up s).i = s.i := rfl
include R in
theorem wt_patom (s : PS) : wtN (patomF T r s).1 + s.i ≤ (patomF T r s).2.i := by
  have h0 := step_i (T := T) s
  unfold patomF
  split
  · rw [wt_leaf]; show 0 + s.i ≤ (stepF T s).i; omega
  split
  · rename_i h
    rw [wt_leaf]; have := step_1 (T := T) (s := s) (by omega); show 1 + s.i ≤ (stepF T s).i; omega
  split
  · rw [wt_leaf]; show 0 + s.i ≤ (stepF T s).i; omega
  split
  · rw [wt_mk0]; show 0 + s.i ≤ (stepF T s).i; omega
  split
  · have h1 := R.pat (stepF T s)
    have h2 := want_i (T := T) (r.pat (stepF T s)).2 [41]
    dsimp only; omega
  · rw [wt_nd0, fail_i]; omega
include R in
theorem wt_patL : ∀ (f : Nat) (n : Nd) (s : PS), wtN (patL T r f n s).1 + s.i ≤ wtN n + (patL T r f n s).2.i
  | 0, n, s => Nat.le_refl _
  | f + 1, n, s => by
    unfold patL
    split
    · exact Nat.le_refl _
    split
    · rw [fail_i]; exact Nat.le_refl _
    · have h1 := wt_patL f (n.add (patomF T r s).1) (patomF T r s).2
      have h2 := wt_patom (T := T) R s
      rw [wt_add] at h1; omega
include R in
theorem wt_pat (s : PS) : wtN (patF T r s).1 + s.i ≤ (patF T r s).2.i := by
  have h0 := enter_i (T := T) s
  have h1 := wt_patom (T := T) R (enterF T s)
  have h2 := wt_patL (T := T) R 5 (patomF T r (enterF T s)).1 (patomF T r (enterF T s)).2
  unfold patF
  split
  · dsimp only
    split
    · rw [up_i]; omega
    · rw [up_i]; omega
  · rw [wt_nd0]; dsimp only; omega
include R in
theorem wt_tyL : ∀ (f : Nat) (n : Nd) (s : PS), wtN (tyL T r f n s).1 + s.i ≤ wtN n + (tyL T r f n s).2.i
  | 0, n, s => Nat.le_refl _
  | f + 1, n, s => by
    have h0 := step_i (T := T) s
    unfold tyL
    repeat' split
    · have h1 := wt_tyL f (n.add (.mk 27 (stepT T s).text 0 (stepT T s).at_ [] [])) (stepF T s)
      rw [wt_add, wt_mk0, show kwN 27 = 0 from rfl] at h1; omega
    · have h1 := wt_tyL f (n.add (r.ty (stepF T s)).1) (wantF T (r.ty (stepF T s)).2 [41])
      have h2 := R.ty (stepF T s)
      have h3 := want_i (T := T) (r.ty (stepF T s)).2 [41]
      rw [wt_add] at h1; omega
    all_goals exact Nat.le_refl _
include R in
theorem wt_ty (s : PS) : wtN (tyF T r s).1 + s.i ≤ (tyF T r s).2.i := by
  have h0 := enter_i (T := T) s
  have h1 := text_i (T := T) (enterF T s) 3
  have h2 := wt_tyL (T := T) R T.length (.mk 27 (textT T (enterF T s) 3) 0 (atF T (enterF T s)) [] []) (textF T (enterF T s) 3)
  rw [wt_mk0, show kwN 27 = 0 from rfl] at h2
  unfold tyF
  split
  · dsimp only
    rw [up_i]; omega
  · rw [wt_nd0]; dsimp only; omega
include R in
theorem wt_conL : ∀ (f : Nat) (b : Bool) (n : Nd) (s : PS), wtN (conL T r f b n s).1 + s.i ≤ wtN n + (conL T r f b n s).2.i
  | 0, b, n, s => Nat.le_refl _
  | f + 1, b, n, s => by
    have h0 := step_i (T := T) s
    unfold conL
    split
    · dsimp only
      generalize hs1 : (if n.ks.length = 4 then failF T (stepF T s) 16 else stepF T s) = s1
      have h3 : s.i ≤ s1.i := by
        rw [← hs1]
        split
        · rw [fail_i]; exact h0
        · exact h0
      have h1 := wt_conL f (isF T (r.ty s1).2 [44]) (n.add (r.ty s1).1) (r.ty s1).2
      have h2 := R.ty s1
      rw [wt_add] at h1; omega
    · exact Nat.le_refl _
include R in
theorem wt_con (s : PS) : wtN (conF T r s).1 + s.i ≤ (conF T r s).2.i := by
  have h1 := text_i (T := T) s 4
  have h2 := wt_conL (T := T) R (T.length + 1) (isF T (textF T s 4) [111, 102]) (.mk 26 (textT T s 4) 0 (atF T s) [] []) (textF T s 4)
  rw [wt_mk0, show kwN 26 = 0 from rfl] at h2
  unfold conF
  omega
include R in
theorem wt_whole (s : PS) : wtN (wholeF r s).1 + s.i ≤ (wholeF r s).2.i := R.exp { s with flat := false }
include R in
theorem wt_value (n : Nd) (s : PS) : wtN (valueF T r n s).1 + s.i ≤ wtN n + (valueF T r n s).2.i := by
  unfold valueF
  dsimp only
  generalize hs1 : (if isF T s [114, 101, 99] = true then stepF T s else s) = s1
  have h1 : s.i ≤ s1.i := by
    rw [← hs1]; split
    · exact step_i s
    · exact Nat.le_refl _
  have h2 := text_i (T := T) s1 3
  have h3 := want_i (T := T) (textF T s1 3) [61]
  generalize hs2 : wantF T (textF T s1 3) [61] = s2 at *
  generalize hs3 : (if isF T s [114, 101, 99] = true ∧ isF T s2 [102, 117, 110] = false ∧ s2.deep < 40 then failF T s2 14 else s2) = s3
  have h4 : s2.i ≤ s3.i := by
    rw [← hs3]; split
    · rw [fail_i]; exact Nat.le_refl _
    · exact Nat.le_refl _
  have h5 := R.exp s3
  rw [wt_add, wt_setTx]; omega
theorem wt_namL : ∀ (f : Nat) (n : Nd) (s : PS), wtN (namL T f n s).1 + s.i ≤ wtN n + (namL T f n s).2.i
  | 0, n, s => Nat.le_refl _
  | f + 1, n, s => by
    have h0 := step_i (T := T) s
    unfold namL
    repeat' split
    · rw [fail_i]; exact Nat.le_refl _
    · have h1 := wt_namL f (n.addNs (stepT T s).text) (stepF T s)
      rw [wt_addNs] at h1; omega
    · exact Nat.le_refl _
include R in
theorem wt_cosL : ∀ (f : Nat) (b : Bool) (n : Nd) (s : PS), wtN (cosL T r f b n s).1 + s.i ≤ wtN n + (cosL T r f b n s).2.i
  | 0, b, n, s => Nat.le_refl _
  | f + 1, b, n, s => by
    unfold cosL
    split
    · dsimp only
      generalize hs1 : (if n.ks.length = 20 then failF T s 16 else s) = s1
      have h3 : s.i ≤ s1.i := by
        rw [← hs1]; split
        · rw [fail_i]; exact Nat.le_refl _
        · exact Nat.le_refl _
      have h2 := wt_con (T := T) R s1
      generalize hs2 : (if isF T (conF T r s1).2 [124] = true then stepF T (conF T r s1).2 else (conF T r s1).2) = s2
      have h4 : (conF T r s1).2.i ≤ s2.i := by
        rw [← hs2]; split
        · exact step_i _
        · exact Nat.le_refl _
      have h1 := wt_cosL f (isF T (conF T r s1).2 [124]) (n.add (conF T r s1).1) s2
      rw [wt_add] at h1; omega
    · exact Nat.le_refl _
include R in
theorem wt_decl (s : PS) : wtN (declF T r s).1 + s.i ≤ (declF T r s).2.i := by
  have h0 := step_i (T := T) s
  unfold declF
  dsimp only
  split
  · have h1 := text_i (T := T) (stepF T s) 3
    have h2 := wt_namL (T := T) 5 (((Nd.mk 0 [] 0 (stepT T s).at_ [] []).setKd 25).setTx (textT T (stepF T s) 3)) (textF T (stepF T s) 3)
    rw [show wtN (((Nd.mk 0 [] 0 (stepT T s).at_ [] []).setKd 25).setTx (textT T (stepF T s) 3)) = 0 from rfl] at h2
    generalize namL T 5 (((Nd.mk 0 [] 0 (stepT T s).at_ [] []).setKd 25).setTx (textT T (stepF T s) 3)) (textF T (stepF T s) 3) = x at *
    have h3 := want_i (T := T) x.2 [61]
    have h4 := wt_cosL (T := T) R (T.length + 1) true x.1 (wantF T x.2 [61])
    generalize cosL T r (T.length + 1) true x.1 (wantF T x.2 [61]) = y at *
    have h5 := want_i (T := T) y.2 [59]
    dsimp only; omega
  · have h2 := wt_value (T := T) R ((Nd.mk 0 [] 0 (stepT T s).at_ [] []).setKd 28) { stepF T s with flat := true }
    rw [show wtN ((Nd.mk 0 [] 0 (stepT T s).at_ [] []).setKd 28) = 0 from rfl] at h2
    have hk : (valueF T r ((Nd.mk 0 [] 0 (stepT T s).at_ [] []).setKd 28) { stepF T s with flat := true }).1.kd = 28 := rfl
    generalize valueF T r ((Nd.mk 0 [] 0 (stepT T s).at_ [] []).setKd 28) { stepF T s with flat := true } = x at *
    have h3 := want_i (T := T) { x.2 with flat := false } [59]
    have h4 := wt_setKd x.1 29
    rw [hk, show kwN 28 = 0 from rfl, show kwN 29 = 0 from rfl] at h4
    dsimp only at h2 h3 ⊢
    split <;> omega
include R in
theorem wt_matL : ∀ (f : Nat) (b : Bool) (n : Nd) (s : PS), wtN (matL T r f b n s).1 + s.i ≤ wtN n + (matL T r f b n s).2.i
  | 0, b, n, s => Nat.le_refl _
  | f + 1, b, n, s => by
    unfold matL
    split
    · dsimp only
      generalize hs0 : (if n.ks.length = 41 then failF T s 16 else s) = s0
      have h3 : s.i ≤ s0.i := by
        rw [← hs0]; split
        · rw [fail_i]; exact Nat.le_refl _
        · exact Nat.le_refl _
      have h4 := want_i (T := T) s0 [124]
      generalize wantF T s0 [124] = s1 at *
      have h5 := R.pat s1
      have h6 := want_i (T := T) (r.pat s1).2 [45, 62]
      generalize wantF T (r.pat s1).2 [45, 62] = s2 at *
      have h7 := wt_whole R s2
      have h1 := wt_matL f (isF T (wholeF r s2).2 [124]) ((n.add (r.pat s1).1).add (wholeF r s2).1) (wholeF r s2).2
      rw [wt_add, wt_add] at h1; omega
    · exact Nat.le_refl _
include R in
theorem wt_atom (s : PS) : wtN (atomF T r s).1 + s.i ≤ (atomF T r s).2.i := by
  have h0 := step_i (T := T) s
  unfold atomF
  split
  · rw [wt_leaf]; show 0 + s.i ≤ (stepF T s).i; omega
  split
  · rw [wt_leaf]; show 0 + s.i ≤ (stepF T s).i; omega
  split
  · rename_i h
    rw [wt_leaf]; have := step_1 (T := T) (s := s) (by omega); show 1 + s.i ≤ (stepF T s).i; omega
  split
  · rw [wt_leaf]; show 0 + s.i ≤ (stepF T s).i; omega
  dsimp only
  split
  · show 0 + _ ≤ _; dsimp only; omega
  split
  · split
    · have h1 := step_i (T := T) (stepF T s)
      show 0 + _ ≤ _; dsimp only; omega
    · have h1 := wt_whole R (stepF T s)
      have h2 := want_i (T := T) (wholeF r (stepF T s)).2 [41]
      dsimp only; omega
  split
  · rename_i h
    have h1 := is_1 h
    have h2 := wt_whole R (stepF T s)
    generalize wholeF r (stepF T s) = x at *
    have h3 := want_i (T := T) x.2 [119, 105, 116, 104]
    generalize wantF T x.2 [119, 105, 116, 104] = s2 at *
    have h4 := text_i (T := T) s2 3
    have h5 := want_i (T := T) (textF T s2 3) [45, 62]
    have h6 := wt_whole R (wantF T (textF T s2 3) [45, 62])
    generalize wholeF r (wantF T (textF T s2 3) [45, 62]) = y at *
    have h7 := want_i (T := T) y.2 [101, 110, 100]
    dsimp only
    have h8 := wt_setKd ((Nd.mk 0 [] 0 (atF T s) [] []).add x.1) 12
    rw [wt_add, show ((Nd.mk 0 [] 0 (atF T s) [] []).add x.1).kd = 0 from rfl, show kwN 0 = 0 from rfl, show kwN 12 = 1 from rfl, wt_mk0, show kwN 0 = 0 from rfl] at h8
    rw [wt_add, wt_setTx]; omega
  split
  · have h2 := wt_whole R (stepF T s)
    generalize wholeF r (stepF T s) = x at *
    have h3 := want_i (T := T) x.2 [119, 105, 116, 104]
    have h4 := wt_matL (T := T) R (T.length + 1) true (((Nd.mk 0 [] 0 (atF T s) [] []).add x.1).setKd 11) (wantF T x.2 [119, 105, 116, 104])
    generalize matL T r (T.length + 1) true (((Nd.mk 0 [] 0 (atF T s) [] []).add x.1).setKd 11) (wantF T x.2 [119, 105, 116, 104]) = y at *
    have h7 := want_i (T := T) y.2 [101, 110, 100]
    have h8 := wt_setKd ((Nd.mk 0 [] 0 (atF T s) [] []).add x.1) 11
    rw [wt_add, show ((Nd.mk 0 [] 0 (atF T s) [] []).add x.1).kd = 0 from rfl, show kwN 0 = 0 from rfl, show kwN 11 = 0 from rfl, wt_mk0, show kwN 0 = 0 from rfl] at h8
    dsimp only; omega
  · rw [wt_nd0, fail_i]; omega
theorem wt_two (k : Int) (t : List UInt8) (a : Nat) (x y : Nd) : wtN (.mk k t 0 a [] [x, y]) = kwN k + (wtN x + wtN y) := by simp [wtN, wtL]
include R in
theorem wt_appL : ∀ (f : Nat) (b : Bool) (n : Nd) (s : PS), wtN (appL T r f b n s).1 + s.i ≤ wtN n + (appL T r f b n s).2.i
  | 0, b, n, s => Nat.le_refl _
  | f + 1, b, n, s => by
    have h0 := wt_atom (T := T) R s
    unfold appL
    repeat' split
    · rw [fail_i]; exact Nat.le_refl _
    · have h1 := wt_appL f b (n.add (atomF T r s).1) (atomF T r s).2
      rw [wt_add] at h1; omega
    · have h1 := wt_appL f b (.mk 7 [] 0 n.at_ [] [n, (atomF T r s).1]) (atomF T r s).2
      rw [wt_two, show kwN 7 = 0 from rfl] at h1; omega
    · exact Nat.le_refl _
theorem kw_app (k : Nat) : kwN (appKinds.getD k 0) = 0 := by
  match k with
  | 0 | 1 | 2 | 3 | 4 | 5 | 6 | 7 => rfl
  | k + 8 => rfl
include R in
theorem wt_app (s : PS) : wtN (appF T r s).1 + s.i ≤ (appF T r s).2.i := by
  have h0 := step_i (T := T) s
  unfold appF
  split
  · dsimp only
    have h1 := wt_atom (T := T) R (stepF T s)
    have h2 := wt_atom (T := T) R (atomF T r (stepF T s)).2
    split
    · rw [wt_add, wt_add, wt_mk0, kw_app]; dsimp only; omega
    · rw [wt_add, wt_mk0, kw_app]; dsimp only; omega
  · dsimp only
    have h1 := wt_atom (T := T) R s
    have h2 := wt_appL (T := T) R (T.length + 1) (decide (kdF T s = 4)) (atomF T r s).1 (atomF T r s).2
    omega
include R in
theorem wt_prodL : ∀ (f : Nat) (n : Nd) (s : PS), wtN (prodL T r f n s).1 + s.i ≤ wtN n + (prodL T r f n s).2.i
  | 0, n, s => Nat.le_refl _
  | f + 1, n, s => by
    have h0 := step_i (T := T) s
    have h1 := wt_app (T := T) R (stepF T s)
    unfold prodL
    dsimp only
    split
    · exact Nat.le_refl _
    · have h2 := wt_prodL f (binN (opF T s [42] [47] [37]) n (appF T r (stepF T s)).1) (appF T r (stepF T s)).2
      rw [show wtN (binN (opF T s [42] [47] [37]) n (appF T r (stepF T s)).1) = _ from wt_two _ _ _ _ _, show kwN 13 = 0 from rfl] at h2
      omega
include R in
theorem wt_prod (s : PS) : wtN (prodF T r s).1 + s.i ≤ (prodF T r s).2.i := by
  have h1 := wt_app (T := T) R s
  have h2 := wt_prodL (T := T) R (T.length + 1) (appF T r s).1 (appF T r s).2
  unfold prodF; omega
include R in
theorem wt_sumL : ∀ (f : Nat) (n : Nd) (s : PS), wtN (sumL T r f n s).1 + s.i ≤ wtN n + (sumL T r f n s).2.i
  | 0, n, s => Nat.le_refl _
  | f + 1, n, s => by
    have h0 := step_i (T := T) s
    have h1 := wt_prod (T := T) R (stepF T s)
    unfold sumL
    dsimp only
    split
    · exact Nat.le_refl _
    · have h2 := wt_sumL f (binN (opF T s [43] [45] [94]) n (prodF T r (stepF T s)).1) (prodF T r (stepF T s)).2
      rw [show wtN (binN (opF T s [43] [45] [94]) n (prodF T r (stepF T s)).1) = _ from wt_two _ _ _ _ _, show kwN 13 = 0 from rfl] at h2
      omega
include R in
theorem wt_sum (s : PS) : wtN (sumF T r s).1 + s.i ≤ (sumF T r s).2.i := by
  have h1 := wt_prod (T := T) R s
  have h2 := wt_sumL (T := T) R (T.length + 1) (prodF T r s).1 (prodF T r s).2
  unfold sumF; omega
include R in
theorem wt_cmp (s : PS) : wtN (cmpF T r s).1 + s.i ≤ (cmpF T r s).2.i := by
  have h1 := wt_sum (T := T) R s
  have h2 := step_i (T := T) (sumF T r s).2
  have h3 := wt_sum (T := T) R (stepF T (sumF T r s).2)
  unfold cmpF
  dsimp only
  split
  · exact h1
  · rw [show wtN (binN (opF T (sumF T r s).2 [61] [60] [61]) (sumF T r s).1 (sumF T r (stepF T (sumF T r s).2)).1) = _ from wt_two _ _ _ _ _, show kwN 13 = 0 from rfl]
    dsimp only; omega
include R in
theorem wt_inner (s : PS) : wtN (innerF T r s).1 + s.i ≤ (innerF T r s).2.i := by
  unfold innerF
  dsimp only
  split
  · rename_i h
    have h1 := is_1 h
    have h2 := wt_value (T := T) R ((Nd.mk 0 [] 0 (atF T s) [] []).setKd 8) (stepF T s)
    have hk : (valueF T r ((Nd.mk 0 [] 0 (atF T s) [] []).setKd 8) (stepF T s)).1.kd = 8 := rfl
    rw [show wtN ((Nd.mk 0 [] 0 (atF T s) [] []).setKd 8) = 1 from rfl] at h2
    generalize valueF T r ((Nd.mk 0 [] 0 (atF T s) [] []).setKd 8) (stepF T s) = x at *
    have h3 := want_i (T := T) x.2 [105, 110]
    have h4 := R.exp (wantF T x.2 [105, 110])
    have h5 := wt_setKd x.1 9
    rw [hk, show kwN 8 = 1 from rfl, show kwN 9 = 1 from rfl] at h5
    rw [wt_add]
    dsimp only
    split <;> omega
  split
  · rename_i h
    have h1 := is_1 h
    have h2 := text_i (T := T) (stepF T s) 3
    have h3 := want_i (T := T) (textF T (stepF T s) 3) [45, 62]
    have h4 := R.exp (wantF T (textF T (stepF T s) 3) [45, 62])
    rw [wt_add, wt_setTx, show wtN ((Nd.mk 0 [] 0 (atF T s) [] []).setKd 6) = 1 from rfl]
    dsimp only; omega
  split
  · have h0 := step_i (T := T) s
    have h1 := R.exp (stepF T s)
    have h2 := want_i (T := T) (r.exp (stepF T s)).2 [116, 104, 101, 110]
    have h3 := R.exp (wantF T (r.exp (stepF T s)).2 [116, 104, 101, 110])
    have h4 := want_i (T := T) (r.exp (wantF T (r.exp (stepF T s)).2 [116, 104, 101, 110])).2 [101, 108, 115, 101]
    have h5 := R.exp (wantF T (r.exp (wantF T (r.exp (stepF T s)).2 [116, 104, 101, 110])).2 [101, 108, 115, 101])
    rw [wt_add, wt_add, wt_add, show wtN ((Nd.mk 0 [] 0 (atF T s) [] []).setKd 10) = 0 from rfl]
    dsimp only; omega
  · have h1 := wt_cmp (T := T) R s
    have h2 := step_i (T := T) (cmpF T r s).2
    have h3 := R.exp (stepF T (cmpF T r s).2)
    split
    · rw [wt_two, show kwN 14 = 0 from rfl]; dsimp only; omega
    · exact h1
include R in
theorem wt_expF (s : PS) : wtN (expF T r s).1 + s.i ≤ (expF T r s).2.i := by
  have h0 := enter_i (T := T) s
  have h1 := wt_inner (T := T) R (enterF T s)
  unfold expF
  split
  · dsimp only; rw [up_i]; omega
  · rw [wt_nd0]; dsimp only; omega
end
theorem wt_rules (T : List Tok) : ∀ n, WtR (rules T n)
  | 0 => ⟨fun s => by show wtN nd0 + _ ≤ _; rw [wt_nd0]; dsimp only [rules]; omega, fun s => by show wtN nd0 + _ ≤ _; rw [wt_nd0]; dsimp only [rules]; omega, fun s => by show wtN nd0 + _ ≤ _; rw [wt_nd0]; dsimp only [rules]; omega⟩
  | n + 1 => ⟨wt_expF (wt_rules T n), wt_pat (wt_rules T n), wt_ty (wt_rules T n)⟩
theorem wt_progL (T : List Tok) : ∀ (f : Nat) (n : Nd) (s : PS), wtN (progL T f n s).1 + s.i ≤ wtN n + (progL T f n s).2.i
  | 0, n, s => Nat.le_refl _
  | f + 1, n, s => by
    have h0 := wt_decl (T := T) (wt_rules T 42) s
    unfold progL
    repeat' split
    · rw [fail_i]; exact Nat.le_refl _
    · have h1 := wt_progL T f (n.add (declF T (rules T 42) s).1) (declF T (rules T 42) s).2
      rw [wt_add] at h1; omega
    · exact Nat.le_refl _
theorem i_progL {T : List Tok} (E : Ends T) : ∀ (f : Nat) (n : Nd) (s : PS), s.i < T.length → Goes T s (progL T f n s).2
  | 0, n, s, h => .refl h
  | f + 1, n, s, h => by
    unfold progL
    repeat' split
    · exact goes_fail h _
    · have h1 := goes_decl E (fine_rules E 42) h
      exact h1.trans (i_progL E f _ _ h1.lt)
    · exact .refl h
/-- A program's names: no more than 2001. -/
theorem prog_wt (l : List UInt8) : wtN (progF l).1 ≤ 2001 := by
  unfold progF
  split
  · rename_i he
    obtain ⟨T, p, e, h⟩ : ∃ T p e, tokensF l = (T, p, e) := ⟨_, _, _, rfl⟩
    rw [h] at he ⊢
    simp only at he
    subst he
    have ht := of_tokensF h
    have E : Ends T := ⟨List.length_pos_iff.2 ht.ne, fun k hk => (ht.places k T[k] (List.getElem?_eq_getElem hk)).1⟩
    have hl : T.length ≤ 2001 := by
      have := ht.len
      have h2 : l.length ≤ 2000 := by
        unfold tokensF at h
        split at h
        · injection h with h1 h2; injection h2 with h2 h3; cases h3
        · omega
      omega
    dsimp only
    unfold progT
    dsimp only
    have h0 : (⟨0, 0, 0, false, 0⟩ : PS).i < T.length := E.pos
    have h1 := wt_progL T (T.length + 1) (.mk 30 [] 0 (atF T ⟨0, 0, 0, false, 0⟩) [] []) ⟨0, 0, 0, false, 0⟩
    have h2 := i_progL E (T.length + 1) (.mk 30 [] 0 (atF T ⟨0, 0, 0, false, 0⟩) [] []) ⟨0, 0, 0, false, 0⟩ h0
    rw [wt_mk0, show kwN 30 = 0 from rfl] at h1
    generalize progL T (T.length + 1) (.mk 30 [] 0 (atF T ⟨0, 0, 0, false, 0⟩) [] []) ⟨0, 0, 0, false, 0⟩ = q at *
    have h3 := want_i (T := T) q.2 [100, 111]
    have h4 := (wt_rules T 42).exp (wantF T q.2 [100, 111])
    have h5 := ((h2.want E [100, 111]).exp (fine_rules E 42)).lt
    generalize (rules T 42).exp (wantF T q.2 [100, 111]) = y at *
    generalize (if kdF T y.2 = 0 then y.2 else failF T y.2 14) = s2
    split
    · dsimp only
      rw [wt_add]; omega
    · exact Nat.zero_le _
  · exact Nat.zero_le _
end Go.Proofs.Ytgjchgmlogbmmaa
/- Rows of texts that are read, and a row that grows; whether a text is in a row. -/
namespace Go.Proofs.Ytgjchgmlogbmmaa
open Go.RowKit
set_option linter.unusedVariables false
set_option linter.unusedSimpArgs false
attribute [local go_sem ↓] Go.wp_at_zero Go.wp_at_succ

/-- Texts in a row, to be read, in a block of b. -/
def StrIn (w : World) (b : Nat → Prop) (l : List (List UInt8)) (A : Option Addr) : Prop :=
  l ≠ [] → ∃ g, A = some ⟨g, 0, none⟩ ∧ b g ∧ g < w.heap.size ∧ ∀ k (h : k < l.length), w.cell? ⟨g, k, none⟩ = some (strV l[k])
section
variable {w w' : World} {b : Nat → Prop} {l : List (List UInt8)} {A : Option Addr}
theorem StrIn.nil (w : World) (b : Nat → Prop) (A : Option Addr) : StrIn w b [] A := fun h => absurd rfl h
theorem StrIn.frame (h : StrIn w b l A) (hs : w.heap.size ≤ w'.heap.size) (hb : ∀ a, b a → a < w.heap.size → w'.heap[a]? = w.heap[a]?) : StrIn w' b l A := fun hl => by
  obtain ⟨g, e1, e2, e3, e4⟩ := h hl
  exact ⟨g, e1, e2, Nat.lt_of_lt_of_le e3 hs, fun k hk => (World.cell?_of_block (hb g e2 e3)).trans (e4 k hk)⟩
theorem StrIn.mono (h : StrIn w b l A) {b' : Nat → Prop} (hb : ∀ a, b a → a < w.heap.size → b' a) : StrIn w b' l A := fun hl => by
  obtain ⟨g, e1, e2, e3, e4⟩ := h hl
  exact ⟨g, e1, hb g e2 e3, e3, e4⟩
theorem StrIn.below {B : Nat} (h : StrIn w b l A) (hb : Below B w w') (hB : w.heap.size ≤ B) : StrIn w' b l A := h.frame hb.size fun a _ hl => hb.block a (Nat.lt_of_lt_of_le hl hB)
theorem StrIn.at_ (h : StrIn w b l A) {k : Nat} (hk : k < l.length) : ∃ g, A = some ⟨g, 0, none⟩ ∧ g < w.heap.size ∧ w.cell? ⟨g, k, none⟩ = some (.string ⟨(l.getD k []).toArray⟩) := by
  obtain ⟨g, e1, e2, e3, e4⟩ := h (fun e => by rw [e] at hk; simp at hk)
  refine ⟨g, e1, e3, ?_⟩
  rw [e4 k hk, List.getD_eq_getElem?_getD, List.getElem?_eq_getElem hk]; rfl
end
theorem has_get {l : List (List UInt8)} {k : Nat} (h : k < l.length) {t : List UInt8} (e : l.getD k [] = t) : l.contains t = true := by
  rw [List.contains_iff_mem, ← e, List.getD_eq_getElem?_getD, List.getElem?_eq_getElem h]; exact List.getElem_mem h
theorem has_not {l : List (List UInt8)} {t : List UInt8} (h : ∀ j, j < l.length → l.getD j [] ≠ t) : l.contains t = false := by
  rw [Bool.eq_false_iff, Ne, List.contains_iff_mem]
  intro hm
  obtain ⟨j, hj⟩ := List.mem_iff_getElem?.1 hm
  have hlt := (List.getElem?_eq_some_iff.1 hj).1
  exact h j hlt (by rw [List.getD_eq_getElem?_getD, hj]; rfl)
/-- Is a text in a row? -/
def hasB (l : List (List UInt8)) (t : List UInt8) : Bool := l.contains t
set_option maxHeartbeats 4000000 in
theorem index_any (l : List (List UInt8)) (hl : l.length ≤ 100000) (t : List UInt8) (w : World) (b : Nat → Prop) (A : Option Addr) (c : Nat) (hr : StrIn w b l A) :
    Calls Try.prog 60 #[.slice A l.length c, .string ⟨t.toArray⟩] w fun e w' => (∃ v : Int, e = .returned (.int .i64 v) ∧ (0 ≤ v ↔ hasB l t = true)) ∧ Below w.heap.size w w' := by
  have HL : Hid (l.length ≤ 100000) := hl
  have HR := Lib.hid hr
  clear hl hr
  go_enter Try.func60, Try.ntmps60
  go_wp2_with fail
  go_loopw [8] (fun i wr => ∃ k : Nat, i = .int .i64 (k : Int) ∧ k ≤ l.length ∧ (∀ j, j < k → l.getD j [] ≠ t) ∧ Below w.heap.size w wr) (fun i _ => l.length - (intOf i).toNat)
  case atStart => exact ⟨0, rfl, Nat.zero_le _, fun j hj => absurd hj (by omega), Below.refl _ _⟩
  case round =>
    obtain ⟨k, rfl, hk, hall, hb⟩ := hrel
    have HB := Lib.hid hb
    have HALL := Lib.hid hall
    clear hall hb
    by_cases hlt : k < l.length
    · obtain ⟨g, rfl, _, x0⟩ := (HR.out.below HB.out (Nat.le_refl _)).at_ hlt
      have HY : Hid (l.getD k [] = t → hasB l t = true) := fun h => has_get hlt h
      have i0 : (0 : Int) ≤ (k : Int) := by omega
      have i1 : (k : Int) < (l.length : Int) := by omega
      have i2 : (k : Int) < 100000 := by have := HL.out; omega
      have HD : Hid (l.getD k [] ≠ t → ∀ j, j < k + 1 → l.getD j [] ≠ t) := fun h j hj => by
        rcases (by omega : j < k ∨ j = k) with h' | rfl
        · exact HALL.out j h'
        · exact h
      clear HALL
      generalize l.getD k [] = y at *
      by_cases he : t = y
      · subst he
        have HS := Lib.hid (HY.out rfl)
        go_wp2_with fail
        go_ret
        exact ⟨⟨_, rfl, fun _ => HS.out, fun _ => i0⟩, HB.out⟩
      · have q1 : (t == y) = false := beq_eq_false_iff_ne.2 he
        have HS := Lib.hid (HD.out (Ne.symm he))
        clear he
        go_wp2_with fail
        go_roundw
        case rel => exact ⟨k + 1, by go_num, by omega, HS.out, HB.out⟩
        case measure => simp [intOf]; omega
    · have i1 : ¬ (k : Int) < (l.length : Int) := by omega
      have HS : Hid (hasB l t = false) := has_not fun j hj => HALL.out j (by omega)
      go_wp2_with fail
      go_ret
      exact ⟨⟨_, rfl, fun h => absurd h (by decide), fun h => by rw [HS.out] at h; cases h⟩, HB.out⟩
theorem contains_any (l : List (List UInt8)) (hl : l.length ≤ 100000) (t : List UInt8) (w : World) (b : Nat → Prop) (A : Option Addr) (c : Nat) (hr : StrIn w b l A) :
    Calls Try.prog 47 #[.slice A l.length c, .string ⟨t.toArray⟩] w fun e w' => e = .returned (.bool (hasB l t)) ∧ Below w.heap.size w w' := by
  have CI := Lib.hid (index_any l hl t w b A c hr)
  clear hl hr
  go_enter Try.func47, Try.ntmps47
  go_wp2_with fail
  refine CI.out.mono ?_
  rintro e w2 ⟨⟨v, rfl, hv⟩, b2⟩
  have HV := Lib.hid hv
  have HB := Lib.hid b2
  clear CI hv b2
  by_cases h : 0 ≤ v
  · have HS := Lib.hid (HV.out.1 h)
    go_wp2_with fail
    go_ret
    exact ⟨ret_bq (by rw [HS.out]), HB.out⟩
  · have HS : Hid (hasB l t = false) := by
      have := mt HV.out.2 h
      show _ = _
      simpa using this
    go_wp2_with fail
    go_ret
    exact ⟨ret_bq (by rw [HS.out]; exact decide_eq_false (by omega)), HB.out⟩
set_option maxHeartbeats 4000000 in
theorem rhas_any (l : List (List UInt8)) (hl : l.length ≤ 100000) (t : List UInt8) (w : World) (b : Nat → Prop) (A : Option Addr) (c : Nat) (hr : StrIn w b l A) :
    Calls Try.prog 48 #[.slice A l.length c, .string ⟨t.toArray⟩] w fun e w' => e = .returned (.bool (hasB l t)) ∧ Below w.heap.size w w' := by
  have HL : Hid (l.length ≤ 100000) := hl
  have HR := Lib.hid hr
  clear hl hr
  go_enter Try.func48, Try.ntmps48
  go_wp2_with fail
  go_loopw [5] (fun i wr => ∃ k : Nat, i = .int .i64 (k : Int) ∧ k ≤ l.length ∧ (∀ j, j < k → l.getD j [] ≠ t) ∧ Below w.heap.size w wr) (fun i _ => l.length - (intOf i).toNat)
  case atStart => exact ⟨0, rfl, Nat.zero_le _, fun j hj => absurd hj (by omega), Below.refl _ _⟩
  case round =>
    obtain ⟨k, rfl, hk, hall, hb⟩ := hrel
    have HB := Lib.hid hb
    have HALL := Lib.hid hall
    clear hall hb
    by_cases hlt : k < l.length
    · obtain ⟨g, rfl, _, x0⟩ := (HR.out.below HB.out (Nat.le_refl _)).at_ hlt
      have HY : Hid (l.getD k [] = t → hasB l t = true) := fun h => has_get hlt h
      have i0 : (0 : Int) ≤ (k : Int) := by omega
      have i1 : (k : Int) < (l.length : Int) := by omega
      have i2 : (k : Int) < 100000 := by have := HL.out; omega
      have HD : Hid (l.getD k [] ≠ t → ∀ j, j < k + 1 → l.getD j [] ≠ t) := fun h j hj => by
        rcases (by omega : j < k ∨ j = k) with h' | rfl
        · exact HALL.out j h'
        · exact h
      clear HALL
      generalize l.getD k [] = y at *
      by_cases he : y = t
      · subst he
        have HS := Lib.hid (HY.out rfl)
        go_wp2_with fail
        go_ret
        exact ⟨ret_bq HS.out.symm, HB.out⟩
      · have q1 : (y == t) = false := beq_eq_false_iff_ne.2 he
        have HS := Lib.hid (HD.out he)
        clear he
        go_wp2_with fail
        go_roundw
        case rel => exact ⟨k + 1, by go_num, by omega, HS.out, HB.out⟩
        case measure => simp [intOf]; omega
    · have i1 : ¬ (k : Int) < (l.length : Int) := by omega
      have HS : Hid (hasB l t = false) := has_not fun j hj => HALL.out j (by omega)
      go_wp2_with fail
      go_ret
      exact ⟨ret_bq HS.out.symm, HB.out⟩
set_option maxHeartbeats 4000000 in
theorem lhas_any (l : List (List UInt8)) (hl : l.length ≤ 100000) (t : List UInt8) (w : World) (b : Nat → Prop) (A : Option Addr) (c : Nat) (hr : StrIn w b l A) :
    Calls Try.prog 15 #[.slice A l.length c, .string ⟨t.toArray⟩] w fun e w' => e = .returned (.bool (hasB l t)) ∧ Below w.heap.size w w' := by
  have HL : Hid (l.length ≤ 100000) := hl
  have HR := Lib.hid hr
  clear hl hr
  go_enter Try.func15, Try.ntmps15
  go_wp2_with fail
  go_loopw [5] (fun i wr => ∃ k : Nat, i = .int .i64 (k : Int) ∧ k ≤ l.length ∧ (∀ j, j < k → l.getD j [] ≠ t) ∧ Below w.heap.size w wr) (fun i _ => l.length - (intOf i).toNat)
  case atStart => exact ⟨0, rfl, Nat.zero_le _, fun j hj => absurd hj (by omega), Below.refl _ _⟩
  case round =>
    obtain ⟨k, rfl, hk, hall, hb⟩ := hrel
    have HB := Lib.hid hb
    have HALL := Lib.hid hall
    clear hall hb
    by_cases hlt : k < l.length
    · obtain ⟨g, rfl, _, x0⟩ := (HR.out.below HB.out (Nat.le_refl _)).at_ hlt
      have HY : Hid (l.getD k [] = t → hasB l t = true) := fun h => has_get hlt h
      have i0 : (0 : Int) ≤ (k : Int) := by omega
      have i1 : (k : Int) < (l.length : Int) := by omega
      have i2 : (k : Int) < 100000 := by have := HL.out; omega
      have HD : Hid (l.getD k [] ≠ t → ∀ j, j < k + 1 → l.getD j [] ≠ t) := fun h j hj => by
        rcases (by omega : j < k ∨ j = k) with h' | rfl
        · exact HALL.out j h'
        · exact h
      clear HALL
      generalize l.getD k [] = y at *
      by_cases he : y = t
      · subst he
        have HS := Lib.hid (HY.out rfl)
        go_wp2_with fail
        go_ret
        exact ⟨ret_bq HS.out.symm, HB.out⟩
      · have q1 : (y == t) = false := beq_eq_false_iff_ne.2 he
        have HS := Lib.hid (HD.out he)
        clear he
        go_wp2_with fail
        go_roundw
        case rel => exact ⟨k + 1, by go_num, by omega, HS.out, HB.out⟩
        case measure => simp [intOf]; omega
    · have i1 : ¬ (k : Int) < (l.length : Int) := by omega
      have HS : Hid (hasB l t = false) := has_not fun j hj => HALL.out j (by omega)
      go_wp2_with fail
      go_ret
      exact ⟨ret_bq HS.out.symm, HB.out⟩
/-- A row of texts of the call's own; an empty one is nil. -/
structure OwnT (w : World) (base : Nat) (L : List (List UInt8)) (v : Value) : Prop where
  row : w.ownsRow base 9 1 v L.length (L.map strV)
  nil : L = [] → v = .slice none 0 0
theorem OwnT.below {w w' : World} {base B : Nat} {L : List (List UInt8)} {v : Value} (h : OwnT w base L v) (hb : Below B w w') (hB : w.heap.size ≤ B) : OwnT w' base L v :=
  ⟨own_of_block h.row fun g hg => hb.block g (Nat.lt_of_lt_of_le (h.row.lt g hg).2 hB), h.nil⟩
theorem OwnT.ne {w : World} {base : Nat} {L : List (List UInt8)} {v : Value} (h : OwnT w base L v) {a : Nat} (ha : a < base ∨ w.heap.size ≤ a) : v.ownBlock ≠ some a := fun e => by
  have := h.row.lt a e; omega
theorem OwnT.none (w : World) (base : Nat) : OwnT w base [] (.slice none 0 0) := ⟨World.ownsRow_nil _ _ _ _, fun _ => rfl⟩
/-- A row of texts that grows, out of an elder one. -/
structure Grew (w : World) (base : Nat) (v : Value) (L : List (List UInt8)) (v' : Value) (w' : World) : Prop where
  own : OwnT w' base L v'
  os : w'.os = w.os
  tape : w'.tape = w.tape
  output : w'.output = w.output
  size : w.heap.size ≤ w'.heap.size
  block : ∀ a, a < w.heap.size → v.ownBlock ≠ some a → w'.heap[a]? = w.heap[a]?
  blk : ∀ g, v'.ownBlock = some g → v.ownBlock = some g ∨ w.heap.size ≤ g
section
variable {w w1 w2 w' : World} {base : Nat} {v v1 v2 : Value} {L M : List (List UInt8)} {b : Nat → Prop} {x : Nd} {f : Fr} {A : Option Addr}
theorem Grew.refl (h : OwnT w base L v) : Grew w base v L v w := ⟨h, rfl, rfl, rfl, Nat.le_refl _, fun _ _ _ => rfl, fun g h => .inl h⟩
theorem Grew.trans (h : Grew w base v L v1 w1) (k : Grew w1 base v1 M v2 w2) : Grew w base v M v2 w2 :=
  ⟨k.own, k.os.trans h.os, k.tape.trans h.tape, k.output.trans h.output, Nat.le_trans h.size k.size,
    fun a ha hn => (k.block a (Nat.lt_of_lt_of_le ha h.size) fun e => by
      rcases h.blk a e with h1 | h1
      · exact hn h1
      · omega).trans (h.block a ha hn),
    fun g hg => by
      rcases k.blk g hg with h1 | h1
      · exact h.blk g h1
      · exact .inr (Nat.le_trans h.size h1)⟩
theorem Grew.later {B : Nat} (h : Grew w base v L v1 w1) (hb : Below B w1 w2) (hB : w1.heap.size ≤ B) : Grew w base v L v1 w2 :=
  ⟨h.own.below hb hB, hb.os.trans h.os, hb.tape.trans h.tape, hb.output.trans h.output, Nat.le_trans h.size hb.size,
    fun a ha hn => (hb.block a (by have := h.size; omega)).trans (h.block a ha hn), h.blk⟩
theorem Grew.app {w3 : World} {v3 : Value} (h : Grew w base v L v1 w1) (hM : M ≠ []) (ha : Appended w1 base 9 1 v1 M.length (M.map strV) v3 w3) : Grew w base v M v3 w3 :=
  h.trans ⟨⟨ha.1, fun e => absurd e hM⟩, ha.2.1.os, ha.2.1.tape, ha.2.1.output, ha.2.1.size, fun a hl hn => ha.2.1.block a hl (fun e => hn e.symm), fun g hg => by
    rcases ha.2.2 g hg with h1 | h1
    · exact .inl h1
    · exact .inr (Nat.le_of_eq h1.symm)⟩
theorem Grew.node (h : Grew w base v L v1 w1) (n : NodeIn w b x f) (hb : ∀ a, b a → v.ownBlock ≠ some a) : NodeIn w1 b x f := n.frame h.size fun a ha hl => h.block a hl (hb a ha)
theorem Grew.str (h : Grew w base v L v1 w1) (n : StrIn w b M A) (hb : ∀ a, b a → v.ownBlock ≠ some a) : StrIn w1 b M A := n.frame h.size fun a ha hl => h.block a hl (hb a ha)
theorem Grew.whole (h : Grew w base v L v1 w1) {G : Nat} {t : TypeId} {cs : Array Value} (n : Whole w G t cs) (hb : v.ownBlock ≠ some G) : Whole w1 G t cs := (h.block G n.lt hb).trans n
theorem own_str {c n : Nat} (h : w.ownsRow base 9 1 (.slice A n c) L.length (L.map strV)) : StrIn w (fun a => base ≤ a) L A := fun hn => by
  have hp : 0 < L.length := List.length_pos_iff.2 hn
  obtain ⟨g, c', e, hb, hl, _⟩ := own_cell h (k := 0) (by omega)
  simp only [Value.slice.injEq] at e
  refine ⟨g, e.1, hb, hl, fun k hk => ?_⟩
  obtain ⟨g', c'', e', _, _, hcell, _⟩ := own_cell h (k := k) (by omega)
  simp only [Value.slice.injEq] at e'
  have eg : g = g' := by have := e.1.symm.trans e'.1; simpa using this
  subst eg
  rw [hcell, List.getElem?_map, List.getElem?_eq_getElem hk]; rfl
theorem Grew.form (h : Grew w base v L v1 w1) : ∃ A c, v1 = .slice A L.length c := by
  rcases h.own.row.2 with ⟨e, e2⟩ | ⟨g, c, cur, e, _⟩
  · exact ⟨none, 0, by rw [e, e2]⟩
  · exact ⟨_, _, e⟩
/-- Below base, all is as it was. -/
theorem Grew.below (h : Grew w base v L v1 w1) (hv : ∀ g, v.ownBlock = some g → base ≤ g) (hB : base ≤ w.heap.size) : Below base w w1 :=
  ⟨h.os, h.tape, h.output, h.size, fun a ha => h.block a (Nat.lt_of_lt_of_le ha hB) fun e => by have := hv a e; omega⟩
end
end Go.Proofs.Ytgjchgmlogbmmaa
/- The walks of layer 11: the names in a pattern; all names; the names free. -/
namespace Go.Proofs.Ytgjchgmlogbmmaa
open Go.RowKit
set_option linter.unusedVariables false
set_option linter.unusedSimpArgs false
attribute [local go_sem ↓] Go.wp_at_zero Go.wp_at_succ

theorem namesL_take (xs : List Nd) : ∀ k, k < xs.length → namesL (xs.take (k + 1)) = namesL (xs.take k) ++ namesF (xs.getD k nd0) := by
  induction xs with
  | nil => intro k h; simp at h
  | cons x xs ih =>
    intro k h
    cases k with
    | zero => simp [namesL]
    | succ k =>
      rw [List.take_succ_cons, List.take_succ_cons, namesL, namesL, ih k (by simpa using h), List.append_assoc]; rfl
theorem wtL_take (xs : List Nd) : ∀ k, k < xs.length → wtL (xs.take k) + wtN (xs.getD k nd0) ≤ wtL xs := by
  induction xs with
  | nil => intro k h; simp at h
  | cons x xs ih =>
    intro k h
    cases k with
    | zero => simp [wtL]
    | succ k =>
      have := ih k (by simpa using h)
      rw [List.take_succ_cons, wtL, wtL, show (x :: xs).getD (k + 1) nd0 = xs.getD k nd0 from rfl]; omega
theorem Grew.first {w w1 w2 : World} {base : Nat} {v v2 : Value} {M : List (List UInt8)} (k : Grew w1 base v M v2 w2) (h : Below w.heap.size w w1) : Grew w base v M v2 w2 :=
  ⟨k.own, k.os.trans h.os, k.tape.trans h.tape, k.output.trans h.output, Nat.le_trans h.size k.size, fun a ha hn => (k.block a (Nat.lt_of_lt_of_le ha h.size) hn).trans (h.block a ha),
    fun g hg => (k.blk g hg).imp id (fun h1 => Nat.le_trans h.size h1)⟩
/-- What a row of texts grows to. -/
def Grown (w : World) (base : Nat) (v : Value) (M : List (List UInt8)) (e : Ending) (w' : World) : Prop :=
  ∃ A c, e = .returned (.slice A M.length c) ∧ Grew w base v M (.slice A M.length c) w'
def NamesC (y : Nd) : Prop := ∀ (w : World) (base : Nat) (b : Nat → Prop) (f : Fr) (L : List (List UInt8)) (A : Option Addr) (c : Nat), L.length + wtN y ≤ 100000 → OwnT w base L (.slice A L.length c) → base ≤ w.heap.size → (∀ a, b a → a < base) → NodeIn w b y f →
  Calls Try.prog 41 #[ndV y f, .slice A L.length c] w (Grown w base (.slice A L.length c) (L ++ namesF y))
set_option maxRecDepth 100000 in
set_option maxHeartbeats 8000000 in
theorem names_any (x : Nd) : WfN x → NamesC x := by
  induction x using Nd.ind with
  | h x ih =>
    intro hw w base b f L A c hwt hown hbase hb hn
    have HA : Hid (Ag w (w.alloc (.cells zN(x, f) 25)) b w.heap.size x f) := Ag.start hn
    have HL : Hid (x.ks.length ≤ 100000) := hw.len
    have HWT : Hid (L.length + wtN x ≤ 100000) := hwt
    have HWE := Lib.hid (wtN_eq x)
    have IH := Lib.hid (fun y hy => ih y hy (hw.ks y hy))
    have HE := Lib.hid (namesF_eq x)
    have HB := Lib.hid hb
    have HOW := Lib.hid (hown.below HA.out.bel (Nat.le_refl _))
    have HOW0 := Lib.hid hown
    have HBS := Lib.hid hbase
    clear hn hw ih hb hown hbase hwt
    unfold ndV
    go_enter Try.func41, Try.ntmps41
    go_upto_region 1 with (fail)
    generalize w.alloc (.cells zN(x, f) 25) = w1 at *
    obtain ⟨G, hG⟩ : ∃ G, w.heap.size = G := ⟨_, rfl⟩
    have HG := Lib.hid hG
    rw [hG] at HA
    simp only [hG]
    clear hG
    have c0 := HA.out.c0
    have c1 := HA.out.c1
    have HNE : Hid ((Value.slice A L.length c).ownBlock ≠ some G) := HOW0.out.ne (.inr (Nat.le_of_eq HG.out))
    clear HOW0
    obtain ⟨L1, hL1⟩ : ∃ L1, (if x.kd == 4 then L ++ [x.tx] else L) = L1 := ⟨_, rfl⟩
    have HL1 := Lib.hid hL1
    clear hL1
    go_upto_if 9 with (fail)
    go_cut [1] (fun u wx => ∃ A1 c1, u = .slice A1 L1.length c1 ∧ Grew w1 base (.slice A L.length c) L1 (.slice A1 L1.length c1) wx)
    case first =>
      by_cases h4 : x.kd = 4
      · have HQ : Hid (L ++ [x.tx] = L1) := by show _ = _; rw [← HL1.out, h4]; rfl
        have q4 : (x.kd == 4) = true := beq_iff_eq.2 h4
        have HLN : Hid (L1.length = L.length + 1) := by show _ = _; rw [← HQ.out]; simp
        have i9 : L.length ≤ 100000 := by have := HWT.out; omega
        clear h4 HL1 HE
        go_wp2_with (at_builtin; refine list_app ty_str (v := .slice A L.length c) rfl _ _ rfl rfl (own_more_alloc HOW.out.row (.cells #[strV x.tx] 9)) w1.heap.size 1 [strV x.tx] rfl (Whole.made w1 9 _) rfl (by simp [strV, Value.oneCell']) (by decide) (by omega) (by decide) (by have := HBS.out; have := HA.out.bel.size; simp; omega) ?_; intro gv cv wd hap; have HAP := Lib.hid hap; clear hap)
        go_meet
        refine ⟨some ⟨gv, 0, none⟩, cv, by rw [HLN.out], ?_⟩
        have h1 : Appended (w1.alloc (.cells #[strV x.tx] 9)) base 9 1 (.slice A L.length c) L1.length (L1.map strV) (.slice (some ⟨gv, 0, none⟩) (L.length + 1) cv) wd := by
          rw [HLN.out, ← HQ.out, List.map_append]; exact HAP.out
        rw [HLN.out]
        exact ((Grew.refl HOW.out).later ((Below.refl _ _).alloc (Nat.le_refl _) _) (Nat.le_refl _)).app (by rw [← HQ.out]; simp) h1
      · have q4 : (x.kd == 4) = false := beq_eq_false_iff_ne.2 h4
        have HQ : Hid (L = L1) := by show _ = _; rw [← HL1.out, q4]; rfl
        clear h4 HL1 HE
        go_wp2_with fail
        go_meet
        exact ⟨A, c, by rw [HQ.out], by rw [← HQ.out]; exact Grew.refl HOW.out⟩
    case rest =>
      obtain ⟨A1, k1, rfl, hg⟩ := hcut
      have HGR := Lib.hid hg
      have HK0 : Hid (L1.length ≤ L.length + kwN x.kd) := by
        show _ ≤ _
        rw [← HL1.out]
        unfold kwN
        by_cases h4 : (x.kd == 4) = true
        · rw [if_pos h4, if_pos (by rw [h4]; rfl)]; simp
        · rw [if_neg h4]; omega
      have HM : Hid (L ++ namesF x = L1 ++ namesL x.ks) := by
        show _ = _
        rw [← HL1.out, HE.out]
        split <;> simp
      clear HL1 HE hg c0 c1
      have HX := Lib.hid (HGR.out.whole HA.out.X HNE.out)
      have c5 : wc.cell? ⟨G, 5, none⟩ = some (.slice f.ka x.ks.length f.kc) := HX.out.cell 5
      go_wp2_with fail
      clear c5 HX
      go_loopw [1, 18] (fun u i wr => ∃ (k : Nat) (A2 : Option Addr) (k2 : Nat), u = .slice A2 (L1 ++ namesL (x.ks.take k)).length k2 ∧ i = .int .i64 (k : Int) ∧ k ≤ x.ks.length ∧ Grew w1 base (.slice A L.length c) (L1 ++ namesL (x.ks.take k)) (.slice A2 (L1 ++ namesL (x.ks.take k)).length k2) wr) (fun _ i _ => x.ks.length - (intOf i).toNat)
      case atStart => exact ⟨0, A1, k1, by simp [namesL], rfl, Nat.zero_le _, by simpa [namesL] using HGR.out⟩
      case round =>
        obtain ⟨k, A2, k2, rfl, rfl, hk, hg⟩ := hrel
        have HG2 := Lib.hid hg
        clear hg HGR
        by_cases hlt : k < x.ks.length
        · have HMT := Lib.hid (namesL_take x.ks k hlt)
          have HWL := Lib.hid (wtL_take x.ks k hlt)
          have HNL := Lib.hid (namesL_len (x.ks.take k) (fun y _ => names_len y))
          have HN2 := Lib.hid (HG2.out.node HA.out.n (fun a ha => HOW.out.ne (.inl (HB.out a ha))))
          have HB2 : Hid (base ≤ wr.heap.size) := Nat.le_trans HBS.out (Nat.le_trans HA.out.bel.size HG2.out.size)
          obtain ⟨g, fy, e, _, ⟨x0, x1, x2, x3, x4, x5⟩, ny⟩ := HN2.out.row.any hlt
          have HE2 := Lib.hid e
          have HNY := Lib.hid ny
          have CY := Lib.hid (IH.out _ (getD_mem hlt))
          have i0 : (0 : Int) ≤ (k : Int) := by omega
          have i1 : (k : Int) < (x.ks.length : Int) := by omega
          have i2 : (k : Int) < 100000 := by have := HL.out; omega
          have HBD : Hid ((L1 ++ namesL (x.ks.take k)).length + wtN (x.ks.getD k nd0) ≤ 100000) := by
            have h1 := HWL.out; have h2 := HNL.out; have h3 := HK0.out; have h4 := HWT.out; have h5 := HWE.out
            show _ ≤ _
            rw [List.length_append]; omega
          clear ny e HWL HNL
          generalize x.ks.getD k nd0 = y at *
          obtain ⟨M, hM⟩ : ∃ M, L1 ++ namesL (x.ks.take k) = M := ⟨_, rfl⟩
          have HMM := Lib.hid hM
          rw [hM] at HG2 HBD ⊢
          clear hM
          have HON := Lib.hid (OwnT.below HG2.out.own ((Below.refl _ _).alloc (Nat.le_refl _) (.cells zN(y, fy) 25)) (Nat.le_refl _))
          have CY2 := Lib.hid (CY.out (wr.alloc (.cells zN(y, fy) 25)) base b fy M A2 k2 HBD.out HON.out (by have := HB2.out; simp; omega) HB.out (HNY.out.later ((Below.refl _ _).alloc (Nat.le_refl _) _) (Nat.le_refl _)))
          unfold ndV at CY2
          rw [HE2.out]
          go_wp2_with fail
          refine CY2.out.mono ?_
          obtain ⟨N, hN⟩ : ∃ N, M ++ namesF y = N := ⟨_, rfl⟩
          have HNN := Lib.hid hN
          rw [hN]
          clear hN
          rintro e w3 ⟨A3, k3, rfl, hg3⟩
          have HG3 := Lib.hid ((HG2.out.later ((Below.refl _ _).alloc (Nat.le_refl _) (.cells zN(y, fy) 25)) (Nat.le_refl _)).trans hg3)
          have HMF : Hid (L1 ++ namesL (x.ks.take (k + 1)) = N) := by show _ = _; rw [HMT.out, ← List.append_assoc, HMM.out, HNN.out]
          clear HG2 hg3 CY2 CY HON HNY x0 x1 x2 x3 x4 x5
          go_wp2_with fail
          go_roundw
          case rel => exact ⟨k + 1, A3, k3, by rw [HMF.out], by go_num, by omega, by rw [HMF.out]; exact HG3.out⟩
          case measure => simp [intOf]; omega
        · have i1 : ¬ (k : Int) < (x.ks.length : Int) := by omega
          have HTK : Hid (x.ks.take k = x.ks) := List.take_of_length_le (by omega)
          rw [HTK.out] at HG2 ⊢
          go_wp2_with fail
          refine bodyPost_ret (v := .slice A2 (L1 ++ namesL x.ks).length k2) (by simp [results, Try.results41, go_sem]) rfl ?_
          exact ⟨A2, k2, by rw [HM.out], by rw [HM.out]; exact HG2.out.first HA.out.bel⟩
end Go.Proofs.Ytgjchgmlogbmmaa
