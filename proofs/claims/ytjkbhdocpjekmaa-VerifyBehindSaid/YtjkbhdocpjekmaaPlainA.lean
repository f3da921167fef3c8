/- The plain mathematics of layer 14: what an instruction takes, puts, where it goes; which states are reached; what holds together. -/
import Derived.Test.YtjkbhdocpjekmaaWalkF
import Derived.Test.YtjkbhdocpjekmaaOpen
namespace Go.Proofs.Ytjkbhdocpjekmaa
set_option linter.unusedVariables false

/-- A depth, and marks: kind, depth. -/
structure St where
  d : Int
  m : List (Int × Int)
def st0 : St := ⟨0, []⟩
def St.base (s : St) : Int := match s.m.getLast? with | some k => k.2 | none => 0
/-- Of an instruction: are its operands right; what it takes, puts. -/
def effF (c : Cod) (n : Nat) (f : Bdy) (i : Ins) : Bool × Int × Int :=
  if i.op = 1 then (decide (i.a < (c.ints.length : Int)), 0, 1)
  else if i.op = 2 then (decide (i.a < (c.texts.length : Int)), 0, 1)
  else if i.op = 3 then (decide (i.a < f.locals), 0, 1)
  else if i.op = 4 then (decide (i.a < f.kept), 0, 1)
  else if i.op = 5 then (decide (0 < n), 0, 1)
  else if i.op = 6 then (decide (i.a < c.lets), 0, 1)
  else if i.op = 7 then (decide (i.a < f.locals), 1, 0)
  else if i.op = 8 then (decide (i.a < c.lets), 1, 0)
  else if i.op = 10 then (decide (i.a ≤ 199) && decide (1 ≤ i.b) && decide (i.b ≤ 4), i.b, 1)
  else if i.op = 11 then (decide (0 < i.a) && decide (i.a < (c.funs.length : Int)) && decide ((c.funs.getD i.a.toNat bdy0).kept = i.b), i.b, 1)
  else if i.op = 12 then (decide (i.a < 4), 1, 1)
  else if i.op = 19 then (decide (i.a < 7), 2, 1)
  else if i.op = 9 ∨ i.op = 15 ∨ i.op = 17 ∨ i.op = 18 ∨ i.op = 23 then (true, 1, 0)
  else if i.op = 13 ∨ i.op = 20 ∨ i.op = 33 then (true, 2, 1)
  else if i.op = 14 then (true, 2, 0)
  else if i.op = 24 ∨ i.op = 25 ∨ i.op = 31 ∨ i.op = 32 then (true, 1, 1)
  else (true, 0, 0)
/-- Where an instruction goes, and with which states; none: it is wrong. -/
def goF (op a b : Int) (k : Int) (s on : St) : Option (List (Int × St)) :=
  if op = 14 ∨ op = 15 then (if s.m.isEmpty = true then some [] else none)
  else if op = 23 ∨ op = 30 then some []
  else if op = 16 then some [(a, s)]
  else if op = 17 then some [(k + 1, on), (a, on)]
  else if op = 18 then some [(k + 1, on), (b, on)]
  else if op = 21 then some [(k + 1, ⟨s.d, s.m ++ [(21, s.d)]⟩), (a, ⟨s.d + 1, s.m⟩)]
  else if op = 28 then some [(k + 1, ⟨s.d, s.m ++ [(28, s.d)]⟩), (a, s)]
  else if op = 26 then (if s.m.any (fun x => x.1 == 26) = true then none else some [(k + 1, ⟨s.d, s.m ++ [(26, s.d)]⟩)])
  else if op = 22 ∨ op = 27 ∨ op = 29 then (match s.m.getLast? with | some x => if x.1 = op - 1 then some [(k + 1, ⟨s.d, s.m.dropLast⟩)] else none | none => none)
  else some [(k + 1, on)]
def nextI (c : Cod) (n : Nat) (f : Bdy) (i : Ins) (k : Int) (s : St) : Option (List (Int × St)) :=
  if (effF c n f i).1 = false then none
  else if s.d - (effF c n f i).2.1 < s.base then none
  else goF i.op i.a i.b k s ⟨s.d - (effF c n f i).2.1 + (effF c n f i).2.2, s.m⟩
def nextF (c : Cod) (n : Nat) (f : Bdy) (k : Int) (s : St) : Option (List (Int × St)) := nextI c n f (f.code.getD k.toNat ins0) k s
inductive Reach (c : Cod) (n : Nat) (f : Bdy) : Int → St → Prop where
  | start : Reach c n f 0 st0
  | go {a : Int} {s : St} {l : List (Int × St)} {b : Int} {t : St} : Reach c n f a s → 0 ≤ a → a < (f.code.length : Int) → nextF c n f a s = some l → (b, t) ∈ l → Reach c n f b t
/-- It holds together. -/
def Good (c : Cod) (n : Nat) (f : Bdy) : Prop :=
  ∀ a s, Reach c n f a s → 0 ≤ a ∧ a < (f.code.length : Int) ∧ s.d ≤ f.stack ∧ nextF c n f a s ≠ none ∧ ∀ s', Reach c n f a s' → s' = s
/-- It holds together, and its states are these. -/
structure Done (c : Cod) (n : Nat) (f : Bdy) (had : List (Option St)) : Prop where
  len : had.length = f.code.length
  good : Good c n f
  iff_ : ∀ (k : Nat) (s : St), had.getD k none = some s ↔ Reach c n f (k : Int) s
theorem getD_lt {α : Type} {l : List (Option α)} {k : Nat} {x : α} (h : l.getD k none = some x) : k < l.length := by
  rcases Nat.lt_or_ge k l.length with h1 | h1
  · exact h1
  · rw [List.getD_eq_getElem?_getD, List.getElem?_eq_none h1] at h; cases h
theorem Done.uniq {c : Cod} {n : Nat} {f : Bdy} {a b : List (Option St)} (h : Done c n f a) (k : Done c n f b) : a = b := by
  apply List.ext_getElem (by rw [h.len, k.len])
  intro i hi hj
  have e1 : a.getD i none = a[i] := by rw [List.getD_eq_getElem?_getD, List.getElem?_eq_getElem hi]; rfl
  have e2 : b.getD i none = b[i] := by rw [List.getD_eq_getElem?_getD, List.getElem?_eq_getElem hj]; rfl
  rw [← e1, ← e2]
  rcases h1 : a.getD i none with _ | s
  · rcases h2 : b.getD i none with _ | t
    · rfl
    · have := (h.iff_ i t).2 ((k.iff_ i t).1 h2); rw [h1] at this; cases this
  · exact ((k.iff_ i s).2 ((h.iff_ i s).1 h1)).symm
/-- What is closed holds together. -/
theorem done_of {c : Cod} {n : Nat} {f : Bdy} {had : List (Option St)} (hl : had.length = f.code.length) (h0 : had.getD 0 none = some st0)
    (hr : ∀ (k : Nat) s, had.getD k none = some s → Reach c n f (k : Int) s)
    (hc : ∀ (k : Nat) s, had.getD k none = some s → s.d ≤ f.stack ∧ ∃ l, nextF c n f (k : Int) s = some l ∧ ∀ p ∈ l, 0 ≤ p.1 ∧ had.getD p.1.toNat none = some p.2) : Done c n f had := by
  have key : ∀ a s, Reach c n f a s → 0 ≤ a ∧ had.getD a.toNat none = some s := by
    intro a s h
    induction h with
    | start => exact ⟨by omega, h0⟩
    | go h1 h2 h3 h4 h5 ih =>
      obtain ⟨_, l', e, hp⟩ := hc _ _ ih.2
      rw [Int.toNat_of_nonneg h2, h4] at e
      cases e
      exact hp _ h5
  refine ⟨hl, fun a s h => ?_, fun k s => ⟨hr k s, fun h => by have := (key _ _ h).2; simpa using this⟩⟩
  obtain ⟨h1, h2⟩ := key a s h
  have h3 := getD_lt h2
  obtain ⟨h4, l', e, _⟩ := hc _ _ h2
  rw [Int.toNat_of_nonneg h1] at e
  refine ⟨h1, by omega, h4, by rw [e]; simp, fun s' h' => ?_⟩
  have := (key a s' h').2
  rw [h2] at this; cases this; rfl
/-- What a walk's had and what stands before it are good for (the program). -/
structure Inv (c : Cod) (n : Nat) (f : Bdy) (had : List (Option St)) (l : List (Int × St)) : Prop where
  len : had.length = f.code.length
  root : (0, st0) ∈ l ∨ had.getD 0 none = some st0
  reach : ∀ (k : Nat) s, had.getD k none = some s → Reach c n f (k : Int) s
  pend : ∀ p ∈ l, Reach c n f p.1 p.2
  clos : ∀ (k : Nat) s, had.getD k none = some s → s.d ≤ f.stack ∧ ∃ l', nextF c n f (k : Int) s = some l' ∧ ∀ p ∈ l', p ∈ l ∨ (0 ≤ p.1 ∧ had.getD p.1.toNat none = some p.2)
theorem Inv.done {c : Cod} {n : Nat} {f : Bdy} {had : List (Option St)} (h : Inv c n f had []) : Done c n f had :=
  done_of h.len (h.root.resolve_left (by simp)) h.reach fun k s hk => by
    obtain ⟨h1, l', e, h2⟩ := h.clos k s hk
    exact ⟨h1, l', e, fun p hp => (h2 p hp).resolve_left (by simp)⟩
theorem inv_start (c : Cod) (n : Nat) (f : Bdy) : Inv c n f (List.replicate f.code.length none) [(0, st0)] := by
  have hz : ∀ k : Nat, (List.replicate f.code.length (none : Option St)).getD k none = none := fun k => by
    rw [List.getD_eq_getElem?_getD, List.getElem?_replicate]; split <;> rfl
  refine ⟨by simp, .inl (by simp), fun k s h => (by rw [hz] at h; cases h), fun p hp => ?_, fun k s h => (by rw [hz] at h; cases h)⟩
  simp at hp; subst hp; exact .start
theorem Inv.top {c : Cod} {n : Nat} {f : Bdy} {had : List (Option St)} {l : List (Int × St)} {a : Int} {s : St} (h : Inv c n f had (l ++ [(a, s)])) : Reach c n f a s := h.pend (a, s) (by simp)
theorem Inv.old {c : Cod} {n : Nat} {f : Bdy} {had : List (Option St)} {l : List (Int × St)} {a : Int} {s : St} (h : Inv c n f had (l ++ [(a, s)])) (ha : 0 ≤ a) (hs : had.getD a.toNat none = some s) : Inv c n f had l := by
  refine ⟨h.len, ?_, h.reach, fun p hp => h.pend p (by simp [hp]), fun k t hk => ?_⟩
  · rcases h.root with h1 | h1
    · simp only [List.mem_append, List.mem_singleton, Prod.mk.injEq] at h1
      rcases h1 with h1 | ⟨rfl, rfl⟩
      · exact .inl h1
      · exact .inr hs
    · exact .inr h1
  · obtain ⟨h1, l', e, h2⟩ := h.clos k t hk
    refine ⟨h1, l', e, fun p hp => ?_⟩
    rcases h2 p hp with h3 | h3
    · simp only [List.mem_append, List.mem_singleton] at h3
      rcases h3 with h3 | rfl
      · exact .inl h3
      · exact .inr ⟨ha, hs⟩
    · exact .inr h3
theorem getD_set {α : Type} {l : List (Option α)} {i k : Nat} {x : α} (hi : i < l.length) : (l.set i (some x)).getD k none = if k = i then some x else l.getD k none := by
  rw [List.getD_eq_getElem?_getD, List.getElem?_set]
  by_cases h : k = i
  · subst h; rw [if_pos rfl, if_pos hi, if_pos rfl]; rfl
  · rw [if_neg (Ne.symm h), if_neg h, List.getD_eq_getElem?_getD]
theorem Inv.new {c : Cod} {n : Nat} {f : Bdy} {had : List (Option St)} {l more : List (Int × St)} {a : Int} {s : St} (h : Inv c n f had (l ++ [(a, s)])) (ha : 0 ≤ a) (hn : had.getD a.toNat none = none) (hl : a < (f.code.length : Int)) (hd : s.d ≤ f.stack)
    (hm : nextF c n f a s = some more) : Inv c n f (had.set a.toNat (some s)) (l ++ more) := by
  have hi : a.toNat < had.length := by rw [h.len]; omega
  have hx := fun k => getD_set (k := k) (x := s) hi
  have hr := h.top
  refine ⟨by rw [List.length_set]; exact h.len, ?_, fun k t hk => ?_, fun p hp => ?_, fun k t hk => ?_⟩
  · rcases h.root with h1 | h1
    · simp only [List.mem_append, List.mem_singleton, Prod.mk.injEq] at h1
      rcases h1 with h1 | ⟨rfl, rfl⟩
      · exact .inl (by simp [h1])
      · exact .inr (by rw [hx]; simp)
    · exact .inr (by rw [hx]; split
                     · rename_i e; rw [← e, h1] at hn; cases hn
                     · exact h1)
  · rw [hx] at hk
    split at hk
    · rename_i e; cases hk; rw [e, Int.toNat_of_nonneg ha]; exact hr
    · exact h.reach k t hk
  · simp only [List.mem_append] at hp
    rcases hp with hp | hp
    · exact h.pend p (by simp [hp])
    · exact .go hr ha hl hm hp
  · rw [hx] at hk
    split at hk
    · rename_i e; cases hk
      refine ⟨hd, more, by rw [e, Int.toNat_of_nonneg ha]; exact hm, fun p hp => .inl (by simp [hp])⟩
    · obtain ⟨h1, l', e, h2⟩ := h.clos k t hk
      refine ⟨h1, l', e, fun p hp => ?_⟩
      rcases h2 p hp with h3 | ⟨h3, h4⟩
      · simp only [List.mem_append, List.mem_singleton] at h3
        rcases h3 with h3 | rfl
        · exact .inl (by simp [h3])
        · exact .inr ⟨ha, by rw [hx]; simp⟩
      · refine .inr ⟨h3, ?_⟩
        rw [hx]; split
        · rename_i e; rw [← e, h4] at hn; cases hn
        · exact h4
theorem bad_at {c : Cod} {n : Nat} {f : Bdy} {a : Int} {s : St} (h : Reach c n f a s) (hb : (f.code.length : Int) ≤ a ∨ f.stack < s.d) : ¬ Good c n f := fun g => by
  have := g a s h; omega
theorem bad_next {c : Cod} {n : Nat} {f : Bdy} {a : Int} {s : St} (h : Reach c n f a s) (hb : nextF c n f a s = none) : ¬ Good c n f := fun g => (g a s h).2.2.2.1 hb
theorem bad_two {c : Cod} {n : Nat} {f : Bdy} {a : Int} {s t : St} (h : Reach c n f a s) (k : Reach c n f a t) (hb : s ≠ t) : ¬ Good c n f := fun g => hb ((g a t k).2.2.2.2 s h)
end Go.Proofs.Ytjkbhdocpjekmaa
