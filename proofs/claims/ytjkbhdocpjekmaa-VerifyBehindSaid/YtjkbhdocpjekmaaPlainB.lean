/- The plain mathematics of layer 14: the document's way: states handed on. -/
import Derived.Test.YtjkbhdocpjekmaaPlainA
namespace Go.Proofs.Ytjkbhdocpjekmaa
set_option linter.unusedVariables false

def EffB (e : Bool × Int × Int) : Prop := 0 ≤ e.2.1 ∧ e.2.1 ≤ 65535 ∧ 0 ≤ e.2.2 ∧ e.2.2 ≤ 1
theorem eff_bounds (c : Cod) (n : Nat) (f : Bdy) (i : Ins) (h0 : 0 ≤ i.b) (h1 : i.b ≤ 65535) : 0 ≤ (effF c n f i).2.1 ∧ (effF c n f i).2.1 ≤ 65535 ∧ 0 ≤ (effF c n f i).2.2 ∧ (effF c n f i).2.2 ≤ 1 := by
  have key : ∀ {q : Prop} [Decidable q] {a b : Bool × Int × Int}, EffB a → EffB b → EffB (if q then a else b) := fun ha hb => by
    split
    · exact ha
    · exact hb
  have lit : ∀ {o : Bool} {x y : Int}, 0 ≤ x → x ≤ 65535 → 0 ≤ y → y ≤ 1 → EffB (o, x, y) := fun h1 h2 h3 h4 => ⟨h1, h2, h3, h4⟩
  show EffB _
  unfold effF
  repeat (refine key (lit (by omega) (by omega) (by omega) (by omega)) ?_)
  exact lit (by omega) (by omega) (by omega) (by omega)
/-- States were handed on: what there was stays; all of these are there; nothing else. -/
structure Handed (all all' : List (Option St)) (l : List (Int × St)) : Prop where
  len : all'.length = all.length
  got : ∀ p ∈ l, 0 ≤ p.1 ∧ all'.getD p.1.toNat none = some p.2
  mono : ∀ (j : Nat) t, all.getD j none = some t → all'.getD j none = some t
  only : ∀ (j : Nat) t, all'.getD j none = some t → all.getD j none = some t ∨ ((j : Int), t) ∈ l
theorem Handed.refl (all : List (Option St)) : Handed all all [] := ⟨rfl, fun p h => by simp at h, fun _ _ h => h, fun _ _ h => .inl h⟩
theorem Handed.more {all all' : List (Option St)} {l : List (Int × St)} (h : Handed all all' l) {k : Nat} {s : St} (hk : k < all'.length) (hx : all'.getD k none = none ∨ all'.getD k none = some s) : Handed all (all'.set k (some s)) (l ++ [((k : Int), s)]) := by
  have hs := fun j => getD_set (k := j) (x := s) hk
  refine ⟨by rw [List.length_set]; exact h.len, fun p hp => ?_, fun j t hj => ?_, fun j t hj => ?_⟩
  · rw [hs]
    simp only [List.mem_append, List.mem_singleton] at hp
    rcases hp with hp | rfl
    · obtain ⟨h1, h2⟩ := h.got p hp
      refine ⟨h1, ?_⟩
      split
      · rename_i e
        rw [e] at h2
        rcases hx with hx | hx
        · rw [hx] at h2; cases h2
        · rw [hx] at h2; exact h2
      · exact h2
    · exact ⟨by show (0 : Int) ≤ (k : Int); omega, by simp⟩
  · rw [hs]
    have h2 := h.mono j t hj
    split
    · rename_i e
      rw [e] at h2
      rcases hx with hx | hx
      · rw [hx] at h2; cases h2
      · rw [hx] at h2; exact h2
    · exact h2
  · rw [hs] at hj
    split at hj
    · rename_i e; cases hj
      exact .inr (by rw [e]; simp)
    · rcases h.only j t hj with h1 | h1
      · exact .inl h1
      · exact .inr (by simp [h1])
theorem Handed.same {all all' : List (Option St)} {l m : List (Int × St)} (h : Handed all all' l) (hm : ∀ p, p ∈ m ↔ p ∈ l) : Handed all all' m :=
  ⟨h.len, fun p hp => h.got p ((hm p).1 hp), h.mono, fun j t hj => (h.only j t hj).imp id fun q => (hm _).2 q⟩
/-- A state that cannot be handed on: the function does not hold together. -/
theorem bad_hand {c : Cod} {n : Nat} {f : Bdy} {all all' : List (Option St)} {k : Nat} {s : St} {l pre : List (Int × St)} {x : Nat} {t : St} (hr : ∀ (j : Nat) t, all.getD j none = some t → Reach c n f (j : Int) t) (hk : all.getD k none = some s) (hl : all.length = f.code.length)
    (hn : nextF c n f (k : Int) s = some l) (hp : Handed all all' pre) (hs : ∀ p ∈ pre, p ∈ l) (hx : ((x : Int), t) ∈ l) (hf : all'.length ≤ x ∨ f.stack < t.d ∨ ∃ t', all'.getD x none = some t' ∧ t' ≠ t) : ¬ Good c n f := by
  have hk2 : k < f.code.length := by rw [← hl]; exact getD_lt hk
  have hgo : ∀ {b : Int} {u : St}, (b, u) ∈ l → Reach c n f b u := fun hb => .go (hr k s hk) (by omega) (by omega) hn hb
  rcases hf with h | h | ⟨t', h1, h2⟩
  · exact bad_at (hgo hx) (.inl (by rw [← hl, ← hp.len]; omega))
  · exact bad_at (hgo hx) (.inr h)
  · rcases hp.only x t' h1 with h3 | h3
    · exact bad_two (hr x t' h3) (hgo hx) h2
    · exact bad_two (hgo (hs _ h3)) (hgo hx) h2
/-- What the walk's states and its notes of what is done are good for (the document). -/
structure RInv (c : Cod) (n : Nat) (f : Bdy) (all : List (Option St)) (dn : List Bool) : Prop where
  len : all.length = f.code.length
  dlen : dn.length = f.code.length
  root : all.getD 0 none = some st0
  reach : ∀ (k : Nat) s, all.getD k none = some s → Reach c n f (k : Int) s
  clos : ∀ (k : Nat), dn.getD k false = true → ∃ s l, all.getD k none = some s ∧ s.d ≤ f.stack ∧ nextF c n f (k : Int) s = some l ∧ ∀ p ∈ l, 0 ≤ p.1 ∧ all.getD p.1.toNat none = some p.2
theorem getDb_set {l : List Bool} {i k : Nat} (hi : i < l.length) : (l.set i true).getD k false = if k = i then true else l.getD k false := by
  rw [List.getD_eq_getElem?_getD, List.getElem?_set]
  by_cases h : k = i
  · subst h; rw [if_pos rfl, if_pos hi, if_pos rfl]; rfl
  · rw [if_neg (Ne.symm h), if_neg h, List.getD_eq_getElem?_getD]
theorem RInv.start (c : Cod) (n : Nat) (f : Bdy) (h : 0 < f.code.length) : RInv c n f ((List.replicate f.code.length none).set 0 (some st0)) (List.replicate f.code.length false) := by
  have hz : ∀ k : Nat, (List.replicate f.code.length (none : Option St)).getD k none = none := fun k => by
    rw [List.getD_eq_getElem?_getD, List.getElem?_replicate]; split <;> rfl
  have hs := fun j => getD_set (l := List.replicate f.code.length (none : Option St)) (i := 0) (k := j) (x := st0) (by simpa using h)
  refine ⟨by simp, by simp, by rw [hs]; simp, fun k s hk => ?_, fun k hk => ?_⟩
  · rw [hs, hz] at hk
    split at hk
    · rename_i e; cases hk; subst e; exact .start
    · cases hk
  · rw [List.getD_eq_getElem?_getD, List.getElem?_replicate] at hk
    split at hk <;> cases hk
theorem RInv.step {c : Cod} {n : Nat} {f : Bdy} {all all' : List (Option St)} {dn : List Bool} {k : Nat} {s : St} {l : List (Int × St)} (h : RInv c n f all dn) (hk : all.getD k none = some s) (hd : s.d ≤ f.stack) (hn : nextF c n f (k : Int) s = some l) (hh : Handed all all' l) : RInv c n f all' (dn.set k true) := by
  have hk2 : k < f.code.length := by rw [← h.len]; exact getD_lt hk
  refine ⟨by rw [hh.len]; exact h.len, by rw [List.length_set]; exact h.dlen, hh.mono _ _ h.root, fun j t hj => ?_, fun j hj => ?_⟩
  · rcases hh.only j t hj with h1 | h1
    · exact h.reach j t h1
    · exact .go (h.reach k s hk) (by omega) (by omega) hn h1
  · rw [getDb_set (by rw [h.dlen]; exact hk2)] at hj
    split at hj
    · rename_i e; subst e
      exact ⟨s, l, hh.mono _ _ hk, hd, hn, hh.got⟩
    · obtain ⟨s', l', h1, h2, h3, h4⟩ := h.clos j hj
      exact ⟨s', l', hh.mono _ _ h1, h2, h3, fun p hp => ⟨(h4 p hp).1, hh.mono _ _ (h4 p hp).2⟩⟩
theorem RInv.done {c : Cod} {n : Nat} {f : Bdy} {all : List (Option St)} {dn : List Bool} (h : RInv c n f all dn) (hd : ∀ k, k < f.code.length → dn.getD k false = true ∨ all.getD k none = none) : Done c n f all :=
  done_of h.len h.root h.reach fun k s hk => by
    have hk2 : k < f.code.length := by rw [← h.len]; exact getD_lt hk
    rcases hd k hk2 with h1 | h1
    · obtain ⟨s', l, e, h2, h3, h4⟩ := h.clos k h1
      rw [hk] at e; cases e
      exact ⟨h2, l, h3, h4⟩
    · rw [h1] at hk; cases hk
/-- The sizes of states. -/
def StOK (M : Nat) (s : St) : Prop := 0 ≤ s.d ∧ s.d ≤ 1000 ∧ s.m.length ≤ M ∧ ∀ x ∈ s.m, 0 ≤ x.2 ∧ x.2 ≤ 1000
theorem StOK.base {M : Nat} {s : St} (h : StOK M s) : 0 ≤ s.base ∧ s.base ≤ 1000 := by
  unfold St.base
  rcases hl : s.m.getLast? with _ | x
  · exact ⟨by decide, by decide⟩
  · exact h.2.2.2 x (List.mem_of_getLast? hl)
theorem StOK.push {M : Nat} {d : Int} {m : List (Int × Int)} (h : StOK M ⟨d, m⟩) (k : Int) : StOK (M + 1) ⟨d, m ++ [(k, d)]⟩ :=
  ⟨h.1, h.2.1, by have := h.2.2.1; simp only [List.length_append, List.length_cons, List.length_nil] at this ⊢; omega, fun x hx => by
    simp only [List.mem_append, List.mem_singleton] at hx
    rcases hx with hx | rfl
    · exact h.2.2.2 x hx
    · exact ⟨h.1, h.2.1⟩⟩
theorem StOK.more {M N : Nat} {s : St} (h : StOK M s) (hn : M ≤ N) : StOK N s := ⟨h.1, h.2.1, by have := h.2.2.1; omega, h.2.2.2⟩
theorem StOK.deep {M : Nat} {s : St} (h : StOK M s) {d : Int} (h1 : 0 ≤ d) (h2 : d ≤ 1000) : StOK M ⟨d, s.m⟩ := ⟨h1, h2, h.2.2.1, h.2.2.2⟩
theorem StOK.pop {M : Nat} {s : St} (h : StOK M s) : StOK M ⟨s.d, s.m.dropLast⟩ :=
  ⟨h.1, h.2.1, by have := h.2.2.1; simp only [List.length_dropLast]; omega, fun x hx => h.2.2.2 x (List.dropLast_subset _ hx)⟩
theorem go_ok {op a b k : Int} {s on : St} {l : List (Int × St)} {N : Nat} (ha : 0 ≤ a) (hb : 0 ≤ b) (hk : 0 ≤ k + 1) (hon : StOK N on) (hs : StOK N s) (hpush : ∀ q, StOK N ⟨s.d, s.m ++ [(q, s.d)]⟩) (hpop : StOK N ⟨s.d, s.m.dropLast⟩) (hdeep : StOK N ⟨s.d + 1, s.m⟩) (h : goF op a b k s on = some l) :
    ∀ p ∈ l, 0 ≤ p.1 ∧ StOK N p.2 := by
  have one : ∀ {x : Int} {t : St}, 0 ≤ x → StOK N t → ∀ p ∈ [(x, t)], 0 ≤ p.1 ∧ StOK N p.2 := fun hx ht p hp => by
    simp only [List.mem_singleton] at hp; subst hp; exact ⟨hx, ht⟩
  have two : ∀ {x y : Int} {t u : St}, 0 ≤ x → StOK N t → 0 ≤ y → StOK N u → ∀ p ∈ [(x, t), (y, u)], 0 ≤ p.1 ∧ StOK N p.2 := fun hx ht hy hu p hp => by
    simp only [List.mem_cons, List.not_mem_nil, or_false] at hp
    rcases hp with rfl | rfl
    · exact ⟨hx, ht⟩
    · exact ⟨hy, hu⟩
  unfold goF at h
  by_cases h1 : op = 14 ∨ op = 15
  · rw [if_pos h1] at h
    by_cases h2 : s.m.isEmpty = true
    · rw [if_pos h2] at h; cases h; intro p hp; simp at hp
    · rw [if_neg h2] at h; cases h
  rw [if_neg h1] at h
  by_cases h1 : op = 23 ∨ op = 30
  · rw [if_pos h1] at h; cases h; intro p hp; simp at hp
  rw [if_neg h1] at h
  by_cases h1 : op = 16
  · rw [if_pos h1] at h; cases h; exact one ha hs
  rw [if_neg h1] at h
  by_cases h1 : op = 17
  · rw [if_pos h1] at h; cases h; exact two hk hon ha hon
  rw [if_neg h1] at h
  by_cases h1 : op = 18
  · rw [if_pos h1] at h; cases h; exact two hk hon hb hon
  rw [if_neg h1] at h
  by_cases h1 : op = 21
  · rw [if_pos h1] at h; cases h; exact two hk (hpush _) ha hdeep
  rw [if_neg h1] at h
  by_cases h1 : op = 28
  · rw [if_pos h1] at h; cases h; exact two hk (hpush _) ha hs
  rw [if_neg h1] at h
  by_cases h1 : op = 26
  · rw [if_pos h1] at h
    split at h
    · cases h
    · cases h; exact one hk (hpush _)
  rw [if_neg h1] at h
  by_cases h1 : op = 22 ∨ op = 27 ∨ op = 29
  · rw [if_pos h1] at h
    split at h
    · split at h
      · cases h; exact one hk hpop
      · cases h
    · cases h
  rw [if_neg h1] at h
  cases h; exact one hk hon
/-- Where an instruction goes its states are of like sizes. -/
theorem next_ok {c : Cod} {n : Nat} {f : Bdy} {k : Int} {s : St} {l : List (Int × St)} {M : Nat} (hk : 0 ≤ k) (hi : 0 ≤ (f.code.getD k.toNat ins0).a ∧ 0 ≤ (f.code.getD k.toNat ins0).b ∧ (f.code.getD k.toNat ins0).b ≤ 65535) (hs : StOK M s) (hd : s.d ≤ 60) (h : nextF c n f k s = some l) :
    ∀ p ∈ l, 0 ≤ p.1 ∧ StOK (M + 1) p.2 := by
  unfold nextF at h
  generalize f.code.getD k.toNat ins0 = i at *
  obtain ⟨e1, e2, e3, e4⟩ := eff_bounds c n f i hi.2.1 hi.2.2
  unfold nextI at h
  generalize effF c n f i = e at *
  have hb := hs.base
  by_cases h1 : e.1 = false
  · rw [if_pos h1] at h; cases h
  rw [if_neg h1] at h
  by_cases h2 : s.d - e.2.1 < s.base
  · rw [if_pos h2] at h; cases h
  rw [if_neg h2] at h
  have h0 := hs.1
  exact go_ok hi.1 hi.2.1 (by omega) ((hs.deep (by omega) (by omega)).more (by omega)) (hs.more (by omega)) (fun q => StOK.push (d := s.d) (m := s.m) hs q) (hs.pop.more (by omega)) ((hs.deep (by omega) (by omega)).more (by omega)) h
end Go.Proofs.Ytjkbhdocpjekmaa
