/- The plain mathematics of layer 14's laws: an instruction that nothing comes to; more behind what there is. -/
import Derived.Test.YtjkbhdocpjekmaaPlainE
namespace Go.Proofs.Ytjkbhdocpjekmaa
set_option linter.unusedVariables false

theorem ok_bdy {c : Cod} {n : Nat} (h : codOK c = true) (hn : n < c.funs.length) : bdyOK (c.funs.getD n bdy0) = true := by
  unfold codOK at h
  simp only [Bool.and_eq_true, List.all_eq_true] at h
  rw [List.getD_eq_getElem?_getD, List.getElem?_eq_getElem hn]
  exact h.1.1.2 _ (List.getElem_mem hn)
theorem ok_ins {f : Bdy} (h : bdyOK f = true) {k : Nat} (hk : k < f.code.length) : (f.code.getD k ins0).ok = true := by
  unfold bdyOK at h
  simp only [Bool.and_eq_true, List.all_eq_true] at h
  rw [List.getD_eq_getElem?_getD, List.getElem?_eq_getElem hk]
  exact h.2 _ (List.getElem_mem hk)
theorem ok_stack {f : Bdy} (h : bdyOK f = true) : f.stack ≤ 60 := by
  unfold bdyOK at h
  simp only [Bool.and_eq_true, inF_iff] at h
  exact h.1.1.2.2
/-- Where a function holds together no depth is below 0. -/
theorem reach_nat {c : Cod} {n : Nat} {f : Bdy} (hb : bdyOK f = true) (hg : Good c n f) : ∀ a s, Reach c n f a s → 0 ≤ a ∧ ∃ M, StOK M s := by
  intro a s h
  induction h with
  | start => exact ⟨by omega, 0, by decide, by decide, by decide, fun x hx => by simp [st0] at hx⟩
  | @go a s l b t h1 h2 h3 h4 h5 ih =>
    obtain ⟨M, hM⟩ := ih.2
    obtain ⟨k, rfl⟩ := Int.eq_ofNat_of_zero_le h2
    have hd := (hg _ _ h1).2.2.1
    have hst := ok_stack hb
    have hi := ok_ins hb (k := k) (by omega)
    have hi2 : 0 ≤ (f.code.getD ((k : Int)).toNat ins0).a ∧ 0 ≤ (f.code.getD ((k : Int)).toNat ins0).b ∧ (f.code.getD ((k : Int)).toNat ins0).b ≤ 65535 := by
      rw [show ((k : Int)).toNat = k from by simp]
      generalize f.code.getD k ins0 = i at *
      obtain ⟨op, a, b⟩ := i
      simp only [Ins.ok, insOK, decide_eq_true_eq] at hi
      exact ⟨hi.2.1, hi.2.2.2.1, hi.2.2.2.2.1⟩
    have := next_ok h2 hi2 hM (by omega) h4 _ h5
    exact ⟨this.1, M + 1, this.2⟩
/-- Another instruction k of function m. -/
def setIns (c : Cod) (m k : Nat) (i : Ins) : Cod := ⟨c.funs.set m ⟨(c.funs.getD m bdy0).kept, (c.funs.getD m bdy0).locals, (c.funs.getD m bdy0).stack, (c.funs.getD m bdy0).code.set k i⟩, c.ints, c.texts, c.lets⟩
theorem getI {l : List Ins} {i k : Nat} {x : Ins} (hk : k ≠ i) : (l.set i x).getD k ins0 = l.getD k ins0 := by
  rw [List.getD_eq_getElem?_getD, List.getElem?_set, if_neg (Ne.symm hk), List.getD_eq_getElem?_getD]
theorem setIns_fun {c : Cod} {m k : Nat} {i : Ins} (hm : m < c.funs.length) (j : Nat) : (setIns c m k i).funs.getD j bdy0 = if j = m then ⟨(c.funs.getD m bdy0).kept, (c.funs.getD m bdy0).locals, (c.funs.getD m bdy0).stack, (c.funs.getD m bdy0).code.set k i⟩ else c.funs.getD j bdy0 := getDb hm
theorem setIns_alike {c : Cod} {m k : Nat} {i : Ins} (hm : m < c.funs.length) (j : Nat) : Alike c (setIns c m k i) (c.funs.getD j bdy0) ((setIns c m k i).funs.getD j bdy0) := by
  have e := setIns_fun (k := k) (i := i) hm
  refine ⟨rfl, rfl, rfl, by show (c.funs.set m _).length = _; rw [List.length_set], fun q => ?_, ?_, ?_⟩
  all_goals
    rw [e]; split
    · rename_i h; rw [h]
    · rfl
theorem setIns_ok {c : Cod} {m k : Nat} {i : Ins} (h : codOK c = true) (hm : m < c.funs.length) (hi : i.ok = true) : codOK (setIns c m k i) = true := by
  have hb := ok_bdy h hm
  unfold codOK at h ⊢
  unfold setIns
  simp only [Bool.and_eq_true, List.all_eq_true, List.length_set] at h ⊢
  refine ⟨⟨⟨h.1.1.1, fun b hb2 => ?_⟩, h.1.2⟩, h.2⟩
  rcases List.mem_or_eq_of_mem_set hb2 with h1 | rfl
  · exact h.1.1.2 b h1
  · unfold bdyOK at hb ⊢
    simp only [Bool.and_eq_true, List.all_eq_true, List.length_set] at hb ⊢
    refine ⟨hb.1, fun x hx => ?_⟩
    rcases List.mem_or_eq_of_mem_set hx with h2 | rfl
    · exact hb.2 x h2
    · exact hi
/-- What is changed where nothing goes changes nothing. -/
theorem behind_law {c : Cod} {m k : Nat} {i : Ins} {d : List Int} {x : Int} (hd : DepIs c (m : Int) d) (hk : k < d.length) (hneg : d.getD k 0 < 0) (hi : i.ok = true) (hx : CodeIs c x) :
    m < c.funs.length ∧ k < (c.funs.getD m bdy0).code.length ∧ DepIs (setIns c m k i) (m : Int) d ∧ CodeIs (setIns c m k i) x := by
  rcases hd with ⟨_, rfl⟩ | ⟨_, _, rfl⟩ | ⟨hin, had, hdn, rfl⟩
  · simp at hk
  · simp at hk
  rw [Int.toNat_natCast] at hdn
  have hm : m < c.funs.length := by have := hin.2.2; omega
  have hlen : had.length = (c.funs.getD m bdy0).code.length := hdn.len
  have hkl : k < had.length := by simpa [depL] using hk
  have hno : had.getD k none = none := by
    rcases h : had.getD k none with _ | s
    · rfl
    · have hr := (hdn.iff_ k s).1 h
      obtain ⟨_, M, hM⟩ := reach_nat (ok_bdy hin.1 hm) hdn.good _ _ hr
      have e : (depL had).getD k 0 = s.d := by
        rw [List.getD_eq_getElem?_getD, List.getElem?_eq_getElem hkl] at h
        unfold depL
        rw [List.getD_eq_getElem?_getD, List.getElem?_map, List.getElem?_eq_getElem hkl]
        simp only [Option.getD_some] at h
        simp [h, depO]
      have := hM.1
      omega
  have hne : ∀ a s, Reach c m (c.funs.getD m bdy0) a s → a.toNat ≠ k := fun a s hr he => by
    have h0 := (hdn.good a s hr).1
    have := (hdn.iff_ k s).2 (by rw [← he, Int.toNat_of_nonneg h0]; exact hr)
    rw [hno] at this; cases this
  have ef := setIns_fun (k := k) (i := i) hm m
  rw [if_pos rfl] at ef
  have hl2 : ((setIns c m k i).funs.getD m bdy0).code.length = (c.funs.getD m bdy0).code.length := by rw [ef]; exact List.length_set
  have hs2 : ∀ a s, Reach c m (c.funs.getD m bdy0) a s → ((setIns c m k i).funs.getD m bdy0).code.getD a.toNat ins0 = (c.funs.getD m bdy0).code.getD a.toNat ins0 := fun a s hr => by
    rw [ef]; exact getI (hne a s hr)
  have hst2 : ((setIns c m k i).funs.getD m bdy0).stack = (c.funs.getD m bdy0).stack := by rw [ef]
  have hok := setIns_ok (k := k) hin.1 hm hi
  have hln : (setIns c m k i).funs.length = c.funs.length := by show (c.funs.set m _).length = _; rw [List.length_set]
  have other : ∀ n, n ≠ m → (setIns c m k i).funs.getD n bdy0 = c.funs.getD n bdy0 := fun n h => by rw [setIns_fun hm, if_neg h]
  refine ⟨hm, by omega, .inr (.inr ⟨⟨hok, hin.2.1, by rw [hln]; exact hin.2.2⟩, had, ?_, rfl⟩), ?_⟩
  · rw [Int.toNat_natCast]
    exact done_to (setIns_alike hm m) hl2 hs2 hst2 hdn
  · rcases hx with ⟨h1, _⟩ | ⟨h1, h2, rfl⟩ | ⟨h1, ⟨n, h2, h3⟩, rfl⟩
    · rw [hin.1] at h1; cases h1
    · refine .inr (.inl ⟨hok, fun n hn => ?_, rfl⟩)
      rw [hln] at hn
      by_cases hnm : n = m
      · subst hnm; exact good_to (setIns_alike hm _) hl2 hs2 hst2 hdn.good
      · have ha := setIns_alike (k := k) (i := i) hm n
        rw [other n hnm] at ha ⊢
        exact good_to ha rfl (fun _ _ _ => rfl) rfl (h2 n hn)
    · refine .inr (.inr ⟨hok, ⟨n, by rw [hln]; exact h2, fun hg => h3 ?_⟩, rfl⟩)
      have hnm : n ≠ m := fun h => by subst h; exact h3 hdn.good
      have ha := setIns_alike (k := k) (i := i) hm n
      rw [other n hnm] at ha hg
      exact good_to ha.symm rfl (fun _ _ _ => rfl) rfl hg
/-- More behind what there is. -/
def newF : Bdy := ⟨0, 1, 1, [⟨3, 0, 0⟩, ⟨15, 0, 0⟩]⟩
def more (c : Cod) (n : Int) (s : ByteArray) : Cod := ⟨c.funs ++ [newF], c.ints ++ [n], c.texts ++ [s], c.lets + 1⟩
theorem more_fun {c : Cod} {n : Int} {s : ByteArray} {j : Nat} (hj : j < c.funs.length) : (more c n s).funs.getD j bdy0 = c.funs.getD j bdy0 := by
  show (c.funs ++ [newF]).getD j bdy0 = _
  rw [List.getD_eq_getElem?_getD, List.getElem?_append_left hj, List.getD_eq_getElem?_getD]
theorem eff_more {c : Cod} {n : Int} {s : ByteArray} {m : Nat} {f : Bdy} {i : Ins} {t p : Int} (h : effF c m f i = (true, t, p)) : effF (more c n s) m f i = (true, t, p) := by
  obtain ⟨op, a, b⟩ := i
  unfold effF at h ⊢
  dsimp only at h ⊢
  have e1 : (more c n s).ints.length = c.ints.length + 1 := by simp [more]
  have e2 : (more c n s).texts.length = c.texts.length + 1 := by simp [more]
  have e3 : (more c n s).lets = c.lets + 1 := rfl
  have e4 : (more c n s).funs.length = c.funs.length + 1 := by simp [more]
  rw [e1, e2, e3, e4]
  by_cases h11 : op = 11
  · subst h11
    simp only [Prod.mk.injEq, Bool.and_eq_true, decide_eq_true_eq, reduceIte, Int.reduceEq] at h ⊢
    obtain ⟨⟨⟨h1, h2⟩, h3⟩, h4⟩ := h
    refine ⟨⟨⟨h1, by omega⟩, ?_⟩, h4⟩
    rw [more_fun (by omega)]; exact h3
  by_cases h1 : op = 1
  · subst h1; simp only [Prod.mk.injEq, decide_eq_true_eq, reduceIte] at h ⊢; exact ⟨by omega, h.2⟩
  by_cases h2 : op = 2
  · subst h2; simp only [Prod.mk.injEq, decide_eq_true_eq, reduceIte, Int.reduceEq] at h ⊢; exact ⟨by omega, h.2⟩
  by_cases h6 : op = 6
  · subst h6; simp only [Prod.mk.injEq, decide_eq_true_eq, reduceIte, Int.reduceEq] at h ⊢; exact ⟨by omega, h.2⟩
  by_cases h8 : op = 8
  · subst h8; simp only [Prod.mk.injEq, decide_eq_true_eq, reduceIte, Int.reduceEq] at h ⊢; exact ⟨by omega, h.2⟩
  simp only [h11, h1, h2, h6, h8, if_false] at h ⊢
  exact h
theorem next_more {c : Cod} {n : Int} {s : ByteArray} {m : Nat} {f : Bdy} {k : Int} {st : St} {l : List (Int × St)} (h : nextF c m f k st = some l) : nextF (more c n s) m f k st = some l := by
  unfold nextF nextI at h ⊢
  rcases he : effF c m f (f.code.getD k.toNat ins0) with ⟨ok, t, p⟩
  rw [he] at h
  cases ok with
  | false => simp at h
  | true => rw [eff_more he]; exact h
theorem reach_more {c : Cod} {n : Int} {s : ByteArray} {m : Nat} {f : Bdy} (hg : Good c m f) : ∀ a st, Reach (more c n s) m f a st → Reach c m f a st := by
  intro a st h
  induction h with
  | start => exact .start
  | @go a u l b t h1 h2 h3 h4 h5 ih =>
    rcases he : nextF c m f a u with _ | l0
    · exact absurd he (hg a u ih).2.2.2.1
    · have := next_more (n := n) (s := s) he
      rw [this] at h4; cases h4
      exact .go ih h2 h3 he h5
theorem good_more {c : Cod} {n : Int} {s : ByteArray} {m : Nat} {f : Bdy} (hg : Good c m f) : Good (more c n s) m f := fun a st hr => by
  have h0 := reach_more hg a st hr
  obtain ⟨g1, g2, g3, g4, g5⟩ := hg a st h0
  refine ⟨g1, g2, g3, ?_, fun s' hr' => g5 s' (reach_more hg a s' hr')⟩
  rcases he : nextF c m f a st with _ | l0
  · exact absurd he g4
  · rw [next_more he]; simp
theorem next_new (c : Cod) (m : Nat) : nextF c m newF 0 st0 = some [(1, ⟨1, []⟩)] ∧ nextF c m newF 1 ⟨1, []⟩ = some [] := ⟨rfl, rfl⟩
theorem done_new (c : Cod) (m : Nat) : Done c m newF [some st0, some ⟨1, []⟩] := by
  refine done_of rfl rfl (fun k s h => ?_) (fun k s h => ?_)
  · rcases k with _ | _ | k
    · cases h; exact .start
    · cases h; exact .go .start (by decide) (by decide) (next_new c m).1 (by simp)
    · cases h
  · rcases k with _ | _ | k
    · cases h; exact ⟨by decide, _, (next_new c m).1, fun p hp => by simp at hp; subst hp; exact ⟨by decide, rfl⟩⟩
    · cases h; exact ⟨by decide, _, (next_new c m).2, fun p hp => by simp at hp⟩
    · cases h
theorem more_law {c : Cod} {n : Int} {s : ByteArray} (h : CodeIs c 0) (h1 : intOK n = true) (h2 : txtOK s = true) (h3 : c.lets ≤ 50) (h4 : c.funs.length ≤ 100) (h5 : c.ints.length ≤ 100) (h6 : c.texts.length ≤ 100) : CodeIs (more c n s) 0 := by
  rcases h with ⟨_, h⟩ | ⟨hok, hg, _⟩ | ⟨_, _, h⟩
  · cases h
  · refine .inr (.inl ⟨?_, fun m hm => ?_, rfl⟩)
    · unfold codOK at hok ⊢
      simp only [Bool.and_eq_true, List.all_eq_true, inF_iff, decide_eq_true_eq] at hok
      obtain ⟨⟨⟨⟨⟨⟨a1, a2⟩, a3⟩, a4⟩, a5⟩, a6⟩, a7⟩ := hok
      simp only [more, Bool.and_eq_true, List.all_eq_true, inF_iff, decide_eq_true_eq, List.length_append, List.length_cons, List.length_nil, List.mem_append, List.mem_singleton]
      refine ⟨⟨⟨⟨⟨⟨by omega, by omega⟩, by omega⟩, by omega⟩, fun x hx => ?_⟩, fun x hx => ?_⟩, fun x hx => ?_⟩
      · rcases hx with hx | rfl
        · exact a5 x hx
        · decide
      · rcases hx with hx | rfl
        · exact a6 x hx
        · exact h1
      · rcases hx with hx | rfl
        · exact a7 x hx
        · exact h2
    · have hl : (more c n s).funs.length = c.funs.length + 1 := by simp [more]
      rcases Nat.lt_or_ge m c.funs.length with h | h
      · rw [more_fun h]; exact good_more (hg m h)
      · have e : (more c n s).funs.getD m bdy0 = newF := by
          show (c.funs ++ [newF]).getD m bdy0 = _
          rw [List.getD_eq_getElem?_getD, List.getElem?_append_right h, show m - c.funs.length = 0 from by omega]; rfl
        rw [e]; exact (done_new _ _).good
  · cases h
end Go.Proofs.Ytjkbhdocpjekmaa
