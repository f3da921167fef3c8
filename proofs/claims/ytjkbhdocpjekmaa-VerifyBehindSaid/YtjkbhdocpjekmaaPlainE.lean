/- The plain mathematics of layer 14's laws: what changes nothing, and what is only more. -/
import Derived.Test.YtjkbhdocpjekmaaPlainC
namespace Go.Proofs.Ytjkbhdocpjekmaa
set_option linter.unusedVariables false

/-- Two codes and functions of which an instruction takes and puts the same. -/
structure Alike (c c' : Cod) (f f' : Bdy) : Prop where
  ints : c'.ints.length = c.ints.length
  texts : c'.texts.length = c.texts.length
  lets : c'.lets = c.lets
  funs : c'.funs.length = c.funs.length
  kept : ∀ j, (c'.funs.getD j bdy0).kept = (c.funs.getD j bdy0).kept
  fk : f'.kept = f.kept
  fl : f'.locals = f.locals
theorem Alike.eff {c c' : Cod} {f f' : Bdy} (h : Alike c c' f f') (n : Nat) (i : Ins) : effF c' n f' i = effF c n f i := by
  unfold effF
  rw [h.ints, h.texts, h.lets, h.funs, h.kept, h.fk, h.fl]
theorem Alike.next {c c' : Cod} {f f' : Bdy} (h : Alike c c' f f') (n : Nat) (i : Ins) (k : Int) (s : St) : nextI c' n f' i k s = nextI c n f i k s := by
  unfold nextI; rw [h.eff]
theorem Alike.symm {c c' : Cod} {f f' : Bdy} (h : Alike c c' f f') : Alike c' c f' f := ⟨h.ints.symm, h.texts.symm, h.lets.symm, h.funs.symm, fun j => (h.kept j).symm, h.fk.symm, h.fl.symm⟩
/-- Where the instructions are the same wherever one comes, one comes to the same. -/
theorem reach_of {c c' : Cod} {f f' : Bdy} {n : Nat} (h : Alike c c' f f') (hl : f'.code.length = f.code.length) (hs : ∀ a s, Reach c n f a s → f'.code.getD a.toNat ins0 = f.code.getD a.toNat ins0) : ∀ a s, Reach c' n f' a s → Reach c n f a s := by
  intro a s hr
  induction hr with
  | start => exact .start
  | go h1 h2 h3 h4 h5 ih =>
    refine .go ih h2 (by omega) ?_ h5
    unfold nextF at h4 ⊢
    rw [← hs _ _ ih, ← h.next]; exact h4
theorem reach_to {c c' : Cod} {f f' : Bdy} {n : Nat} (h : Alike c c' f f') (hl : f'.code.length = f.code.length) (hs : ∀ a s, Reach c n f a s → f'.code.getD a.toNat ins0 = f.code.getD a.toNat ins0) : ∀ a s, Reach c n f a s → Reach c' n f' a s := by
  intro a s hr
  induction hr with
  | start => exact .start
  | go h1 h2 h3 h4 h5 ih =>
    refine .go ih h2 (by omega) ?_ h5
    unfold nextF at h4 ⊢
    rw [hs _ _ h1, h.next]; exact h4
theorem good_to {c c' : Cod} {f f' : Bdy} {n : Nat} (h : Alike c c' f f') (hl : f'.code.length = f.code.length) (hs : ∀ a s, Reach c n f a s → f'.code.getD a.toNat ins0 = f.code.getD a.toNat ins0) (hst : f'.stack = f.stack) (hg : Good c n f) : Good c' n f' := fun a s hr => by
  have h0 := reach_of h hl hs a s hr
  obtain ⟨g1, g2, g3, g4, g5⟩ := hg a s h0
  refine ⟨g1, by omega, by omega, ?_, fun s' hr' => g5 s' (reach_of h hl hs a s' hr')⟩
  unfold nextF at g4 ⊢
  rw [hs _ _ h0, h.next]; exact g4
theorem done_to {c c' : Cod} {f f' : Bdy} {n : Nat} {had : List (Option St)} (h : Alike c c' f f') (hl : f'.code.length = f.code.length) (hs : ∀ a s, Reach c n f a s → f'.code.getD a.toNat ins0 = f.code.getD a.toNat ins0) (hst : f'.stack = f.stack) (hd : Done c n f had) : Done c' n f' had :=
  ⟨hd.len.trans hl.symm, good_to h hl hs hst hd.good, fun k s => (hd.iff_ k s).trans ⟨reach_to h hl hs _ _, reach_of h hl hs _ _⟩⟩
/-- Another stack. -/
def setStack (c : Cod) (st : Int) : Cod := ⟨c.funs.set 0 ⟨(c.funs.getD 0 bdy0).kept, (c.funs.getD 0 bdy0).locals, st, (c.funs.getD 0 bdy0).code⟩, c.ints, c.texts, c.lets⟩
theorem getDb {l : List Bdy} {i k : Nat} {x : Bdy} (hi : i < l.length) : (l.set i x).getD k bdy0 = if k = i then x else l.getD k bdy0 := by
  rw [List.getD_eq_getElem?_getD, List.getElem?_set]
  by_cases h : k = i
  · subst h; rw [if_pos rfl, if_pos hi, if_pos rfl]; rfl
  · rw [if_neg (Ne.symm h), if_neg h, List.getD_eq_getElem?_getD]
theorem stack_law {c : Cod} {st x : Int} {d now : List Int} (hd : DepIs c 0 d) (hn : DepIs (setStack c st) 0 now) (h1 : now ≠ []) (hx : x ∈ d) (h0 : 0 ≤ st) : x ≤ st := by
  rcases hd with ⟨_, rfl⟩ | ⟨_, _, rfl⟩ | ⟨hi, had, hdn, rfl⟩
  · simp at hx
  · simp at hx
  rcases hn with ⟨_, rfl⟩ | ⟨_, _, rfl⟩ | ⟨_, had2, hd2, rfl⟩
  · exact absurd rfl h1
  · exact absurd rfl h1
  have hlen : 0 < c.funs.length := by have := hi.2.2; omega
  have e0 : (setStack c st).funs.getD 0 bdy0 = ⟨(c.funs.getD 0 bdy0).kept, (c.funs.getD 0 bdy0).locals, st, (c.funs.getD 0 bdy0).code⟩ := by
    show (c.funs.set 0 _).getD 0 bdy0 = _; rw [getDb hlen, if_pos rfl]
  have hal : Alike c (setStack c st) (c.funs.getD 0 bdy0) ((setStack c st).funs.getD 0 bdy0) := by
    refine ⟨rfl, rfl, rfl, by show (c.funs.set 0 _).length = _; rw [List.length_set], fun j => ?_, by rw [e0], by rw [e0]⟩
    show ((c.funs.set 0 _).getD j bdy0).kept = _
    rw [getDb hlen]; split
    · rename_i e; rw [e]
    · rfl
  obtain ⟨o, ho, rfl⟩ := List.mem_map.1 hx
  rcases o with _ | s
  · show (-1 : Int) ≤ st; omega
  obtain ⟨k, hk, hks⟩ := List.getElem_of_mem ho
  have hr := (hdn.iff_ k s).1 (by rw [List.getD_eq_getElem?_getD, List.getElem?_eq_getElem hk, hks]; rfl)
  have hr2 := reach_to (n := 0) hal (by rw [e0]) (fun a s _ => by rw [e0]) _ _ hr
  have := (hd2.good _ _ hr2).2.2.1
  rw [show ((0 : Int)).toNat = 0 from rfl, e0] at this
  exact this
end Go.Proofs.Ytjkbhdocpjekmaa
