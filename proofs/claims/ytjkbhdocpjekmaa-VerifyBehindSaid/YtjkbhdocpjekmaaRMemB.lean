/- The walks of layer 14's document: what an instruction leaves: words. -/
import Derived.Test.YtjkbhdocpjekmaaRWalkC
import Derived.Test.YtjkbhdocpjekmaaRWalkD
import Derived.Test.YtjkbhdocpjekmaaPlainB
namespace Go.Proofs.Ytjkbhdocpjekmaa
open Go.RowKit
set_option linter.unusedVariables false
attribute [local go_sem ↓] Go.wp_at_zero Go.wp_at_succ

/-- What going through an instruction comes to. -/
def StepPost (w : World) (c : Cod) (n : Nat) (f : Bdy) (k H : Nat) (all : List (Option St)) (s : St) (e : Ending) (w' : World) : Prop :=
  But H w.heap.size w w' ∧
  ((e = .returned (.bool true) ∧ ∃ all' l, AllAt w' H all' ∧ s.d ≤ f.stack ∧ nextF c n f (k : Int) s = some l ∧ Handed all all' l) ∨
   (e = .returned (.bool false) ∧ ((∀ (j : Nat) t, all.getD j none = some t → Reach c n f (j : Int) t) → ¬ Good c n f)))
theorem CodAt.but {w w' : World} {B H : Nat} {v : Value} {c : Cod} (h : CodAt w B v c) (hb : But H B w w') (hB : B ≤ H) : CodAt w' B v c := h.below (hb.below (Nat.le_refl _) hB)
theorem step_no {w w' : World} {c : Cod} {n : Nat} {f : Bdy} {k H : Nat} {all : List (Option St)} {s : St} (hb : But H w.heap.size w w') (h : (∀ (j : Nat) t, all.getD j none = some t → Reach c n f (j : Int) t) → ¬ Good c n f) :
    StepPost w c n f k H all s (.returned (.bool false)) w' := ⟨hb, .inr ⟨rfl, h⟩⟩
theorem next_bad {c : Cod} {n : Nat} {f : Bdy} {k : Nat} {all : List (Option St)} {s : St} (hk : all.getD k none = some s) (h : nextF c n f (k : Int) s = none) : (∀ (j : Nat) t, all.getD j none = some t → Reach c n f (j : Int) t) → ¬ Good c n f := fun hr => bad_next (hr k s hk) h
theorem deep_bad {c : Cod} {n : Nat} {f : Bdy} {k : Nat} {all : List (Option St)} {s : St} (hk : all.getD k none = some s) (h : f.stack < s.d) : (∀ (j : Nat) t, all.getD j none = some t → Reach c n f (j : Int) t) → ¬ Good c n f := fun hr => bad_at (hr k s hk) (.inr h)
theorem next_no1 {c : Cod} {n : Nat} {f : Bdy} {k : Nat} {s : St} {i : Ins} {tk pt : Int} (hi : f.code.getD k ins0 = i) (he : effF c n f i = (false, tk, pt)) : nextF c n f (k : Int) s = none := by
  unfold nextF; rw [show ((k : Int)).toNat = k from by simp, hi]; unfold nextI; rw [he]; rfl
theorem next_no2 {c : Cod} {n : Nat} {f : Bdy} {k : Nat} {s : St} {i : Ins} {ok : Bool} {tk pt : Int} (hi : f.code.getD k ins0 = i) (he : effF c n f i = (ok, tk, pt)) (h : s.d - tk < s.base) : nextF c n f (k : Int) s = none := by
  unfold nextF; rw [show ((k : Int)).toNat = k from by simp, hi]; unfold nextI; rw [he]; dsimp only
  rw [if_pos h]
  split <;> rfl
theorem next_yes {c : Cod} {n : Nat} {f : Bdy} {k : Nat} {s : St} {i : Ins} {tk pt : Int} (hi : f.code.getD k ins0 = i) (he : effF c n f i = (true, tk, pt)) (h : ¬ s.d - tk < s.base) : nextF c n f (k : Int) s = goF i.op i.a i.b (k : Int) s ⟨s.d - tk + pt, s.m⟩ := by
  unfold nextF; rw [show ((k : Int)).toNat = k from by simp, hi]; unfold nextI; rw [he]; dsimp only
  rw [if_neg (by simp), if_neg h]
theorem Mks.butAll {w w' : World} {H : Nat} {all : List (Option St)} {A : Option Addr} {n : Nat} {ms : List (Int × Int)} (h : Mks 97 w A n ms) (hb : But H w.heap.size w w') (hall : AllAt w H all) : Mks 97 w' A n ms := by
  obtain ⟨cs, hw, _⟩ := hall
  exact h.but hb hw (by decide)
/-- What is left to be done: a state (at T) goes to one instruction more, or to none; then to the next one. -/
def PlanAt (w : World) (c : Cod) (n : Nat) (f : Bdy) (k H T : Nat) (all : List (Option St)) (s : St) (v17 v18 : Value) (wx : World) : Prop :=
  ∃ (all1 : List (Option St)) (pre : List (Int × St)) (t : St) (A : Option Addr) (m cc : Nat) (al : Option Nat) (tn : Nat) (l : List (Int × St)),
    v17 = .int .i64 (match al with | none => -1 | some x => (x : Int)) ∧ v18 = .int .i64 (tn : Int) ∧ AllAt wx H all1 ∧ Handed all all1 pre ∧ Whole wx T 59 #[.bool false, .int .i64 t.d, .slice A m cc] ∧ Mks 97 wx A m t.m ∧ (A = none → cc = 0) ∧ m ≤ 200000 ∧
    nextF c n f (k : Int) s = some l ∧ (∀ p, p ∈ l ↔ p ∈ pre ∨ (∃ x, al = some x ∧ p = ((x : Int), t)) ∨ p = ((tn : Int), t)) ∧ But H w.heap.size w wx ∧ (∀ (j : Nat) t, all1.getD j none = some t → t.m.length ≤ 200000)
theorem plan_end {w w' wx : World} {c : Cod} {n : Nat} {f : Bdy} {k H : Nat} {all all1 : List (Option St)} {pre l : List (Int × St)} {s t : St} {tn : Nat} {e : Ending} (hk : all.getD k none = some s) (hl : all.length = f.code.length) (hd : ¬ f.stack < s.d) (hn : nextF c n f (k : Int) s = some l) (hpre : Handed all all1 pre)
    (hm : ∀ p, p ∈ l ↔ p ∈ pre ∨ p = ((tn : Int), t)) (hb : But H w.heap.size w wx) (hs : w.heap.size ≤ wx.heap.size) (h : HandPost wx H all1 tn t f.stack e w') : StepPost w c n f k H all s e w' := by
  refine ⟨hb.trans (h.1.mono hs), ?_⟩
  rcases h.2 with ⟨rfl, h1, h2, h3, h4, _⟩ | ⟨rfl, h1⟩
  · refine .inl ⟨rfl, _, l, h4, by omega, hn, (hpre.more h1 h3).same fun p => ?_⟩
    rw [hm]; simp
  · exact .inr ⟨rfl, fun hr => bad_hand hr hk hl hn hpre (fun p hp => (hm p).2 (.inl hp)) ((hm _).2 (.inr rfl)) h1⟩
theorem plan_bad {w w' wx : World} {c : Cod} {n : Nat} {f : Bdy} {k H : Nat} {all all1 : List (Option St)} {pre l : List (Int × St)} {s t : St} {x : Nat} (hk : all.getD k none = some s) (hl : all.length = f.code.length) (hn : nextF c n f (k : Int) s = some l) (hpre : Handed all all1 pre)
    (hp : ∀ p ∈ pre, p ∈ l) (hx : ((x : Int), t) ∈ l) (hb : But H w.heap.size w wx) (hs : w.heap.size ≤ wx.heap.size) (hw : But H wx.heap.size wx w') (h : all1.length ≤ x ∨ f.stack < t.d ∨ ∃ t', all1.getD x none = some t' ∧ t' ≠ t) : StepPost w c n f k H all s (.returned (.bool false)) w' :=
  step_no (hb.trans (hw.mono hs)) (fun hr => bad_hand hr hk hl hn hpre hp hx h)
theorem plan_on {w w6 : World} {c : Cod} {n : Nat} {f : Bdy} {k H T : Nat} {all all1 : List (Option St)} {pre : List (Int × St)} {s : St} {v17 v18 : Value} {td : Int} {tm : List (Int × Int)} {A : Option Addr} {m cc base : Nat} {l : List (Int × St)} (al : Option Nat) (tn : Nat) (h17 : v17 = .int .i64 (match al with | none => -1 | some x => (x : Int))) (h18 : v18 = .int .i64 (tn : Int))
    (hall : AllAt w6 H all1) (hpre : Handed all all1 pre) (ht : Whole w6 T 59 #[.bool false, .int .i64 td, .slice A m cc]) (ho : w6.ownsRow base 97 2 (.slice A m cc) m (mkCells tm)) (hl : tm.length = m) (hm : m ≤ 200000) (hn : nextF c n f (k : Int) s = some l)
    (hmem : ∀ p, p ∈ l ↔ p ∈ pre ∨ (∃ x, al = some x ∧ p = ((x : Int), (⟨td, tm⟩ : St))) ∨ p = ((tn : Int), ⟨td, tm⟩)) (hb : But H w.heap.size w w6) (hlen : ∀ (j : Nat) t, all1.getD j none = some t → t.m.length ≤ 200000) : PlanAt w c n f k H T all s v17 v18 w6 := by
  obtain ⟨A', c', e, hM⟩ := Mks.of_own ho hl
  simp only [Value.slice.injEq, true_and] at e
  obtain ⟨rfl, rfl⟩ := e
  exact ⟨all1, pre, ⟨td, tm⟩, A, m, cc, al, tn, l, h17, h18, hall, hpre, ht, hM, own_nil ho, hm, hn, hmem, hb, hlen⟩
theorem step_stop {w w6 : World} {c : Cod} {n : Nat} {f : Bdy} {k H : Nat} {all : List (Option St)} {s : St} (hall : AllAt w6 H all) (hd : ¬ f.stack < s.d) (hn : nextF c n f (k : Int) s = some []) (hb : Below w.heap.size w w6) : StepPost w c n f k H all s (.returned (.bool true)) w6 :=
  ⟨.of_below hb, .inl ⟨rfl, all, [], hall, by omega, hn, .refl all⟩⟩
theorem go_end {op a b k : Int} {s on : St} (h : op = 14 ∨ op = 15) (hm : s.m = []) : goF op a b k s on = some [] := by unfold goF; rw [if_pos h, hm]; rfl
theorem go_endno {op a b k : Int} {s on : St} (h : op = 14 ∨ op = 15) (hm : s.m ≠ []) : goF op a b k s on = none := by
  unfold goF; rw [if_pos h, if_neg (by simpa using hm)]
theorem go_nowhere {op a b k : Int} {s on : St} (h : op = 23 ∨ op = 30) : goF op a b k s on = some [] := by unfold goF; rw [if_neg (by omega), if_pos h]
theorem go_jump {a b k : Int} {s on : St} : goF 16 a b k s on = some [(a, s)] := by unfold goF; simp
theorem go_false {a b k : Int} {s on : St} : goF 17 a b k s on = some [(k + 1, on), (a, on)] := by unfold goF; simp
theorem go_case {a b k : Int} {s on : St} : goF 18 a b k s on = some [(k + 1, on), (b, on)] := by unfold goF; simp
theorem go_try {a b k : Int} {s on : St} : goF 21 a b k s on = some [(k + 1, ⟨s.d, s.m ++ [(21, s.d)]⟩), (a, ⟨s.d + 1, s.m⟩)] := by unfold goF; simp
theorem go_else {a b k : Int} {s on : St} : goF 28 a b k s on = some [(k + 1, ⟨s.d, s.m ++ [(28, s.d)]⟩), (a, s)] := by unfold goF; simp
theorem go_begin {a b k : Int} {s on : St} (h : s.m.any (fun x => x.1 == 26) = false) : goF 26 a b k s on = some [(k + 1, ⟨s.d, s.m ++ [(26, s.d)]⟩)] := by unfold goF; simp [h]
theorem go_beginno {a b k : Int} {s on : St} (h : s.m.any (fun x => x.1 == 26) = true) : goF 26 a b k s on = none := by unfold goF; simp [h]
theorem go_pop {op a b k : Int} {s on : St} {x : Int × Int} (h : op = 22 ∨ op = 27 ∨ op = 29) (hl : s.m.getLast? = some x) (hx : x.1 = op - 1) : goF op a b k s on = some [(k + 1, ⟨s.d, s.m.dropLast⟩)] := by
  unfold goF; rw [if_neg (by omega), if_neg (by omega), if_neg (by omega), if_neg (by omega), if_neg (by omega), if_neg (by omega), if_neg (by omega), if_neg (by omega), if_pos h, hl]; dsimp only; rw [if_pos hx]
theorem go_popno {op a b k : Int} {s on : St} (h : op = 22 ∨ op = 27 ∨ op = 29) (hl : ∀ x, s.m.getLast? = some x → x.1 ≠ op - 1) : goF op a b k s on = none := by
  unfold goF; rw [if_neg (by omega), if_neg (by omega), if_neg (by omega), if_neg (by omega), if_neg (by omega), if_neg (by omega), if_neg (by omega), if_neg (by omega), if_pos h]
  split
  · rename_i x hx; rw [if_neg (hl x hx)]
  · rfl
theorem go_else_ {op a b k : Int} {s on : St} (h : ¬ (op = 14 ∨ op = 15) ∧ ¬ (op = 23 ∨ op = 30) ∧ op ≠ 16 ∧ op ≠ 17 ∧ op ≠ 18 ∧ op ≠ 21 ∧ op ≠ 28 ∧ op ≠ 26 ∧ ¬ (op = 22 ∨ op = 27 ∨ op = 29)) : goF op a b k s on = some [(k + 1, on)] := by
  obtain ⟨h1, h2, h3, h4, h5, h6, h7, h8, h9⟩ := h
  unfold goF; rw [if_neg h1, if_neg h2, if_neg h3, if_neg h4, if_neg h5, if_neg h6, if_neg h7, if_neg h8, if_neg h9]
theorem eff_still {op : Int} (c : Cod) (n : Nat) (f : Bdy) (a b : Int) (h : op = 16 ∨ op = 21 ∨ op = 22 ∨ op = 26 ∨ op = 27 ∨ op = 28 ∨ op = 29 ∨ op = 30) : effF c n f ⟨op, a, b⟩ = (true, 0, 0) := by
  rcases h with rfl | rfl | rfl | rfl | rfl | rfl | rfl | rfl <;> (unfold effF; simp)
/-- A state of the call's own at T, its marks owned. -/
def OwnedT (w5 : World) (sd tk pt : Int) (m : Nat) (sm : List (Int × Int)) (v : Value) (wx : World) : Prop :=
  ∃ T A c, v = .pointer (some ⟨T, 0, none⟩) ∧ w5.heap.size ≤ T ∧ Below w5.heap.size w5 wx ∧ Whole wx T 59 #[.bool false, .int .i64 (sd - tk + pt), .slice A m c] ∧ wx.ownsRow w5.heap.size 97 2 (.slice A m c) m (mkCells sm)
theorem ownedT_old {w5 w6 : World} {sd tk pt : Int} {m : Nat} {sm : List (Int × Int)} {A : Option Addr} {c : Nat} (ho : w6.ownsRow w5.heap.size 97 2 (.slice A m c) m (mkCells sm)) (hb : Below w5.heap.size w5 w6) (ht : Whole w6 w5.heap.size 59 #[.bool false, .int .i64 0, .slice none 0 0]) :
    OwnedT w5 sd tk pt m sm (.pointer (some ⟨w5.heap.size, 0, none⟩)) (((w6.setCell ⟨w5.heap.size, 0, none⟩ (.bool false)).setCell ⟨w5.heap.size, 1, none⟩ (.int .i64 (sd - tk + pt))).setCell ⟨w5.heap.size, 2, none⟩ (.slice A m c)) := by
  have hne : ∀ o, (Value.slice A m c).ownBlock ≠ some (⟨w5.heap.size, o, none⟩ : Addr).block := fun o => own_whole_ne ho ht (by decide)
  exact ⟨_, A, c, rfl, Nat.le_refl _, ((hb.setCell (Nat.le_refl _) _).setCell (Nat.le_refl _) _).setCell (Nat.le_refl _) _, ((ht.put 0 _).put 1 _).put 2 _, own_setCell (own_setCell (own_setCell ho (hne 0) _) (hne 1) _) (hne 2) _⟩
theorem ownedT_new {w5 w6 : World} {sd tk pt : Int} {m : Nat} {sm : List (Int × Int)} {A : Option Addr} {c : Nat} (ho : w6.ownsRow w5.heap.size 97 2 (.slice A m c) m (mkCells sm)) (hb : Below w5.heap.size w5 w6) :
    OwnedT w5 sd tk pt m sm (.pointer (some ⟨w6.heap.size, 0, none⟩)) (w6.alloc (.cells #[.bool false, .int .i64 (sd - tk + pt), .slice A m c] 59)) :=
  ⟨_, A, c, rfl, hb.size, hb.alloc hb.size _, Whole.made _ _ _, ho.alloc _⟩
theorem any26 {sm : List (Int × Int)} {j : Nat} (hj : j < sm.length) (h : ((sm.getD j mk0).1 == 26) = true) : sm.any (fun x => x.1 == 26) = true := by
  rw [List.any_eq_true]
  refine ⟨_, List.getElem_mem hj, ?_⟩
  rw [List.getD_eq_getElem?_getD, List.getElem?_eq_getElem hj, Option.getD_some] at h
  exact h
theorem none26 {sm : List (Int × Int)} (h : ∀ j, j < sm.length → ((sm.getD j mk0).1 == 26) = false) : sm.any (fun x => x.1 == 26) = false := by
  rw [List.any_eq_false]; intro x hx
  obtain ⟨j, hj, e⟩ := List.getElem_of_mem hx
  have h1 := h j hj
  rw [List.getD_eq_getElem?_getD, List.getElem?_eq_getElem hj, Option.getD_some, e] at h1
  simpa using h1
theorem AllAt.farT {w : World} {H T : Nat} {all : List (Option St)} {ds : Array Value} (h : AllAt w H all) (hT : Whole w T 59 ds) (hne : T ≠ H) (o : Nat) (u : Value) : AllAt (w.setCell ⟨T, o, none⟩ u) H all := by
  obtain ⟨cs, hw, hs, hc⟩ := h
  refine ⟨cs, hw.far (p := ⟨T, o, none⟩) (Ne.symm hne) u, hs, fun k hk => ?_⟩
  obtain ⟨h1, h2, A, n, c, h3, h4, h5⟩ := hc k hk
  exact ⟨h1, h2, A, n, c, h3, h4.far (p := ⟨T, o, none⟩) hT (by decide) u, h5⟩
/-- Behind a mark that was laid behind those of T. -/
theorem mark_end {w w7 w8 : World} {H T V base B m c cap g' : Nat} {A : Option Addr} {k sd td : Int} {sm : List (Int × Int)} {all1 : List (Option St)} {vcs : Array Value} (hall : AllAt w7 H all1) (haw : ∀ X, (Value.slice A m c).ownBlock = some X → Away w7 H X all1.length)
    (ho : w7.ownsRow base 97 2 (.slice A m c) m (mkCells sm)) (hT : Whole w7 T 59 #[.bool false, .int .i64 td, .slice A m c]) (hTH : T ≠ H) (hV : Whole w7 V 40 vcs)
    (hap : Appended (w7.alloc (.cells #[.int .i64 k, .int .i64 sd] 97)) base 97 2 (.slice A m c) (m + 1) (mkCells sm ++ [.int .i64 k, .int .i64 sd]) (.slice (some ⟨g', 0, none⟩) (m + 1) cap) w8) (hb : But H B w w7) (hB : B ≤ base) (hB2 : base ≤ w7.heap.size) (hBT : B ≤ T) :
    AllAt (w8.setCell ⟨T, 2, none⟩ (.slice (some ⟨g', 0, none⟩) (m + 1) cap)) H all1 ∧ Whole (w8.setCell ⟨T, 2, none⟩ (.slice (some ⟨g', 0, none⟩) (m + 1) cap)) T 59 #[.bool false, .int .i64 td, .slice (some ⟨g', 0, none⟩) (m + 1) cap] ∧
    (w8.setCell ⟨T, 2, none⟩ (.slice (some ⟨g', 0, none⟩) (m + 1) cap)).ownsRow base 97 2 (.slice (some ⟨g', 0, none⟩) (m + 1) cap) (m + 1) (mkCells (sm ++ [(k, sd)])) ∧
    Whole (w8.setCell ⟨T, 2, none⟩ (.slice (some ⟨g', 0, none⟩) (m + 1) cap)) V 40 vcs ∧ But H B w (w8.setCell ⟨T, 2, none⟩ (.slice (some ⟨g', 0, none⟩) (m + 1) cap)) := by
  have hoa := ho.alloc (.cells #[.int .i64 k, .int .i64 sd] 97)
  have hT8 := hap.stays hoa (hT.alloc _) (by decide)
  have hV8 := hap.stays hoa (hV.alloc _) (by decide)
  have hA8 : AllAt w8 H all1 := by
    have hg := hap.2.1
    rcases hq : (Value.slice A m c).ownBlock with _ | X
    · rw [hq] at hg
      exact (hall.alloc _).over fun g hg2 => hg.block g hg2 (by simp)
    · rw [hq] at hg
      have hHX : H ≠ X := fun hh => by
        obtain ⟨cs, hw, _⟩ := hall
        exact own_whole_ne ho hw (by decide) (by rw [hq, hh])
      refine (hall.alloc _).app ((haw X hq).same fun o => ((Below.refl _ _).alloc (Nat.le_refl _) _).cell (p := ⟨H, o, none⟩) hall.lt) hHX fun g hg2 hne => hg.block g hg2 (fun e => hne (by cases e; rfl))
  have hown := hap.own
  rw [← mkCells_snoc] at hown
  have hne : ∀ o, (Value.slice (some ⟨g', 0, none⟩) (m + 1) cap).ownBlock ≠ some (⟨T, o, none⟩ : Addr).block := fun o => own_whole_ne hown hT8 (by decide)
  refine ⟨hA8.farT hT8 hTH _ _, hT8.put 2 _, own_setCell hown (hne 2) _, hV8.far (p := ⟨T, 2, none⟩) (whole_ne hV8 hT8 (by decide)) _, ?_⟩
  have h8 : But H B w w8 := (hb.alloc (by have := hb.size; omega) (.cells #[.int .i64 k, .int .i64 sd] 97)).trans (.of_below (hap.below hoa (Below.refl _ _) hB (by simp; omega)))
  exact h8.setCell (by show B ≤ T; omega) _
theorem own_pop {w : World} {base m c : Nat} {e : TypeId} {A : Option Addr} {sm : List (Int × Int)} (h : w.ownsRow base e 2 (.slice A (m + 1) c) (m + 1) (mkCells sm)) (hl : sm.length = m + 1) : w.ownsRow base e 2 (.slice A m c) m (mkCells sm.dropLast) := by
  rcases h.2 with ⟨h1, h2⟩ | ⟨g, cap, cur, h1, h2, h3, h4, h5, h6, h7⟩
  · omega
  · cases h1
    refine ⟨by rw [mkCells_len, List.length_dropLast, hl]; rfl, .inr ⟨g, c, cur, rfl, h2, h3, by omega, h5, h6, ?_⟩⟩
    have e1 : sm = sm.dropLast ++ [sm.getD m mk0] := by
      have hne : sm ≠ [] := fun hh => by rw [hh] at hl; cases hl
      have e2 := List.dropLast_concat_getLast hne
      rw [List.getLast_eq_getElem] at e2
      rw [List.getD_eq_getElem?_getD, List.getElem?_eq_getElem (by omega)]
      simpa [hl] using e2.symm
    have e3 : mkCells sm = mkCells sm.dropLast ++ [.int .i64 (sm.getD m mk0).1, .int .i64 (sm.getD m mk0).2] := by
      conv => lhs; rw [e1]
      exact mkCells_snoc _ _ _
    have e4 : (mkCells sm.dropLast).length = m * 2 := by rw [mkCells_len, List.length_dropLast, hl]; rfl
    have e5 : cur.toList.take (m * 2) = (cur.toList.take ((m + 1) * 2)).take (m * 2) := by rw [List.take_take]; congr 1; omega
    rw [e5, h7, e3, List.take_append_of_le_length (by omega), ← e4, List.take_length]
theorem pop_end {w w6 : World} {H T V base B m c : Nat} {A : Option Addr} {td : Int} {sm : List (Int × Int)} {all1 : List (Option St)} {vcs : Array Value} (hall : AllAt w6 H all1) (ho : w6.ownsRow base 97 2 (.slice A (m + 1) c) (m + 1) (mkCells sm)) (hT : Whole w6 T 59 #[.bool false, .int .i64 td, .slice A (m + 1) c])
    (hTH : T ≠ H) (hV : Whole w6 V 40 vcs) (hb : But H B w w6) (hBT : B ≤ T) :
    AllAt (w6.setCell ⟨T, 2, none⟩ (.slice A m c)) H all1 ∧ Whole (w6.setCell ⟨T, 2, none⟩ (.slice A m c)) T 59 #[.bool false, .int .i64 td, .slice A m c] ∧ (w6.setCell ⟨T, 2, none⟩ (.slice A m c)).ownsRow base 97 2 (.slice A m c) m (mkCells sm.dropLast) ∧
    Whole (w6.setCell ⟨T, 2, none⟩ (.slice A m c)) V 40 vcs ∧ But H B w (w6.setCell ⟨T, 2, none⟩ (.slice A m c)) := by
  have hl : sm.length = m + 1 := by have := ho.1; rw [mkCells_len] at this; omega
  have h2 := own_pop ho hl
  exact ⟨hall.farT hT hTH _ _, hT.put 2 _, own_setCell h2 (own_whole_ne h2 hT (by decide)) _, hV.far (p := ⟨T, 2, none⟩) (whole_ne hV hT (by decide)) _, hb.setCell (by show B ≤ T; omega) _⟩
end Go.Proofs.Ytjkbhdocpjekmaa
