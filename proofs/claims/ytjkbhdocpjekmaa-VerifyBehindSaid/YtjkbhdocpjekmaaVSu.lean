/- A stored code of which something is changed: what it holds. -/
import Derived.Test.YtjkbhdocpjekmaaVSt
import Derived.Test.YtjkbhdocpjekmaaPlainF
namespace Go.Proofs.Ytjkbhdocpjekmaa
open Go.RowKit
set_option linter.unusedVariables false

/-- One cell of a row that is owned is stored. -/
theorem own_put {w : World} {base e size n c g : Nat} {xs : List Value} (h : w.ownsRow base e size (.slice (some ⟨g, 0, none⟩) n c) n xs) (k : Nat) (u : Value) : (w.setCell ⟨g, k, none⟩ u).ownsRow base e size (.slice (some ⟨g, 0, none⟩) n c) n (xs.set k u) := by
  refine ⟨by rw [List.length_set]; exact h.1, .inr ?_⟩
  rcases h.2 with ⟨h1, _⟩ | ⟨g', c', cur, h1, hb, hh, hn, hc, hs, ht⟩
  · cases h1
  · cases h1
    have hw : Whole w g e cur := hh
    refine ⟨_, _, cur.setIfInBounds k u, rfl, hb, hw.put k u, hn, hc, by simpa using hs, ?_⟩
    rw [Array.toList_setIfInBounds, List.take_set, ht]
theorem own_whole {w : World} {base e size n c g : Nat} {xs : List Value} (h : w.ownsRow base e size (.slice (some ⟨g, 0, none⟩) n c) n xs) : ∃ cur, Whole w g e cur := by
  rcases h.2 with ⟨h1, _⟩ | ⟨g', c', cur, h1, hb, hh, _⟩
  · cases h1
  · cases h1; exact ⟨cur, hh⟩
theorem bdy_stack (l : List Bdy) (vs : List Value) (st : Int) (h : 0 < l.length) (hv : vs.length = l.length) :
    bdyCells (l.set 0 ⟨(l.getD 0 bdy0).kept, (l.getD 0 bdy0).locals, st, (l.getD 0 bdy0).code⟩) vs = (bdyCells l vs).set 2 (.int .i64 st) := by
  match l, vs, h, hv with
  | b :: l, v :: vs, _, _ => rfl
theorem bdy_same : ∀ (l : List Bdy) (vs : List Value) (m : Nat) (is : List Ins), m < l.length → bdyCells (l.set m ⟨(l.getD m bdy0).kept, (l.getD m bdy0).locals, (l.getD m bdy0).stack, is⟩) vs = bdyCells l vs
  | [], _, m, _, h => absurd h (by simp)
  | b :: l, [], m, is, _ => by cases m <;> rfl
  | b :: l, v :: vs, 0, is, _ => rfl
  | b :: l, v :: vs, m + 1, is, h => by
    have := bdy_same l vs m is (by simpa using h)
    simp only [List.set_cons_succ, List.getD_cons_succ, bdyCells, this]
theorem ins_set : ∀ (l : List Ins) (k : Nat) (i : Ins), k < l.length → insCells (l.set k i) = (((insCells l).set (k * 3) (.int .i64 i.op)).set (k * 3 + 1) (.int .i64 i.a)).set (k * 3 + 2) (.int .i64 i.b)
  | [], k, i, h => absurd h (by simp)
  | x :: l, 0, i, _ => rfl
  | x :: l, k + 1, i, h => by
    have := ins_set l k i (by simpa using h)
    rw [show (k + 1) * 3 = k * 3 + 3 from by omega]
    simp only [insCells, List.set_cons_succ, List.flatMap_cons] at this ⊢
    rw [this]; rfl
/-- A stack is stored. -/
theorem OwnCod.stack {w : World} {B fn fc : Nat} {FA : Option Addr} {iv tv lv : Value} {c : Cod} (h : OwnCod w B (.agg #[.slice FA fn fc, iv, tv, lv]) c) (h0 : 0 < c.funs.length) (st : Int) :
    ∃ g, FA = some ⟨g, 0, none⟩ ∧ fn = c.funs.length ∧ B ≤ g ∧ g < w.heap.size ∧ (∃ u, w.cell? ⟨g, 2, none⟩ = some u) ∧ w.frozen? ⟨g, 2, none⟩ = false ∧ (∃ cur, Whole w g 40 cur) ∧ OwnCod (w.setCell ⟨g, 2, none⟩ (.int .i64 st)) B (.agg #[.slice FA fn fc, iv, tv, lv]) (setStack c st) := by
  obtain ⟨fv, iv', tv', vs, e, hf, hcs, hi, ht⟩ := h
  cases e
  obtain ⟨_, _, e1, _⟩ := own_form hf
  cases e1
  obtain ⟨g, c', e2, hb, hl, hc2, hfr⟩ := own_cell hf (k := 2) (by omega)
  cases e2
  obtain ⟨cur, hw⟩ := own_whole hf
  have hg := bdyCells_get c.funs vs 0 hcs.1 h0
  refine ⟨g, rfl, rfl, hb, hl, ⟨_, hc2.trans hg.2.2.1⟩, hfr, ⟨cur, hw⟩, ?_⟩
  have hln : (setStack c st).funs.length = c.funs.length := by show (c.funs.set 0 _).length = _; rw [List.length_set]
  have hcode : ∀ k, ((setStack c st).funs.getD k bdy0).code = (c.funs.getD k bdy0).code := fun k => by
    show ((c.funs.set 0 _).getD k bdy0).code = _
    rw [getDb h0]; split
    · rename_i e; rw [e]
    · rfl
  refine ⟨_, _, _, vs, rfl, ?_, ⟨by rw [hln]; exact hcs.1, fun k hk => ?_, fun j k hjk hk => hcs.2.2 j k hjk (by rw [hln] at hk; exact hk)⟩, ?_, ?_⟩
  · rw [hln]
    show World.ownsRow _ _ _ _ _ _ (bdyCells (c.funs.set 0 _) vs)
    rw [bdy_stack c.funs vs st h0 hcs.1]
    exact own_put hf 2 _
  · rw [hcode]
    exact (hcs.setCell (p := ⟨g, 2, none⟩) hw (by decide) _).2.1 k (by rw [hln] at hk; exact hk)
  · exact own_setCell hi (own_whole_ne hi hw (by decide)) _
  · exact own_setCell ht (own_whole_ne ht hw (by decide)) _
/-- An instruction is stored. -/
theorem OwnCod.ins {w : World} {B fn fc : Nat} {FA : Option Addr} {iv tv lv : Value} {c : Cod} (h : OwnCod w B (.agg #[.slice FA fn fc, iv, tv, lv]) c) {m k : Nat} (hm : m < c.funs.length) (hk : k < (c.funs.getD m bdy0).code.length) (i : Ins) :
    ∃ g gc cc, FA = some ⟨g, 0, none⟩ ∧ fn = c.funs.length ∧ B ≤ g ∧ g < w.heap.size ∧ w.cell? ⟨g, m * 4 + 3, none⟩ = some (.slice (some ⟨gc, 0, none⟩) (c.funs.getD m bdy0).code.length cc) ∧ B ≤ gc ∧ gc < w.heap.size ∧
      (∀ o, o < 3 → (∃ u, w.cell? ⟨gc, k * 3 + o, none⟩ = some u) ∧ w.frozen? ⟨gc, k * 3 + o, none⟩ = false) ∧ (∃ cur, Whole w gc 36 cur) ∧
      OwnCod (((w.setCell ⟨gc, k * 3, none⟩ (.int .i64 i.op)).setCell ⟨gc, k * 3 + 1, none⟩ (.int .i64 i.a)).setCell ⟨gc, k * 3 + 2, none⟩ (.int .i64 i.b)) B (.agg #[.slice FA fn fc, iv, tv, lv]) (setIns c m k i) := by
  obtain ⟨fv, iv', tv', vs, e, hf, hcs, hi, ht⟩ := h
  cases e
  obtain ⟨_, _, e1, _⟩ := own_form hf
  cases e1
  obtain ⟨g, c', e2, hb, hl, hc2, hfr⟩ := own_cell hf (k := m * 4 + 3) (by omega)
  cases e2
  have hg := bdyCells_get c.funs vs m hcs.1 hm
  have hrow := hcs.2.1 m hm
  obtain ⟨gc, cc, e3, hb3, hl3, _, _⟩ := own_cell hrow (k := k * 3) (by omega)
  rw [e3] at hrow
  obtain ⟨cur, hw⟩ := own_whole hrow
  have hln : (setIns c m k i).funs.length = c.funs.length := by show (c.funs.set m _).length = _; rw [List.length_set]
  have efun := fun j => setIns_fun (k := k) (i := i) hm j
  refine ⟨g, gc, cc, rfl, rfl, hb, hl, ?_, hb3, hl3, fun o ho => ?_, ⟨cur, hw⟩, ?_⟩
  · rw [hc2, hg.2.2.2, e3]
  · obtain ⟨g', cc', e4, _, _, hcell, hfr⟩ := own_cell hrow (k := k * 3 + o) (by omega)
    cases e4
    have hlen : k * 3 + o < (insCells (c.funs.getD m bdy0).code).length := by rw [hrow.1]; omega
    exact ⟨⟨_, hcell.trans (List.getElem?_eq_getElem hlen)⟩, hfr⟩
  have far : ∀ {e size n : Nat} {v : Value} {xs : List Value}, w.ownsRow B e size v n xs → v.ownBlock ≠ some gc → (((w.setCell ⟨gc, k * 3, none⟩ (.int .i64 i.op)).setCell ⟨gc, k * 3 + 1, none⟩ (.int .i64 i.a)).setCell ⟨gc, k * 3 + 2, none⟩ (.int .i64 i.b)).ownsRow B e size v n xs := fun h hne =>
    own_setCell (own_setCell (own_setCell h (p := ⟨gc, _, none⟩) hne _) (p := ⟨gc, _, none⟩) hne _) (p := ⟨gc, _, none⟩) hne _
  refine ⟨_, _, _, vs, rfl, ?_, ⟨by rw [hln]; exact hcs.1, fun q hq => ?_, fun j k hjk hk => hcs.2.2 j k hjk (by rw [hln] at hk; exact hk)⟩, ?_, ?_⟩
  · rw [hln]
    show World.ownsRow _ _ _ _ _ _ (bdyCells (c.funs.set m _) vs)
    rw [bdy_same c.funs vs m _ hm]
    exact far hf (own_whole_ne hf hw (by decide))
  · rw [hln] at hq
    rw [efun]
    by_cases hqm : q = m
    · subst hqm
      rw [if_pos rfl, e3]
      dsimp only
      rw [List.length_set, ins_set _ _ _ hk]
      exact own_put (own_put (own_put hrow _ _) _ _) _ _
    · rw [if_neg hqm]
      refine far (hcs.2.1 q hq) fun hh => ?_
      rcases Nat.lt_or_gt_of_ne hqm with h1 | h1
      · exact hcs.2.2 q m h1 hm gc hh (by rw [e3]; rfl)
      · exact hcs.2.2 m q h1 hq gc (by rw [e3]; rfl) hh
  · exact far hi (own_whole_ne hi hw (by decide))
  · exact far ht (own_whole_ne ht hw (by decide))
end Go.Proofs.Ytjkbhdocpjekmaa
