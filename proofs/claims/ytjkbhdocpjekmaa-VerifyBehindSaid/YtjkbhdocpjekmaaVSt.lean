/- A code that a law has cut and stored: what it holds. -/
import Derived.Test.YtjkbhdocpjekmaaWalkO
namespace Go.Proofs.Ytjkbhdocpjekmaa
open Go.RowKit
set_option linter.unusedVariables false

/-- Few of all, written out. -/
theorem cut_form (w : World) (v : Value) (c : Cod) (hc : CodAt w w.heap.size v c) :
    Calls Try.prog 8 #[v] w fun e w' => ∃ FA fn fc IA inn ic TA tn tc, e = .returned (.agg #[.slice FA fn fc, .slice IA inn ic, .slice TA tn tc, .int .i64 c.lets]) ∧
      OwnCod w' (w.heap.size + 1) (.agg #[.slice FA fn fc, .slice IA inn ic, .slice TA tn tc, .int .i64 c.lets]) (cutC c) ∧ Below w.heap.size w w' := by
  refine (cut_any w v c hc).mono ?_
  rintro e w' ⟨v', rfl, ho, hb, _⟩
  obtain ⟨fv, iv, tv, vs, rfl, hf, hcs, hi, ht⟩ := ho
  obtain ⟨FA, fc, rfl, _⟩ := own_form hf
  obtain ⟨IA, ic, rfl, _⟩ := own_form hi
  obtain ⟨TA, tc, rfl, _⟩ := own_form ht
  exact ⟨FA, _, fc, IA, _, ic, TA, _, tc, rfl, ⟨_, _, _, vs, rfl, hf, hcs, hi, ht⟩, hb⟩
theorem cut_small (c : Cod) : (cutC c).funs.length ≤ 6 ∧ (cutC c).ints.length ≤ 6 ∧ (cutC c).texts.length ≤ 6 ∧ ∀ b ∈ (cutC c).funs, b.code.length ≤ 60 := by
  refine ⟨?_, ?_, ?_, fun b hb => ?_⟩
  · show ((c.funs.take 6).map cutF).length ≤ 6; rw [List.length_map, List.length_take]; omega
  · show (c.ints.take 6).length ≤ 6; rw [List.length_take]; omega
  · show ((c.texts.take 6).map cutT).length ≤ 6; rw [List.length_map, List.length_take]; omega
  · have : b ∈ (c.funs.take 6).map cutF := hb
    obtain ⟨x, _, rfl⟩ := List.mem_map.1 this
    show (x.code.take 60).length ≤ 60; rw [List.length_take]; omega
/-- A stored code: its box at block B, what it holds behind it. -/
structure Stored (w0 : World) (B : Nat) (v : Value) (cs : Array Value) (c : Cod) (w : World) : Prop where
  box : Whole w B 26 cs
  own : OwnCod w (B + 1) v c
  below : Below B w0 w
  size : B + 1 ≤ w.heap.size
theorem OwnCod.put {w : World} {B : Nat} {v : Value} {c : Cod} (h : OwnCod w (B + 1) v c) (o : Nat) (u : Value) : OwnCod (w.setCell ⟨B, o, none⟩ u) (B + 1) v c := by
  obtain ⟨fv, iv, tv, vs, e, hf, hcs, hi, ht⟩ := h
  have key : ∀ {e : TypeId} {size n : Nat} {v : Value} {xs : List Value}, w.ownsRow (B + 1) e size v n xs → (w.setCell ⟨B, o, none⟩ u).ownsRow (B + 1) e size v n xs := fun h =>
    own_setCell h (fun hh => by have := (h.lt _ hh).1; simp at this; omega) u
  exact ⟨fv, iv, tv, vs, e, key hf, ⟨hcs.1, fun k hk => key (hcs.2.1 k hk), hcs.2.2⟩, key hi, key ht⟩
theorem OwnCod.below {w w' : World} {B C : Nat} {v : Value} {c : Cod} (h : OwnCod w B v c) (hb : Below C w w') (hC : w.heap.size ≤ C) : OwnCod w' B v c := by
  obtain ⟨fv, iv, tv, vs, e, hf, hcs, hi, ht⟩ := h
  exact ⟨fv, iv, tv, vs, e, own_below hf hb hC, hcs.below hb hC, own_below hi hb hC, own_below ht hb hC⟩
theorem OwnCod.more {w : World} {B C : Nat} {v : Value} {c : Cod} (h : OwnCod w B v c) (hC : C ≤ B) : OwnCod w C v c := by
  obtain ⟨fv, iv, tv, vs, e, hf, hcs, hi, ht⟩ := h
  exact ⟨fv, iv, tv, vs, e, own_more hf hC, ⟨hcs.1, fun k hk => own_more (hcs.2.1 k hk) hC, hcs.2.2⟩, own_more hi hC, own_more ht hC⟩
theorem Stored.later {w0 w w' : World} {B : Nat} {v : Value} {cs : Array Value} {c : Cod} (h : Stored w0 B v cs c w) (hb : Below w.heap.size w w') : Stored w0 B v cs c w' :=
  ⟨h.box.below hb (by have := h.size; omega), h.own.below hb (Nat.le_refl _), h.below.trans (hb.mono (by have := h.size; omega)), Nat.le_trans h.size hb.size⟩
theorem Stored.at_ {w0 w : World} {B : Nat} {v : Value} {cs : Array Value} {c : Cod} (h : Stored w0 B v cs (cutC c) w) : CodAt w w.heap.size v (cutC c) :=
  h.own.at_ (by have := (cut_small c).1; omega) (by have := (cut_small c).2.1; omega) (by have := (cut_small c).2.2.1; omega) (fun b hb => by have := (cut_small c).2.2.2 b hb; omega)
theorem cut_stored {w w' : World} {B : Nat} {a b d e x0 x1 x2 x3 v : Value} {c : Cod} (hB : w.heap.size = B) (h : OwnCod w' (B + 1 + 1) v c) (hb : Below (B + 1) (w.alloc (.cells #[x0, x1, x2, x3] 26)) w') :
    Stored w B v #[a, b, d, e] c ((((w'.setCell ⟨B, 0, none⟩ a).setCell ⟨B, 1, none⟩ b).setCell ⟨B, 2, none⟩ d).setCell ⟨B, 3, none⟩ e) := by
  subst hB
  have hw := (Whole.made w 26 #[x0, x1, x2, x3]).below hb (by omega)
  have hs : w.heap.size + 1 ≤ w'.heap.size := by have := hb.size; simpa using this
  refine ⟨(((hw.put 0 a).put 1 b).put 2 d).put 3 e, ((((h.more (by omega)).put 0 a).put 1 b).put 2 d).put 3 e, ?_, by simpa [World.setCell] using hs⟩
  exact ((((((Below.refl _ _).alloc (Nat.le_refl _) _).trans (hb.mono (by omega))).setCell (Nat.le_refl _) _).setCell (Nat.le_refl _) _).setCell (Nat.le_refl _) _).setCell (Nat.le_refl _) _
theorem Stored.cells {w0 w : World} {B : Nat} {v a b d e : Value} {c : Cod} (h : Stored w0 B v #[a, b, d, e] c w) : w.cell? ⟨B, 0, none⟩ = some a ∧ w.cell? ⟨B, 1, none⟩ = some b ∧ w.cell? ⟨B, 2, none⟩ = some d ∧ w.cell? ⟨B, 3, none⟩ = some e :=
  ⟨h.box.cell 0, h.box.cell 1, h.box.cell 2, h.box.cell 3⟩
end Go.Proofs.Ytjkbhdocpjekmaa
