/- The walk of the law's deed. -/
import Derived.Test.YtcbehllfljjngaaRWalkH
import Derived.Test.YtcbehllfljjngaaPWalkD
import Derived.Deep.CutBlock
import Derived.Deep.DeepCutAuto
namespace Go.Proofs.Ytcbehllfljjngaa
open Go.RowKit
set_option linter.unusedVariables false
attribute [local go_sem ↓] Go.wp_at_zero Go.wp_at_succ

structure Deed where
  k : Int
  s : ByteArray
  a : Int
  b : Int
  ws : List Int
def cut70 (s : ByteArray) : ByteArray := if 70 < s.size then s.extract 0 70 else s
def doH (N : Nat) (H : Hp) (d : Deed) : Hp :=
  if d.k = 0 then textH N H (cut70 d.s).data.toList
  else if d.k = 1 then joinH N H (wordF H d.a) (wordF H d.b)
  else if d.k = 2 then closeH N H d.a (wordsF H d.ws)
  else if d.k = 3 then mkH N H d.a (wordsF H d.ws) else H
/-- Heap and reference of one list. -/
structure Two (w0 : World) (s e hb N B rb : Nat) (P Q : Hp) (w : World) : Prop where
  heap : HeapAt w s e hb N P
  ref : RefAt w B rb N Q
  below : Below s w0 w
  leq : s ≤ e ∧ e ≤ B
section
variable {w0 w w' : World} {s e hb N B rb : Nat} {P Q P' Q' : Hp}
theorem Two.drew (h : Two w0 s e hb N B rb P Q w) : Two w0 s e hb N B rb P Q w.drew := ⟨h.heap.drew, h.ref.drew, h.below.drew, h.leq⟩
theorem Two.later (h : Two w0 s e hb N B rb P Q w) (hb' : Below w.heap.size w w') : Two w0 s e hb N B rb P Q w' := ⟨h.heap.later hb', h.ref.later hb', h.below.trans (hb'.mono (by have := h.heap.size; have := h.leq; omega)), h.leq⟩
theorem Two.onHeap (h : Two w0 s e hb N B rb P Q w) (hh : HeapAt w' s e hb N P') (hm : Mid s e w w') : Two w0 s e hb N B rb P' Q w' := ⟨hh, h.ref.mid hm h.leq.2, h.below.trans (hm.below (by have := h.heap.size; have := h.leq; omega)), h.leq⟩
theorem Two.onRef (h : Two w0 s e hb N B rb P Q w) (hr : RefAt w' B rb N Q') (hm : Below B w w') : Two w0 s e hb N B rb P Q' w' := ⟨h.heap.below hm h.leq.2, hr, h.below.trans (hm.mono (by have := h.leq; omega)), h.leq⟩
theorem Two.start (h : HeapAt w s e hb N P) (hr : RefAt w B rb N Q) (hl : s ≤ e ∧ e ≤ B) : Two w s e hb N B rb P Q w := ⟨h, hr, Below.refl _ _, hl⟩
end
/-- The state behind the words. -/
structure DS (w0 : World) (s e hb N B rb bx : Nat) (cs : Array Value) (A : Option Addr) (n c : Nat) (zs : List Int) (P Q : Hp) (w : World) : Prop where
  two : Two w0 s e hb N B rb P Q w
  box : Whole w bx 38 cs
  far : e ≤ bx
  row : w.ownsRow (bx + 1) 3 1 (.slice A n c) n (zs.map (Value.int .i64))
  few : n ≤ 61
  wf : ∀ z ∈ zs, WfI z
section
variable {w0 w w' : World} {s e hb N B rb bx : Nat} {cs : Array Value} {A : Option Addr} {n c : Nat} {zs : List Int} {P Q P' Q' : Hp}
theorem DS.onHeap (h : DS w0 s e hb N B rb bx cs A n c zs P Q w) (hh : HeapAt w' s e hb N P') (hm : Mid s e w w') : DS w0 s e hb N B rb bx cs A n c zs P' Q w' :=
  ⟨h.two.onHeap hh hm, (hm.block bx h.box.lt (.inr h.far)).trans h.box, h.far, own_of_block h.row (fun g hg => hm.block g (h.row.lt g hg).2 (.inr (by have := (h.row.lt g hg).1; have := h.far; omega))), h.few, h.wf⟩
theorem DS.drew (h : DS w0 s e hb N B rb bx cs A n c zs P Q w) : DS w0 s e hb N B rb bx cs A n c zs P Q w.drew := ⟨h.two.drew, h.box, h.far, h.row, h.few, h.wf⟩
theorem DS.ints (h : DS w0 s e hb N B rb bx cs A n c zs P Q w) : Ints w w.heap.size A n zs := by
  obtain ⟨A', c', e, hi⟩ := Ints.of_own h.row
  simp only [Value.slice.injEq] at e
  obtain ⟨rfl, _, rfl⟩ := e
  exact hi
theorem DS.sep (h : DS w0 s e hb N B rb bx cs A n c zs P Q w) : ∀ ad, A = some ad → 0 < n → ad.block < s ∨ e ≤ ad.block := by
  intro ad hA hn
  subst hA
  have := (h.row.lt ad.block (by simp [Value.ownBlock])).1
  have := h.far
  exact .inr (by omega)
end
def Did (w0 : World) (s e hb N B rb : Nat) (P : Hp) (ee : Ending) (w' : World) : Prop := ee = .returned (.bool true) ∧ Two w0 s e hb N B rb P P w'
end Go.Proofs.Ytcbehllfljjngaa
