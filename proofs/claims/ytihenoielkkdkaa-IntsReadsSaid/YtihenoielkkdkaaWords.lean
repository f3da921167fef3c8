/- Small words for memory: a block that is known whole, and what a store, a draw, a new block leave of it. -/
import Derived.WalkKit
import Derived.Deep.Draws
import Derived.Laws.Rows
namespace Go.Proofs.Ytihenoielkkdkaa
open Go.RowKit

/-- Block g holds just these cells, none of them frozen. -/
def Whole (w : World) (g : Nat) (t : TypeId) (cs : Array Value) : Prop := w.heap[g]? = some (.cells cs t (0, 0))

theorem Whole.lt {w : World} {g : Nat} {t : TypeId} {cs : Array Value} (h : Whole w g t cs) : g < w.heap.size := by
  unfold Whole at h
  rcases Nat.lt_or_ge g w.heap.size with hl | hl
  · exact hl
  · rw [Array.getElem?_eq_none hl] at h; cases h
theorem Whole.cell {w : World} {g : Nat} {t : TypeId} {cs : Array Value} (h : Whole w g t cs) (i : Nat) : w.cell? ⟨g, i, none⟩ = cs[i]? :=
  cell_of_row w g i cs t (0, 0) h
theorem Whole.free {w : World} {g : Nat} {t : TypeId} {cs : Array Value} (h : Whole w g t cs) (i : Nat) : w.frozen? ⟨g, i, none⟩ = false := by
  unfold Whole at h; simp [World.frozen?, h]
theorem Whole.made (w : World) (t : TypeId) (cs : Array Value) : Whole (w.alloc (.cells cs t)) w.heap.size t cs := heap_alloc_new w _
theorem Whole.put {w : World} {g : Nat} {t : TypeId} {cs : Array Value} (h : Whole w g t cs) (i : Nat) (u : Value) : Whole (w.setCell ⟨g, i, none⟩ u) g t (cs.setIfInBounds i u) := by
  unfold Whole at h ⊢; simp [World.setCell, Array.getElem?_modify, h]
theorem Whole.alloc {w : World} {g : Nat} {t : TypeId} {cs : Array Value} (h : Whole w g t cs) (o : Obj) : Whole (w.alloc o) g t cs := (Below.heap_alloc w o g h.lt).trans h
theorem Whole.far {w : World} {g : Nat} {t : TypeId} {cs : Array Value} (h : Whole w g t cs) {p : Addr} (hp : g ≠ p.block) (u : Value) : Whole (w.setCell p u) g t cs := (Below.heap_setCell w p u g hp).trans h
theorem Whole.below {B : Nat} {w w' : World} {g : Nat} {t : TypeId} {cs : Array Value} (h : Whole w g t cs) (hb : Below B w w') (hg : g < B) : Whole w' g t cs := (hb.block g hg).trans h
end Go.Proofs.Ytihenoielkkdkaa
