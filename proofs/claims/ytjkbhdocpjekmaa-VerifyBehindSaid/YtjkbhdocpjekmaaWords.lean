/- Small words for memory: a block that is known whole, and what a store, a draw, a new block leave of it. -/
import Derived.WalkKit
import Derived.Deep.Draws
import Derived.Laws.Rows
namespace Go.Proofs.Ytjkbhdocpjekmaa
open Go.RowKit

/-- Block g holds just these cells, none of them frozen. -/
def Whole (w : World) (g : Nat) (t : TypeId) (cs : Array Value) : Prop := w.heap[g]? = some (.cells cs t (0, 0))

theorem Whole.lt {w : World} {g : Nat} {t : TypeId} {cs : Array Value} (h : Whole w g t cs) : g < w.heap.size := by
  unfold Whole at h
  rcases Nat.lt_or_ge g w.heap.size with hl | hl
  · exact hl
  · rw [Array.getElem?_eq_none hl] at h; cases h
theorem Whole.cell {w : World} {g : Nat} {t : TypeId} {cs : Array Value} (h : Whole w g t cs) (i : Nat) : w.cell? ⟨g, i, none⟩ = cs[i]? :=
  cell_of_row w g i cs t (0, 0) h
theorem Whole.free {w : World} {g : Nat} {t : TypeId} {cs : Array Value} (h : Whole w g t cs) (i : Nat) : w.frozen? ⟨g, i, none⟩ = false := by
  unfold Whole at h; simp [World.frozen?, h]
theorem Whole.made (w : World) (t : TypeId) (cs : Array Value) : Whole (w.alloc (.cells cs t)) w.heap.size t cs := heap_alloc_new w _
theorem Whole.put {w : World} {g : Nat} {t : TypeId} {cs : Array Value} (h : Whole w g t cs) (i : Nat) (u : Value) : Whole (w.setCell ⟨g, i, none⟩ u) g t (cs.setIfInBounds i u) := by
  unfold Whole at h ⊢; simp [World.setCell, Array.getElem?_modify, h]
theorem Whole.alloc {w : World} {g : Nat} {t : TypeId} {cs : Array Value} (h : Whole w g t cs) (o : Obj) : Whole (w.alloc o) g t cs := (Below.heap_alloc w o g h.lt).trans h
theorem Whole.far {w : World} {g : Nat} {t : TypeId} {cs : Array Value} (h : Whole w g t cs) {p : Addr} (hp : g ≠ p.block) (u : Value) : Whole (w.setCell p u) g t cs := (Below.heap_setCell w p u g hp).trans h
theorem Whole.below {B : Nat} {w w' : World} {g : Nat} {t : TypeId} {cs : Array Value} (h : Whole w g t cs) (hb : Below B w w') (hg : g < B) : Whole w' g t cs := (hb.block g hg).trans h

theorem below_drewN {B : Nat} {a w : World} (h : Below B a w) (n : Nat) : Below B a (w.drewN n) := ⟨h.os, h.tape, h.output, h.size, h.block⟩
/-- A slice of integers reads as a list; it lies below block B. -/
def Ints (w : World) (B : Nat) (A : Option Addr) (n : Nat) (zs : List Int) : Prop :=
  zs.length = n ∧ (0 < n → ∃ b off, A = some ⟨b, off, none⟩ ∧ b < B ∧ ∀ j, j < n → w.cell? ⟨b, off + j, none⟩ = some (.int .i64 (zs.getD j 0)))
theorem Ints.below {w w' : World} {B : Nat} {A : Option Addr} {n : Nat} {zs : List Int} (h : Ints w B A n zs) (hb : Below B w w') : Ints w' B A n zs :=
  ⟨h.1, fun hn => by
    obtain ⟨b, off, e, hlt, hc⟩ := h.2 hn
    exact ⟨b, off, e, hlt, fun j hj => (hb.cell (p := ⟨b, off + j, none⟩) hlt).trans (hc j hj)⟩⟩
theorem Ints.more {w : World} {B B' : Nat} {A : Option Addr} {n : Nat} {zs : List Int} (h : Ints w B A n zs) (hb : B ≤ B') : Ints w B' A n zs :=
  ⟨h.1, fun hn => by
    obtain ⟨b, off, e, hlt, hc⟩ := h.2 hn
    exact ⟨b, off, e, by omega, hc⟩⟩
theorem Ints.at_ {w : World} {B : Nat} {A : Option Addr} {n k : Nat} {zs : List Int} (h : Ints w B A n zs) (hk : k < n) :
    ∃ b off, A = some ⟨b, off, none⟩ ∧ b < B ∧ w.cell? ⟨b, off + k, none⟩ = some (.int .i64 (zs.getD k 0)) := by
  obtain ⟨b, off, e, hlt, hc⟩ := h.2 (by omega)
  exact ⟨b, off, e, hlt, hc k hk⟩
theorem Ints.nil_ (w : World) (B : Nat) : Ints w B none 0 [] := ⟨rfl, fun h => absurd h (by omega)⟩
/-- What the call owns reads. -/
theorem Ints.of_own {w : World} {base E : Nat} {v : Value} {n : Nat} {zs : List Int} (h : w.ownsRow base E 1 v n (zs.map (Value.int .i64))) :
    ∃ A c, v = .slice A n c ∧ Ints w w.heap.size A n zs := by
  have hl := h.1
  rw [List.length_map, Nat.mul_one] at hl
  rcases h.2 with ⟨rfl, rfl⟩ | ⟨g, cap, cur, rfl, hg, hh, hn, hc, hs, ht⟩
  · exact ⟨none, 0, rfl, hl, fun h => absurd h (by omega)⟩
  · refine ⟨_, cap, rfl, hl, fun hn0 => ⟨g, 0, rfl, ?_, fun j hj => ?_⟩⟩
    · rcases Nat.lt_or_ge g w.heap.size with h1 | h1
      · exact h1
      · rw [Array.getElem?_eq_none h1] at hh; cases hh
    · rw [cell_of_row w g (0 + j) cur E (0, 0) hh, Nat.zero_add]
      have h1 : cur[j]? = (cur.toList.take (n * 1))[j]? := by
        rw [List.getElem?_take, if_pos (by omega), Array.getElem?_toList]
      rw [h1, ht, List.getElem?_map]
      simp [List.getD, List.getElem?_eq_getElem (show j < zs.length by omega)]
theorem Ints.get {w : World} {B : Nat} {A : Option Addr} {n : Nat} {zs : List Int} (h : Ints w B A n zs) : zs.length = n := h.1
end Go.Proofs.Ytjkbhdocpjekmaa
