/- A collection's end: the new half is the heap's. -/
import Derived.Test.YtcbehllfljjngaaKState
namespace Go.Proofs.Ytcbehllfljjngaa
open Go.RowKit
set_option linter.unusedVariables false

section
variable {w0 w w' : World} {s1 e1 h1 : Nat} {H : Hp} {s2 e2 h2 pb nb tb mb ob wb : Nat} {v : Value} {c f2 b a : Int} {pt ps : List Int} {i : Nat}
def endW (w : World) (h1 : Nat) (v0 v1 v2 : Value) : World := (((w.setCell ⟨h1, 0, none⟩ v0).setCell ⟨h1, 1, none⟩ v1).setCell ⟨h1, 2, none⟩ v2).drew
theorem endW_block (v0 v1 v2 : Value) {g : Nat} (hg : g ≠ h1) : (endW w h1 v0 v1 v2).heap[g]? = w.heap[g]? := by
  show ((((w.setCell ⟨h1, 0, none⟩ v0).setCell ⟨h1, 1, none⟩ v1).setCell ⟨h1, 2, none⟩ v2)).heap[g]? = _
  rw [Below.heap_setCell _ ⟨h1, 2, none⟩ _ g (by simpa using hg), Below.heap_setCell _ ⟨h1, 1, none⟩ _ g (by simpa using hg), Below.heap_setCell _ ⟨h1, 0, none⟩ _ g (by simpa using hg)]
theorem endW_size (v0 v1 v2 : Value) : (endW w h1 v0 v1 v2).heap.size = w.heap.size := by simp [endW, World.setCell, World.drew]
theorem endW_whole {u0 u1 u2 : Value} (h : Whole w h1 71 #[u0, u1, u2]) (v0 v1 v2 : Value) : Whole (endW w h1 v0 v1 v2) h1 71 #[v0, v1, v2] := ((h.put 0 v0).put 1 v1).put 2 v2
theorem k_end (h : KS w0 s1 e1 h1 H s2 e2 h2 pb nb tb mb ob wb v c f2 b a pt ps 4 w) {mb2 : Nat} (hm : Whole w h2 71 #[.slice (some ⟨wb, 0, none⟩) 201 201, .int .i64 (topN (kT f2 b a pt ps 4) : Nat), .map (some mb2)]) :
    HeapAt (endW w h1 (.slice (some ⟨wb, 0, none⟩) 201 201) (.int .i64 (topN (kT f2 b a pt ps 4) : Nat)) (.map (some mb2))) s1 e2 h1 200 (kT f2 b a pt ps 4) ∧
    (endW w h1 (.slice (some ⟨wb, 0, none⟩) 201 201) (.int .i64 (topN (kT f2 b a pt ps 4) : Nat)) (.map (some mb2))).ownsRow e2 3 1 v 1 [.int .i64 2] ∧
    Below s1 w0 (endW w h1 (.slice (some ⟨wb, 0, none⟩) 201 201) (.int .i64 (topN (kT f2 b a pt ps 4) : Nat)) (.map (some mb2))) := by
  obtain ⟨g1, g2, g3, g4, g5, g6⟩ := h.mv.far
  obtain ⟨q1, q2, q3⟩ := h.far
  obtain ⟨p1, p2⟩ := h.mv.src.hbs
  obtain ⟨wb1, mb1, pad1, hw1, _⟩ := h.mv.src.ex
  obtain ⟨wb', mb', pad, hw, ho, hs, k1, k2, k3⟩ := h.mv.dst.ex
  have e0 := hw.cell 0
  have e0' := hm.cell 0
  have e2' := hw.cell 2
  have e2'' := hm.cell 2
  obtain rfl : wb = wb' := by rw [e0'] at e0; simpa using e0
  obtain rfl : mb2 = mb' := by rw [e2''] at e2'; simpa using e2'
  have hsz := h.mv.dst.size
  refine ⟨⟨⟨wb, mb2, pad, endW_whole hw1 _ _ _, own_more (own_of_block ho fun g hg => endW_block _ _ _ (by have := (ho.lt g hg).1; omega)) q2, hs.same (endW_block _ _ _ (by omega)), by omega, k2, k3⟩, ⟨p1, by omega⟩, by rw [endW_size]; exact hsz, h.mv.dst.n, h.mv.dst.wf⟩, own_more (own_of_block h.out fun g hg => endW_block _ _ _ (by have := (h.out.lt g hg).1; omega)) (by omega), ?_⟩
  exact ⟨h.below.os, h.below.tape, h.below.output, by rw [endW_size]; exact h.below.size, fun g hg => (endW_block _ _ _ (by omega)).trans (h.below.block g hg)⟩
end
end Go.Proofs.Ytcbehllfljjngaa
