/- The walks of a collection: a field of the first block is written. -/
import Derived.Test.YtcbehllfljjngaaKWalkB
namespace Go.Proofs.Ytcbehllfljjngaa
open Go.RowKit
set_option linter.unusedVariables false

theorem memL_cons (b : Blk) (R : Hp) : memL (b :: R) = 0 :: (b.mem ++ R.flatMap Blk.mem) := by unfold memL; rw [List.flatMap_cons]
theorem memL_setF (t : Nat) (fs : List Int) (R : Hp) (pad : List Int) (j : Nat) (z : Int) (hj : j < fs.length) :
    (memL (⟨t, fs⟩ :: R) ++ pad).set (2 + j) z = memL (⟨t, fs.set j z⟩ :: R) ++ pad := by
  rw [memL_cons, memL_cons]
  unfold Blk.mem Blk.hdr
  rw [List.length_set]
  simp only [List.cons_append]
  rw [show 2 + j = (j + 1) + 1 from by omega, List.set_cons_succ, List.set_cons_succ, List.append_assoc, List.set_append_left _ _ (by exact hj), List.append_assoc]
theorem topN_setF (t : Nat) (fs : List Int) (R : Hp) (j : Nat) (z : Int) : topN (⟨t, fs.set j z⟩ :: R) = topN (⟨t, fs⟩ :: R) := by
  unfold topN sumSz Blk.sz
  simp
theorem goAt_setF (t : Nat) (fs : List Int) (R : Hp) (j : Nat) (z p : Int) : (blkAt (⟨t, fs.set j z⟩ :: R) p).isSome = (blkAt (⟨t, fs⟩ :: R) p).isSome := by
  unfold blkAt
  rw [goAt, goAt]
  have e : (Blk.mk t (fs.set j z)).sz = (Blk.mk t fs).sz := by unfold Blk.sz; rw [List.length_set]
  rw [e]
  split <;> rfl
section
variable {w : World} {s e hb N : Nat}
theorem HeapAt.setF {t : Nat} {fs : List Int} {R : Hp} (h : HeapAt w s e hb N (⟨t, fs⟩ :: R)) {wb : Nat} (hr : w.cell? ⟨hb, 0, none⟩ = some (.slice (some ⟨wb, 0, none⟩) (N + 1) (N + 1))) {j : Nat} (hj : j < fs.length) {z : Int} (hz : WfI z) :
    HeapAt (w.setCell ⟨wb, 2 + j, none⟩ (.int .i64 z)) s e hb N (⟨t, fs.set j z⟩ :: R) ∧ Mid s e w (w.setCell ⟨wb, 2 + j, none⟩ (.int .i64 z)) := by
  obtain ⟨wb', mb, pad, hw, ho, hm, h1, h2, h3⟩ := h.ex
  obtain rfl : wb = wb' := by
    have := hw.cell 0
    rw [hr] at this
    simpa using this
  obtain ⟨hWB, hwb⟩ := whole_of_own ho
  have ne1 : hb ≠ wb := fun hh => by
    subst hh
    have := hWB; unfold Whole at this hw; rw [hw] at this
    simp only [Option.some.injEq, Obj.cells.injEq] at this
    exact absurd this.2.1 (by decide)
  have ne3 : mb ≠ wb := fun hh => by
    subst hh
    obtain ⟨D, ⟨es, cl, hh, _⟩, _⟩ := hm
    unfold Whole at hWB; rw [hWB] at hh; cases hh
  have hl := ho.1
  rw [List.length_map, List.length_append, memL_len] at hl
  have htop : topN (⟨t, fs⟩ :: R) = 1 + (1 + fs.length + sumSz R) := by unfold topN sumSz Blk.sz; simp
  have ho2 := own_put ho (2 + j) (by omega) (.int .i64 z)
  rw [← List.map_set, memL_setF t fs R pad j z hj] at ho2
  have hk : ∀ g, g ≠ wb → (w.setCell ⟨wb, 2 + j, none⟩ (.int .i64 z)).heap[g]? = w.heap[g]? := fun g hg => Below.heap_setCell w ⟨wb, 2 + j, none⟩ _ g (by simpa using hg)
  refine ⟨⟨⟨wb, mb, pad, ?_, ho2, ?_, h1, h2, h3⟩, h.hbs, (by have := h.size; simpa [World.setCell] using this), h.n, ?_⟩, (Mid.refl s e w).setCell hwb h3 _⟩
  · rw [topN_setF]
    exact (hk hb ne1).trans hw
  · have := (hm.same (hk mb ne3)).more (S' := fun p => (blkAt (⟨t, fs.set j z⟩ :: R) p).isSome) (fun p => (goAt_setF t fs R j z p).symm)
    exact this
  · intro b hb'
    rcases List.mem_cons.1 hb' with rfl | hb'
    · obtain ⟨a1, a2, a3⟩ := h.wf ⟨t, fs⟩ (List.mem_cons_self ..)
      refine ⟨a1, by show (fs.set j z).length ≤ 60; rw [List.length_set]; exact a2, fun y hy => ?_⟩
      rcases List.mem_or_eq_of_mem_set hy with h' | rfl
      · exact a3 y h'
      · exact hz
    · exact h.wf b (List.mem_cons_of_mem _ hb')
end
end Go.Proofs.Ytcbehllfljjngaa
