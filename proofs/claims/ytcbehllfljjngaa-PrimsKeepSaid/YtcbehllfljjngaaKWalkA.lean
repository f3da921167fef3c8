/- The walks of a collection: a block's places. -/
import Derived.Test.YtcbehllfljjngaaKMem
namespace Go.Proofs.Ytcbehllfljjngaa
open Go.RowKit
set_option linter.unusedVariables false
attribute [local go_sem ↓] Go.wp_at_zero Go.wp_at_succ

section
variable {w : World} {s e hb N : Nat} {H : Hp}
theorem HeapAt.row (h : HeapAt w s e hb N H) : ∃ wb, w.cell? ⟨hb, 0, none⟩ = some (.slice (some ⟨wb, 0, none⟩) (N + 1) (N + 1)) ∧ s ≤ wb ∧ wb < e := by
  obtain ⟨wb, mb, pad, hw, ho, hm, h1, h2, h3⟩ := h.ex
  exact ⟨wb, hw.cell 0, (ho.lt wb rfl).1, h3⟩
def SpanAt (w : World) (wb k n : Nat) (ee : Ending) (w' : World) : Prop := ∃ ad, ee = .returned (.slice (some ad) n n) ∧ (0 < n → ad = ⟨wb, k + 1, none⟩) ∧ w = w'
set_option maxHeartbeats 400000 in
theorem span_at (h : HeapAt w s e hb N H) {wb : Nat} (hwb : w.cell? ⟨hb, 0, none⟩ = some (.slice (some ⟨wb, 0, none⟩) (N + 1) (N + 1))) {k : Nat} {b : Blk} (hk : blkAt H k = some b) (hb6 : b.tag ≤ 201 ∧ b.fs.length ≤ 60) :
    Calls Try.prog 51 #[.pointer (some ⟨hb, 0, none⟩), .int .i64 k] w (SpanAt w wb k b.fs.length) := by
  obtain ⟨wb', mb, x0, _, _, _, _, hx⟩ := h.cells
  obtain rfl : wb = wb' := by rw [x0] at hwb; simpa using hwb.symm
  obtain ⟨k', ek, hk1, hk2, hc, _, _⟩ := hx _ _ hk
  obtain rfl : k = k' := by omega
  have HQ := hdr_quo hb6.1
  have hh : 0 ≤ b.hdr := by unfold Blk.hdr; omega
  have hh2 : b.hdr ≤ 20000 := by unfold Blk.hdr; omega
  have hN := h.n.2
  unfold Blk.sz at hk2
  have hl60 := hb6.2
  clear h hx hk hb6 ek hwb
  generalize b.hdr = y at *
  generalize b.fs = fs at *
  generalize hn : fs.length = n at *
  clear hn
  have hkN : k < N + 1 := by omega
  by_cases h0 : n = 0
  · subst h0
    by_cases hz : k + 1 = N + 1
    · obtain rfl : N = k := by omega
      go_enter Try.func51, Try.ntmps51
      go_wp2_with fail
      all_goals
        go_ret
        refine ⟨_, rfl, ?_, rfl⟩
        exact fun h => absurd h (by decide)
    · have hz2 : k + 1 < N + 1 := by omega
      go_enter Try.func51, Try.ntmps51
      go_wp2_with fail
      all_goals
        go_ret
        refine ⟨_, rfl, ?_, rfl⟩
        exact fun h => absurd h (by decide)
  · have h1 : 0 < n := by omega
    have hz2 : k + 1 < N + 1 := by omega
    clear h0
    go_enter Try.func51, Try.ntmps51
    go_wp2_with fail
    go_ret
    show SpanAt w wb k n (.returned (.slice (some ⟨wb, k + 1, none⟩) (k + 1 + n - (k + 1)) (k + 1 + n - (k + 1)))) w
    rw [show k + 1 + n - (k + 1) = n from by omega]
    exact ⟨_, rfl, fun _ => rfl, rfl⟩
end
end Go.Proofs.Ytcbehllfljjngaa
