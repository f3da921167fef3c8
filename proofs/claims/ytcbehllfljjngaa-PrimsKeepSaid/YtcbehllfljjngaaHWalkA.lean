/- The walks of layer 2: places, words that may stand, tags, spans. -/
import Derived.Test.YtcbehllfljjngaaHMem
import Derived.Test.YtcbehllfljjngaaIWalkA
import Derived.WalkKit
import Derived.WalkSpells
import Derived.WalkLawsBesides
import Derived.Outline
import Derived.Deep.QuietTactic
import Derived.BigQuiet
namespace Go.Proofs.Ytcbehllfljjngaa
open Go.RowKit
set_option linter.unusedVariables false

theorem wf_i64 {z : Int} : (Lit.int .i64 z).wf = true ↔ -9223372036854775808 ≤ z ∧ z ≤ 9223372036854775807 := by
  simp only [Lit.wf, IntKind.min, IntKind.max, IntKind.signed, IntKind.bits, Bool.and_eq_true, decide_eq_true_eq, if_true]
  omega
theorem rt_b {a b : Bool} (h : a = b) : Ending.returned (.bool a) = .returned (.bool b) := by rw [h]
theorem rt_i {k : IntKind} {a b : Int} (h : a = b) : Ending.returned (.int k a) = .returned (.int k b) := by rw [h]
section
variable {w : World} {s e hb N : Nat} {H : Hp}
/-- A heap's own cells. -/
theorem HeapAt.cells (h : HeapAt w s e hb N H) : ∃ wb mb, w.cell? ⟨hb, 0, none⟩ = some (.slice (some ⟨wb, 0, none⟩) (N + 1) (N + 1)) ∧ w.cell? ⟨hb, 1, none⟩ = some (.int .i64 (topN H : Nat)) ∧ w.cell? ⟨hb, 2, none⟩ = some (.map (some mb)) ∧ (∀ i, w.frozen? ⟨hb, i, none⟩ = false) ∧
    SetAt w mb H.length (fun z => (blkAt H z).isSome) ∧ ∀ (p : Int) (b : Blk), blkAt H p = some b → ∃ k : Nat, p = k ∧ 1 ≤ k ∧ k + b.sz ≤ N + 1 ∧ w.cell? ⟨wb, k, none⟩ = some (.int .i64 b.hdr) ∧ wb < w.heap.size ∧ ∀ j, j < b.fs.length → w.cell? ⟨wb, k + 1 + j, none⟩ = some (.int .i64 (b.fs.getD j 0)) := by
  obtain ⟨wb, mb, pad, hw, ho, hm, h1, h2, h3⟩ := h.ex
  refine ⟨wb, mb, hw.cell 0, hw.cell 1, hw.cell 2, fun i => hw.free i, hm, fun p b hb => ?_⟩
  obtain ⟨k, rfl, hk1, hk2, ht⟩ := blkAt_mem hb
  have htop := h.topLe
  have hc : ∀ i, i < b.sz → w.cell? ⟨wb, k + i, none⟩ = (b.mem.map (Value.int .i64))[i]? := fun i hi => by
    obtain ⟨g, c, ee, _, _, hcell, _⟩ := own_cell ho (k := k + i) (by omega)
    simp only [Value.slice.injEq, Option.some.injEq, Addr.mk.injEq] at ee
    rw [ee.1.1, hcell, ← ht, List.map_append, List.getElem?_append_left (by rw [List.length_map, memL_len]; omega), List.getElem?_map, List.getElem?_map, List.getElem?_take, if_pos hi, List.getElem?_drop]
  refine ⟨k, rfl, hk1, by omega, ?_, (ho.lt wb rfl).2, fun j hj => ?_⟩
  · have := hc 0 (by unfold Blk.sz; omega)
    rw [Nat.add_zero] at this
    rw [this]; rfl
  · have := hc (1 + j) (by unfold Blk.sz; omega)
    rw [← Nat.add_assoc] at this
    rw [this]
    unfold Blk.mem
    rw [List.getElem?_map, Nat.add_comm 1 j, List.getElem?_cons_succ, List.getElem?_eq_getElem hj, List.getD_eq_getElem?_getD, List.getElem?_eq_getElem hj]
    rfl
set_option maxHeartbeats 400000 in
theorem place_any (h : HeapAt w s e hb N H) (z : Int) (hz : (Lit.int .i64 z).wf = true) :
    Calls Try.prog 49 #[.pointer (some ⟨hb, 0, none⟩), .int .i64 z] w fun e w' => e = .returned (.int .i64 (placeF H z)) ∧ w = w' := by
  obtain ⟨hz1, hz2⟩ := wf_i64.1 hz
  by_cases h1 : 0 < z ∧ z % 2 = 0
  · obtain ⟨wb, mb, _, _, x2, _, hm, _⟩ := h.cells
    have ha := hm.ask (z := z / 2) (wf_i64.2 ⟨by omega, by omega⟩)
    have HC := fun (wx : World) => I.at_in z wx h1.1 h1.2
    have HP : Hid (placeF H z = if (blkAt H (z / 2)).isSome = true then z / 2 else 0) := by
      show _ = _
      unfold placeF
      by_cases h2 : (blkAt H (z / 2)).isSome = true
      · rw [if_pos ⟨h1.1, h1.2, h2⟩, if_pos h2]
      · rw [if_neg (fun h3 => h2 h3.2.2), if_neg h2]
    clear h hz hm hz1 hz2 h1
    generalize (blkAt H (z / 2)).isSome = b at *
    generalize z / 2 = y at *
    cases b
    all_goals
      go_enter Try.func49, Try.ntmps49
      go_wp2_with (go_at_call 73; refine (HC _).mono ?_; rintro e w' ⟨rfl, rfl⟩)
      go_ret
      exact ⟨rt_i (by rw [HP.out]; rfl), rfl⟩
  · have HC := fun (wx : World) => I.at_out z wx (by omega)
    have HP : Hid (placeF H z = 0) := by
      show _ = _
      unfold placeF
      rw [if_neg (fun h3 => h1 ⟨h3.1, h3.2.1⟩)]
    clear h hz hz1 hz2 h1
    go_enter Try.func49, Try.ntmps49
    go_wp2_with (go_at_call 73; refine (HC _).mono ?_; rintro e w' ⟨rfl, rfl⟩)
    go_ret
    exact ⟨rt_i (by rw [HP.out]), rfl⟩
set_option maxHeartbeats 400000 in
theorem isBlk_any (h : HeapAt w s e hb N H) (z : Int) (hz : (Lit.int .i64 z).wf = true) :
    Calls Try.prog 76 #[.pointer (some ⟨hb, 0, none⟩), .int .i64 z] w fun e w' => e = .returned (.bool (blkF H z).isSome) ∧ w = w' := by
  have HC := place_any h z hz
  have HP : Hid (decide (0 < placeF H z) = (blkF H z).isSome) := by
    show _ = _
    rcases hq : blkF H z with _ | b
    · rw [placeF_none hq]; rfl
    · have := placeF_pos hq
      rw [decide_eq_true (by omega)]; rfl
  clear h hz
  generalize placeF H z = p at *
  go_enter Try.func76, Try.ntmps76
  go_wp2_with fail
  refine HC.mono ?_
  rintro e w' ⟨rfl, rfl⟩
  clear HC
  go_wp2_with fail
  go_ret
  exact ⟨rt_b HP.out, rfl⟩
set_option maxHeartbeats 400000 in
theorem may_any (h : HeapAt w s e hb N H) (z : Int) (hz : (Lit.int .i64 z).wf = true) :
    Calls Try.prog 62 #[.pointer (some ⟨hb, 0, none⟩), .int .i64 z] w fun e w' => e = .returned (.bool (mayF H z)) ∧ w = w' := by
  by_cases h1 : z % 2 = 1
  · have HP : Hid (mayF H z = true) := by show _ = _; unfold mayF; rw [decide_eq_true h1]; rfl
    have HC := fun (wx : World) => I.untag_odd z wx h1
    clear h hz h1
    go_enter Try.func62, Try.ntmps62
    go_wp2_with (go_at_call 35; refine (HC _).mono ?_; rintro e w' ⟨rfl, rfl⟩)
    go_ret
    exact ⟨rt_b HP.out.symm, rfl⟩
  · have HP : Hid (mayF H z = (blkF H z).isSome) := by show _ = _; unfold mayF; rw [decide_eq_false h1]; rfl
    have HC := fun (wx : World) => I.untag_even z wx (by omega)
    have HB := Lib.hid (isBlk_any h z hz)
    clear h hz h1
    go_enter Try.func62, Try.ntmps62
    go_wp2_with (first | (go_at_call 35; refine (HC _).mono ?_; rintro e w' ⟨rfl, rfl⟩) | (go_at_call 76; refine HB.out.mono ?_; rintro e w' ⟨rfl, rfl⟩))
    go_ret
    exact ⟨rt_b HP.out.symm, rfl⟩
set_option maxHeartbeats 400000 in
theorem tag_any (h : HeapAt w s e hb N H) (z : Int) (hz : (Lit.int .i64 z).wf = true) :
    Calls Try.prog 55 #[.pointer (some ⟨hb, 0, none⟩), .int .i64 z] w fun e w' => e = .returned (.int .i64 (tagF H z)) ∧ w = w' := by
  have HC := Lib.hid (place_any h z hz)
  rcases hq : blkF H z with _ | b
  · have HP : Hid (tagF H z = -1) := by show _ = _; unfold tagF; rw [hq]
    have h0 := placeF_none hq
    rw [h0] at HC
    clear h hz hq h0
    go_enter Try.func55, Try.ntmps55
    go_wp2_with (go_at_call 49; refine HC.out.mono ?_; rintro e w' ⟨rfl, rfl⟩)
    go_ret
    exact ⟨rt_i HP.out.symm, rfl⟩
  · have HP : Hid (tagF H z = b.tag) := by show _ = _; unfold tagF; rw [hq]
    obtain ⟨wb, mb, x0, _, _, _, _, hx⟩ := h.cells
    obtain ⟨e1, e2, _⟩ := placeF_some hq
    obtain ⟨k, ek, hk1, hk2, hc, _, _⟩ := hx _ _ e2
    rw [e1, ek] at HC
    have HT := Lib.hid (hdr_rem (h.wf b (blkF_in hq)).1)
    have hh : 0 ≤ b.hdr := by unfold Blk.hdr; omega
    have hb : ((k : Int) == 0) = false := beq_eq_false_iff_ne.2 (by omega)
    have hkN : k < N + 1 := by unfold Blk.sz at hk2; omega
    have hN := h.n.2
    clear h hz hq hx e1 e2 ek hk2
    generalize b.hdr = y at *
    go_enter Try.func55, Try.ntmps55
    go_wp2_with (go_at_call 49; refine HC.out.mono ?_; rintro e w' ⟨rfl, rfl⟩)
    go_ret
    exact ⟨rt_i (by rw [HP.out, HT.out]), rfl⟩
end
end Go.Proofs.Ytcbehllfljjngaa
