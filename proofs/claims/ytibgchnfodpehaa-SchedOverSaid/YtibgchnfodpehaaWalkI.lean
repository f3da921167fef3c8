/- The walks of layer 19: the document's table: Status, End. -/
import Derived.Test.YtibgchnfodpehaaWalkH
namespace Go.Proofs.Ytibgchnfodpehaa
open Go.RowKit
set_option linter.unusedVariables false
attribute [local go_sem ↓] Go.wp_at_zero Go.wp_at_succ

theorem readyL_pos {L : Tb} {k : Nat} (hk : k < L.length) (h : readyP (L.getD k thr0) = true) : 0 < (readyL L).length := by
  unfold readyL idxL
  rw [List.length_map]
  exact List.length_pos_of_mem (a := k) (List.mem_filter.2 ⟨List.mem_range.2 hk, h⟩)
theorem readyL_zero {L : Tb} (h : ∀ j, j < L.length → readyP (L.getD j thr0) = false) : (readyL L).length = 0 := by
  unfold readyL idxL
  rw [List.length_map, List.length_eq_zero_iff, List.filter_eq_nil_iff]
  intro j hj
  rw [h j (List.mem_range.1 hj)]; decide
def anyW (L : Tb) (k : Nat) : Bool := (List.range k).any fun j => isWaits (L.getD j thr0).k
theorem anyW_succ (L : Tb) (k : Nat) : anyW L (k + 1) = (anyW L k || isWaits (L.getD k thr0).k) := by
  unfold anyW; rw [List.range_succ, List.any_append]; simp
theorem anyW_all (L : Tb) : anyW L L.length = anyWaits L := by
  rw [Bool.eq_iff_iff]
  unfold anyW anyWaits
  rw [List.any_eq_true, List.any_eq_true]
  constructor
  · rintro ⟨j, hj, h⟩
    exact ⟨_, getD_mem (List.mem_range.1 hj), h⟩
  · rintro ⟨x, hx, h⟩
    obtain ⟨j, hj, rfl⟩ := List.getElem_of_mem hx
    refine ⟨j, List.mem_range.2 hj, ?_⟩
    rw [List.getD_eq_getElem?_getD, List.getElem?_eq_getElem hj]; exact h
set_option maxHeartbeats 1000000 in
theorem rstatus_any (w : World) (b D : Nat) (L : Tb) (h : RabAt w b D L) :
    Calls Try.prog 21 #[.pointer (some ⟨b, 0, none⟩)] w fun e w' => e = .returned (.int .i64 (statusF L)) ∧ Below w.heap.size w w' := by
  obtain ⟨A, c, us, hw, ho, hv, hc⟩ := h.form
  have hl := h.len
  have HO := Lib.hid ho
  have HV := Lib.hid hv
  have HW := Lib.hid hw
  clear h hw ho hv
  obtain ⟨q, hq⟩ : ∃ q, q = L.length := ⟨_, rfl⟩
  have HQ := Lib.hid hq
  rw [← hq] at hl
  rw [← HQ.out] at HO HW
  clear hq
  go_enter Try.func21, Try.ntmps21
  go_wp2_with fail
  go_loopw [4, 3] (fun i o wr => ∃ k, i = .int .i64 (k : Nat) ∧ k ≤ q ∧ o = .bool (anyW L k) ∧ (∀ j, j < k → readyP (L.getD j thr0) = false) ∧ w = wr) (fun i _ _ => q - (intOf i).toNat)
  case atStart => exact ⟨0, rfl, by omega, rfl, fun j hj => absurd hj (by omega), rfl⟩
  case round =>
    obtain ⟨k, rfl, hk, rfl, hp, rfl⟩ := hrel
    have HP := Lib.hid hp
    clear hp
    have c0 : w.cell? ⟨b, 0, none⟩ = some (.slice A q c) := HW.out.cell 0
    by_cases hlt : k < q
    · obtain ⟨g, rfl, _, hgl, x0, x1, _, _⟩ := rab_cells (k := k) HO.out HV.out.1 HQ.out hlt
      have HAW := Lib.hid (anyW_succ L k)
      have HRE := Lib.hid (readyP_eq (L.getD k thr0))
      have HNX : Hid (readyP (L.getD k thr0) = false → ∀ j, j < k + 1 → readyP (L.getD j thr0) = false) := fun hx j hj => by
        rcases Nat.lt_or_ge j k with h | h
        · exact HP.out j h
        · rw [show j = k from by omega]; exact hx
      have HYE : Hid (readyP (L.getD k thr0) = true → statusF L = 0) := fun hx => by
        unfold statusF; rw [if_pos (readyL_pos (by rw [← HQ.out]; exact hlt) hx)]
      generalize readyP (L.getD k thr0) = rp at *
      generalize isOver (L.getD k thr0).k = p at *
      generalize isWaits (L.getD k thr0).k = r at *
      generalize anyW L k = aw at *
      rcases p with _ | _
      · rcases r with _ | _
        · have H2 := Lib.hid (HYE.out HRE.out)
          go_wp2_with fail
          go_ret
          exact ⟨ret_i H2.out.symm, Below.refl _ _⟩
        · have H2 := Lib.hid (HNX.out HRE.out)
          rcases aw with _ | _
          all_goals
            go_wp2_with fail
            exact ⟨⟨k + 1, by go_num, by omega, by rw [HAW.out]; rfl, H2.out, by trivial⟩, by simp [intOf]; omega⟩
      · have H2 := Lib.hid (HNX.out HRE.out)
        rcases aw with _ | _
        · rcases r with _ | _
          all_goals
            go_wp2_with fail
            exact ⟨⟨k + 1, by go_num, by omega, by rw [HAW.out]; rfl, H2.out, by trivial⟩, by simp [intOf]; omega⟩
        · go_wp2_with fail
          exact ⟨⟨k + 1, by go_num, by omega, by rw [HAW.out]; rfl, H2.out, by trivial⟩, by simp [intOf]; omega⟩
    · obtain rfl : k = q := by omega
      have HS : Hid (statusF L = if anyW L k = true then 2 else 1) := by
        show _ = _
        unfold statusF
        rw [readyL_zero (fun j hj => HP.out j (by have := HQ.out; omega)), if_neg (by omega), ← anyW_all, ← HQ.out]
      generalize anyW L k = aw at *
      rcases aw with _ | _
      all_goals
        go_wp2_with fail
        go_ret
        exact ⟨ret_i (by rw [HS.out]; rfl), Below.refl _ _⟩
theorem rab_one {w : World} {b D : Nat} {L : Tb} {n : Int} (h : RabAt w b D L) (h0 : 0 ≤ n) (h1 : n < L.length) :
    ∃ m g c us, n = ((m : Nat) : Int) ∧ m < L.length ∧ Whole w b 38 #[.slice (some ⟨g, 0, none⟩) L.length c] ∧ b + 1 ≤ g ∧ g < w.heap.size ∧ w.ownsRow (b + 1) 59 3 (.slice (some ⟨g, 0, none⟩) L.length c) L.length (rCells L us) ∧ VarsOwn w D L us ∧ w.cell? ⟨g, m * 3, none⟩ = some (.bool (isOver (L.getD m thr0).k)) ∧ w.cell? ⟨g, m * 3 + 1, none⟩ = some (.bool (isWaits (L.getD m thr0).k)) ∧ w.cell? ⟨g, m * 3 + 2, none⟩ = some (us.getD m nilV) ∧ (∀ i, w.frozen? ⟨g, i, none⟩ = false) := by
  obtain ⟨A, c, us, hw, ho, hv, hc⟩ := h.form
  obtain ⟨m, rfl⟩ : ∃ m : Nat, n = (m : Int) := ⟨n.toNat, by omega⟩
  obtain ⟨g, rfl, hb, hg, x0, x1, x2, hf⟩ := rab_cells (k := m) ho hv.1 rfl (by omega)
  exact ⟨m, g, c, us, rfl, by omega, hw, hb, hg, ho, hv, x0, x1, x2, hf⟩
theorem endB_eq (L : Tb) (n : Int) : endB L n = (decide (0 ≤ n) && (decide (n < L.length) && !isOver (L.getD n.toNat thr0).k)) := by
  unfold endB isF isOver
  generalize (L.getD n.toNat thr0).k = x
  cases x <;> cases decide (0 ≤ n) <;> cases decide (n < L.length) <;> rfl
set_option maxHeartbeats 1000000 in
theorem rend_any (w : World) (b D : Nat) (L : Tb) (n : Int) (h : RabAt w b D L) :
    Calls Try.prog 24 #[.pointer (some ⟨b, 0, none⟩), .int .i64 n] w fun e w' => e = .returned (.int .i64 (endE L n)) ∧ RabAt w' b D (endL L n) ∧ Fr 38 59 b w w' := by
  have HT := Lib.hid h
  clear h
  by_cases hr : 0 ≤ n ∧ n < L.length
  · obtain ⟨m, g, c, us, rfl, hm, hw, hbg, hg, ho, hv, x0, x1, x2, hf⟩ := rab_one HT.out hr.1 hr.2
    have HE : Hid (endB L (m : Nat) = !isOver (L.getD m thr0).k) := by
      show _ = _
      rw [endB_eq, decide_eq_true hr.1, decide_eq_true hr.2]; rfl
    have HS := Lib.hid (rab_set (x := ⟨.over, []⟩) (u := .slice none 0 0) HT.out hw ho hv rfl hm (World.ownsRow_nil _ _ _ _) (by decide))
    have c0 : w.cell? ⟨b, 0, none⟩ = some (.slice (some ⟨g, 0, none⟩) L.length c) := hw.cell 0
    have hl := HT.out.len
    have f0 := hf (m * 3)
    have f1 := hf (m * 3 + 1)
    have f2 := hf (m * 3 + 2)
    clear hw ho hv hf
    generalize isOver (L.getD m thr0).k = p at *
    generalize isWaits (L.getD m thr0).k = r at *
    have HRE : Hid (endE L (m : Nat) = (if (!p) = true then 0 else 1) ∧ endL L (m : Nat) = if (!p) = true then L.set m ⟨.over, []⟩ else L) := by unfold endE endL; rw [HE.out]; exact ⟨rfl, rfl⟩
    clear HE hr
    obtain ⟨q, hq⟩ : ∃ q, q = L.length := ⟨_, rfl⟩
    rw [← hq] at c0 hm hl
    clear hq
    rcases p with _ | _
    · go_enter Try.func24, Try.ntmps24
      go_wp2_with fail
      go_ret
      exact ⟨ret_i (by rw [HRE.out.1]; rfl), by rw [HRE.out.2]; exact HS.out.1, HS.out.2⟩
    · go_enter Try.func24, Try.ntmps24
      go_wp2_with fail
      go_ret
      exact ⟨ret_i (by rw [HRE.out.1]; rfl), by rw [HRE.out.2]; exact HT.out, Fr.refl _ _ _ _⟩
  · have hb : endB L n = false := by
      rw [endB_eq]
      by_cases h0 : 0 ≤ n
      · rw [decide_eq_false (p := n < L.length) (fun h => hr ⟨h0, h⟩)]; simp
      · rw [decide_eq_false h0]; rfl
    have HRE : Hid (endE L n = 1 ∧ endL L n = L) := by unfold endE endL; rw [hb]; exact ⟨rfl, rfl⟩
    obtain ⟨A, c, us, hw, ho, hv, hc⟩ := HT.out.form
    have c0 : w.cell? ⟨b, 0, none⟩ = some (.slice A L.length c) := hw.cell 0
    have hl := HT.out.len
    clear hw ho hv hb
    by_cases h0 : n < 0
    · go_enter Try.func24, Try.ntmps24
      go_wp2_with fail
      go_ret
      exact ⟨ret_i (by rw [HRE.out.1]), by rw [HRE.out.2]; exact HT.out, Fr.refl _ _ _ _⟩
    · have h1 : (L.length : Int) ≤ n := by omega
      clear hr
      generalize L.length = q at *
      go_enter Try.func24, Try.ntmps24
      go_wp2_with fail
      go_ret
      exact ⟨ret_i (by rw [HRE.out.1]), by rw [HRE.out.2]; exact HT.out, Fr.refl _ _ _ _⟩
end Go.Proofs.Ytibgchnfodpehaa
