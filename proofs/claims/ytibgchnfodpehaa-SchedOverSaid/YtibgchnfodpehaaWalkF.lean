/- The walks of layer 19: the program's table: Status, Pick; few; whether two lists are the same. -/
import Derived.Test.YtibgchnfodpehaaWalkE
namespace Go.Proofs.Ytibgchnfodpehaa
open Go.RowKit
set_option linter.unusedVariables false
attribute [local go_sem ↓] Go.wp_at_zero Go.wp_at_succ

def anyWaits (L : Tb) : Bool := L.any fun x => decide (x.k = .waits)
def statusF (L : Tb) : Int := if 0 < (readyL L).length then 0 else if anyWaits L = true then 2 else 1
theorem anyWaits_true {L : Tb} {k : Nat} (hk : k < L.length) (h : (L.getD k thr0).k = .waits) : anyWaits L = true := by
  unfold anyWaits
  rw [List.any_eq_true]
  exact ⟨_, getD_mem hk, by simpa using h⟩
theorem anyWaits_false {L : Tb} (h : ∀ j, j < L.length → (L.getD j thr0).k ≠ .waits) : anyWaits L = false := by
  unfold anyWaits
  rw [List.any_eq_false]
  intro x hx
  obtain ⟨j, hj, rfl⟩ := List.getElem_of_mem hx
  have := h j hj
  rw [List.getD_eq_getElem?_getD, List.getElem?_eq_getElem hj] at this
  simpa using this
set_option maxHeartbeats 1000000 in
theorem indexf_any (w : World) (base D : Nat) (L : Tb) (us : List Value) (A : Option Addr) (n c : Nat) (ho : w.ownsRow base 54 2 (.slice A n c) n (pCells L us)) (hv : VarsOwn w D L us) (hn : n = L.length) (hl : n ≤ 8) :
    Calls Try.prog 37 #[.slice A n c, .func (.func 35) #[] #[]] w fun e w' => ∃ r, e = .returned (.int .i64 r) ∧ (decide (0 ≤ r) = anyWaits L) ∧ Below w.heap.size w w' := by
  have HO := Lib.hid ho
  have HV := Lib.hid hv
  have HQ := Lib.hid hn
  clear ho hv hn
  go_enter Try.func37, Try.ntmps37
  go_wp2
  go_loopw [5, 8] (fun _ i wr => ∃ k : Nat, i = .int .i64 (k : Int) ∧ k ≤ n ∧ (∀ j, j < k → (L.getD j thr0).k ≠ .waits) ∧ Below w.heap.size w wr) (fun _ i _ => n - (intOf i).toNat)
  case atStart => exact ⟨0, rfl, by omega, fun j hj => absurd hj (by omega), Below.refl _ _⟩
  case round =>
    obtain ⟨k, rfl, hk, hp, hb⟩ := hrel
    have HP := Lib.hid hp
    have HB := Lib.hid hb
    clear hp hb
    by_cases hlt : k < n
    · obtain ⟨g, rfl, _, hgl, x0, x1, _⟩ := tab_cells (k := k) HO.out HV.out.1 HQ.out hlt
      obtain ⟨A2, c2, ev, hI⟩ := vars_at (k := k) HV.out (by rw [← HQ.out]; exact hlt)
      rw [ev] at x1
      replace x0 := (HB.out.cell (p := ⟨g, _, none⟩) hgl).trans x0
      replace x1 := (HB.out.cell (p := ⟨g, _, none⟩) hgl).trans x1
      clear ev hI
      have HNX : Hid ((L.getD k thr0).k ≠ .waits → ∀ j, j < k + 1 → (L.getD j thr0).k ≠ .waits) := fun hx j hj => by
        rcases Nat.lt_or_ge j k with h | h
        · exact HP.out j h
        · rw [show j = k from by omega]; exact hx
      have HYE : Hid ((L.getD k thr0).k = .waits → anyWaits L = true) := fun hx => anyWaits_true (by rw [← HQ.out]; exact hlt) hx
      generalize (L.getD k thr0).vars.length = vn at *
      generalize (L.getD k thr0).k = kk at *
      go_wp2_with fail
      refine (isWaits_any wr kk A2 vn c2).mono ?_
      rintro e w1 ⟨rfl, hb1⟩
      have HB1 := Lib.hid (HB.out.trans (hb1.mono HB.out.size))
      clear hb1 x0 x1
      by_cases hw : kk = .waits
      · rw [decide_eq_true hw]
        have H2 := Lib.hid (HYE.out hw)
        go_wp2_with fail
        go_ret
        exact ⟨_, rfl, by rw [H2.out]; simp, HB1.out⟩
      · rw [decide_eq_false hw]
        have H2 := Lib.hid (HNX.out hw)
        go_wp2_with fail
        exact ⟨⟨k + 1, by go_num, by omega, H2.out, HB1.out⟩, by simp [intOf]; omega⟩
    · have H2 := Lib.hid (anyWaits_false (L := L) (fun j hj => HP.out j (by have := HQ.out; omega)))
      go_wp2
      go_ret
      exact ⟨_, rfl, by rw [H2.out]; rfl, HB.out⟩
theorem containsf_any (w : World) (base D : Nat) (L : Tb) (us : List Value) (A : Option Addr) (n c : Nat) (ho : w.ownsRow base 54 2 (.slice A n c) n (pCells L us)) (hv : VarsOwn w D L us) (hn : n = L.length) (hl : n ≤ 8) :
    Calls Try.prog 34 #[.slice A n c, .func (.func 35) #[] #[]] w fun e w' => e = .returned (.bool (anyWaits L)) ∧ Below w.heap.size w w' := by
  have HI := Lib.hid (indexf_any w base D L us A n c ho hv hn hl)
  clear ho hv hn
  go_enter Try.func34, Try.ntmps34
  go_wp2_with fail
  refine HI.out.mono ?_
  rintro e w' ⟨r, rfl, hr, hb⟩
  have H2 := Lib.hid hr
  have HB := Lib.hid hb
  clear hr hb
  go_wp2_with fail
  go_ret
  exact ⟨ret_b H2.out, HB.out⟩
theorem own_len {w : World} {base e n : Nat} {v : Value} {zs : List Int} (h : w.ownsRow base e 1 v n (zs.map (Value.int .i64))) : zs.length = n := by
  have := h.1; rw [List.length_map, Nat.mul_one] at this; exact this
theorem readyL_len (L : Tb) : (readyL L).length ≤ L.length := by
  unfold readyL idxL
  rw [List.length_map]
  exact Nat.le_trans (List.length_filter_le _ _) (by rw [List.length_range]; exact Nat.le_refl _)
set_option maxHeartbeats 1000000 in
theorem status_any (w : World) (b D : Nat) (L : Tb) (h : TabAt w b D L) :
    Calls Try.prog 20 #[.pointer (some ⟨b, 0, none⟩)] w fun e w' => e = .returned (.int .i64 (statusF L)) ∧ Below w.heap.size w w' := by
  have HT := Lib.hid h
  clear h
  go_enter Try.func20, Try.ntmps20
  go_wp2_with fail
  refine (ready_any w b D L HT.out).mono ?_
  rintro e w1 ⟨A, n, c, rfl, ho, hb⟩
  have HN : Hid ((readyL L).length = n) := own_len ho
  have HB := Lib.hid hb
  have hn8 : n ≤ 8 := by have := readyL_len L; have h2 := HT.out.len; rw [HN.out] at this; omega
  have HT1 := Lib.hid (HT.out.below hb)
  clear ho hb
  by_cases h0 : 0 < n
  · have HS : Hid (statusF L = 0) := by show _ = _; unfold statusF; rw [HN.out, if_pos h0]
    go_wp2_with fail
    go_ret
    exact ⟨ret_i HS.out.symm, HB.out⟩
  · obtain rfl : n = 0 := by omega
    have HS : Hid (statusF L = if anyWaits L = true then 2 else 1) := by show _ = _; unfold statusF; rw [HN.out, if_neg h0]
    obtain ⟨A1, c1, us, hw, ho, hv, hc⟩ := HT1.out.form
    have c0 : w1.cell? ⟨b, 0, none⟩ = some (.slice A1 L.length c1) := hw.cell 0
    have HC := Lib.hid (containsf_any w1 (b + 1) D L us A1 L.length c1 ho hv rfl HT1.out.len)
    clear hw ho hv
    go_wp2_with fail
    refine HC.out.mono ?_
    rintro e w2 ⟨rfl, hb2⟩
    have HB2 := Lib.hid (HB.out.trans (hb2.mono HB.out.size))
    clear hb2
    rcases hq : anyWaits L with _ | _
    · rw [hq] at HS
      go_wp2_with fail
      go_ret
      exact ⟨ret_i (by rw [HS.out]; rfl), HB2.out⟩
    · rw [hq] at HS
      go_wp2_with fail
      go_ret
      exact ⟨ret_i (by rw [HS.out]; rfl), HB2.out⟩
end Go.Proofs.Ytibgchnfodpehaa
