/- The walks of layer 19: the program's table: Ready, Wake, End, Wait, Status, Pick, Len. -/
import Derived.Test.YtibgchnfodpehaaWalkB
namespace Go.Proofs.Ytibgchnfodpehaa
open Go.RowKit
set_option linter.unusedVariables false
attribute [local go_sem ↓] Go.wp_at_zero Go.wp_at_succ

def readyL (L : Tb) : List Int := idxL readyP L L.length
theorem ready_any (w : World) (b D : Nat) (L : Tb) (h : TabAt w b D L) :
    Calls Try.prog 13 #[.pointer (some ⟨b, 0, none⟩)] w fun e w' => ∃ A n c, e = .returned (.slice A n c) ∧ w'.ownsRow w.heap.size 3 1 (.slice A n c) n ((readyL L).map (Value.int .i64)) ∧ Below w.heap.size w w' := by
  have HT := Lib.hid h
  clear h
  go_enter Try.func13, Try.ntmps13
  go_wp2_with fail
  refine (of_ready w b D L HT.out).mono ?_
  rintro e w1 ⟨A, n, c, rfl, ho, hb⟩
  have HO := Lib.hid ho
  have HB := Lib.hid hb
  clear ho hb
  go_wp2_with fail
  go_ret
  exact ⟨A, n, c, rfl, HO.out, HB.out⟩
theorem len_any (w : World) (b D : Nat) (L : Tb) (h : TabAt w b D L) :
    Calls Try.prog 22 #[.pointer (some ⟨b, 0, none⟩)] w fun e w' => e = .returned (.int .i64 (L.length : Nat)) ∧ w = w' := by
  obtain ⟨A, c, us, hw, ho, hv, hc⟩ := h.form
  have c0 : w.cell? ⟨b, 0, none⟩ = some (.slice A L.length c) := hw.cell 0
  clear h hw ho hv
  go_enter Try.func22, Try.ntmps22
  go_wp2_with fail
  go_ret
  exact ⟨rfl, by trivial⟩
theorem tab_one {w : World} {b D : Nat} {L : Tb} {n : Int} (h : TabAt w b D L) (h0 : 0 ≤ n) (h1 : n < L.length) :
    ∃ m g c us, n = ((m : Nat) : Int) ∧ m < L.length ∧ Whole w b 52 #[.slice (some ⟨g, 0, none⟩) L.length c] ∧ b + 1 ≤ g ∧ g < w.heap.size ∧ w.ownsRow (b + 1) 54 2 (.slice (some ⟨g, 0, none⟩) L.length c) L.length (pCells L us) ∧ VarsOwn w D L us ∧ (∃ x, w.cell? ⟨g, m * 2, none⟩ = some x) ∧ (∃ x, w.cell? ⟨g, m * 2 + 1, none⟩ = some x) ∧ (∀ i, w.frozen? ⟨g, i, none⟩ = false) := by
  obtain ⟨A, c, us, hw, ho, hv, hc⟩ := h.form
  obtain ⟨m, rfl⟩ : ∃ m : Nat, n = (m : Int) := ⟨n.toNat, by omega⟩
  obtain ⟨g, rfl, hb, hg, x0, x1, hf⟩ := tab_cells (k := m) ho hv.1 rfl (by omega)
  exact ⟨m, g, c, us, rfl, by omega, hw, hb, hg, ho, hv, ⟨_, x0⟩, ⟨_, x1⟩, hf⟩
theorem isF_range {L : Tb} {n : Int} {k : Kd} (h : isF L n k = true) : 0 ≤ n ∧ n < L.length := by
  unfold isF at h
  simp only [Bool.and_eq_true, decide_eq_true_eq] at h
  exact ⟨h.1, h.2.1⟩
set_option maxHeartbeats 1000000 in
theorem end_any (w : World) (b D : Nat) (L : Tb) (n : Int) (h : TabAt w b D L) :
    Calls Try.prog 23 #[.pointer (some ⟨b, 0, none⟩), .int .i64 n] w fun e w' => e = .returned (.int .i64 (endE L n)) ∧ TabAt w' b D (endL L n) ∧ Fr 52 54 b w w' := by
  have HT := Lib.hid h
  have i1 := is_any w b D L n .ready h
  have i2 := is_any w b D L n .waits h
  have HI1 := Lib.hid i1
  have HI2 := Lib.hid i2
  clear h i1 i2
  by_cases hb : endB L n = true
  · have HE : Hid (endE L n = 0 ∧ endL L n = L.set n.toNat ⟨.over, []⟩) := by unfold endE endL; rw [if_pos hb, if_pos hb]; exact ⟨rfl, rfl⟩
    have hr : 0 ≤ n ∧ n < L.length := by
      unfold endB at hb
      rcases Bool.or_eq_true_iff.1 hb with h | h <;> exact isF_range h
    obtain ⟨m, g, c, us, rfl, hm, hw, hbg, hg, ho, hv, ⟨y0, x0⟩, ⟨y1, x1⟩, hf⟩ := tab_one HT.out hr.1 hr.2
    have HS := Lib.hid (tab_set (x := ⟨.over, []⟩) (u := .slice none 0 0) HT.out hw ho hv rfl hm (World.ownsRow_nil _ _ _ _) (by decide))
    have c0 : w.cell? ⟨b, 0, none⟩ = some (.slice (some ⟨g, 0, none⟩) L.length c) := hw.cell 0
    have hl := HT.out.len
    have f0 := hf (m * 2)
    have f1 := hf (m * 2 + 1)
    clear hw ho hv hf
    rw [show ((m : Nat) : Int).toNat = m from rfl] at HE
    unfold endB at hb
    have hc : Hid (Calls Try.prog 26 #[.pointer (some ⟨b, 0, none⟩), .int .i64 (m : Nat), .int .i64 0] w fun e w' => e = .returned (.bool (isF L (m : Nat) .ready)) ∧ w = w') := HI1.out
    have hd : Hid (Calls Try.prog 26 #[.pointer (some ⟨b, 0, none⟩), .int .i64 (m : Nat), .int .i64 1] w fun e w' => e = .returned (.bool (isF L (m : Nat) .waits)) ∧ w = w') := HI2.out
    clear HI1 HI2
    generalize isF L (m : Nat) .ready = p at *
    generalize isF L (m : Nat) .waits = r at *
    have HRE : Hid (endE L (m : Nat) = 0 ∧ endL L (m : Nat) = L.set m ⟨.over, []⟩) := HE
    obtain ⟨q, hq⟩ : ∃ q, q = L.length := ⟨_, rfl⟩
    rw [← hq] at c0 hm hl
    clear hr hq HE
    go_enter Try.func23, Try.ntmps23
    go_wp2_with fail
    refine hc.out.mono ?_
    rintro e w1 ⟨rfl, rfl⟩
    rcases p with _ | _
    · obtain rfl : r = true := by simpa using hb
      go_wp2_with fail
      refine hd.out.mono ?_
      rintro e w1 ⟨rfl, rfl⟩
      go_wp2_with fail
      go_ret
      exact ⟨ret_i HRE.out.1.symm, by rw [HRE.out.2]; exact HS.out.1, HS.out.2⟩
    · go_wp2_with fail
      go_ret
      exact ⟨ret_i HRE.out.1.symm, by rw [HRE.out.2]; exact HS.out.1, HS.out.2⟩
  · have HRE : Hid (endE L n = 1 ∧ endL L n = L) := by unfold endE endL; rw [if_neg hb, if_neg hb]; exact ⟨rfl, rfl⟩
    unfold endB at hb
    have hc : Hid (Calls Try.prog 26 #[.pointer (some ⟨b, 0, none⟩), .int .i64 n, .int .i64 0] w fun e w' => e = .returned (.bool (isF L n .ready)) ∧ w = w') := HI1.out
    have hd : Hid (Calls Try.prog 26 #[.pointer (some ⟨b, 0, none⟩), .int .i64 n, .int .i64 1] w fun e w' => e = .returned (.bool (isF L n .waits)) ∧ w = w') := HI2.out
    clear HI1 HI2
    generalize isF L n .ready = p at *
    generalize isF L n .waits = r at *
    obtain ⟨rfl, rfl⟩ : p = false ∧ r = false := by simpa using hb
    go_enter Try.func23, Try.ntmps23
    go_wp2_with fail
    refine hc.out.mono ?_
    rintro e w1 ⟨rfl, rfl⟩
    go_wp2_with fail
    refine hd.out.mono ?_
    rintro e w1 ⟨rfl, rfl⟩
    go_wp2_with fail
    go_ret
    exact ⟨ret_i HRE.out.1.symm, by rw [HRE.out.2]; exact HT.out, Fr.refl _ _ _ _⟩
end Go.Proofs.Ytibgchnfodpehaa
