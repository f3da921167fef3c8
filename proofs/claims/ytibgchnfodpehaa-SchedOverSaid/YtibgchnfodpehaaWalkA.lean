/- The walks of layer 19: what is asked of the program's table. -/
import Derived.Test.YtibgchnfodpehaaTab
import Derived.OwnWalk
import Derived.Deep.DeepMust
namespace Go.Proofs.Ytibgchnfodpehaa
open Go.RowKit
set_option linter.unusedVariables false
attribute [local go_sem ↓] Go.wp_at_zero Go.wp_at_succ

theorem ret_b {a b : Bool} (h : a = b) : Ending.returned (.bool a) = .returned (.bool b) := by rw [h]
theorem ret_i {k : IntKind} {a b : Int} (h : a = b) : Ending.returned (.int k a) = .returned (.int k b) := by rw [h]
def isF (L : Tb) (n : Int) (k : Kd) : Bool := decide (0 ≤ n) && (decide (n < L.length) && decide ((L.getD n.toNat thr0).k = k))
def addL (L : Tb) : Tb := if L.length = 8 then L else L ++ [thr0]
def addA (L : Tb) : Int := if L.length = 8 then 0 else L.length
def addE (L : Tb) : Int := if L.length = 8 then 16 else 0
def waitL (L : Tb) (n : Int) (vs : List Int) : Tb := if isF L n .ready = true then L.set n.toNat ⟨.waits, vs⟩ else L
def waitE (L : Tb) (n : Int) : Int := if isF L n .ready = true then 0 else 1
def endB (L : Tb) (n : Int) : Bool := isF L n .ready || isF L n .waits
def endL (L : Tb) (n : Int) : Tb := if endB L n = true then L.set n.toNat ⟨.over, []⟩ else L
def endE (L : Tb) (n : Int) : Int := if endB L n = true then 0 else 1
theorem kN_inj {a b : Kd} : kN a = kN b ↔ a = b := by cases a <;> cases b <;> decide

theorem new_any (w : World) : Calls Try.prog 8 #[] w fun e w' => e = .returned (.pointer (some ⟨w.heap.size, 0, none⟩)) ∧ w' = w.alloc (.cells #[.slice none 0 0] 52) := by
  go_enter Try.func8, Try.ntmps8
  go_wp2_with fail
  go_ret
  exact ⟨rfl, rfl⟩
theorem tab_new (w : World) (D : Nat) (hD : D ≤ w.heap.size + 1) : TabAt (w.alloc (.cells #[.slice none 0 0] 52)) w.heap.size D [] :=
  ⟨⟨_, [], Whole.made _ _ _, World.ownsRow_nil _ _ _ _, rfl, fun k hk => absurd hk (by simp)⟩, by decide, by simp, by simpa using hD⟩
set_option maxHeartbeats 1000000 in
theorem is_any (w : World) (b D : Nat) (L : Tb) (n : Int) (k : Kd) (h : TabAt w b D L) :
    Calls Try.prog 26 #[.pointer (some ⟨b, 0, none⟩), .int .i64 n, .int .i64 (kN k)] w fun e w' => e = .returned (.bool (isF L n k)) ∧ w = w' := by
  obtain ⟨A, c, us, hw, ho, hv, hc⟩ := h.form
  have c0 : w.cell? ⟨b, 0, none⟩ = some (.slice A L.length c) := hw.cell 0
  have hl := h.len
  unfold isF
  by_cases h0 : 0 ≤ n
  · by_cases h1 : n < L.length
    · obtain ⟨m, rfl⟩ : ∃ m : Nat, n = (m : Int) := ⟨n.toNat, by omega⟩
      obtain ⟨g, rfl, _, _, x0, x1, _⟩ := tab_cells (k := m) ho hv.1 rfl (by omega)
      have hm : m < L.length := by omega
      rw [show ((m : Nat) : Int).toNat = m from rfl]
      have hk : decide ((L.getD m thr0).k = k) = decide (kN (L.getD m thr0).k = kN k) := by
        rw [decide_eq_decide]; exact kN_inj.symm
      rw [hk]
      generalize kN (L.getD m thr0).k = x at *
      generalize kN k = y at *
      have HO := Lib.hid ho
      clear ho hw hv h hk
      generalize L.length = q at *
      go_enter Try.func26, Try.ntmps26
      go_wp2_with fail
      go_ret
      refine ⟨ret_b ?_, rfl⟩
      simp only [hm, Int.ofNat_lt, h0, decide_true, Bool.true_and]
      rcases Decidable.em (x = y) with h | h <;> simp [h]
    · clear ho hw hv h
      generalize L.length = q at *
      go_enter Try.func26, Try.ntmps26
      go_wp2_with fail
      go_ret
      exact ⟨ret_b (by simp; intro h; omega), rfl⟩
  · clear ho hw hv h
    go_enter Try.func26, Try.ntmps26
    go_wp2_with fail
    go_ret
    exact ⟨ret_b (by simp; intro h; omega), rfl⟩
theorem addL_len {L : Tb} (h : L.length ≤ 8) : (addL L).length ≤ 8 := by 
  unfold addL; split
  · exact h
  · rw [List.length_append]; simp only [List.length_cons, List.length_nil]; omega
set_option maxHeartbeats 1000000 in
theorem add_any (w : World) (b D : Nat) (L : Tb) (h : TabAt w b D L) :
    Calls Try.prog 9 #[.pointer (some ⟨b, 0, none⟩)] w fun e w' => e = .returned (.tuple #[.int .i64 (addA L), .int .i64 (addE L)]) ∧ TabAt w' b D (addL L) ∧ Fr 52 54 b w w' := by
  obtain ⟨A, c, us, hw, ho, hv, hc⟩ := h.form
  have hl := h.len
  have HT := Lib.hid h
  have HW := Lib.hid hw
  have HO := Lib.hid ho
  have HV := Lib.hid hv
  have c0 : w.cell? ⟨b, 0, none⟩ = some (.slice A L.length c) := hw.cell 0
  have c0f := hw.free 0
  clear h hw ho hv
  by_cases h8 : L.length = 8
  · unfold addL addA addE
    rw [if_pos h8, if_pos h8, if_pos h8]
    rw [h8] at c0
    go_enter Try.func9, Try.ntmps9
    go_wp2_with fail
    go_ret2
    exact ⟨rfl, HT.out, Fr.refl _ _ _ _⟩
  · unfold addL addA addE
    rw [if_neg h8, if_neg h8, if_neg h8]
    have c0b : ∀ o, (w.alloc o).cell? ⟨b, 0, none⟩ = some (.slice A L.length c) := fun o => (HW.out.alloc o).cell 0
    have HB := Lib.hid HT.out.size
    obtain ⟨q, hq⟩ : ∃ q, q = L.length := ⟨_, rfl⟩
    have HQ := Lib.hid hq
    rw [← hq] at c0 c0b h8 hl
    clear hq
    rw [← HQ.out] at HO HW
    go_enter Try.func9, Try.ntmps9
    go_wp2_with (at_builtin; refine list_app ty_thr (v := .slice A q c) rfl _ _ rfl rfl (HO.out.alloc _) w.heap.size 1 [.int .i64 0, .slice none 0 0] rfl (Whole.made w 54 _) rfl (by simp [Value.oneCell']) (by decide) (by omega) (by decide) (by have := HB.out; simp; omega) ?_; intro gv cv w7 hap; have HA := Lib.hid (tab_add HT.out HW.out HV.out HO.out HQ.out (by omega) hap); have z1 : w7.cell? ⟨b, 0, none⟩ = some (.slice A q c) := HA.out.2.2.cell 0; have z2 := HA.out.2.2.free 0; have z3 : (w7.setCell ⟨b, 0, none⟩ (.slice (some ⟨gv, 0, none⟩) (q + 1) cv)).cell? ⟨b, 0, none⟩ = some (.slice (some ⟨gv, 0, none⟩) (q + 1) cv) := (Whole.put HA.out.2.2 0 _).cell 0; clear hap)
    go_ret2
    refine ⟨?_, HA.out.1, HA.out.2.1⟩
    rw [← HQ.out]; rfl
set_option maxHeartbeats 1000000 in
theorem radd_any (w : World) (b D : Nat) (L : Tb) (h : RabAt w b D L) :
    Calls Try.prog 32 #[.pointer (some ⟨b, 0, none⟩)] w fun e w' => e = .returned (.tuple #[.int .i64 (addA L), .int .i64 (addE L)]) ∧ RabAt w' b D (addL L) ∧ Fr 38 59 b w w' := by
  obtain ⟨A, c, us, hw, ho, hv, hc⟩ := h.form
  have hl := h.len
  have HT := Lib.hid h
  have HW := Lib.hid hw
  have HO := Lib.hid ho
  have HV := Lib.hid hv
  have c0 : w.cell? ⟨b, 0, none⟩ = some (.slice A L.length c) := hw.cell 0
  have c0f := hw.free 0
  clear h hw ho hv
  by_cases h8 : L.length = 8
  · unfold addL addA addE
    rw [if_pos h8, if_pos h8, if_pos h8]
    rw [h8] at c0
    go_enter Try.func32, Try.ntmps32
    go_wp2_with fail
    go_ret2
    exact ⟨rfl, HT.out, Fr.refl _ _ _ _⟩
  · unfold addL addA addE
    rw [if_neg h8, if_neg h8, if_neg h8]
    have c0b : ∀ o, (w.alloc o).cell? ⟨b, 0, none⟩ = some (.slice A L.length c) := fun o => (HW.out.alloc o).cell 0
    have HB := Lib.hid HT.out.size
    obtain ⟨q, hq⟩ : ∃ q, q = L.length := ⟨_, rfl⟩
    have HQ := Lib.hid hq
    rw [← hq] at c0 c0b h8 hl
    clear hq
    rw [← HQ.out] at HO HW
    go_enter Try.func32, Try.ntmps32
    go_wp2_with (at_builtin; refine list_app ty_rthr (v := .slice A q c) rfl _ _ rfl rfl (HO.out.alloc _) w.heap.size 1 [.bool false, .bool false, .slice none 0 0] rfl (Whole.made w 59 _) rfl (by simp [Value.oneCell']) (by decide) (by omega) (by decide) (by have := HB.out; simp; omega) ?_; intro gv cv w7 hap; have HA := Lib.hid (rab_add HT.out HW.out HV.out HO.out HQ.out (by omega) hap); have z1 : w7.cell? ⟨b, 0, none⟩ = some (.slice A q c) := HA.out.2.2.cell 0; have z2 := HA.out.2.2.free 0; have z3 : (w7.setCell ⟨b, 0, none⟩ (.slice (some ⟨gv, 0, none⟩) (q + 1) cv)).cell? ⟨b, 0, none⟩ = some (.slice (some ⟨gv, 0, none⟩) (q + 1) cv) := (Whole.put HA.out.2.2 0 _).cell 0; clear hap)
    go_ret2
    refine ⟨?_, HA.out.1, HA.out.2.1⟩
    rw [← HQ.out]; rfl
end Go.Proofs.Ytibgchnfodpehaa
