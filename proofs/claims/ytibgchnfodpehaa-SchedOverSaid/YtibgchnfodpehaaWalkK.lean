/- The walks of layer 19: the document's table: Wait. -/
import Derived.Test.YtibgchnfodpehaaWalkJ
namespace Go.Proofs.Ytibgchnfodpehaa
open Go.RowKit
set_option linter.unusedVariables false
attribute [local go_sem ↓] Go.wp_at_zero Go.wp_at_succ

theorem Fr.drew {p q : TypeId} {b : Nat} {w w1 : World} (h : Fr p q b w w1) : Fr p q b w w1.drew := ⟨h.kt, h.below.drew⟩
theorem isF_ready (L : Tb) (n : Int) : isF L n .ready = (decide (0 ≤ n) && (decide (n < L.length) && (!isOver (L.getD n.toNat thr0).k && !isWaits (L.getD n.toNat thr0).k))) := by
  unfold isF isOver isWaits
  generalize (L.getD n.toNat thr0).k = x
  cases x <;> cases decide (0 ≤ n) <;> cases decide (n < L.length) <;> rfl
set_option maxHeartbeats 2000000 in
theorem rwait_any (w : World) (b D : Nat) (L : Tb) (n : Int) (A : Option Addr) (k c : Nat) (vs : List Int) (h : RabAt w b D L) (ha : Arg w A k c vs) :
    Calls Try.prog 33 #[.pointer (some ⟨b, 0, none⟩), .int .i64 n, .slice A k c] w fun e w' => e = .returned (.int .i64 (waitE L n)) ∧ RabAt w' b D (waitL L n vs) ∧ Fr 38 59 b w w' := by
  have HT := Lib.hid h
  have HAR := Lib.hid ha
  clear h ha
  by_cases hr : 0 ≤ n ∧ n < L.length
  · obtain ⟨m, g, cc, us, rfl, hm, hw, hbg, hg, ho, hv, x0, x1, x2, hf⟩ := rab_one HT.out hr.1 hr.2
    have HE : Hid (isF L (m : Nat) .ready = (!isOver (L.getD m thr0).k && !isWaits (L.getD m thr0).k)) := by
      show _ = _
      rw [isF_ready, decide_eq_true hr.1, decide_eq_true hr.2]; rfl
    have c0 : w.cell? ⟨b, 0, none⟩ = some (.slice (some ⟨g, 0, none⟩) L.length cc) := hw.cell 0
    have hl := HT.out.len
    generalize isOver (L.getD m thr0).k = p at *
    generalize isWaits (L.getD m thr0).k = r at *
    have HRE : Hid (waitE L (m : Nat) = (if (!p && !r) = true then 0 else 1) ∧ waitL L (m : Nat) vs = if (!p && !r) = true then L.set m ⟨.waits, vs⟩ else L) := by unfold waitE waitL; rw [HE.out]; exact ⟨rfl, rfl⟩
    clear HE hr
    by_cases hpr : p = false ∧ r = false
    · obtain ⟨rfl, rfl⟩ := hpr
      have HVL : Hid (vs.length = k) := HAR.out.1.1
      have HK : Hid (k ≤ 12) := HAR.out.2.1
      have key : ∀ w1 : World, Below w.heap.size w w1 → ∀ A' c', w1.ownsRow w.heap.size 3 1 (.slice A' k c') k (vs.map (Value.int .i64)) →
          (RabAt (((w1.setCell ⟨g, m * 3, none⟩ (.bool false)).setCell ⟨g, m * 3 + 1, none⟩ (.bool true)).setCell ⟨g, m * 3 + 2, none⟩ (.slice A' k c')) b D (L.set m ⟨.waits, vs⟩) ∧ Fr 38 59 b w (((w1.setCell ⟨g, m * 3, none⟩ (.bool false)).setCell ⟨g, m * 3 + 1, none⟩ (.bool true)).setCell ⟨g, m * 3 + 2, none⟩ (.slice A' k c'))) := fun w1 hb1 A' c' ho1 => by
        have t1 := HT.out.below hb1
        have hw1 := hw.below hb1 hw.lt
        have := rab_set (x := ⟨.waits, vs⟩) (u := .slice A' k c') t1 hw1 (own_below ho hb1 (Nat.le_refl _)) ⟨hv.1, fun i hi => ⟨own_below (hv.2 i hi).1 hb1 (Nat.le_refl _), (hv.2 i hi).2⟩⟩ rfl hm (by show w1.ownsRow D 3 1 _ vs.length _; rw [HVL.out]; exact own_more ho1 HT.out.hD) (by show vs.length ≤ 12; rw [HVL.out]; exact HK.out)
        exact ⟨this.1, (Fr.of_below hb1 (by have := HT.out.size; omega)).trans this.2⟩
      have KEY := Lib.hid key
      have hx : ∀ w1 : World, Below w.heap.size w w1 → w1.cell? ⟨b, 0, none⟩ = some (.slice (some ⟨g, 0, none⟩) L.length cc) ∧ w1.cell? ⟨g, m * 3, none⟩ = some (.bool false) ∧ w1.cell? ⟨g, m * 3 + 1, none⟩ = some (.bool false) ∧ w1.cell? ⟨g, m * 3 + 2, none⟩ = some (us.getD m nilV) ∧ w1.frozen? ⟨g, m * 3, none⟩ = false ∧ w1.frozen? ⟨g, m * 3 + 1, none⟩ = false ∧ w1.frozen? ⟨g, m * 3 + 2, none⟩ = false := fun w1 hb1 => by
        obtain ⟨g', cur, e, _, hG⟩ := row_at ho (by omega)
        obtain rfl : g = g' := by simpa using e
        have hG1 := hG.below hb1 hG.lt
        exact ⟨(hw.below hb1 hw.lt).cell 0, (hb1.cell (p := ⟨g, m * 3, none⟩) hg).trans x0, (hb1.cell (p := ⟨g, m * 3 + 1, none⟩) hg).trans x1, (hb1.cell (p := ⟨g, m * 3 + 2, none⟩) hg).trans x2, hG1.free _, hG1.free _, hG1.free _⟩
      have HX := Lib.hid hx
      have HBX := Lib.hid (Whole.made w 59 #[.bool false, .bool true, .slice none 0 0])
      have HB1 : Hid (Below w.heap.size w (w.alloc (.cells #[.bool false, .bool true, .slice none 0 0] 59))) := (Below.refl _ _).alloc (Nat.le_refl _) _
      clear hw ho hv hf key hx
      obtain ⟨q, hq⟩ : ∃ q, q = L.length := ⟨_, rfl⟩
      rw [← hq] at c0 hm hl HX
      clear hq
      rcases HAR.out.2.2 with ⟨rfl, rfl, rfl, rfl⟩ | h0
      · have e2 : (w.alloc (.cells #[.bool false, .bool true, .slice none 0 0] 59)).cell? ⟨w.heap.size, 2, none⟩ = some (.slice none 0 0) := HBX.out.cell 2
        have z2 := HBX.out.free 2
        have HB8 := HB1
        have HW8 := HBX
        clear HAR
        go_enter Try.func33, Try.ntmps33
        go_wp2_with fail
        generalize hw8 : w.alloc (.cells #[.bool false, .bool true, .slice none 0 0] 59) = w8 at *
        clear hw8
        have HEND := Lib.hid (KEY.out w8 HB8.out none 0 (World.ownsRow_nil _ _ _ _))
        obtain ⟨e0, e1, e2', e3, e4, e5, e6⟩ := HX.out w8 HB8.out
        have y0 : w8.cell? ⟨w.heap.size, 0, none⟩ = some (.bool false) := HW8.out.cell 0
        have y1 : w8.cell? ⟨w.heap.size, 1, none⟩ = some (.bool true) := HW8.out.cell 1
        have y2 : w8.cell? ⟨w.heap.size, 2, none⟩ = some (.slice none 0 0) := HW8.out.cell 2
        clear HX KEY c0 x0 x1 x2 e2 HB1 HBX z2
        go_region
        all_goals
          go_wp2
          go_ret
          exact ⟨ret_i (by rw [HRE.out.1]; rfl), by rw [HRE.out.2]; exact HEND.out.1.drew, HEND.out.2.drew⟩
      · obtain ⟨ab, ao, rfl, _, _⟩ := HAR.out.1.2 h0
        have HNW := Lib.hid (ints_news HAR.out.1 HB1.out)
        have e2 : (w.alloc (.cells #[.bool false, .bool true, .slice none 0 0] 59)).cell? ⟨w.heap.size, 2, none⟩ = some (.slice none 0 0) := HBX.out.cell 2
        clear HAR
        go_enter Try.func33, Try.ntmps33
        go_wp2_with (at_builtin; refine list_app_from ty_ints (v := .slice none 0 0) (base := w.heap.size + 1) rfl _ _ rfl rfl (World.ownsRow_nil _ _ _ _) ⟨ab, ao, none⟩ k c (vs.map (Value.int .i64)) rfl HNW.out (by rw [List.length_map, HVL.out, Nat.mul_one]) (by intro u hu; obtain ⟨z, _, rfl⟩ := List.mem_map.1 hu; rfl) h0 (by have := HK.out; omega) (by decide) (by simp) ?_; intro gv cv w7 hap; have HA := Lib.hid hap.own; have HB7 : Hid (Below w.heap.size w w7) := hap.below (World.ownsRow_nil _ _ _ _) HB1.out (by omega) (by simp); have HW7 : Hid (Whole w7 w.heap.size 59 #[.bool false, .bool true, .slice none 0 0]) := hap.stays (World.ownsRow_nil _ _ _ _) HBX.out (by decide); have z1 := HW7.out.cell 2; have z2 := HW7.out.free 2; clear hap)
        have HB8 := Lib.hid (HB7.out.setCell (p := ⟨w.heap.size, 2, none⟩) (Nat.le_refl _) (.slice (some ⟨gv, 0, none⟩) (0 + k) cv))
        have HW8 := Lib.hid (HW7.out.put 2 (.slice (some ⟨gv, 0, none⟩) (0 + k) cv))
        have HA8 := Lib.hid (own_setCell HA.out (p := ⟨w.heap.size, 2, none⟩) (fun hh => by have := (HA.out.lt _ hh).1; simp at this; omega) (.slice (some ⟨gv, 0, none⟩) (0 + k) cv))
        clear z1 z2 HB7 HW7 HA
        rw [Nat.zero_add] at HB8 HW8 HA8
        rw [List.nil_append] at HA8
        generalize hw8 : w7.setCell ⟨w.heap.size, 2, none⟩ (.slice (some ⟨gv, 0, none⟩) k cv) = w8 at *
        clear hw8
        have HEND := Lib.hid (KEY.out w8 HB8.out _ _ (own_more HA8.out (by omega)))
        obtain ⟨e0, e1, e2', e3, e4, e5, e6⟩ := HX.out w8 HB8.out
        have y0 : w8.cell? ⟨w.heap.size, 0, none⟩ = some (.bool false) := HW8.out.cell 0
        have y1 : w8.cell? ⟨w.heap.size, 1, none⟩ = some (.bool true) := HW8.out.cell 1
        have y2 : w8.cell? ⟨w.heap.size, 2, none⟩ = some (.slice (some ⟨gv, 0, none⟩) k cv) := HW8.out.cell 2
        clear HX KEY c0 x0 x1 x2 e2 HNW HB1 HBX
        go_region
        all_goals
          go_wp2
          go_ret
          exact ⟨ret_i (by rw [HRE.out.1]; rfl), by rw [HRE.out.2]; exact HEND.out.1.drew, HEND.out.2.drew⟩
    · have hcase : p = true ∨ (p = false ∧ r = true) := by
        rcases p with _ | _
        · rcases r with _ | _
          · exact absurd ⟨rfl, rfl⟩ hpr
          · exact .inr ⟨rfl, rfl⟩
        · exact .inl rfl
      clear hpr hw ho hv hf
      obtain ⟨q, hq⟩ : ∃ q, q = L.length := ⟨_, rfl⟩
      rw [← hq] at c0 hm hl
      clear hq
      rcases hcase with rfl | ⟨rfl, rfl⟩
      all_goals
        go_enter Try.func33, Try.ntmps33
        go_wp2_with fail
        go_ret
        exact ⟨ret_i (by rw [HRE.out.1]; rfl), by rw [HRE.out.2]; exact HT.out, Fr.refl _ _ _ _⟩
  · have hb : isF L n .ready = false := by
      rw [isF_ready]
      by_cases h0 : 0 ≤ n
      · rw [decide_eq_false (p := n < L.length) (fun h => hr ⟨h0, h⟩)]; simp
      · rw [decide_eq_false h0]; rfl
    have HRE : Hid (waitE L n = 1 ∧ waitL L n vs = L) := by unfold waitE waitL; rw [hb]; exact ⟨rfl, rfl⟩
    obtain ⟨A', c', us, hw, ho, hv, hc⟩ := HT.out.form
    have c0 : w.cell? ⟨b, 0, none⟩ = some (.slice A' L.length c') := hw.cell 0
    have hl := HT.out.len
    clear hw ho hv hb
    by_cases h0 : n < 0
    · go_enter Try.func33, Try.ntmps33
      go_wp2_with fail
      go_ret
      exact ⟨ret_i (by rw [HRE.out.1]), by rw [HRE.out.2]; exact HT.out, Fr.refl _ _ _ _⟩
    · have h1 : (L.length : Int) ≤ n := by omega
      clear hr
      generalize L.length = q at *
      go_enter Try.func33, Try.ntmps33
      go_wp2_with fail
      go_ret
      exact ⟨ret_i (by rw [HRE.out.1]), by rw [HRE.out.2]; exact HT.out, Fr.refl _ _ _ _⟩
end Go.Proofs.Ytibgchnfodpehaa
