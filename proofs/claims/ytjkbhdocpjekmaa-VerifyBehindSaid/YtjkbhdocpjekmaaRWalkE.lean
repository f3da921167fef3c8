/- The walks of layer 14's document: an instruction is gone through. -/
import Derived.Test.YtjkbhdocpjekmaaRMemB
namespace Go.Proofs.Ytjkbhdocpjekmaa
open Go.RowKit
set_option linter.unusedVariables false
attribute [local go_sem ↓] Go.wp_at_zero Go.wp_at_succ

def want1 (op : Int) : Int := if op = 27 then 26 else 21
set_option maxRecDepth 100000 in
set_option maxHeartbeats 8000000 in
theorem step_any (w : World) (v : Value) (c : Cod) (n k H L : Nat) (all : List (Option St)) (s : St) (hc : CodAt w H v c) (hn : n < c.funs.length) (hk : k < L) (hcl : (c.funs.getD n bdy0).code.length = L) (hl : all.length = L) (hall : AllAt w H all)
    (hs : all.getD k none = some s) (hsok : StOK 100000 s) (hb : ∀ (j : Nat) t, all.getD j none = some t → t.m.length ≤ 100000) (hL : L ≤ 1000) (hst : (c.funs.getD n bdy0).stack ≤ 60)
    (hi : ((c.funs.getD n bdy0).code.getD k ins0).ok = true) :
    Calls Try.prog 31 #[v, .int .i64 (n : Int), .int .i64 (k : Int), .slice (some ⟨H, 0, none⟩) L L] w (StepPost w c n (c.funs.getD n bdy0) k H all s) := by
  obtain ⟨FA, fn, fc, IA, inn, ic, TA, tn, tc, rfl, h1, h2, h3, hf, hi2, ht⟩ := hc.form
  have hn2 : n < fn := by rw [← h1.1]; exact hn
  obtain ⟨g, off, rfl, hg, c0, c1, c2, CA, cn, cc, c3, hI, hcn⟩ := h1.at_ hn2
  have HC := Lib.hid hc
  have HLH : Hid (H < w.heap.size) := hall.lt
  have HNN := Lib.hid hn
  have hgw : g < w.heap.size := Nat.lt_trans hg hall.lt
  have hHw : H < w.heap.size := hall.lt
  clear h1 h2 h3 hc
  obtain ⟨EA, m, ec, a0, a1, a2, hm, hEA⟩ := hall.at_ (k := k) (by rw [hl]; exact hk)
  have HS := Lib.hid hs
  rw [hs] at a0 a1 hm
  dsimp only [Option.isSome_some, Option.getD_some] at a0 a1 hm
  generalize hfe : c.funs.getD n bdy0 = f at *
  have HF := Lib.hid hfe
  clear hfe
  obtain ⟨kept, locals, stack, code⟩ := f
  dsimp only at c0 c1 c2 c3 hI hcl hst hi
  have hcn2 : cn = L := by rw [← hI.1, hcl]
  subst hcn2
  obtain ⟨gi, oi, rfl, hgi, i0, i1, i2⟩ := hI.at_ hk
  have hgiw : gi < w.heap.size := Nat.lt_trans hgi hHw
  generalize hie : code.getD k ins0 = i at *
  have HI : Hid ((⟨kept, locals, stack, code⟩ : Bdy).code.getD k ins0 = i) := hie
  clear hie
  obtain ⟨op, a, b⟩ := i
  dsimp only at i0 i1 i2
  have hio : 0 ≤ a ∧ a ≤ 65535 ∧ 0 ≤ b ∧ b ≤ 65535 := by
    simp only [Ins.ok, insOK, decide_eq_true_eq] at hi
    exact ⟨hi.2.1, hi.2.2.1, hi.2.2.2.1, hi.2.2.2.2.1⟩
  obtain ⟨ha0, ha1, hb0, hb1⟩ := hio
  have HEB := Lib.hid (eff_bounds c n ⟨kept, locals, stack, code⟩ ⟨op, a, b⟩ hb0 hb1)
  have HBASE := Lib.hid hsok.base
  obtain ⟨sd, sm⟩ := s
  have hsd0 : 0 ≤ sd := hsok.1
  have hsd1 : sd ≤ 1000 := hsok.2.1
  have hml : m ≤ 100000 := by rw [← hm.1]; exact hsok.2.2.1
  dsimp only at a1 hm
  have HSOK := Lib.hid hsok
  have HM := Lib.hid hm
  have HEA := Lib.hid hEA
  have HBN := Lib.hid hb
  have HL := Lib.hid hl
  have HALL := Lib.hid hall
  have HCL := Lib.hid hcl
  clear hi hsok hm hEA hb hl hall hcl hs hI
  obtain ⟨w3, hw3⟩ : ∃ w3, w3 = ((w.alloc (.cells #[.slice (some ⟨g, off, none⟩) fn fc, .slice IA inn ic, .slice TA tn tc, .int .i64 c.lets] 26)).alloc (.cells #[.int .i64 kept, .int .i64 locals, .int .i64 stack, .slice (some ⟨gi, oi, none⟩) cn cc] 40)).alloc (.cells #[.int .i64 op, .int .i64 a, .int .i64 b] 36) := ⟨_, rfl⟩
  have HB3 : Hid (Below w.heap.size w w3) := by show Below _ _ _; rw [hw3]; exact (((Below.refl _ _).alloc (Nat.le_refl _) _).alloc (by simp) _).alloc (by simp; omega) _
  have HZ3 : Hid (w3.heap.size = w.heap.size + 1 + 1 + 1) := by show _ = _; rw [hw3]; simp
  have HW0 : Hid (Whole w3 w.heap.size 26 #[.slice (some ⟨g, off, none⟩) fn fc, .slice IA inn ic, .slice TA tn tc, .int .i64 c.lets]) := by show Whole _ _ _ _; rw [hw3]; exact ((Whole.made _ _ _).alloc _).alloc _
  have HW1 : Hid (Whole w3 (w.heap.size + 1) 40 #[.int .i64 kept, .int .i64 locals, .int .i64 stack, .slice (some ⟨gi, oi, none⟩) cn cc]) := by
    show Whole _ _ _ _; rw [hw3]
    have := Whole.made (w.alloc (.cells #[.slice (some ⟨g, off, none⟩) fn fc, .slice IA inn ic, .slice TA tn tc, .int .i64 c.lets] 26)) 40 #[.int .i64 kept, .int .i64 locals, .int .i64 stack, .slice (some ⟨gi, oi, none⟩) cn cc]
    exact Whole.alloc (by simpa using this) _
  have HW2 : Hid (Whole w3 (w.heap.size + 1 + 1) 36 #[.int .i64 op, .int .i64 a, .int .i64 b]) := by
    show Whole _ _ _ _; rw [hw3]
    have := Whole.made ((w.alloc (.cells #[.slice (some ⟨g, off, none⟩) fn fc, .slice IA inn ic, .slice TA tn tc, .int .i64 c.lets] 26)).alloc (.cells #[.int .i64 kept, .int .i64 locals, .int .i64 stack, .slice (some ⟨gi, oi, none⟩) cn cc] 40)) 36 #[.int .i64 op, .int .i64 a, .int .i64 b]
    simpa using this
  have HX := Lib.hid hw3
  clear hw3
  go_enter Try.func31, Try.ntmps31
  go_upto_region 3 with (fail)
  rw [← HX.out]
  replace a0 := (HB3.out.cell (p := ⟨H, _, none⟩) hHw).trans a0
  replace a1 := (HB3.out.cell (p := ⟨H, _, none⟩) hHw).trans a1
  replace a2 := (HB3.out.cell (p := ⟨H, _, none⟩) hHw).trans a2
  clear HX c0 c1 c2 c3 i0 i1 i2
  go_upto_region 4 with (fail)
  obtain ⟨w4, hw4⟩ : ∃ w4, w4 = w3.alloc (.cells #[.bool true, .int .i64 sd, .slice EA m ec] 59) := ⟨_, rfl⟩
  rw [← hw4, HZ3.out]
  have HB4 : Hid (Below w3.heap.size w3 w4) := by show Below _ _ _; rw [hw4]; exact (Below.refl _ _).alloc (Nat.le_refl _) _
  have HW3 : Hid (Whole w4 (w.heap.size + 1 + 1 + 1) 59 #[.bool true, .int .i64 sd, .slice EA m ec]) := by show Whole _ _ _ _; rw [hw4, ← HZ3.out]; exact Whole.made _ _ _
  replace HW0 := Lib.hid (HW0.out.below HB4.out HW0.out.lt)
  replace HW1 := Lib.hid (HW1.out.below HB4.out HW1.out.lt)
  replace HW2 := Lib.hid (HW2.out.below HB4.out HW2.out.lt)
  have HBB4 : Hid (Below w.heap.size w w4) := HB3.out.trans (HB4.out.mono HB3.out.size)
  have HZ4 : Hid (w4.heap.size = w.heap.size + 1 + 1 + 1 + 1) := by show _ = _; rw [hw4]; simp [HZ3.out]
  clear hw4 a0 a1 a2 HB4 HZ3 HB3
  have p0 : w4.cell? ⟨w.heap.size, 0, none⟩ = some (.slice (some ⟨g, off, none⟩) fn fc) := HW0.out.cell 0
  have p1 : w4.cell? ⟨w.heap.size, 1, none⟩ = some (.slice IA inn ic) := HW0.out.cell 1
  have p2 : w4.cell? ⟨w.heap.size, 2, none⟩ = some (.slice TA tn tc) := HW0.out.cell 2
  have p3 : w4.cell? ⟨w.heap.size, 3, none⟩ = some (.int .i64 c.lets) := HW0.out.cell 3
  have q0 : w4.cell? ⟨w.heap.size + 1 + 1, 0, none⟩ = some (.int .i64 op) := HW2.out.cell 0
  have q1 : w4.cell? ⟨w.heap.size + 1 + 1, 1, none⟩ = some (.int .i64 a) := HW2.out.cell 1
  have q2 : w4.cell? ⟨w.heap.size + 1 + 1, 2, none⟩ = some (.int .i64 b) := HW2.out.cell 2
  have HCC : Hid (CodAt w4 w4.heap.size (.agg #[.slice (some ⟨g, off, none⟩) fn fc, .slice IA inn ic, .slice TA tn tc, .int .i64 c.lets]) c) := (HC.out.below (HBB4.out.mono (Nat.le_of_lt hHw))).more (by have := HZ4.out; omega)
  have CE := fun (wx : World) (h : CodAt wx wx.heap.size (.agg #[.slice (some ⟨g, off, none⟩) fn fc, .slice IA inn ic, .slice TA tn tc, .int .i64 c.lets]) c) => reff_any wx _ c n op a b h HNN.out ha0
  rw [HF.out] at CE
  generalize hee : effF c n ⟨kept, locals, stack, code⟩ ⟨op, a, b⟩ = ee at *
  have HEE := Lib.hid hee
  clear hee
  obtain ⟨ok, tk, pt⟩ := ee
  obtain ⟨hk0, hk1, hp0, hp1⟩ := HEB.out
  have HCE := Lib.hid CE
  clear CE HEB
  dsimp only at hk0 hk1 hp0 hp1
  go_upto_region 6 with (go_at_call 45; refine (HCE.out _ HCC.out).mono ?_; rintro e w5 ⟨rfl, hb5⟩; unfold effV; have HB5 := Lib.hid hb5; clear hb5 p0 p1 p2 p3 q0 q1 q2)
  have HV1 := Lib.hid (HW1.out.below HB5.out HW1.out.lt)
  have HV2 := Lib.hid (HW2.out.below HB5.out HW2.out.lt)
  have HV3 := Lib.hid (HW3.out.below HB5.out HW3.out.lt)
  have HA5 : Hid (AllAt w5 H all) := (HALL.out.below HBB4.out).below HB5.out
  have HBW : Hid (Below w.heap.size w w5) := HBB4.out.trans (HB5.out.mono HBB4.out.size)
  have HZ5 : Hid (w.heap.size + 1 + 1 + 1 + 1 ≤ w5.heap.size) := by have := HB5.out.size; show _ ≤ _; rw [← HZ4.out]; exact this
  have HM5 : Hid (Mks 97 w5 EA m sm) := HM.out.below HBW.out
  clear HW0 HW1 HW2 HW3 HBB4 HCC HCE HB5 HZ4 HALL HM HC
  have r1 : w5.cell? ⟨w.heap.size + 1 + 1 + 1, 1, none⟩ = some (.int .i64 sd) := HV3.out.cell 1
  have r2 : w5.cell? ⟨w.heap.size + 1 + 1 + 1, 2, none⟩ = some (.slice EA m ec) := HV3.out.cell 2
  have q0 : w5.cell? ⟨w.heap.size + 1 + 1, 0, none⟩ = some (.int .i64 op) := HV2.out.cell 0
  have q1 : w5.cell? ⟨w.heap.size + 1 + 1, 1, none⟩ = some (.int .i64 a) := HV2.out.cell 1
  have q2 : w5.cell? ⟨w.heap.size + 1 + 1, 2, none⟩ = some (.int .i64 b) := HV2.out.cell 2
  have s2 : w5.cell? ⟨w.heap.size + 1, 2, none⟩ = some (.int .i64 stack) := HV1.out.cell 2
  go_upto_if 49 with (fail)
  go_cut [15] (fun v wx => v = .int .i64 (⟨sd, sm⟩ : St).base ∧ wx = w5)
  case first =>
    cases m with
    | zero =>
      obtain rfl : sm = [] := List.eq_nil_of_length_eq_zero HM5.out.1
      go_wp2_with fail
      go_meet
      exact ⟨rfl, rfl⟩
    | succ m =>
      obtain ⟨gm, rfl, _, m0, m1⟩ := HM5.out.at_ (k := m) (by omega)
      have HBL := Lib.hid (base_last (d := sd) HM5.out.1)
      generalize (sm.getD m mk0).2 = y at *
      go_wp2_with fail
      go_meet
      exact ⟨by rw [HBL.out], rfl⟩
  case rest =>
    obtain ⟨rfl, rfl⟩ := hcut
    obtain ⟨hbase0, hbase1⟩ := HBASE.out
    have HBE : Hid ((⟨sd, sm⟩ : St).base = (⟨sd, sm⟩ : St).base) := rfl
    generalize hbse : (⟨sd, sm⟩ : St).base = base at *
    have HBS := Lib.hid hbse
    clear hbse HBE HBASE
    have HF5 := Lib.hid (But.of_below (H := H) HBW.out)
    cases ok
    · have HN := Lib.hid (next_bad HS.out (next_no1 HI.out HEE.out))
      go_wp2_with fail
      go_ret
      exact step_no HF5.out HN.out
    by_cases h2 : sd - tk < base
    · have HN := Lib.hid (next_bad HS.out (next_no2 HI.out HEE.out (by rw [HBS.out]; exact h2)))
      go_wp2_with fail
      go_ret
      exact step_no HF5.out HN.out
    by_cases h3 : stack < sd
    · have HN := Lib.hid (deep_bad (c := c) (n := n) (f := ⟨kept, locals, stack, code⟩) HS.out h3)
      go_wp2_with fail
      go_ret
      exact step_no HF5.out HN.out
    have HNX := Lib.hid (next_yes (c := c) (n := n) HI.out HEE.out (by rw [HBS.out]; exact h2))
    have hw1 : IntKind.i64.wrap (sd - tk) = sd - tk := IntWalk.i64_in _ (by omega)
    have hw2 : IntKind.i64.wrap (sd - tk + pt) = sd - tk + pt := IntWalk.i64_in _ (by omega)
    generalize wc = w5 at *
    go_upto_region 10 with (fail)
    go_cut [16] (fun v wx => OwnedT w5 sd tk pt m sm v wx)
    case first =>
      have CO := fun (wx : World) => own_any wx EA m ec sm
      have HNC : Hid (w.heap.size + 1 + 1 + 1 ≠ w5.heap.size) := Nat.ne_of_lt HV3.out.lt
      go_region_held3 (fun W => W.cell? ⟨w.heap.size + 1 + 1 + 1, 1, none⟩ = some (.int .i64 sd) ∧ W.cell? ⟨w.heap.size + 1 + 1 + 1, 2, none⟩ = some (.slice EA m ec))
        (first | go_keep | (exact ⟨t1, t2⟩) | (exact ⟨cell_far (cell_far (cell_far t1 HNC.out) HNC.out) HNC.out, cell_far (cell_far (cell_far t2 HNC.out) HNC.out) HNC.out⟩))
        (first
          | ((go_at_call 46; with_reducible refine (CO _ ?_ ?_ ?_).mono ?_); (exact HM5.out.drew); (exact (show m ≤ 1000000 by omega)); (exact HEA.out); rintro e w6 ⟨v', rfl, hown, hb6⟩; obtain ⟨A6, c6, rfl, _⟩ := Mks.of_own hown HM5.out.1; have HO6 : Hid (w6.ownsRow w5.heap.size 97 2 (.slice A6 m c6) m (mkCells sm)) := hown; have HB6 : Hid (Below w5.heap.size w5 w6) := (Below.refl _ _).drew.trans hb6; have HX6 := Lib.hid (HV3.out.below HB6.out HV3.out.lt); have t1 : w6.cell? ⟨w.heap.size + 1 + 1 + 1, 1, none⟩ = some (.int .i64 sd) := HX6.out.cell 1; have t2 : w6.cell? ⟨w.heap.size + 1 + 1 + 1, 2, none⟩ = some (.slice EA m ec) := HX6.out.cell 2; have hz6 : w.heap.size + 1 + 1 + 1 < w6.heap.size := HX6.out.lt; clear hown hb6)
          | ((go_at_call 46; with_reducible refine (CO _ ?_ ?_ ?_).mono ?_); (exact (HM5.out.alloc _).drew); (exact (show m ≤ 1000000 by omega)); (exact HEA.out); rintro e w6 ⟨v', rfl, hown, hb6⟩; obtain ⟨A6, c6, rfl, _⟩ := Mks.of_own hown HM5.out.1; have HO6 : Hid (w6.ownsRow w5.heap.size 97 2 (.slice A6 m c6) m (mkCells sm)) := own_more hown (by simp); have HB6 : Hid (Below w5.heap.size w5 w6) := ((Below.refl _ _).alloc (Nat.le_refl _) _).drew.trans (hb6.mono (by simp)); have HX6 := Lib.hid (HV3.out.below HB6.out HV3.out.lt); have t1 : w6.cell? ⟨w.heap.size + 1 + 1 + 1, 1, none⟩ = some (.int .i64 sd) := HX6.out.cell 1; have t2 : w6.cell? ⟨w.heap.size + 1 + 1 + 1, 2, none⟩ = some (.slice EA m ec) := HX6.out.cell 2; have HT6 : Hid (Whole w6 w5.heap.size 59 #[.bool false, .int .i64 0, .slice none 0 0]) := (show Whole (w5.alloc (.cells #[.bool false, .int .i64 0, .slice none 0 0] 59)).drew w5.heap.size 59 _ from Whole.made _ _ _).below hb6 (by simp); have y0 : w6.cell? ⟨w5.heap.size, 0, none⟩ = some (.bool false) := HT6.out.cell 0; have y1 : w6.cell? ⟨w5.heap.size, 1, none⟩ = some (.int .i64 0) := HT6.out.cell 1; have y2 : w6.cell? ⟨w5.heap.size, 2, none⟩ = some (.slice none 0 0) := HT6.out.cell 2; have g0 := HT6.out.free 0; have g1 := HT6.out.free 1; have g2 := HT6.out.free 2; clear hown hb6))
      all_goals
        go_wp2_with fail
        go_meet
        first
          | exact ownedT_old HO6.out HB6.out HT6.out
          | exact ownedT_new HO6.out HB6.out
    case rest =>
      obtain ⟨T, TA', tcc, rfl, hT, hb6, htw, hto⟩ := hcut
      generalize wc = w6 at *
      have HB6 := Lib.hid hb6
      have HT := Lib.hid htw
      have HO := Lib.hid hto
      have HTL := Lib.hid hT
      have HV3b := Lib.hid (HV3.out.below HB6.out HV3.out.lt)
      have HV2b := Lib.hid (HV2.out.below HB6.out HV2.out.lt)
      have HV1b := Lib.hid (HV1.out.below HB6.out HV1.out.lt)
      have HA6 : Hid (AllAt w6 H all) := HA5.out.below HB6.out
      have HM6 : Hid (Mks 97 w6 EA m sm) := HM5.out.below HB6.out
      have HBW6 : Hid (Below w.heap.size w w6) := HBW.out.trans (HB6.out.mono HBW.out.size)
      have HAW : Hid (∀ X, w5.heap.size ≤ X → Away w6 H X all.length) := fun X hX => HA5.out.away HB6.out hX
      clear hb6 htw hto hT q0 q1 q2 s2 r1 r2 HV1 HV2 HV3 HA5 HM5 HBW HF5
      have q0 : w6.cell? ⟨w.heap.size + 1 + 1, 0, none⟩ = some (.int .i64 op) := HV2b.out.cell 0
      have HBL : Hid (∀ (j : Nat) t, all.getD j none = some t → t.m.length ≤ 200000) := fun j t h => Nat.le_trans (HBN.out j t h) (by omega)
      go_upto_block 0 with (fail)
      go_cut [17, 18] (fun v17 v18 wx => PlanAt w c n ⟨kept, locals, stack, code⟩ k H T all ⟨sd, sm⟩ v17 v18 wx ∧ Whole wx (w.heap.size + 1) 40 #[.int .i64 kept, .int .i64 locals, .int .i64 stack, .slice (some ⟨gi, oi, none⟩) cn cc])
      case first =>
        obtain ⟨xa, rfl⟩ := Int.eq_ofNat_of_zero_le ha0
        obtain ⟨xb, rfl⟩ := Int.eq_ofNat_of_zero_le hb0
        have HD : Hid (¬ (⟨kept, locals, stack, code⟩ : Bdy).stack < (⟨sd, sm⟩ : St).d) := h3
        have HBU : Hid (But H w.heap.size w w6) := But.of_below HBW6.out
        have HLM : Hid (sm.length = m) := HM6.out.1
        have HM2 : Hid (m ≤ 200000) := by show m ≤ _; omega
        have q1 : w6.cell? ⟨w.heap.size + 1 + 1, 1, none⟩ = some (.int .i64 (xa : Int)) := HV2b.out.cell 1
        have q2 : w6.cell? ⟨w.heap.size + 1 + 1, 2, none⟩ = some (.int .i64 (xb : Int)) := HV2b.out.cell 2
        have r1 : w6.cell? ⟨w.heap.size + 1 + 1 + 1, 1, none⟩ = some (.int .i64 sd) := HV3b.out.cell 1
        have r2 : w6.cell? ⟨w.heap.size + 1 + 1 + 1, 2, none⟩ = some (.slice EA m ec) := HV3b.out.cell 2
        have r0 : w6.cell? ⟨w.heap.size + 1 + 1 + 1, 0, none⟩ = some (.bool true) := HV3b.out.cell 0
        have s2 : w6.cell? ⟨w.heap.size + 1, 2, none⟩ = some (.int .i64 stack) := HV1b.out.cell 2
        dsimp only at HNX
        by_cases e1 : op = 14 ∨ op = 15
        · as_aux_lemma =>
          rcases m with _ | m
          · have HE : Hid (sm = []) := List.eq_nil_of_length_eq_zero HLM.out
            have HN := Lib.hid (HNX.out.trans (go_end e1 HE.out))
            rcases e1 with rfl | rfl
            all_goals
              go_wp2_with fail
              go_ret
              exact step_stop HA6.out (Int.not_lt.2 HD.out) HN.out HBW6.out
          · have HE : Hid (sm ≠ []) := fun h => by have := HLM.out; rw [h] at this; cases this
            have HN := Lib.hid (next_bad HS.out (HNX.out.trans (go_endno e1 HE.out)))
            rcases e1 with rfl | rfl
            all_goals
              go_wp2_with fail
              go_ret
              exact step_no HBU.out HN.out
        by_cases e2 : op = 23 ∨ op = 30
        · as_aux_lemma =>
          have HN := Lib.hid (HNX.out.trans (go_nowhere e2))
          clear e1
          rcases e2 with rfl | rfl
          all_goals
            go_wp2_with fail
            go_ret
            exact step_stop HA6.out (Int.not_lt.2 HD.out) HN.out HBW6.out
        by_cases e3 : op = 16
        · as_aux_lemma =>
          subst e3
          have hz : (true, tk, pt) = (true, (0 : Int), (0 : Int)) := HEE.out.symm.trans (eff_still _ _ _ _ _ (by omega))
          simp only [Prod.mk.injEq, true_and] at hz
          obtain ⟨rfl, rfl⟩ := hz
          have HN := Lib.hid (HNX.out.trans go_jump)
          clear e1 e2
          go_wp2_with fail
          go_meet
          exact ⟨plan_on none xa rfl rfl HA6.out (.refl all) HT.out HO.out HLM.out HM2.out HN.out (fun p => by simp) HBU.out HBL.out, HV1b.out⟩
        by_cases e4 : op = 17
        · as_aux_lemma =>
          subst e4
          have HN := Lib.hid (HNX.out.trans go_false)
          clear e1 e2 e3
          go_wp2_with fail
          go_meet
          exact ⟨plan_on (some xa) (k + 1) rfl (by go_num) HA6.out (.refl all) HT.out HO.out HLM.out HM2.out HN.out (fun p => by simp [or_comm]) HBU.out HBL.out, HV1b.out⟩
        by_cases e5 : op = 18
        · as_aux_lemma =>
          subst e5
          have HN := Lib.hid (HNX.out.trans go_case)
          clear e1 e2 e3 e4
          go_wp2_with fail
          go_meet
          exact ⟨plan_on (some xb) (k + 1) rfl (by go_num) HA6.out (.refl all) HT.out HO.out HLM.out HM2.out HN.out (fun p => by simp [or_comm]) HBU.out HBL.out, HV1b.out⟩
        by_cases e6 : op = 21
        · as_aux_lemma =>
          subst e6
          have hz : (true, tk, pt) = (true, (0 : Int), (0 : Int)) := HEE.out.symm.trans (eff_still _ _ _ _ _ (by omega))
          simp only [Prod.mk.injEq, true_and] at hz
          obtain ⟨rfl, rfl⟩ := hz
          have HN := Lib.hid (HNX.out.trans go_try)
          have HTH : Hid (T ≠ H) := by have h1 := HTL.out; have h2 := HZ5.out; show T ≠ H; omega
          have HVH : Hid (w.heap.size + 1 ≠ H) := by show _ ≠ _; omega
          have HLF : Hid (all.length = (⟨kept, locals, stack, code⟩ : Bdy).code.length) := HL.out.trans HCL.out.symm
          have hww : IntKind.i64.wrap (sd + 1) = sd + 1 := IntWalk.i64_in _ (by omega)
          clear e1 e2 e3 e4 e5 hw1 hw2
          go_wp2_with fail
          refine (hand_any w6 H all cn xa ⟨sd + 1, sm⟩ false EA m ec stack HL.out HA6.out HM6.out HEA.out (by omega) (fun t h => by have := HBL.out xa t h; omega)).mono ?_
          rintro e w7 ⟨hb7, hp⟩
          have HB7 := Lib.hid hb7
          rcases hp with ⟨rfl, hx1, hx2, hx3, hx4, hx5⟩ | ⟨rfl, hx1⟩
          · have HALL2 := Lib.hid hx4
            have HPRE2 := Lib.hid ((Handed.refl all).more hx1 hx3)
            have HAW7 : Hid (∀ X, (Value.slice TA' m tcc).ownBlock = some X → Away w7 H X (all.set xa (some ⟨sd + 1, sm⟩)).length) := fun X hX => by
              rw [List.length_set]; exact hx5 X (HO.out.lt X hX).2 (HAW.out X (HO.out.lt X hX).1)
            have HLEN2 : Hid (∀ (j : Nat) t', (all.set xa (some ⟨sd + 1, sm⟩)).getD j none = some t' → t'.m.length ≤ 200000) := fun j t' h => by
              rw [getD_set hx1] at h
              split at h
              · cases h; show sm.length ≤ _; rw [HLM.out]; exact HM2.out
              · exact HBL.out j t' h
            have HT7 := Lib.hid (HB7.out.whole HT.out HT.out.lt HTH.out)
            have HV7 := Lib.hid (HB7.out.whole HV1b.out HV1b.out.lt HVH.out)
            have HV27 := Lib.hid (HB7.out.whole HV2b.out HV2b.out.lt (by omega))
            have HV37 := Lib.hid (HB7.out.whole HV3b.out HV3b.out.lt (by omega))
            have HO7 : Hid (w7.ownsRow w5.heap.size 97 2 (.slice TA' m tcc) m (mkCells sm)) := own_of_block HO.out fun g hg => HB7.out.block g (HO.out.lt g hg).2 (fun hh => by
              obtain ⟨cs, hw, _⟩ := HA6.out; exact own_whole_ne HO.out hw (by decide) (by rw [hg, hh]))
            have HBU7 : Hid (But H w.heap.size w w7) := HBU.out.trans (HB7.out.mono HBU.out.size)
            have HZ7 : Hid (w5.heap.size ≤ w7.heap.size) := Nat.le_trans HB6.out.size HB7.out.size
            clear hb7 hx1 hx2 hx3 hx4 hx5 q0 q1 q2 r0 r1 r2 s2
            have y2 : w7.cell? ⟨T, 2, none⟩ = some (.slice TA' m tcc) := HT7.out.cell 2
            have q0 : w7.cell? ⟨w.heap.size + 1 + 1, 0, none⟩ = some (.int .i64 21) := HV27.out.cell 0
            have r1 : w7.cell? ⟨w.heap.size + 1 + 1 + 1, 1, none⟩ = some (.int .i64 sd) := HV37.out.cell 1
            have HOA := Lib.hid (HO7.out.alloc (.cells #[.int .i64 21, .int .i64 sd] 97))
            have HTA := Lib.hid (HT7.out.alloc (.cells #[.int .i64 21, .int .i64 sd] 97))
            have HBA : Hid (w5.heap.size ≤ (w7.alloc (.cells #[.int .i64 21, .int .i64 sd] 97)).heap.size) := by have := HZ7.out; show _ ≤ _; simp; omega
            go_wp2_with (at_builtin; refine list_app ty_rmark (v := .slice TA' m tcc) rfl _ _ rfl rfl HOA.out w7.heap.size 1 [.int .i64 21, .int .i64 sd] rfl (Whole.made w7 97 _) rfl (by simp [Value.oneCell']) (by decide) (by omega) (by decide) HBA.out ?_; intro g' cap w8 hap; have HAP := Lib.hid hap; have HT8 := Lib.hid (hap.stays HOA.out HTA.out (by decide)); have z1 : w8.cell? ⟨T, 2, none⟩ = some (.slice TA' m tcc) := HT8.out.cell 2; have z2 := HT8.out.free 2; clear hap)
            go_meet
            obtain ⟨k1, k2, k3, k4, k5⟩ := mark_end HALL2.out HAW7.out HO7.out HT7.out HTH.out HV7.out HAP.out HBU7.out (by have := HZ5.out; omega) HZ7.out (by have := HZ5.out; have := HTL.out; omega)
            exact ⟨plan_on none (k + 1) rfl (by go_num) k1 HPRE2.out (by simpa using k2) k3 (by rw [List.length_append, HLM.out]; rfl) (by omega) HN.out (fun p => by simp [or_comm]) k5 HLEN2.out, k4⟩
          · have HX1 := Lib.hid hx1
            clear hb7 hx1
            go_wp2_with fail
            go_ret
            exact plan_bad (x := xa) (t := ⟨sd + 1, sm⟩) HS.out HLF.out HN.out (Handed.refl all) (fun p hp => by simp at hp) (by simp) HBU.out HBU.out.size HB7.out HX1.out
        by_cases e7 : op = 28
        · as_aux_lemma =>
          subst e7
          have hz : (true, tk, pt) = (true, (0 : Int), (0 : Int)) := HEE.out.symm.trans (eff_still _ _ _ _ _ (by omega))
          simp only [Prod.mk.injEq, true_and] at hz
          obtain ⟨rfl, rfl⟩ := hz
          have HN := Lib.hid (HNX.out.trans go_else)
          have HTH : Hid (T ≠ H) := by have h1 := HTL.out; have h2 := HZ5.out; show T ≠ H; omega
          have HVH : Hid (w.heap.size + 1 ≠ H) := by show _ ≠ _; omega
          have HLF : Hid (all.length = (⟨kept, locals, stack, code⟩ : Bdy).code.length) := HL.out.trans HCL.out.symm
          clear e1 e2 e3 e4 e5 e6 hw1 hw2
          go_wp2_with fail
          refine (hand_any w6 H all cn xa ⟨sd, sm⟩ true EA m ec stack HL.out HA6.out HM6.out HEA.out (by omega) (fun t h => by have := HBL.out xa t h; omega)).mono ?_
          rintro e w7 ⟨hb7, hp⟩
          have HB7 := Lib.hid hb7
          rcases hp with ⟨rfl, hx1, hx2, hx3, hx4, hx5⟩ | ⟨rfl, hx1⟩
          · have HALL2 := Lib.hid hx4
            have HPRE2 := Lib.hid ((Handed.refl all).more hx1 hx3)
            have HAW7 : Hid (∀ X, (Value.slice TA' m tcc).ownBlock = some X → Away w7 H X (all.set xa (some ⟨sd, sm⟩)).length) := fun X hX => by
              rw [List.length_set]; exact hx5 X (HO.out.lt X hX).2 (HAW.out X (HO.out.lt X hX).1)
            have HLEN2 : Hid (∀ (j : Nat) t', (all.set xa (some ⟨sd, sm⟩)).getD j none = some t' → t'.m.length ≤ 200000) := fun j t' h => by
              rw [getD_set hx1] at h
              split at h
              · cases h; show sm.length ≤ _; rw [HLM.out]; exact HM2.out
              · exact HBL.out j t' h
            have HT7 := Lib.hid (HB7.out.whole HT.out HT.out.lt HTH.out)
            have HV7 := Lib.hid (HB7.out.whole HV1b.out HV1b.out.lt HVH.out)
            have HV27 := Lib.hid (HB7.out.whole HV2b.out HV2b.out.lt (by omega))
            have HV37 := Lib.hid (HB7.out.whole HV3b.out HV3b.out.lt (by omega))
            have HO7 : Hid (w7.ownsRow w5.heap.size 97 2 (.slice TA' m tcc) m (mkCells sm)) := own_of_block HO.out fun g hg => HB7.out.block g (HO.out.lt g hg).2 (fun hh => by
              obtain ⟨cs, hw, _⟩ := HA6.out; exact own_whole_ne HO.out hw (by decide) (by rw [hg, hh]))
            have HBU7 : Hid (But H w.heap.size w w7) := HBU.out.trans (HB7.out.mono HBU.out.size)
            have HZ7 : Hid (w5.heap.size ≤ w7.heap.size) := Nat.le_trans HB6.out.size HB7.out.size
            clear hb7 hx1 hx2 hx3 hx4 hx5 q0 q1 q2 r0 r1 r2 s2
            have y2 : w7.cell? ⟨T, 2, none⟩ = some (.slice TA' m tcc) := HT7.out.cell 2
            have q0 : w7.cell? ⟨w.heap.size + 1 + 1, 0, none⟩ = some (.int .i64 28) := HV27.out.cell 0
            have r1 : w7.cell? ⟨w.heap.size + 1 + 1 + 1, 1, none⟩ = some (.int .i64 sd) := HV37.out.cell 1
            have HOA := Lib.hid (HO7.out.alloc (.cells #[.int .i64 28, .int .i64 sd] 97))
            have HTA := Lib.hid (HT7.out.alloc (.cells #[.int .i64 28, .int .i64 sd] 97))
            have HBA : Hid (w5.heap.size ≤ (w7.alloc (.cells #[.int .i64 28, .int .i64 sd] 97)).heap.size) := by have := HZ7.out; show _ ≤ _; simp; omega
            go_wp2_with (at_builtin; refine list_app ty_rmark (v := .slice TA' m tcc) rfl _ _ rfl rfl HOA.out w7.heap.size 1 [.int .i64 28, .int .i64 sd] rfl (Whole.made w7 97 _) rfl (by simp [Value.oneCell']) (by decide) (by omega) (by decide) HBA.out ?_; intro g' cap w8 hap; have HAP := Lib.hid hap; have HT8 := Lib.hid (hap.stays HOA.out HTA.out (by decide)); have z1 : w8.cell? ⟨T, 2, none⟩ = some (.slice TA' m tcc) := HT8.out.cell 2; have z2 := HT8.out.free 2; clear hap)
            go_meet
            obtain ⟨k1, k2, k3, k4, k5⟩ := mark_end HALL2.out HAW7.out HO7.out HT7.out HTH.out HV7.out HAP.out HBU7.out (by have := HZ5.out; omega) HZ7.out (by have := HZ5.out; have := HTL.out; omega)
            exact ⟨plan_on none (k + 1) rfl (by go_num) k1 HPRE2.out (by simpa using k2) k3 (by rw [List.length_append, HLM.out]; rfl) (by omega) HN.out (fun p => by simp [or_comm]) k5 HLEN2.out, k4⟩
          · have HX1 := Lib.hid hx1
            clear hb7 hx1
            go_wp2_with fail
            go_ret
            exact plan_bad (x := xa) (t := ⟨sd, sm⟩) HS.out HLF.out HN.out (Handed.refl all) (fun p hp => by simp at hp) (by simp) HBU.out HBU.out.size HB7.out HX1.out
        by_cases e8 : op = 26
        · as_aux_lemma =>
          subst e8
          have hz : (true, tk, pt) = (true, (0 : Int), (0 : Int)) := HEE.out.symm.trans (eff_still _ _ _ _ _ (by omega))
          simp only [Prod.mk.injEq, true_and] at hz
          obtain ⟨rfl, rfl⟩ := hz
          have HTH : Hid (T ≠ H) := by have h1 := HTL.out; have h2 := HZ5.out; show T ≠ H; omega
          have HAW7 : Hid (∀ X, (Value.slice TA' m tcc).ownBlock = some X → Away w6 H X all.length) := fun X hX => HAW.out X (HO.out.lt X hX).1
          have HZ7 : Hid (w5.heap.size ≤ w6.heap.size) := HB6.out.size
          clear e1 e2 e3 e4 e5 e6 e7 hw1 hw2
          go_wp2_with fail
          go_loop [21] (fun v => ∃ j : Nat, v = .int .i64 (j : Int) ∧ j ≤ m ∧ ∀ i, i < j → ((sm.getD i mk0).1 == 26) = false) (fun v => m - (intOf v).toNat)
          case atStart => exact ⟨0, rfl, by omega, fun i hi => absurd hi (by omega)⟩
          case round =>
            obtain ⟨j, rfl, hj, hp⟩ := hrel
            have HP := Lib.hid hp
            clear hp
            by_cases hlt : j < m
            · obtain ⟨gm, em, hgm, m0, _⟩ := HM6.out.at_ hlt
              subst em
              rcases hk26 : ((sm.getD j mk0).1 == 26) with _ | _
              · have H2 : Hid (∀ i, i < j + 1 → ((sm.getD i mk0).1 == 26) = false) := fun i hi => by
                  rcases Nat.lt_or_ge i j with h | h
                  · exact HP.out i h
                  · rw [show i = j from by omega]; exact hk26
                generalize (sm.getD j mk0).1 = y at *
                go_wp2_with fail
                go_round
                case rel => exact ⟨j + 1, by go_num, by omega, H2.out⟩
                case measure => simp [intOf]; omega
              · have HN := Lib.hid (next_bad HS.out (HNX.out.trans (go_beginno (any26 (by rw [HLM.out]; exact hlt) hk26))))
                generalize (sm.getD j mk0).1 = y at *
                go_wp2_with fail
                go_ret
                exact step_no HBU.out HN.out
            · have HN := Lib.hid (HNX.out.trans (go_begin (none26 (fun i hi => HP.out i (by rw [HLM.out] at hi; omega)))))
              have y2 : w6.cell? ⟨T, 2, none⟩ = some (.slice TA' m tcc) := HT.out.cell 2
              have HOA := Lib.hid (HO.out.alloc (.cells #[.int .i64 26, .int .i64 sd] 97))
              have HTA := Lib.hid (HT.out.alloc (.cells #[.int .i64 26, .int .i64 sd] 97))
              have HBA : Hid (w5.heap.size ≤ (w6.alloc (.cells #[.int .i64 26, .int .i64 sd] 97)).heap.size) := by have := HZ7.out; show _ ≤ _; simp; omega
              go_wp2_with (at_builtin; refine list_app ty_rmark (v := .slice TA' m tcc) rfl _ _ rfl rfl HOA.out w6.heap.size 1 [.int .i64 26, .int .i64 sd] rfl (Whole.made w6 97 _) rfl (by simp [Value.oneCell']) (by decide) (by omega) (by decide) HBA.out ?_; intro g' cap w8 hap; have HAP := Lib.hid hap; have HT8 := Lib.hid (hap.stays HOA.out HTA.out (by decide)); have z1 : w8.cell? ⟨T, 2, none⟩ = some (.slice TA' m tcc) := HT8.out.cell 2; have z2 := HT8.out.free 2; clear hap)
              go_meet
              obtain ⟨k1, k2, k3, k4, k5⟩ := mark_end HA6.out HAW7.out HO.out HT.out HTH.out HV1b.out HAP.out HBU.out (by have := HZ5.out; omega) HZ7.out (by have := HZ5.out; have := HTL.out; omega)
              exact ⟨plan_on none (k + 1) rfl (by go_num) k1 (.refl all) (by simpa using k2) k3 (by rw [List.length_append, HLM.out]; rfl) (by omega) HN.out (fun p => by simp) k5 HBL.out, k4⟩
        by_cases e9 : op = 22 ∨ op = 27 ∨ op = 29
        · as_aux_lemma =>
          have hz : (true, tk, pt) = (true, (0 : Int), (0 : Int)) := HEE.out.symm.trans (eff_still _ _ _ _ _ (by omega))
          simp only [Prod.mk.injEq, true_and] at hz
          obtain ⟨rfl, rfl⟩ := hz
          have HTH : Hid (T ≠ H) := by have h1 := HTL.out; have h2 := HZ5.out; show T ≠ H; omega
          have t14 : (op == 14) = false := by rw [beq_eq_false_iff_ne]; omega
          have t15 : (op == 15) = false := by rw [beq_eq_false_iff_ne]; omega
          have t23 : (op == 23) = false := by rw [beq_eq_false_iff_ne]; omega
          have t30 : (op == 30) = false := by rw [beq_eq_false_iff_ne]; omega
          have t16 : (op == 16) = false := by rw [beq_eq_false_iff_ne]; omega
          have t17 : (op == 17) = false := by rw [beq_eq_false_iff_ne]; omega
          have t18 : (op == 18) = false := by rw [beq_eq_false_iff_ne]; omega
          have t21 : (op == 21) = false := by rw [beq_eq_false_iff_ne]; omega
          have t28 : (op == 28) = false := by rw [beq_eq_false_iff_ne]; omega
          have t26 : (op == 26) = false := by rw [beq_eq_false_iff_ne]; omega
          have E9 := Lib.hid e9
          clear e1 e2 e3 e4 e5 e6 e7 e8 e9 hw1 hw2
          go_upto_region 43 with (fail)
          clear t14 t15 t23 t30 t16 t17 t18 t21 t28 t26
          go_cut [185] (fun x wx => x = .bool (op == 22) ∧ w6 = wx)
          case first =>
            as_aux_lemma =>
            go_wp2_with fail
            go_meet
            exact ⟨by simp, rfl⟩
          case rest =>
            obtain ⟨rfl, rfl⟩ := hcut
            rename_i K0 g0
            refine g0 _ _ ?_
            clear g0 K0
            go_cut [185] (fun x wx => x = .bool true ∧ w6 = wx)
            case first =>
              rcases E9.out with rfl | rfl | rfl
              all_goals
                as_aux_lemma =>
                go_wp2_with fail
                go_meet
                exact ⟨by simp, rfl⟩
            case rest =>
              as_aux_lemma =>
              obtain ⟨rfl, rfl⟩ := hcut
              go_upto_region 47 with (fail)
              go_cut [191] (fun x wx => x = .bool (op == 27) ∧ w6 = wx)
              case first =>
                go_wp2_with fail
                go_meet
                exact ⟨by simp, rfl⟩
              case rest =>
                as_aux_lemma =>
                obtain ⟨rfl, rfl⟩ := hcut
                rename_i K0 g0
                refine g0 _ _ ?_
                clear g0 K0
                go_cut [22] (fun x wx => x = .int .i64 (want1 op) ∧ w6 = wx)
                case first =>
                  rcases E9.out with rfl | rfl | rfl
                  all_goals
                    as_aux_lemma =>
                    go_wp2_with fail
                    go_meet
                    exact ⟨rfl, rfl⟩
                case rest =>
                  as_aux_lemma =>
                  obtain ⟨rfl, rfl⟩ := hcut
                  go_upto_region 49 with (fail)
                  go_cut [194] (fun x wx => x = .bool (op == 29) ∧ w6 = wx)
                  case first =>
                    go_wp2_with fail
                    go_meet
                    exact ⟨by simp, rfl⟩
                  case rest =>
                    obtain ⟨rfl, rfl⟩ := hcut
                    as_aux_lemma =>
                    rename_i K0 g0
                    refine g0 _ _ ?_
                    clear g0 K0
                    go_cut [22] (fun x wx => x = .int .i64 (op - 1) ∧ w6 = wx)
                    case first =>
                      rcases E9.out with rfl | rfl | rfl
                      all_goals
                        as_aux_lemma =>
                        go_wp2_with fail
                        go_meet
                        exact ⟨rfl, rfl⟩
                    case rest =>
                      as_aux_lemma =>
                      obtain ⟨rfl, rfl⟩ := hcut
                      have HX9 := Lib.hid E9.out
                      rcases m with _ | m
                      · obtain rfl : sm = [] := List.eq_nil_of_length_eq_zero HLM.out
                        have HN := Lib.hid (next_bad HS.out (HNX.out.trans (go_popno E9.out (fun x h => by simp at h))))
                        as_aux_lemma =>
                          go_wp2_with fail
                          go_ret
                          exact step_no HBU.out HN.out
                      · obtain ⟨gm, em, hgm, m0, _⟩ := HM6.out.at_ (k := m) (by omega)
                        subst em
                        have HLA := Lib.hid (getLast_getD HLM.out)
                        by_cases hkd : (sm.getD m mk0).1 = op - 1
                        · have HN := Lib.hid (HNX.out.trans (go_pop E9.out HLA.out hkd))
                          rw [hkd] at m0
                          clear hkd
                          obtain ⟨g0, c0, ev, hg0, hg1, _⟩ := own_cell HO.out (k := 0) (by omega)
                          simp only [Value.slice.injEq, true_and] at ev
                          obtain ⟨rfl, rfl⟩ := ev
                          obtain ⟨_, _, ev2, _, hcm, hcl2⟩ := own_form HO.out
                          simp only [Value.slice.injEq, true_and] at ev2
                          obtain ⟨rfl, rfl⟩ := ev2
                          unfold maxLen at hcm
                          have y2 : w6.cell? ⟨T, 2, none⟩ = some (.slice (some ⟨g0, 0, none⟩) (m + 1) tcc) := HT.out.cell 2
                          have z2 := HT.out.free 2
                          have HE := Lib.hid (pop_end HA6.out HO.out HT.out HTH.out HV1b.out HBU.out (by have := HZ5.out; have := HTL.out; omega))
                          have hbb : (op - 1 != op - 1) = false := by simp
                          as_aux_lemma =>
                          go_wp2_with fail
                          go_meet
                          obtain ⟨k1, k2, k3, k4, k5⟩ := HE.out
                          exact ⟨plan_on none (k + 1) rfl (by go_num) k1 (.refl all) (by simpa using k2) k3 (by rw [List.length_dropLast, HLM.out]; rfl) (by omega) HN.out (fun p => by simp) k5 HBL.out, k4⟩
                        · have HN := Lib.hid (next_bad HS.out (HNX.out.trans (go_popno E9.out (fun x h => by rw [HLA.out] at h; cases h; exact hkd))))
                          generalize (sm.getD m mk0).1 = y at *
                          have hkb : (y != op - 1) = true := bne_iff_ne.2 hkd
                          clear hkd
                          as_aux_lemma =>
                          go_wp2_with fail
                          go_ret
                          exact step_no HBU.out HN.out
        have HN := Lib.hid (HNX.out.trans (go_else_ ⟨e1, e2, e3, e4, e5, e6, e7, e8, e9⟩))
        have t14 : (op == 14) = false := by rw [beq_eq_false_iff_ne]; omega
        have t15 : (op == 15) = false := by rw [beq_eq_false_iff_ne]; omega
        have t23 : (op == 23) = false := by rw [beq_eq_false_iff_ne]; omega
        have t30 : (op == 30) = false := by rw [beq_eq_false_iff_ne]; omega
        have t16 : (op == 16) = false := by rw [beq_eq_false_iff_ne]; omega
        have t17 : (op == 17) = false := by rw [beq_eq_false_iff_ne]; omega
        have t18 : (op == 18) = false := by rw [beq_eq_false_iff_ne]; omega
        have t21 : (op == 21) = false := by rw [beq_eq_false_iff_ne]; omega
        have t28 : (op == 28) = false := by rw [beq_eq_false_iff_ne]; omega
        have t26 : (op == 26) = false := by rw [beq_eq_false_iff_ne]; omega
        have t22 : (op == 22) = false := by rw [beq_eq_false_iff_ne]; omega
        have t27 : (op == 27) = false := by rw [beq_eq_false_iff_ne]; omega
        have t29 : (op == 29) = false := by rw [beq_eq_false_iff_ne]; omega
        clear e1 e2 e3 e4 e5 e6 e7 e8 e9
        go_wp2_with fail
        go_meet
        exact ⟨plan_on none (k + 1) rfl (by go_num) HA6.out (.refl all) HT.out HO.out HLM.out HM2.out HN.out (fun p => by simp) HBU.out HBL.out, HV1b.out⟩
      case rest =>
        obtain ⟨⟨all1, pre, t, A1, m1, cc1, al, tn, l, rfl, rfl, hall1, hpre, hT1, hM1, hA1, hm1, hnext, hmem, hbut, hlen⟩, hV⟩ := hcut
        have HALL1 := Lib.hid hall1
        have HPRE := Lib.hid hpre
        have HT1 := Lib.hid hT1
        have HM1 := Lib.hid hM1
        have HA1 := Lib.hid hA1
        have HNEXT := Lib.hid hnext
        have HMEM := Lib.hid hmem
        have HBUT := Lib.hid hbut
        have HLEN := Lib.hid hlen
        have HV := Lib.hid hV
        have HL1 : Hid (all1.length = cn) := hpre.len.trans HL.out
        have HD : Hid (¬ stack < sd) := h3
        have HK2 : Hid (k < all.length) := by show _ < _; rw [HL.out]; exact hk
        have HTH : Hid (T ≠ H) := by have h1 := HTL.out; have h2 := HZ5.out; show T ≠ H; omega
        have HVH : Hid (w.heap.size + 1 ≠ H) := by show _ ≠ _; omega
        clear hall1 hpre hT1 hM1 hA1 hnext hmem hbut hlen hV q0 HT HO HM6 HA6 HB6 HBW6
        have y0 : wc.cell? ⟨T, 0, none⟩ = some (.bool false) := HT1.out.cell 0
        have y1 : wc.cell? ⟨T, 1, none⟩ = some (.int .i64 t.d) := HT1.out.cell 1
        have y2 : wc.cell? ⟨T, 2, none⟩ = some (.slice A1 m1 cc1) := HT1.out.cell 2
        have s2 : wc.cell? ⟨w.heap.size + 1, 2, none⟩ = some (.int .i64 stack) := HV.out.cell 2
        have CH := Lib.hid (fun (wx : World) (al1 : List (Option St)) (x : Nat) (h1 : al1.length = cn) (h2 : AllAt wx H al1) (h3 : Mks 97 wx A1 m1 t.m) (h4 : ∀ t', al1.getD x none = some t' → t'.m.length ≤ 1000000) => hand_any wx H al1 cn x t false A1 m1 cc1 stack h1 h2 h3 HA1.out (by omega) h4)
        have HLF : Hid (all.length = (⟨kept, locals, stack, code⟩ : Bdy).code.length) := HL.out.trans HCL.out.symm
        cases al with
        | none =>
          go_wp2_with fail
          refine (CH.out wc all1 tn HL1.out HALL1.out HM1.out (fun t' h => by have := HLEN.out tn t' h; omega)).mono ?_
          rintro e w' hp
          have HP := Lib.hid hp
          rcases hp.2 with ⟨rfl, _⟩ | ⟨rfl, _⟩
          all_goals
            clear hp
            go_wp2_with fail
            go_ret
            exact plan_end HS.out HLF.out (Int.not_lt.2 HD.out) HNEXT.out HPRE.out (fun p => by rw [HMEM.out p]; simp) HBUT.out HBUT.out.size HP.out
        | some x =>
          go_wp2_with fail
          refine (CH.out wc all1 x HL1.out HALL1.out HM1.out (fun t' h => by have := HLEN.out x t' h; omega)).mono ?_
          rintro e w7 ⟨hb7, hp⟩
          have HB7 := Lib.hid hb7
          rcases hp with ⟨rfl, hx1, hx2, hx3, hx4, _⟩ | ⟨rfl, hx1⟩
          · have HALL2 := Lib.hid hx4
            have HPRE2 := Lib.hid (HPRE.out.more hx1 hx3)
            have HL2 : Hid ((all1.set x (some t)).length = cn) := by show _ = _; rw [List.length_set]; exact HL1.out
            have HT2 := Lib.hid (HB7.out.whole HT1.out HT1.out.lt HTH.out)
            have HV2 := Lib.hid (HB7.out.whole HV.out HV.out.lt HVH.out)
            have HM2 : Hid (Mks 97 w7 A1 m1 t.m) := HM1.out.butAll HB7.out HALL1.out
            have HLEN2 : Hid (∀ (j : Nat) t', (all1.set x (some t)).getD j none = some t' → t'.m.length ≤ 200000) := fun j t' h => by
              rw [getD_set hx1] at h
              split at h
              · cases h; rw [HM1.out.1]; exact hm1
              · exact HLEN.out j t' h
            have HBUT2 : Hid (But H w.heap.size w w7) := HBUT.out.trans (HB7.out.mono HBUT.out.size)
            clear hb7 hx1 hx2 hx3 hx4 y0 y1 y2 s2
            have y0 : w7.cell? ⟨T, 0, none⟩ = some (.bool false) := HT2.out.cell 0
            have y1 : w7.cell? ⟨T, 1, none⟩ = some (.int .i64 t.d) := HT2.out.cell 1
            have y2 : w7.cell? ⟨T, 2, none⟩ = some (.slice A1 m1 cc1) := HT2.out.cell 2
            have s2 : w7.cell? ⟨w.heap.size + 1, 2, none⟩ = some (.int .i64 stack) := HV2.out.cell 2
            go_wp2_with fail
            refine (CH.out w7 _ tn HL2.out HALL2.out HM2.out (fun t' h => by have := HLEN2.out tn t' h; omega)).mono ?_
            rintro e w' hp
            have HP := Lib.hid hp
            rcases hp.2 with ⟨rfl, _⟩ | ⟨rfl, _⟩
            all_goals
              clear hp
              go_wp2_with fail
              go_ret
              exact plan_end HS.out HLF.out (Int.not_lt.2 HD.out) HNEXT.out HPRE2.out (fun p => by rw [HMEM.out p]; simp [or_assoc]) HBUT2.out HBUT2.out.size HP.out
          · have HX1 := Lib.hid hx1
            clear hb7 hx1
            go_wp2_with fail
            go_ret
            exact plan_bad HS.out HLF.out HNEXT.out HPRE.out (fun p hp => (HMEM.out p).2 (.inl hp)) ((HMEM.out _).2 (.inr (.inl ⟨x, rfl, rfl⟩))) HBUT.out HBUT.out.size HB7.out HX1.out
end Go.Proofs.Ytjkbhdocpjekmaa
