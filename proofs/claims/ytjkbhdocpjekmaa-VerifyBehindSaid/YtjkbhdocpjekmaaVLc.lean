/- The laws of layer 14: what is changed where nothing goes. -/
import Derived.Test.YtjkbhdocpjekmaaVLa
import Derived.Test.YtjkbhdocpjekmaaVLb
import Derived.StillTailTactics
namespace Go.Proofs.Ytjkbhdocpjekmaa
open Go.RowKit
set_option linter.unusedVariables false
attribute [local go_sem ↓] Go.wp_at_zero Go.wp_at_succ

theorem ints_row {w : World} {base E : Nat} {A : Option Addr} {n cp : Nat} {zs : List Int} (h : w.ownsRow base E 1 (.slice A n cp) n (zs.map (Value.int .i64))) : Ints w w.heap.size A n zs := by
  obtain ⟨A', c', e, hi⟩ := Ints.of_own h
  simp only [Value.slice.injEq] at e
  rw [e.1]; exact hi
theorem setIns_small (c : Cod) (m k : Nat) (i : Ins) : (setIns (cutC c) m k i).funs.length ≤ 100 ∧ (setIns (cutC c) m k i).ints.length ≤ 100 ∧ (setIns (cutC c) m k i).texts.length ≤ 100 ∧ ∀ b ∈ (setIns (cutC c) m k i).funs, b.code.length ≤ 100 := by
  obtain ⟨h1, h2, h3, h4⟩ := cut_small c
  refine ⟨by show ((cutC c).funs.set m _).length ≤ 100; rw [List.length_set]; omega, by show (cutC c).ints.length ≤ 100; omega, by show (cutC c).texts.length ≤ 100; omega, fun b hb => ?_⟩
  rcases List.mem_or_eq_of_mem_set hb with h | rfl
  · have := h4 b h; omega
  · show (((cutC c).funs.getD m bdy0).code.set k i).length ≤ 100
    rw [List.length_set]
    rcases Nat.lt_or_ge m (cutC c).funs.length with h | h
    · have := h4 ((cutC c).funs.getD m bdy0) (by rw [List.getD_eq_getElem?_getD, List.getElem?_eq_getElem h]; exact List.getElem_mem h)
      omega
    · rw [List.getD_eq_getElem?_getD, List.getElem?_eq_none h]; decide
set_option maxRecDepth 100000 in
set_option maxHeartbeats 8000000 in
theorem verifyBehind_walk (v : Value) (c : Cod) (f ap op ia ib : Int) (w : World) (hc : CodAt w w.heap.size v c) (hf0 : (Lit.int .i64 f).wf = true) (hap0 : (Lit.int .i64 ap).wf = true) :
    Calls Try.prog 5 #[v, .int .i64 f, .int .i64 ap, .agg #[.int .i64 op, .int .i64 ia, .int .i64 ib]] w fun e w' => e = .returned (.bool true) ∧ Below w.heap.size w w' := by
  clear hf0
  have hap := wf_i64.1 hap0
  clear hap0
  obtain ⟨FA, fn, fc, IA, inn, ic, TA, tn, tc, rfl, h1, h2, h3, hf, hi, ht⟩ := hc.form
  have HC : Hid (CodAt ((w.alloc (.cells #[.slice FA fn fc, .slice IA inn ic, .slice TA tn tc, .int .i64 c.lets] 26)).alloc (.cells #[.int .i64 op, .int .i64 ia, .int .i64 ib] 36)) ((w.alloc (.cells #[.slice FA fn fc, .slice IA inn ic, .slice TA tn tc, .int .i64 c.lets] 26)).alloc (.cells #[.int .i64 op, .int .i64 ia, .int .i64 ib] 36)).heap.size _ c) :=
    (hc.below (((Below.refl _ _).alloc (Nat.le_refl _) _).alloc (by simp) _)).more (by simp; omega)
  clear hc h1 h2 h3 hf hi ht
  go_enter Try.func5, Try.ntmps5
  go_wp2_with fail
  refine (cut_form _ _ c HC.out).mono ?_
  rintro e w1 ⟨FA2, fn2, fc2, IA2, inn2, ic2, TA2, tn2, tc2, rfl, ho, hb⟩
  rw [show ((w.alloc (.cells #[.slice FA fn fc, .slice IA inn ic, .slice TA tn tc, .int .i64 c.lets] 26)).alloc (.cells #[.int .i64 op, .int .i64 ia, .int .i64 ib] 36)).heap.size = w.heap.size + 1 + 1 from by simp] at ho hb
  have hb2 : Below (w.heap.size + 1) (w.alloc (.cells #[.slice FA fn fc, .slice IA inn ic, .slice TA tn tc, .int .i64 c.lets] 26)) w1 := ((Below.refl _ _).alloc (by simp) _).trans (hb.mono (by omega))
  have hW := (Whole.made w 26 #[.slice FA fn fc, .slice IA inn ic, .slice TA tn tc, .int .i64 c.lets]).below hb2 (by omega)
  have hX : Whole w1 (w.heap.size + 1) 36 #[.int .i64 op, .int .i64 ia, .int .i64 ib] := by
    have h := Whole.made (w.alloc (.cells #[.slice FA fn fc, .slice IA inn ic, .slice TA tn tc, .int .i64 c.lets] 26)) 36 #[.int .i64 op, .int .i64 ia, .int .i64 ib]
    exact Whole.below (by simpa using h) hb (by omega)
  have c0 : w1.cell? ⟨w.heap.size, 0, none⟩ = some (.slice FA fn fc) := hW.cell 0
  have c1 : w1.cell? ⟨w.heap.size, 1, none⟩ = some (.slice IA inn ic) := hW.cell 1
  have c2 : w1.cell? ⟨w.heap.size, 2, none⟩ = some (.slice TA tn tc) := hW.cell 2
  have c3 : w1.cell? ⟨w.heap.size, 3, none⟩ = some (.int .i64 c.lets) := hW.cell 3
  have f0 := hW.free 0
  have f1 := hW.free 1
  have f2 := hW.free 2
  have f3 := hW.free 3
  have HST := Lib.hid (cut_stored (a := .slice FA2 fn2 fc2) (b := .slice IA2 inn2 ic2) (d := .slice TA2 tn2 tc2) (e := .int .i64 c.lets) rfl (ho.more (by omega)) hb2)
  have HX2 := Lib.hid ((((hX.far (p := ⟨w.heap.size, 0, none⟩) (by show w.heap.size + 1 ≠ w.heap.size; omega) (.slice FA2 fn2 fc2)).far (p := ⟨w.heap.size, 1, none⟩) (by show w.heap.size + 1 ≠ w.heap.size; omega) (.slice IA2 inn2 ic2)).far (p := ⟨w.heap.size, 2, none⟩) (by show w.heap.size + 1 ≠ w.heap.size; omega) (.slice TA2 tn2 tc2)).far (p := ⟨w.heap.size, 3, none⟩) (by show w.heap.size + 1 ≠ w.heap.size; omega) (.int .i64 c.lets))
  clear ho hb hb2 hW hX HC
  go_upto_region 2 with (fail)
  generalize (((w1.setCell ⟨w.heap.size, 0, none⟩ (.slice FA2 fn2 fc2)).setCell ⟨w.heap.size, 1, none⟩ (.slice IA2 inn2 ic2)).setCell ⟨w.heap.size, 2, none⟩ (.slice TA2 tn2 tc2)).setCell ⟨w.heap.size, 3, none⟩ (.int .i64 c.lets) = w2 at *
  clear c0 c1 c2 c3 f0 f1 f2 f3
  have y0 : w2.cell? ⟨w.heap.size + 1, 0, none⟩ = some (.int .i64 op) := HX2.out.cell 0
  have y1 : w2.cell? ⟨w.heap.size + 1, 1, none⟩ = some (.int .i64 ia) := HX2.out.cell 1
  have y2 : w2.cell? ⟨w.heap.size + 1, 2, none⟩ = some (.int .i64 ib) := HX2.out.cell 2
  have CI := Lib.hid (instr_any op ia ib w2)
  go_upto_region 3 with (go_at_call 15; refine CI.out.mono ?_; rintro e w3 ⟨rfl, hb3⟩; have HS3 := Lib.hid (HST.out.later hb3); have HX3 := Lib.hid (HX2.out.below hb3 HX2.out.lt); clear hb3)
  clear CI HST HX2 y0 y1 y2
  obtain ⟨s0, s1, s2, s3⟩ := HS3.out.cells
  have CD := Lib.hid (depths_any w3 _ (cutC c) f HS3.out.at_)
  go_upto_region 4 with (go_at_call 12; refine CD.out.mono ?_; rintro e w4 ⟨hb4, A1, n1, p1, xs, rfl, hi1, hd1, hl1⟩; have HS4 := Lib.hid (HS3.out.later hb4); have HX4 := Lib.hid (HX3.out.below hb4 HX3.out.lt); have HI1 := Lib.hid hi1; have HD1 := Lib.hid hd1; have HL1 := Lib.hid hl1; clear hb4 hi1 hd1 hl1)
  clear CD HS3 HX3 s0 s1 s2 s3
  have hn1 : n1 ≤ 400 := by have h1 := HI1.out.1; have h2 := HL1.out.1; omega
  rcases hok : insOK op ia ib with _ | _
  · as_aux_lemma =>
      go_wp2_with (go_at_call 11; refine (lives_any _).mono ?_; rintro e w9 ⟨rfl, hb9⟩; have HB9 := Lib.hid hb9; clear hb9)
      go_ret
      exact ⟨rfl, HS4.out.below.trans (HB9.out.mono (by have := HS4.out.size; omega))⟩
  by_cases hn0 : n1 = 0
  · subst hn0
    as_aux_lemma =>
      go_wp2_with (go_at_call 11; refine (lives_any _).mono ?_; rintro e w9 ⟨rfl, hb9⟩; have HB9 := Lib.hid hb9; clear hb9)
      go_ret
      exact ⟨rfl, HS4.out.below.trans (HB9.out.mono (by have := HS4.out.size; omega))⟩
  have t0 : ((n1 : Int) == 0) = false := by rw [beq_eq_false_iff_ne]; omega
  have HOK := Lib.hid hok
  have hf1 : 0 ≤ f := by
    rcases HD1.out with ⟨_, rfl⟩ | ⟨_, _, rfl⟩ | ⟨h, _⟩
    · have := HI1.out.1; simp at this; omega
    · have := HI1.out.1; simp at this; omega
    · exact h.2.1
  obtain ⟨m, rfl⟩ := Int.eq_ofNat_of_zero_le hf1
  clear hok hf1
  go_upto_region 6 with (fail)
  go_cut [30] (fun x wx => x = .bool (decide (ap < 0)) ∧ w4 = wx)
  case first =>
    go_wp2_with fail
    go_meet
    exact ⟨rfl, rfl⟩
  case rest =>
    obtain ⟨rfl, rfl⟩ := hcut
    rename_i K0 g0
    refine g0 _ _ ?_
    clear g0 K0
    go_cut [2] (fun x wx => ∃ an : Nat, x = .int .i64 (an : Int) ∧ an ≤ 9223372036854775807 ∧ w4 = wx)
    case first =>
      by_cases hneg : ap < 0
      · have d0 : decide (ap < 0) = true := decide_eq_true hneg
        go_wp2_with fail
        go_meet
        exact ⟨(-(ap + 1)).toNat, by rw [Int.toNat_of_nonneg (by omega)], by omega, rfl⟩
      · have d0 : decide (ap < 0) = false := decide_eq_false hneg
        go_wp2_with fail
        go_meet
        exact ⟨ap.toNat, by rw [Int.toNat_of_nonneg (by omega)], by omega, rfl⟩
    case rest =>
      obtain ⟨an, rfl, han, rfl⟩ := hcut
      go_upto_region 8 with (fail)
      have n0 : ((n1 : Int) == 0) = false := t0
      go_cut [11] (fun x wx => ∃ k : Nat, x = .int .i64 (k : Int) ∧ k < n1 ∧ w4 = wx)
      case first =>
        go_wp2_with fail
        go_meet
        exact ⟨an % n1, by simp, Nat.mod_lt _ (by omega), rfl⟩
      case rest =>
        obtain ⟨k, rfl, hk, rfl⟩ := hcut
        have HRO4 := Lib.hid HL1.out.2
        have HXL : Hid (xs.length = n1) := HI1.out.1
        obtain ⟨gd, cd, ev, _, _, hcell, _⟩ := own_cell HRO4.out (k := k) (by omega)
        cases ev
        have hkx : k < xs.length := by rw [HXL.out]; exact hk
        rw [List.getElem?_map, List.getElem?_eq_getElem hkx, Option.map_some] at hcell
        have HGD : Hid (xs.getD k 0 = xs[k]) := by show _ = _; rw [List.getD_eq_getElem?_getD, List.getElem?_eq_getElem hkx]; rfl
        generalize xs[k] = x at *
        by_cases hx0 : 0 ≤ x
        · have d0 : decide (0 ≤ x) = true := decide_eq_true hx0
          as_aux_lemma =>
            go_wp2_with (go_at_call 11; refine (lives_any _).mono ?_; rintro e w9 ⟨rfl, hb9⟩; have HB9 := Lib.hid hb9; clear hb9)
            go_ret
            exact ⟨rfl, HS4.out.below.trans (HB9.out.mono (by have := HS4.out.size; omega))⟩
        have d0 : decide (0 ≤ x) = false := decide_eq_false hx0
        obtain ⟨x0, hx⟩ := code_total (cutC c)
        obtain ⟨hm, hkl, hdep, hcode⟩ := behind_law (i := ⟨op, ia, ib⟩) HD1.out hkx (by rw [HGD.out]; omega) HOK.out hx
        have HDEP := Lib.hid hdep
        have HCODE := Lib.hid hcode
        clear hdep hcode
        obtain ⟨s0, s1, s2, s3⟩ := HS4.out.cells
        have CM : Hid (Calls Try.prog 9 #[.agg #[.slice FA2 fn2 fc2, .slice IA2 inn2 ic2, .slice TA2 tn2 tc2, .int .i64 c.lets]] w4 fun e w' => e = .returned (.int .i64 x0) ∧ Below w4.heap.size w4 w') :=
          (code_any w4 _ _ HS4.out.at_).mono fun e w' ⟨y, h1, h2, h3⟩ => ⟨by rw [h1, h2.uniq hx], h3⟩
        clear hx
        go_upto_region 12 with (go_at_call 9; refine CM.out.mono ?_; rintro e w5 ⟨rfl, hb5⟩; have HS5 := Lib.hid (HS4.out.later hb5); have HX5 := Lib.hid (HX4.out.below hb5 HX4.out.lt); have HRO5 := Lib.hid (own_below HRO4.out hb5 (Nat.le_refl _)); clear hb5)
        clear CM s0 s1 s2 s3 hcell HX4 HRO4 HS4
        obtain ⟨g, gc, cc, rfl, rfl, hg1, hg2, hcc, hgc1, hgc2, hcs, ⟨cur, hcur⟩, hown⟩ := HS5.out.own.ins hm hkl ⟨op, ia, ib⟩
        obtain ⟨⟨u0, q0⟩, r0⟩ := hcs 0 (by omega)
        obtain ⟨⟨u1, q1⟩, r1⟩ := hcs 1 (by omega)
        obtain ⟨⟨u2, q2⟩, r2⟩ := hcs 2 (by omega)
        rw [Nat.add_zero] at q0 r0
        obtain ⟨s0, s1, s2, s3⟩ := HS5.out.cells
        have y0 : w5.cell? ⟨w.heap.size + 1, 0, none⟩ = some (.int .i64 op) := HX5.out.cell 0
        have y1 : w5.cell? ⟨w.heap.size + 1, 1, none⟩ = some (.int .i64 ia) := HX5.out.cell 1
        have y2 : w5.cell? ⟨w.heap.size + 1, 2, none⟩ = some (.int .i64 ib) := HX5.out.cell 2
        have hcc5 : w5.cell? ⟨g, m * 4 + 3, none⟩ = some (.slice (some ⟨gc, 0, none⟩) ((cutC c).funs.getD m bdy0).code.length cc) := hcc
        have HCU : Hid (Whole w5 gc 36 cur) := hcur
        have HOW : Hid (OwnCod (((w5.setCell ⟨gc, k * 3, none⟩ (.int .i64 op)).setCell ⟨gc, k * 3 + 1, none⟩ (.int .i64 ia)).setCell ⟨gc, k * 3 + 2, none⟩ (.int .i64 ib)).drew (w.heap.size + 1) (.agg #[.slice (some ⟨g, 0, none⟩) (cutC c).funs.length fc2, .slice IA2 inn2 ic2, .slice TA2 tn2 tc2, .int .i64 c.lets]) (setIns (cutC c) m k ⟨op, ia, ib⟩)) := hown
        generalize hlc : ((cutC c).funs.getD m bdy0).code.length = lc at *
        have i1 : (0 : Int) ≤ (m : Int) := by omega
        have i2 : (m : Int) < ((cutC c).funs.length : Int) := by omega
        have i3 : (0 : Int) ≤ (k : Int) := by omega
        have i4 : (k : Int) < (lc : Int) := by omega
        clear hown hcur hcs hcc
        go_still_tail 9, (by kernel_rfl)
        repeat still_step
        go_upto_region 13 with (fail)
        have HBX : Hid (Whole (((w5.setCell ⟨gc, k * 3, none⟩ (.int .i64 op)).setCell ⟨gc, k * 3 + 1, none⟩ (.int .i64 ia)).setCell ⟨gc, k * 3 + 2, none⟩ (.int .i64 ib)).drew w.heap.size 26 #[.slice (some ⟨g, 0, none⟩) (cutC c).funs.length fc2, .slice IA2 inn2 ic2, .slice TA2 tn2 tc2, .int .i64 c.lets]) :=
          ((HS5.out.box.far (p := ⟨gc, k * 3, none⟩) (by show w.heap.size ≠ gc; omega) _).far (p := ⟨gc, k * 3 + 1, none⟩) (by show w.heap.size ≠ gc; omega) _).far (p := ⟨gc, k * 3 + 2, none⟩) (by show w.heap.size ≠ gc; omega) _
        have HBB : Hid (Below w.heap.size w (((w5.setCell ⟨gc, k * 3, none⟩ (.int .i64 op)).setCell ⟨gc, k * 3 + 1, none⟩ (.int .i64 ia)).setCell ⟨gc, k * 3 + 2, none⟩ (.int .i64 ib)).drew) :=
          (((HS5.out.below.setCell (p := ⟨gc, k * 3, none⟩) (by show w.heap.size ≤ gc; omega) _).setCell (p := ⟨gc, k * 3 + 1, none⟩) (by show w.heap.size ≤ gc; omega) _).setCell (p := ⟨gc, k * 3 + 2, none⟩) (by show w.heap.size ≤ gc; omega) _).drew
        have HRO6 := Lib.hid (own_drew (own_setCell (own_setCell (own_setCell HRO5.out (p := ⟨gc, k * 3, none⟩) (own_whole_ne HRO5.out HCU.out (by decide)) (.int .i64 op)) (p := ⟨gc, k * 3 + 1, none⟩) (own_whole_ne HRO5.out HCU.out (by decide)) (.int .i64 ia)) (p := ⟨gc, k * 3 + 2, none⟩) (own_whole_ne HRO5.out HCU.out (by decide)) (.int .i64 ib)))
        clear q0 q1 q2 r0 r1 r2 s0 s1 s2 s3 y0 y1 y2 hcc5 HCU HRO5 HX5 HS5
        generalize (((w5.setCell ⟨gc, k * 3, none⟩ (.int .i64 op)).setCell ⟨gc, k * 3 + 1, none⟩ (.int .i64 ia)).setCell ⟨gc, k * 3 + 2, none⟩ (.int .i64 ib)).drew = w6 at *
        have HCT : Hid (CodAt w6 w6.heap.size _ (setIns (cutC c) m k ⟨op, ia, ib⟩)) := HOW.out.small (setIns_small c m k _).1 (setIns_small c m k _).2.1 (setIns_small c m k _).2.2.1 (setIns_small c m k _).2.2.2
        have s0 : w6.cell? ⟨w.heap.size, 0, none⟩ = some (.slice (some ⟨g, 0, none⟩) (cutC c).funs.length fc2) := HBX.out.cell 0
        have s1 : w6.cell? ⟨w.heap.size, 1, none⟩ = some (.slice IA2 inn2 ic2) := HBX.out.cell 1
        have s2 : w6.cell? ⟨w.heap.size, 2, none⟩ = some (.slice TA2 tn2 tc2) := HBX.out.cell 2
        have s3 : w6.cell? ⟨w.heap.size, 3, none⟩ = some (.int .i64 c.lets) := HBX.out.cell 3
        have HI6 := Lib.hid (ints_row HRO6.out)
        have CD : Hid (Calls Try.prog 12 #[.agg #[.slice (some ⟨g, 0, none⟩) (cutC c).funs.length fc2, .slice IA2 inn2 ic2, .slice TA2 tn2 tc2, .int .i64 c.lets], .int .i64 (m : Int)] w6 fun e w' => ∃ A cap, e = .returned (.slice A n1 cap) ∧ Ints w' w'.heap.size A n1 xs ∧ Below w6.heap.size w6 w') :=
          (depths_any w6 _ _ m HCT.out).mono fun e w' ⟨h1, A, n, cap, ys, h2, h3, h4, h5⟩ => by
            obtain rfl := h4.uniq HDEP.out
            obtain rfl : n1 = n := HXL.out.symm.trans h3.1
            exact ⟨A, cap, h2, h3, h1⟩
        go_upto_region 14 with (first
          | (go_at_call 12; refine CD.out.mono ?_; rintro e w7 ⟨A7, c7, rfl, hi7, hb7⟩; have HB7 := Lib.hid hb7; have CS := Lib.hid (sameints_any w7 w7.heap.size A7 _ n1 n1 c7 p1 xs xs hi7 ((HI6.out.below hb7).more hb7.size) (by omega) (by omega)); clear hi7 hb7)
          | (go_at_call 14; rw [beq_self_eq_true] at CS; refine CS.out.mono ?_; rintro e w8 ⟨rfl, hb8⟩; have HB8 := Lib.hid hb8; clear hb8))
        have HB68 : Hid (Below w6.heap.size w6 w8) := HB7.out.trans (HB8.out.mono HB7.out.size)
        have HBX8 := Lib.hid (HBX.out.below HB68.out HBX.out.lt)
        have HCT8 := Lib.hid ((HCT.out.below HB68.out).more HB68.out.size)
        have HBB8 : Hid (Below w.heap.size w w8) := HBB.out.trans (HB68.out.mono HBB.out.size)
        have CK : Hid (Calls Try.prog 9 #[.agg #[.slice (some ⟨g, 0, none⟩) (cutC c).funs.length fc2, .slice IA2 inn2 ic2, .slice TA2 tn2 tc2, .int .i64 c.lets]] w8 fun e w' => e = .returned (.int .i64 x0) ∧ Below w8.heap.size w8 w') :=
          (code_any w8 _ _ HCT8.out).mono fun e w' ⟨y, h1, h2, h3⟩ => ⟨by rw [h1, h2.uniq HCODE.out], h3⟩
        clear s0 s1 s2 s3 CD CS HCT HBX HB7 HB8 HI6 HRO6 HOW
        have s0 : w8.cell? ⟨w.heap.size, 0, none⟩ = some (.slice (some ⟨g, 0, none⟩) (cutC c).funs.length fc2) := HBX8.out.cell 0
        have s1 : w8.cell? ⟨w.heap.size, 1, none⟩ = some (.slice IA2 inn2 ic2) := HBX8.out.cell 1
        have s2 : w8.cell? ⟨w.heap.size, 2, none⟩ = some (.slice TA2 tn2 tc2) := HBX8.out.cell 2
        have s3 : w8.cell? ⟨w.heap.size, 3, none⟩ = some (.int .i64 c.lets) := HBX8.out.cell 3
        go_wp2_with (first
          | (go_at_call 9; refine CK.out.mono ?_; rintro e wk ⟨rfl, hbk⟩; have HBK := Lib.hid hbk; clear hbk)
          | (go_at_call 11; refine (lives_any _).mono ?_; rintro e wl ⟨rfl, hbl⟩; have HBL := Lib.hid hbl; clear hbl))
        go_ret
        exact ⟨rfl, HBB8.out.trans ((HBK.out.trans (HBL.out.mono HBK.out.size)).mono HBB8.out.size)⟩
end Go.Proofs.Ytjkbhdocpjekmaa
