/- The walks of layer 13: a code's bytes, by the program: a code that may be. -/
import Derived.Test.YtffpkmoaahkfmaaWalkJ
import Derived.Deep.RegionHeld3
import Derived.Deep.DrawnRows
import Derived.Outline
namespace Go.Proofs.Ytffpkmoaahkfmaa
open Go.RowKit
set_option linter.unusedVariables false
attribute [local go_sem ↓] Go.wp_at_zero Go.wp_at_succ

set_option maxRecDepth 100000 in
set_option maxHeartbeats 8000000 in
theorem encode_good (w : World) (v : Value) (c : Cod) (hc : CodAt w w.heap.size v c) (ho : codOK c = true) :
    Calls Try.prog 10 #[v] w fun e w' => ∃ v', e = .returned (.tuple #[v', .int .i64 0]) ∧ w'.ownsRow (w.heap.size + 1) 5 1 v' (encC c).length ((encC c).map u8v) ∧ Below w.heap.size w w' ∧ w.heap.size + 1 ≤ w'.heap.size := by
  obtain ⟨FA, fn, fc, IA, inn, ic, TA, tn, tc, rfl, h1, h2, h3, hf, hi, ht⟩ := hc.form
  have HC := Lib.hid hc
  obtain ⟨w2, hw2⟩ : ∃ w2, w2 = w.alloc (.cells #[.slice FA fn fc, .slice IA inn ic, .slice TA tn tc, .int .i64 c.lets] 26) := ⟨_, rfl⟩
  have HB : Hid (Below w.heap.size w w2) := by show Below _ _ _; rw [hw2]; exact (Below.refl _ _).alloc (Nat.le_refl _) _
  have HW : Hid (Whole w2 w.heap.size 26 #[.slice FA fn fc, .slice IA inn ic, .slice TA tn tc, .int .i64 c.lets]) := by show Whole _ _ _ _; rw [hw2]; exact Whole.made _ _ _
  have HZ : Hid (w2.heap.size = w.heap.size + 1) := by show _ = _; rw [hw2]; simp
  have HF : Hid (BdysAt w2 (w.heap.size + 1) FA fn c.funs) := (h1.below HB.out).more (by omega)
  have HI : Hid (Ints w2 (w.heap.size + 1) IA inn c.ints) := (h2.below HB.out).more (by omega)
  have HT : Hid (StrsAt w2 (w.heap.size + 1) TA tn c.texts) := (h3.below HB.out).more (by omega)
  have HSZ := Lib.hid (cod_sizes ho)
  have HO := Lib.hid ho
  have HL1 := Lib.hid h1.1; have HL2 := Lib.hid h2.1; have HL3 := Lib.hid h3.1
  have hz1 : fn ≤ 120 := by have := HSZ.out.2.1; rw [HL1.out] at this; exact this
  have hz2 : inn ≤ 120 := by have := HSZ.out.2.2.1; rw [HL2.out] at this; exact this
  have hz3 : tn ≤ 120 := by have := HSZ.out.2.2.2.1; rw [HL3.out] at this; exact this
  clear hc h1 h2 h3 ho hf hi ht
  have kc := fun (w : World) (C : Array Value) (n c : Nat) => Lib.run_convert_bytes_const (P := Try.prog) w 28 5 C n c Try.underlying28 Try.underlying5
  go_enter Try.func10, Try.ntmps10
  go_wp2_with fail
  rw [← hw2]
  clear hw2
  refine (may_any _ _ c ((HC.out.below HB.out).more HB.out.size)).mono ?_
  rintro e w3 ⟨rfl, hb⟩
  rw [HO.out]
  have HW3 := Lib.hid (HW.out.below hb (by rw [HZ.out]; omega))
  have c3 : (w3.alloc (Obj.cells #[.int .u8 83, .int .u8 77, .int .u8 49] 5 (3, 4))).cell? ⟨w.heap.size, 3, none⟩ = some (.int .i64 c.lets) := (HW3.out.alloc _).cell 3
  have c1 : (w3.alloc (Obj.cells #[.int .u8 83, .int .u8 77, .int .u8 49] 5 (3, 4))).cell? ⟨w.heap.size, 1, none⟩ = some (.slice IA inn ic) := (HW3.out.alloc _).cell 1
  have HG1 := Lib.hid (grow_magic hb HZ.out (KeepT.of_below hb))
  clear hb
  go_wp2_with fail
  refine (put_lit HG1.out 1 [c.lets, (inn : Int)] 2 rfl _ (by simp) (by decide) (by decide) (by decide) (by decide) (by decide)).mono ?_
  rintro e w4 ⟨v4, rfl, hg4⟩
  have HG2 := Lib.hid hg4
  clear hg4 c1 c3 HG1 HW3
  have d1 : w4.cell? ⟨w.heap.size, 1, none⟩ = some (.slice IA inn ic) := (HW.out.below HG2.out.2.1 (by omega)).cell 1
  go_wp2_with fail
  refine (put_arg HG2.out 8 (B := w.heap.size + 1) HI.out (Nat.le_refl _) (by decide) (by omega) (by show 3 + 1 * 2 ≤ _; omega)).mono ?_
  rintro e w5 ⟨v5, rfl, hg5⟩
  have HG3 := Lib.hid hg5
  have HLE3 : Hid (([83, 77, 49] ++ putB 1 [c.lets, (inn : Int)] ++ putB 8 c.ints).length ≤ 965) := by show _ ≤ _; rw [List.length_append, List.length_append, putB_len, putB_len, HL2.out]; simp only [List.length_cons, List.length_nil]; omega
  clear hg5 HG2 d1
  have e2 : w5.cell? ⟨w.heap.size, 2, none⟩ = some (.slice TA tn tc) := (HW.out.below HG3.out.2.1 (by omega)).cell 2
  go_wp2_with fail
  refine (put_lit HG3.out 1 [(tn : Int)] 1 rfl _ rfl (by decide) (by decide) (by have := HLE3.out; omega) (by decide) (by decide)).mono ?_
  rintro e w6 ⟨v6, rfl, hg6⟩
  have HG4 := Lib.hid hg6
  have HLE4 : Hid (([83, 77, 49] ++ putB 1 [c.lets, (inn : Int)] ++ putB 8 c.ints ++ putB 1 [(tn : Int)]).length ≤ 966) := by have := HLE3.out; show _ ≤ _; rw [List.length_append, putB_len]; simp only [List.length_cons, List.length_nil]; omega
  clear hg6 HG3 e2 HLE3
  have f2 : w6.cell? ⟨w.heap.size, 2, none⟩ = some (.slice TA tn tc) := (HW.out.below HG4.out.2.1 (by omega)).cell 2
  go_wp2_with fail
  generalize hL4 : [83, 77, 49] ++ putB 1 [c.lets, (inn : Int)] ++ putB 8 c.ints ++ putB 1 [(tn : Int)] = L4 at *
  have HL4 := Lib.hid hL4
  clear hL4
  go_loopw [4, 36] (fun b i wr => ∃ k : Nat, i = .int .i64 (k : Int) ∧ k ≤ tn ∧ Grow true w2 (w.heap.size + 1) (L4 ++ (c.texts.take k).flatMap encT) b wr) (fun _ i _ => tn - (intOf i).toNat)
  case atStart => exact ⟨0, rfl, by omega, by simpa using HG4.out⟩
  case round =>
    obtain ⟨k, rfl, hk, hg⟩ := hrel
    have hll : (L4 ++ (c.texts.take k).flatMap encT).length ≤ 10000 := by
      have h1 := flat_len_take (f := encT) (k := k) (M := 61) (l := c.texts) (fun x hx => encT_len (HSZ.out.2.2.2.2.2.2.1 x hx))
      have h2 := HLE4.out
      rw [HL3.out] at h1
      rw [List.length_append]; omega
    by_cases hlt : k < tn
    · obtain ⟨b, off, e1, _, d1⟩ := (HT.out.below hg.2.1).at_ hlt
      have HTK := Lib.hid (flat_take (f := encT) (d := ByteArray.empty) (l := c.texts) (k := k) (by rw [HL3.out]; exact hlt))
      have hsx : (c.texts.getD k ByteArray.empty).size ≤ 60 := HSZ.out.2.2.2.2.2.2.1 _ (getD_mem (by rw [HL3.out]; exact hlt))
      generalize c.texts.getD k ByteArray.empty = x at *
      have HN : Hid (L4 ++ (c.texts.take (k + 1)).flatMap encT = L4 ++ (c.texts.take k).flatMap encT ++ putB 1 [(x.size : Int)] ++ x.data.toList) := by show _ = _; rw [HTK.out]; unfold encT; simp only [List.append_assoc]
      clear HTK
      generalize L4 ++ (c.texts.take k).flatMap encT = L at *
      subst e1
      have HG := Lib.hid hg
      clear hg
      go_wp2_with fail
      refine (put_lit HG.out 1 [(x.size : Int)] 1 rfl _ rfl (by decide) (by decide) (by omega) (by decide) (by decide)).mono ?_
      rintro e w7 ⟨v7, rfl, hg7⟩
      have HG7 := Lib.hid hg7
      have hl7 : (L ++ putB 1 [(x.size : Int)]).length ≤ 10001 := by rw [List.length_append, putB_len]; simp only [List.length_cons, List.length_nil]; omega
      clear hg7 HG d1
      go_wp2_with (at_builtin; go_must (refine app_str rfl _ _ rfl rfl HG7.out x rfl (by omega) ?_); intro v8 w8 hg8)
      exact ⟨⟨k + 1, by go_num, by omega, by rw [HN.out]; exact hg8⟩, by simp [intOf]; omega⟩
    · have e : c.texts.take k = c.texts := List.take_of_length_le (by rw [HL3.out]; omega)
      rw [e] at hg hll
      have HG := Lib.hid hg
      clear hg e HG4 HT HLE4
      generalize hL5 : L4 ++ c.texts.flatMap encT = L5 at *
      have HL5 := Lib.hid hL5
      clear hL5
      have g0 : wr.cell? ⟨w.heap.size, 0, none⟩ = some (.slice FA fn fc) := (HW.out.below HG.out.2.1 (by omega)).cell 0
      go_wp2_with fail
      refine (put_lit HG.out 1 [(fn : Int)] 1 rfl _ rfl (by decide) (by decide) (by omega) (by decide) (by decide)).mono ?_
      rintro e w7 ⟨v7, rfl, hg7⟩
      have HG7 := Lib.hid hg7
      have HLE7 : Hid ((L5 ++ putB 1 [(fn : Int)]).length ≤ 10001) := by show _ ≤ _; rw [List.length_append, putB_len]; simp only [List.length_cons, List.length_nil]; omega
      clear hg7 HG g0
      have g0 : w7.cell? ⟨w.heap.size, 0, none⟩ = some (.slice FA fn fc) := (HW.out.below HG7.out.2.1 (by omega)).cell 0
      generalize hL6 : L5 ++ putB 1 [(fn : Int)] = L6 at *
      have HL6 := Lib.hid hL6
      clear hL6
      go_wp2_with fail
      go_loopw [4, 57] (fun b i wf => ∃ k : Nat, i = .int .i64 (k : Int) ∧ k ≤ fn ∧ Grow true w2 (w.heap.size + 1) (L6 ++ (c.funs.take k).flatMap encF) b wf) (fun _ i _ => fn - (intOf i).toNat)
      case atStart => exact ⟨0, rfl, by omega, by simpa using HG7.out⟩
      case round =>
        obtain ⟨k2, rfl, hk2, hg⟩ := hrel
        have hll2 : (L6 ++ (c.funs.take k2).flatMap encF).length ≤ 300000 := by
          have h1 := flat_len_take (f := encF) (k := k2) (M := 2005) (l := c.funs) (fun x hx => encF_len (HSZ.out.2.2.2.2.2.2.2 x hx))
          have h2 := HLE7.out
          rw [HL1.out] at h1
          rw [List.length_append]; omega
        by_cases hlt2 : k2 < fn
        · obtain ⟨b, off, e1, hbl, q1, q2, q3, A2, n2, cp2, q4, hI0, _⟩ := HF.out.at_ hlt2
          replace q1 := (hg.2.1.cell (p := ⟨b, _, none⟩) hbl).trans q1
          replace q2 := (hg.2.1.cell (p := ⟨b, _, none⟩) hbl).trans q2
          replace q3 := (hg.2.1.cell (p := ⟨b, _, none⟩) hbl).trans q3
          replace q4 := (hg.2.1.cell (p := ⟨b, _, none⟩) hbl).trans q4
          have HTK := Lib.hid (flat_take (f := encF) (d := bdy0) (l := c.funs) (k := k2) (by rw [HL1.out]; exact hlt2))
          have hsx : (c.funs.getD k2 bdy0).code.length ≤ 400 := HSZ.out.2.2.2.2.2.2.2 _ (getD_mem (by rw [HL1.out]; exact hlt2))
          generalize c.funs.getD k2 bdy0 = x at *
          obtain ⟨kept, locals, stack, code⟩ := x
          dsimp only at q1 q2 q3 hI0 hsx
          have HIX := Lib.hid hI0
          have HLX := Lib.hid hI0.1
          have hn2 : n2 ≤ 400 := by rw [← HLX.out]; exact hsx
          clear hI0 hsx
          have HN : Hid (L6 ++ (c.funs.take (k2 + 1)).flatMap encF = L6 ++ (c.funs.take k2).flatMap encF ++ putB 1 [kept, locals, stack] ++ putB 2 [(n2 : Int)] ++ code.flatMap encI) := by
            show _ = _; rw [HTK.out]; unfold encF; rw [HLX.out]; simp only [List.append_assoc]
          clear HTK
          generalize L6 ++ (c.funs.take k2).flatMap encF = L at *
          subst e1
          have HG := Lib.hid hg
          clear hg g0
          obtain ⟨wb, hwb⟩ : ∃ wb, wb = wr.alloc (.cells #[.int .i64 kept, .int .i64 locals, .int .i64 stack, .slice A2 n2 cp2] 40) := ⟨_, rfl⟩
          have HWB : Hid (Whole wb wr.heap.size 40 #[.int .i64 kept, .int .i64 locals, .int .i64 stack, .slice A2 n2 cp2]) := by show Whole _ _ _ _; rw [hwb]; exact Whole.made _ _ _
          have HGB : Hid (Grow true w2 (w.heap.size + 1) L u4 wb) := by show Grow _ _ _ _ _ _; rw [hwb]; exact HG.out.alloc _
          have HZB : Hid (wb.heap.size = wr.heap.size + 1) := by show _ = _; rw [hwb]; simp
          go_wp2_with fail
          rw [← hwb]
          clear hwb HG q1 q2 q3 q4
          refine (put_ready (m := 3) (HGB.out.alloc _) 1 [kept, locals, stack] (reads_new HZB.out rfl) (by decide) (by decide) (by omega) (by decide) (by decide)).mono ?_
          rintro e w8 ⟨v8, rfl, hg8, hk8, hb8⟩
          have HG8 := Lib.hid hg8
          have HK8 := Lib.hid (((KeepT.refl wb).alloc _).trans hk8)
          have hl8 : (L ++ putB 1 [kept, locals, stack]).length ≤ 300003 := by rw [List.length_append, putB_len]; simp only [List.length_cons, List.length_nil]; omega
          clear hg8 hk8 hb8
          have q3 : w8.cell? ⟨wr.heap.size, 3, none⟩ = some (.slice A2 n2 cp2) := (HK8.out.whole HWB.out (by decide)).cell 3
          go_wp2_with fail
          refine (put_ready (m := 1) (HG8.out.alloc _) 2 [(n2 : Int)] (reads_new rfl rfl) (by decide) (by decide) (by omega) (by decide) (by decide)).mono ?_
          rintro e w9 ⟨v9, rfl, hg9, hk9, hb9⟩
          have HG9 := Lib.hid hg9
          have HK9 := Lib.hid (HK8.out.trans (((KeepT.refl w8).alloc _).trans hk9))
          have hl9 : (L ++ putB 1 [kept, locals, stack] ++ putB 2 [(n2 : Int)]).length ≤ 300005 := by rw [List.length_append, putB_len]; simp only [List.length_cons, List.length_nil]; omega
          clear hg9 hk9 hb9 q3 HG8 HK8
          have q3 : w9.cell? ⟨wr.heap.size, 3, none⟩ = some (.slice A2 n2 cp2) := (HK9.out.whole HWB.out (by decide)).cell 3
          generalize wr.heap.size = g at *
          generalize L ++ putB 1 [kept, locals, stack] ++ putB 2 [(n2 : Int)] = L9 at *
          go_wp2_with fail
          go_loopw [4, 79] (fun b i wi => ∃ j : Nat, i = .int .i64 (j : Int) ∧ j ≤ n2 ∧ Grow true w2 (w.heap.size + 1) (L9 ++ (code.take j).flatMap encI) b wi) (fun _ i _ => n2 - (intOf i).toNat)
          case atStart => exact ⟨0, rfl, by omega, by simpa using HG9.out⟩
          case round =>
            obtain ⟨j, rfl, hj, hg⟩ := hrel
            have hll3 : (L9 ++ (code.take j).flatMap encI).length ≤ 303000 := by
              have h1 := flat_len_take (f := encI) (k := j) (M := 5) (l := code) (fun x hx => by rw [encI_len]; omega)
              rw [HLX.out] at h1
              rw [List.length_append]; omega
            by_cases hlt3 : j < n2
            · obtain ⟨b', off', e2, _, r1, r2, r3⟩ := (HIX.out.below hg.2.1).at_ hlt3
              have HTK := Lib.hid (flat_take (f := encI) (d := ins0) (l := code) (k := j) (by rw [HLX.out]; exact hlt3))
              generalize code.getD j ins0 = q at *
              obtain ⟨op, ia, ib⟩ := q
              dsimp only at r1 r2 r3
              have HN3 : Hid (L9 ++ (code.take (j + 1)).flatMap encI = L9 ++ (code.take j).flatMap encI ++ putB 1 [op] ++ putB 2 [ia, ib]) := by
                show _ = _; rw [HTK.out]; unfold encI; simp only [List.append_assoc]
              clear HTK
              generalize L9 ++ (code.take j).flatMap encI = L' at *
              subst e2
              have HG3 := Lib.hid hg
              clear hg q3
              obtain ⟨wc, hwc⟩ : ∃ wc, wc = wr.alloc (.cells #[.int .i64 op, .int .i64 ia, .int .i64 ib] 42) := ⟨_, rfl⟩
              have HGC : Hid (Grow true w2 (w.heap.size + 1) L' u4 wc) := by show Grow _ _ _ _ _ _; rw [hwc]; exact HG3.out.alloc _
              have hwc0 : Whole wc wr.heap.size 42 #[.int .i64 op, .int .i64 ia, .int .i64 ib] := by rw [hwc]; exact Whole.made _ _ _
              go_wp2_with fail
              rw [← hwc]
              clear hwc HG3 r1 r2 r3
              generalize wr.heap.size = gc at *
              have HWC := Lib.hid hwc0
              have s0 : wc.cell? ⟨gc, 0, none⟩ = some (.int .i64 op) := hwc0.cell 0
              have s1 : wc.cell? ⟨gc, 1, none⟩ = some (.int .i64 ia) := hwc0.cell 1
              have s2 : wc.cell? ⟨gc, 2, none⟩ = some (.int .i64 ib) := hwc0.cell 2
              have hgl : gc < wc.heap.size := hwc0.lt
              clear hwc0
              have hlc : (L' ++ putB 1 [op]).length ≤ 303001 := by rw [List.length_append, putB_len]; simp only [List.length_cons, List.length_nil]; omega
              have CK1 := fun (wx : World) (g : Nat) => put_beside1 (w := w2) (wx := wx) (base := w.heap.size + 1) (L := L') (v := u4) (gc := gc) (x := op) (y := ia) (z := ib) (g := g) op (by omega)
              have CK2 := fun (vx : Value) (wx : World) (g : Nat) => put_beside2 (w := w2) (wx := wx) (base := w.heap.size + 1) (L := L' ++ putB 1 [op]) (v := vx) (gc := gc) (x := op) (y := ia) (z := ib) (g := g) ia ib (by omega)
              go_region_held3 (fun W => W.cell? ⟨gc, 0, none⟩ = some (.int .i64 op) ∧ W.cell? ⟨gc, 1, none⟩ = some (.int .i64 ia) ∧ W.cell? ⟨gc, 2, none⟩ = some (.int .i64 ib))
                (first | go_keep)
                (first
                  | ((go_at_call 22; with_reducible refine (CK1 _ _ ?_).mono ?_); (first | exact ⟨(HGC.out.alloc _).drew, (reads_new (zs := [op]) rfl rfl).drew, HWC.out.alloc _⟩ | exact ⟨((HGC.out.alloc _).alloc _).drew, (reads_new (zs := [op]) (by simp) rfl).drew, (HWC.out.alloc _).alloc _⟩ | exact ⟨((HGC.out.alloc _).alloc _).drew, ((reads_new (zs := [op]) rfl rfl).alloc (HGC.out.alloc _).2.2.2 _).drew, (HWC.out.alloc _).alloc _⟩); rintro e wx ⟨vx, rfl, hgx, hkx, hbx, hWx, tx0, tx1, tx2⟩)
                  | ((go_at_call 22; with_reducible refine (CK2 _ _ _ ?_).mono ?_); (first | exact ⟨hgx.alloc _, reads_new (zs := [ia, ib]) rfl rfl, hWx.alloc _⟩ | exact ⟨hgx, Reads.keep (zs := [ia, ib]) (reads_new (zs := [ia, ib]) (by simp) rfl).drew hbx hkx, hWx⟩ | exact ⟨hgx, Reads.keep (zs := [ia, ib]) ((reads_new (zs := [ia, ib]) rfl rfl).alloc (HGC.out.alloc _).2.2.2 _).drew hbx hkx, hWx⟩); rintro e wy ⟨vy, rfl, hgy, hky, hby, hWy, ty0, ty1, ty2⟩))
              all_goals
                go_wp2_with fail
                exact ⟨⟨j + 1, by go_num, by omega, by rw [HN3.out]; exact hgy⟩, by simp [intOf]; omega⟩
            · have e : code.take j = code := List.take_of_length_le (by rw [HLX.out]; omega)
              rw [e, ← HN.out] at hg
              have HG3 := Lib.hid hg
              clear hg e
              go_wp2_with fail
              exact ⟨⟨k2 + 1, by go_num, by omega, HG3.out⟩, by simp [intOf]; omega⟩
        · have e : c.funs.take k2 = c.funs := List.take_of_length_le (by rw [HL1.out]; omega)
          rw [e, ← HL6.out, ← HL5.out, ← HL4.out, ← HL1.out, ← HL2.out, ← HL3.out] at hg
          have HG := Lib.hid hg
          clear hg e g0 hll2 hll
          go_wp2_with fail
          go_ret2
          refine ⟨_, rfl, ?_, HB.out.trans (HG.out.2.1.mono (by omega)), HG.out.2.2.2⟩
          exact HG.out.own
end Go.Proofs.Ytffpkmoaahkfmaa
