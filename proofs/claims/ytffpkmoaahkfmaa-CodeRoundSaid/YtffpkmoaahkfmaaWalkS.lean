/- The walks of layer 13: whether two codes are the same. -/
import Derived.Test.YtffpkmoaahkfmaaLb
import Derived.Deep.QuietTactic
import Derived.BigQuiet
namespace Go.Proofs.Ytffpkmoaahkfmaa
open Go.RowKit
set_option linter.unusedVariables false
attribute [local go_sem ↓] Go.wp_at_zero Go.wp_at_succ

set_option maxRecDepth 100000 in
set_option maxHeartbeats 4000000 in
theorem same_any (w : World) (u v : Value) (c : Cod) (hu : CodAt w w.heap.size u c) (hv : CodAt w w.heap.size v c) :
    Calls Try.prog 21 #[u, v] w fun e w' => e = .returned (.bool true) ∧ Below w.heap.size w w' := by
  obtain ⟨FA, fn, fc, IA, inn, ic, TA, tn, tc, rfl, h1, h2, h3, hf, hi, ht⟩ := hu.form
  obtain ⟨FB, fn', fd, IB, inn', id, TB, tn', td, rfl, k1, k2, k3, hf', hi', ht'⟩ := hv.form
  obtain rfl : fn' = fn := by rw [← h1.1, ← k1.1]
  obtain rfl : inn' = inn := by rw [← h2.1, ← k2.1]
  obtain rfl : tn' = tn := by rw [← h3.1, ← k3.1]
  have hfn : fn' ≤ 9223372036854775807 := by omega
  have hin : inn' ≤ 9223372036854775807 := by omega
  have htn : tn' ≤ 9223372036854775807 := by omega
  clear hf hi ht hf' hi' ht' hu hv
  obtain ⟨w2, hw2⟩ : ∃ w2, w2 = (w.alloc (.cells #[.slice FA fn' fc, .slice IA inn' ic, .slice TA tn' tc, .int .i64 c.lets] 26)).alloc (.cells #[.slice FB fn' fd, .slice IB inn' id, .slice TB tn' td, .int .i64 c.lets] 26) := ⟨_, rfl⟩
  have HB : Hid (Below w.heap.size w w2) := by show Below _ _ _; rw [hw2]; exact ((Below.refl _ _).alloc (Nat.le_refl _) _).alloc (by simp) _
  have HZ : Hid (w2.heap.size = w.heap.size + 1 + 1) := by show _ = _; rw [hw2]; simp
  have HW : Hid (Whole w2 w.heap.size 26 #[.slice FA fn' fc, .slice IA inn' ic, .slice TA tn' tc, .int .i64 c.lets]) := by show Whole _ _ _ _; rw [hw2]; exact (Whole.made _ _ _).alloc _
  have HV : Hid (Whole w2 (w.heap.size + 1) 26 #[.slice FB fn' fd, .slice IB inn' id, .slice TB tn' td, .int .i64 c.lets]) := by
    show Whole _ _ _ _; rw [hw2]
    have := Whole.made (w.alloc (.cells #[.slice FA fn' fc, .slice IA inn' ic, .slice TA tn' tc, .int .i64 c.lets] 26)) 26 #[.slice FB fn' fd, .slice IB inn' id, .slice TB tn' td, .int .i64 c.lets]
    simpa using this
  have HF : Hid (BdysAt w2 w2.heap.size FA fn' c.funs) := (h1.below HB.out).more (by have := HZ.out; omega)
  have HI : Hid (Ints w2 w2.heap.size IA inn' c.ints) := (h2.below HB.out).more (by have := HZ.out; omega)
  have HT : Hid (StrsAt w2 w2.heap.size TA tn' c.texts) := (h3.below HB.out).more (by have := HZ.out; omega)
  have HF' : Hid (BdysAt w2 w2.heap.size FB fn' c.funs) := (k1.below HB.out).more (by have := HZ.out; omega)
  have HI' : Hid (Ints w2 w2.heap.size IB inn' c.ints) := (k2.below HB.out).more (by have := HZ.out; omega)
  have HT' : Hid (StrsAt w2 w2.heap.size TB tn' c.texts) := (k3.below HB.out).more (by have := HZ.out; omega)
  clear h1 h2 h3 k1 k2 k3
  have a0 : w2.cell? ⟨w.heap.size, 0, none⟩ = some (.slice FA fn' fc) := HW.out.cell 0
  have a1 : w2.cell? ⟨w.heap.size, 1, none⟩ = some (.slice IA inn' ic) := HW.out.cell 1
  have a2 : w2.cell? ⟨w.heap.size, 2, none⟩ = some (.slice TA tn' tc) := HW.out.cell 2
  have a3 : w2.cell? ⟨w.heap.size, 3, none⟩ = some (.int .i64 c.lets) := HW.out.cell 3
  have b0 : w2.cell? ⟨w.heap.size + 1, 0, none⟩ = some (.slice FB fn' fd) := HV.out.cell 0
  have b1 : w2.cell? ⟨w.heap.size + 1, 1, none⟩ = some (.slice IB inn' id) := HV.out.cell 1
  have b2 : w2.cell? ⟨w.heap.size + 1, 2, none⟩ = some (.slice TB tn' td) := HV.out.cell 2
  have b3 : w2.cell? ⟨w.heap.size + 1, 3, none⟩ = some (.int .i64 c.lets) := HV.out.cell 3
  rw [hw2] at a0 a1 a2 a3 b0 b1 b2 b3
  go_enter Try.func21, Try.ntmps21
  go_wp2_with fail
  rw [← hw2] at a0 a1 a2 a3 b0 b1 b2 b3 ⊢
  clear hw2
  go_loopw [5] (fun i wr => ∃ k : Nat, i = .int .i64 (k : Int) ∧ k ≤ inn' ∧ Below w2.heap.size w2 wr) (fun i _ => inn' - (intOf i).toNat)
  case atStart => exact ⟨0, rfl, by omega, Below.refl _ _⟩
  case round =>
    obtain ⟨k, rfl, hk, hb⟩ := hrel
    have HBR := Lib.hid hb
    clear a0 a1 a2 a3 b0 b1 b2 b3
    have c1 : wr.cell? ⟨w.heap.size, 1, none⟩ = some (.slice IA inn' ic) := (HW.out.below hb HW.out.lt).cell 1
    have d1 : wr.cell? ⟨w.heap.size + 1, 1, none⟩ = some (.slice IB inn' id) := (HV.out.below hb HV.out.lt).cell 1
    by_cases hlt : k < inn'
    · obtain ⟨bA, oA, rfl, _, x1⟩ := (HI.out.below hb).at_ hlt
      obtain ⟨bB, oB, rfl, _, y1⟩ := (HI'.out.below hb).at_ hlt
      clear hb
      go_wp2_with fail
      go_quiet (fail)
      go_wp2_with fail
      exact ⟨⟨k + 1, by go_num, by omega, below_drewN HBR.out _⟩, by simp [intOf]; omega⟩
    · clear hb
      have c2 : wr.cell? ⟨w.heap.size, 2, none⟩ = some (.slice TA tn' tc) := (HW.out.below HBR.out HW.out.lt).cell 2
      go_wp2_with fail
      obtain ⟨wo, HBO⟩ : ∃ wo, Hid (Below w2.heap.size w2 wo) := ⟨_, HBR⟩
      go_loopw [6] (fun i wr => ∃ k : Nat, i = .int .i64 (k : Int) ∧ k ≤ tn' ∧ Below w2.heap.size w2 wr) (fun i _ => tn' - (intOf i).toNat)
      case atStart => exact ⟨0, rfl, by omega, HBR.out⟩
      case round =>
        obtain ⟨k2, rfl, hk2, hb⟩ := hrel
        clear HBR c1 d1 c2
        have HBR := Lib.hid hb
        have c1 : wr.cell? ⟨w.heap.size, 2, none⟩ = some (.slice TA tn' tc) := (HW.out.below hb HW.out.lt).cell 2
        have d1 : wr.cell? ⟨w.heap.size + 1, 2, none⟩ = some (.slice TB tn' td) := (HV.out.below hb HV.out.lt).cell 2
        by_cases hlt2 : k2 < tn'
        · obtain ⟨bA, oA, rfl, _, x1⟩ := (HT.out.below hb).at_ hlt2
          obtain ⟨bB, oB, rfl, _, y1⟩ := (HT'.out.below hb).at_ hlt2
          clear hb
          go_wp2_with fail
          go_quiet (fail)
          go_wp2_with fail
          exact ⟨⟨k2 + 1, by go_num, by omega, below_drewN HBR.out _⟩, by simp [intOf]; omega⟩
        · clear hb
          go_wp2_with fail
          go_loopw [7, 8, 9, 10] (fun i _ _ _ wr => ∃ k : Nat, i = .int .i64 (k : Int) ∧ k ≤ fn' ∧ Below w2.heap.size w2 wr) (fun i _ _ _ _ => fn' - (intOf i).toNat)
          case atStart => exact ⟨0, rfl, by omega, HBR.out⟩
          case round =>
            obtain ⟨k3, rfl, hk3, hb⟩ := hrel
            clear HBR c1 d1
            have HBR := Lib.hid hb
            have c0 : wr.cell? ⟨w.heap.size, 0, none⟩ = some (.slice FA fn' fc) := (HW.out.below hb HW.out.lt).cell 0
            have d0 : wr.cell? ⟨w.heap.size + 1, 0, none⟩ = some (.slice FB fn' fd) := (HV.out.below hb HV.out.lt).cell 0
            by_cases hlt3 : k3 < fn'
            · obtain ⟨bA, oA, rfl, hA, x1, x2, x3, A2, n2, cp2, x4, hIA, hna⟩ := HF.out.at_ hlt3
              obtain ⟨bB, oB, rfl, hB, y1, y2, y3, B2, m2, cq2, y4, hIB, hnb⟩ := HF'.out.at_ hlt3
              obtain rfl : m2 = n2 := by rw [← hIA.1, ← hIB.1]
              replace x1 := (hb.cell (p := ⟨bA, _, none⟩) hA).trans x1
              replace x2 := (hb.cell (p := ⟨bA, _, none⟩) hA).trans x2
              replace x3 := (hb.cell (p := ⟨bA, _, none⟩) hA).trans x3
              replace x4 := (hb.cell (p := ⟨bA, _, none⟩) hA).trans x4
              replace y1 := (hb.cell (p := ⟨bB, _, none⟩) hB).trans y1
              replace y2 := (hb.cell (p := ⟨bB, _, none⟩) hB).trans y2
              replace y3 := (hb.cell (p := ⟨bB, _, none⟩) hB).trans y3
              replace y4 := (hb.cell (p := ⟨bB, _, none⟩) hB).trans y4
              have HIA := Lib.hid hIA
              have HIB := Lib.hid hIB
              clear hIA hIB hb
              generalize c.funs.getD k3 bdy0 = x at *
              obtain ⟨kept, locals, stack, code⟩ := x
              dsimp only at x1 x2 x3 y1 y2 y3 HIA HIB
              obtain ⟨wb, hwb⟩ : ∃ wb, wb = wr.alloc (.cells #[.int .i64 kept, .int .i64 locals, .int .i64 stack, .slice A2 m2 cp2] 40) := ⟨_, rfl⟩
              have HWB : Hid (Whole wb wr.heap.size 40 #[.int .i64 kept, .int .i64 locals, .int .i64 stack, .slice A2 m2 cp2]) := by show Whole _ _ _ _; rw [hwb]; exact Whole.made _ _ _
              have HBB : Hid (Below w2.heap.size w2 wb) := by show Below _ _ _; rw [hwb]; exact HBR.out.alloc HBR.out.size _
              have hz : wb.heap.size = wr.heap.size + 1 := by rw [hwb]; simp
              have HZB := Lib.hid hz
              have d0b : wb.cell? ⟨w.heap.size + 1, 0, none⟩ = some (.slice (some ⟨bB, oB, none⟩) fn' fd) := (HV.out.below HBB.out HV.out.lt).cell 0
              have hbb : Below wr.heap.size wr wb := by rw [hwb]; exact (Below.refl _ _).alloc (Nat.le_refl _) _
              have hbs := HBR.out.size
              have y1b := (hbb.cell (p := ⟨bB, _, none⟩) (by show bB < wr.heap.size; omega)).trans y1
              have y2b := (hbb.cell (p := ⟨bB, _, none⟩) (by show bB < wr.heap.size; omega)).trans y2
              have y3b := (hbb.cell (p := ⟨bB, _, none⟩) (by show bB < wr.heap.size; omega)).trans y3
              have y4b := (hbb.cell (p := ⟨bB, _, none⟩) (by show bB < wr.heap.size; omega)).trans y4
              obtain ⟨wc, hwc⟩ : ∃ wc, wc = wb.alloc (.cells #[.int .i64 kept, .int .i64 locals, .int .i64 stack, .slice B2 m2 cq2] 40) := ⟨_, rfl⟩
              have HWC : Hid (Whole wc (wr.heap.size + 1) 40 #[.int .i64 kept, .int .i64 locals, .int .i64 stack, .slice B2 m2 cq2]) := by show Whole _ _ _ _; rw [hwc]; have := Whole.made wb 40 #[.int .i64 kept, .int .i64 locals, .int .i64 stack, .slice B2 m2 cq2]; rw [hz] at this; exact this
              have HBC : Hid (Below w2.heap.size w2 wc) := by show Below _ _ _; rw [hwc]; exact HBB.out.alloc HBB.out.size _
              have HWB' : Hid (Whole wc wr.heap.size 40 #[.int .i64 kept, .int .i64 locals, .int .i64 stack, .slice A2 m2 cp2]) := by show Whole _ _ _ _; rw [hwc]; exact HWB.out.alloc _
              have e0 : wc.cell? ⟨wr.heap.size, 0, none⟩ = some (.int .i64 kept) := HWB'.out.cell 0
              have e1 : wc.cell? ⟨wr.heap.size, 1, none⟩ = some (.int .i64 locals) := HWB'.out.cell 1
              have e2 : wc.cell? ⟨wr.heap.size, 2, none⟩ = some (.int .i64 stack) := HWB'.out.cell 2
              have e3 : wc.cell? ⟨wr.heap.size, 3, none⟩ = some (.slice A2 m2 cp2) := HWB'.out.cell 3
              have g0 : wc.cell? ⟨wr.heap.size + 1, 0, none⟩ = some (.int .i64 kept) := HWC.out.cell 0
              have g1 : wc.cell? ⟨wr.heap.size + 1, 1, none⟩ = some (.int .i64 locals) := HWC.out.cell 1
              have g2 : wc.cell? ⟨wr.heap.size + 1, 2, none⟩ = some (.int .i64 stack) := HWC.out.cell 2
              have g3 : wc.cell? ⟨wr.heap.size + 1, 3, none⟩ = some (.slice B2 m2 cq2) := HWC.out.cell 3
              have hwb' := hwb.symm
              rw [hwb] at d0b y1b y2b y3b y4b
              rw [hwc, hwb] at e0 e1 e2 e3 g0 g1 g2 g3
              clear hbb y1 y2 y3 y4 hwb'
              go_wp2_with fail
              rw [← hwb] at d0b y1b y2b y3b y4b e0 e1 e2 e3 g0 g1 g2 g3 ⊢
              rw [← hwc] at e0 e1 e2 e3 g0 g1 g2 g3 ⊢
              clear x1 x2 x3 x4 y1b y2b y3b y4b d0b c0 d0
              obtain ⟨ga, hga⟩ : ∃ ga, ga = wr.heap.size := ⟨_, rfl⟩
              rw [← hga] at e0 e1 e2 e3 g0 g1 g2 g3 HWB' HWC ⊢
              have HSC : Hid (wc.heap.size = ga + 1 + 1) := by show _ = _; rw [hwc, hga]; simp [hz]
              clear hwc hwb hz HWB HBB HZB e0 e1 e2 g0 g1 g2 HBR hga
              go_loopw [10] (fun i wi => ∃ j : Nat, i = .int .i64 (j : Int) ∧ j ≤ m2 ∧ Below wc.heap.size wc wi) (fun i _ => m2 - (intOf i).toNat)
              case atStart => exact ⟨0, rfl, by omega, Below.refl _ _⟩
              case round =>
                obtain ⟨j, rfl, hj, hbj⟩ := hrel
                have HBJ := Lib.hid hbj
                have HBJ2 := Lib.hid (HBC.out.trans (hbj.mono HBC.out.size))
                have e3 : wr.cell? ⟨ga, 3, none⟩ = some (.slice A2 m2 cp2) := (HWB'.out.below hbj HWB'.out.lt).cell 3
                have g3 : wr.cell? ⟨ga + 1, 3, none⟩ = some (.slice B2 m2 cq2) := (HWC.out.below hbj HWC.out.lt).cell 3
                clear hbj
                by_cases hltj : j < m2
                · obtain ⟨bA, oA, rfl, _, x1, x2, x3⟩ := (HIA.out.below HBJ2.out).at_ hltj
                  obtain ⟨bB, oB, rfl, _, y1, y2, y3⟩ := (HIB.out.below HBJ2.out).at_ hltj
                  go_wp2_with fail
                  go_quiet (fail)
                  go_wp2_with fail
                  exact ⟨⟨j + 1, by go_num, by omega, below_drewN HBJ.out _⟩, by simp [intOf]; omega⟩
                · go_wp2_with fail
                  exact ⟨⟨k3 + 1, by go_num, by omega, HBJ2.out⟩, by simp [intOf]; omega⟩
            · clear hb
              go_wp2_with fail
              go_ret
              exact ⟨rfl, HB.out.trans (HBR.out.mono (by have := HZ.out; omega))⟩
end Go.Proofs.Ytffpkmoaahkfmaa
