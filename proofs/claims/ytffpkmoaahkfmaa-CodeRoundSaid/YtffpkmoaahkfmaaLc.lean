/- The laws of layer 13: a code has just the document's bytes. -/
import Derived.Test.YtffpkmoaahkfmaaLb
import Derived.Deep.RegionHeld3
import Derived.Deep.DrawnRows
namespace Go.Proofs.Ytffpkmoaahkfmaa
open Go.RowKit
set_option linter.unusedVariables false
attribute [local go_sem ↓] Go.wp_at_zero Go.wp_at_succ

theorem Stored.drew {w0 w : World} {B : Nat} {v : Value} {cs : Array Value} {c : Cod} (h : Stored w0 B v cs c w) : Stored w0 B v cs c w.drew := ⟨h.box, h.own, h.below.drew, h.size⟩
def StPost (w0 : World) (B : Nat) (v a b d e : Value) (c : Cod) (w' : World) : Prop :=
  Stored w0 B v #[a, b, d, e] c w' ∧ w'.cell? ⟨B, 0, none⟩ = some a ∧ w'.cell? ⟨B, 1, none⟩ = some b ∧ w'.cell? ⟨B, 2, none⟩ = some d ∧ w'.cell? ⟨B, 3, none⟩ = some e
theorem Stored.post {w0 w : World} {B : Nat} {v a b d e : Value} {c : Cod} (h : Stored w0 B v #[a, b, d, e] c w) : StPost w0 B v a b d e c w := ⟨h, h.cells⟩
theorem may_st {w0 wx : World} {B : Nat} {v a b d e : Value} {c : Cod} (h : Stored w0 B v #[a, b, d, e] (cutC c) wx) :
    Calls Try.prog 13 #[v] wx fun ee w' => ee = .returned (.bool (codOK (cutC c))) ∧ StPost w0 B v a b d e (cutC c) w' :=
  (may_any wx v (cutC c) h.at_).mono fun _ _ ⟨he, hb⟩ => ⟨he, (h.later hb).post⟩
theorem rmay_st {w0 wx : World} {B : Nat} {v a b d e : Value} {c : Cod} (h : Stored w0 B v #[a, b, d, e] (cutC c) wx) :
    Calls Try.prog 14 #[v] wx fun ee w' => ee = .returned (.bool (codOK (cutC c))) ∧ StPost w0 B v a b d e (cutC c) w' :=
  (rmay_any wx v (cutC c) h.at_).mono fun _ _ ⟨he, hb⟩ => ⟨he, (h.later hb).post⟩
theorem lives_st {w0 wx : World} {B : Nat} {v a b d e : Value} {c : Cod} (h : Stored w0 B v #[a, b, d, e] (cutC c) wx) :
    Calls Try.prog 15 #[] wx fun ee w' => ee = .returned (.bool true) ∧ StPost w0 B v a b d e (cutC c) w' :=
  (lives_any wx).mono fun _ _ ⟨he, hb⟩ => ⟨he, (h.later hb).post⟩
set_option maxRecDepth 100000 in
set_option maxHeartbeats 4000000 in
theorem codeEncodes_walk (v : Value) (c : Cod) (w : World) (hc : CodAt w w.heap.size v c) :
    Calls Try.prog 3 #[v] w fun e w' => e = .returned (.bool true) ∧ Below w.heap.size w w' := by
  obtain ⟨FA, fn, fc, IA, inn, ic, TA, tn, tc, rfl, h1, h2, h3, hf, hi, ht⟩ := hc.form
  have HC : Hid (CodAt (w.alloc (.cells #[.slice FA fn fc, .slice IA inn ic, .slice TA tn tc, .int .i64 c.lets] 26)) (w.alloc (.cells #[.slice FA fn fc, .slice IA inn ic, .slice TA tn tc, .int .i64 c.lets] 26)).heap.size _ c) :=
    (hc.below ((Below.refl _ _).alloc (Nat.le_refl _) _)).more (by simp)
  clear hc h1 h2 h3 hf hi ht
  go_enter Try.func3, Try.ntmps3
  go_wp2_with fail
  refine (cut_form _ _ c HC.out).mono ?_
  rintro e w1 ⟨FA2, fn2, fc2, IA2, inn2, ic2, TA2, tn2, tc2, rfl, ho, hb⟩
  rw [show (w.alloc (.cells #[.slice FA fn fc, .slice IA inn ic, .slice TA tn tc, .int .i64 c.lets] 26)).heap.size = w.heap.size + 1 from by simp] at ho hb
  have hW := (Whole.made w 26 #[.slice FA fn fc, .slice IA inn ic, .slice TA tn tc, .int .i64 c.lets]).below hb (by omega)
  have c0 : w1.cell? ⟨w.heap.size, 0, none⟩ = some (.slice FA fn fc) := hW.cell 0
  have c1 : w1.cell? ⟨w.heap.size, 1, none⟩ = some (.slice IA inn ic) := hW.cell 1
  have c2 : w1.cell? ⟨w.heap.size, 2, none⟩ = some (.slice TA tn tc) := hW.cell 2
  have c3 : w1.cell? ⟨w.heap.size, 3, none⟩ = some (.int .i64 c.lets) := hW.cell 3
  have f0 := hW.free 0
  have f1 := hW.free 1
  have f2 := hW.free 2
  have f3 := hW.free 3
  have HST := Lib.hid (cut_stored (a := .slice FA2 fn2 fc2) (b := .slice IA2 inn2 ic2) (d := .slice TA2 tn2 tc2) (e := .int .i64 c.lets) rfl ho hb)
  clear ho hb hW HC
  go_wp2_with fail
  generalize (((w1.setCell ⟨w.heap.size, 0, none⟩ (.slice FA2 fn2 fc2)).setCell ⟨w.heap.size, 1, none⟩ (.slice IA2 inn2 ic2)).setCell ⟨w.heap.size, 2, none⟩ (.slice TA2 tn2 tc2)).setCell ⟨w.heap.size, 3, none⟩ (.int .i64 c.lets) = w2 at *
  clear c0 c1 c2 c3 f0 f1 f2 f3
  refine (encode_any w2 _ (cutC c) HST.out.at_).mono ?_
  rintro e w3 ⟨A1, n1, p1, rfl, ho1, hb1⟩
  have HS3 := Lib.hid (HST.out.later hb1)
  have HO1 := Lib.hid ho1
  clear ho1 hb1 HST
  obtain ⟨s0, s1, s2, s3⟩ := HS3.out.cells
  go_wp2_with fail
  refine (rencode_any w3 _ (cutC c) HS3.out.at_).mono ?_
  rintro e w4 ⟨A2, n2, p2, rfl, ho2, hb2⟩
  have HS4 := Lib.hid (HS3.out.later hb2)
  have HO2 := Lib.hid ho2
  have HO1' := Lib.hid (own_below HO1.out hb2 (Nat.le_refl _))
  clear ho2 hb2 HS3 HO1 s0 s1 s2 s3
  obtain ⟨s0, s1, s2, s3⟩ := HS4.out.cells
  go_wp2_with fail
  refine (same_eq HO1'.out HO2.out).mono ?_
  rintro e w' ⟨rfl, rfl⟩
  clear HO1' HO2
  generalize encE (cutC c) = ee at *
  have CM := fun (wx : World) => may_st (w0 := w) (wx := wx) (B := w.heap.size) (v := .agg #[.slice FA2 fn2 fc2, .slice IA2 inn2 ic2, .slice TA2 tn2 tc2, .int .i64 c.lets]) (a := .slice FA2 fn2 fc2) (b := .slice IA2 inn2 ic2) (d := .slice TA2 tn2 tc2) (e := .int .i64 c.lets) (c := c)
  have CR := fun (wx : World) => rmay_st (w0 := w) (wx := wx) (B := w.heap.size) (v := .agg #[.slice FA2 fn2 fc2, .slice IA2 inn2 ic2, .slice TA2 tn2 tc2, .int .i64 c.lets]) (a := .slice FA2 fn2 fc2) (b := .slice IA2 inn2 ic2) (d := .slice TA2 tn2 tc2) (e := .int .i64 c.lets) (c := c)
  have CL := fun (wx : World) => lives_st (w0 := w) (wx := wx) (B := w.heap.size) (v := .agg #[.slice FA2 fn2 fc2, .slice IA2 inn2 ic2, .slice TA2 tn2 tc2, .int .i64 c.lets]) (a := .slice FA2 fn2 fc2) (b := .slice IA2 inn2 ic2) (d := .slice TA2 tn2 tc2) (e := .int .i64 c.lets) (c := c)
  generalize codOK (cutC c) = ok at *
  go_wp2_with fail
  go_region_held3 (fun W => W.cell? ⟨w.heap.size, 0, none⟩ = some (.slice FA2 fn2 fc2) ∧ W.cell? ⟨w.heap.size, 1, none⟩ = some (.slice IA2 inn2 ic2) ∧ W.cell? ⟨w.heap.size, 2, none⟩ = some (.slice TA2 tn2 tc2) ∧ W.cell? ⟨w.heap.size, 3, none⟩ = some (.int .i64 c.lets))
    (first | go_keep)
    (first
      | ((go_at_call 13; with_reducible refine (CM _ ?_).mono ?_); (first | exact hsR | exact HS4.out.drew); rintro e wm ⟨rfl, hsM, mM0, mM1, mM2, mM3⟩)
      | ((go_at_call 14; with_reducible refine (CR _ ?_).mono ?_); (first | exact hsM | exact HS4.out.drew); rintro e wm ⟨rfl, hsR, mM0, mM1, mM2, mM3⟩)
      | ((go_at_call 15; with_reducible refine (CL _ ?_).mono ?_); (first | exact hsM | exact hsR); rintro e wm ⟨rfl, hsL, mM0, mM1, mM2, mM3⟩))
  all_goals
    go_wp2_with fail
    go_ret
    exact ⟨rfl, hsL.below⟩
end Go.Proofs.Ytffpkmoaahkfmaa
