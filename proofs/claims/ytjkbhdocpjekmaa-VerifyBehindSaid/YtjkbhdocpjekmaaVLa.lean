/- The laws of layer 14: whether a code holds together, and its depths, are told as the document says. -/
import Derived.Test.YtjkbhdocpjekmaaVSt
import Derived.Test.YtjkbhdocpjekmaaVWalkM
namespace Go.Proofs.Ytjkbhdocpjekmaa
open Go.RowKit
set_option linter.unusedVariables false
attribute [local go_sem ↓] Go.wp_at_zero Go.wp_at_succ

theorem code_total (c : Cod) : ∃ x, CodeIs c x := by
  rcases h : codOK c with _ | _
  · exact ⟨1, .inl ⟨h, rfl⟩⟩
  · by_cases hg : ∀ n, n < c.funs.length → Good c n (c.funs.getD n bdy0)
    · exact ⟨0, .inr (.inl ⟨h, hg, rfl⟩)⟩
    · refine ⟨30, .inr (.inr ⟨h, ?_, rfl⟩)⟩
      exact Classical.byContradiction fun hn => hg fun n hl => Classical.byContradiction fun hb => hn ⟨n, hl, hb⟩
theorem Stored.drew {w0 w : World} {B : Nat} {v : Value} {cs : Array Value} {c : Cod} (h : Stored w0 B v cs c w) : Stored w0 B v cs c w.drew := ⟨h.box, h.own, h.below.drew, h.size⟩
def StPost (w0 : World) (B : Nat) (v a b d e : Value) (c : Cod) (w' : World) : Prop :=
  Stored w0 B v #[a, b, d, e] c w' ∧ w'.cell? ⟨B, 0, none⟩ = some a ∧ w'.cell? ⟨B, 1, none⟩ = some b ∧ w'.cell? ⟨B, 2, none⟩ = some d ∧ w'.cell? ⟨B, 3, none⟩ = some e
theorem Stored.post {w0 w : World} {B : Nat} {v a b d e : Value} {c : Cod} (h : Stored w0 B v #[a, b, d, e] c w) : StPost w0 B v a b d e c w := ⟨h, h.cells⟩
theorem code_st {w0 wx : World} {B : Nat} {v a b d e : Value} {c : Cod} {x : Int} (hx : CodeIs (cutC c) x) (h : Stored w0 B v #[a, b, d, e] (cutC c) wx) :
    Calls Try.prog 9 #[v] wx fun ee w' => ee = .returned (.int .i64 x) ∧ StPost w0 B v a b d e (cutC c) w' :=
  (code_any wx v (cutC c) h.at_).mono fun _ _ ⟨y, he, hy, hb⟩ => ⟨by rw [he, hy.uniq hx], (h.later hb).post⟩
theorem rcode_st {w0 wx : World} {B : Nat} {v a b d e : Value} {c : Cod} {x : Int} (hx : CodeIs (cutC c) x) (h : Stored w0 B v #[a, b, d, e] (cutC c) wx) :
    Calls Try.prog 10 #[v] wx fun ee w' => ee = .returned (.int .i64 x) ∧ StPost w0 B v a b d e (cutC c) w' :=
  (rcode_any wx v (cutC c) h.at_).mono fun _ _ ⟨y, he, hy, hb⟩ => ⟨by rw [he, hy.uniq hx], (h.later hb).post⟩
theorem lives_st {w0 wx : World} {B : Nat} {v a b d e : Value} {c : Cod} (h : Stored w0 B v #[a, b, d, e] (cutC c) wx) :
    Calls Try.prog 11 #[] wx fun ee w' => ee = .returned (.bool true) ∧ StPost w0 B v a b d e (cutC c) w' :=
  (lives_any wx).mono fun _ _ ⟨he, hb⟩ => ⟨he, (h.later hb).post⟩
set_option maxRecDepth 100000 in
set_option maxHeartbeats 4000000 in
theorem verifyCodes_walk (v : Value) (c : Cod) (w : World) (hc : CodAt w w.heap.size v c) :
    Calls Try.prog 3 #[v] w fun e w' => e = .returned (.bool true) ∧ Below w.heap.size w w' := by
  obtain ⟨FA, fn, fc, IA, inn, ic, TA, tn, tc, rfl, h1, h2, h3, hf, hi, ht⟩ := hc.form
  have HC : Hid (CodAt (w.alloc (.cells #[.slice FA fn fc, .slice IA inn ic, .slice TA tn tc, .int .i64 c.lets] 26)) (w.alloc (.cells #[.slice FA fn fc, .slice IA inn ic, .slice TA tn tc, .int .i64 c.lets] 26)).heap.size _ c) :=
    (hc.below ((Below.refl _ _).alloc (Nat.le_refl _) _)).more (by simp)
  clear hc h1 h2 h3 hf hi ht
  go_enter Try.func3, Try.ntmps3
  go_wp2_with fail
  refine (cut_form _ _ c HC.out).mono ?_
  rintro e w1 ⟨FA2, fn2, fc2, IA2, inn2, ic2, TA2, tn2, tc2, rfl, ho, hb⟩
  rw [show (w.alloc (.cells #[.slice FA fn fc, .slice IA inn ic, .slice TA tn tc, .int .i64 c.lets] 26)).heap.size = w.heap.size + 1 from by simp] at ho hb
  have hW := (Whole.made w 26 #[.slice FA fn fc, .slice IA inn ic, .slice TA tn tc, .int .i64 c.lets]).below hb (by omega)
  have c0 : w1.cell? ⟨w.heap.size, 0, none⟩ = some (.slice FA fn fc) := hW.cell 0
  have c1 : w1.cell? ⟨w.heap.size, 1, none⟩ = some (.slice IA inn ic) := hW.cell 1
  have c2 : w1.cell? ⟨w.heap.size, 2, none⟩ = some (.slice TA tn tc) := hW.cell 2
  have c3 : w1.cell? ⟨w.heap.size, 3, none⟩ = some (.int .i64 c.lets) := hW.cell 3
  have f0 := hW.free 0
  have f1 := hW.free 1
  have f2 := hW.free 2
  have f3 := hW.free 3
  have HST := Lib.hid (cut_stored (a := .slice FA2 fn2 fc2) (b := .slice IA2 inn2 ic2) (d := .slice TA2 tn2 tc2) (e := .int .i64 c.lets) rfl ho hb)
  clear ho hb hW HC
  go_wp2_with fail
  generalize (((w1.setCell ⟨w.heap.size, 0, none⟩ (.slice FA2 fn2 fc2)).setCell ⟨w.heap.size, 1, none⟩ (.slice IA2 inn2 ic2)).setCell ⟨w.heap.size, 2, none⟩ (.slice TA2 tn2 tc2)).setCell ⟨w.heap.size, 3, none⟩ (.int .i64 c.lets) = w2 at *
  clear c0 c1 c2 c3 f0 f1 f2 f3
  obtain ⟨x, hx⟩ := code_total (cutC c)
  have CM := fun (wx : World) => code_st (w0 := w) (wx := wx) (B := w.heap.size) (v := .agg #[.slice FA2 fn2 fc2, .slice IA2 inn2 ic2, .slice TA2 tn2 tc2, .int .i64 c.lets]) (a := .slice FA2 fn2 fc2) (b := .slice IA2 inn2 ic2) (d := .slice TA2 tn2 tc2) (e := .int .i64 c.lets) (c := c) hx
  have CR := fun (wx : World) => rcode_st (w0 := w) (wx := wx) (B := w.heap.size) (v := .agg #[.slice FA2 fn2 fc2, .slice IA2 inn2 ic2, .slice TA2 tn2 tc2, .int .i64 c.lets]) (a := .slice FA2 fn2 fc2) (b := .slice IA2 inn2 ic2) (d := .slice TA2 tn2 tc2) (e := .int .i64 c.lets) (c := c) hx
  have CL := fun (wx : World) => lives_st (w0 := w) (wx := wx) (B := w.heap.size) (v := .agg #[.slice FA2 fn2 fc2, .slice IA2 inn2 ic2, .slice TA2 tn2 tc2, .int .i64 c.lets]) (a := .slice FA2 fn2 fc2) (b := .slice IA2 inn2 ic2) (d := .slice TA2 tn2 tc2) (e := .int .i64 c.lets) (c := c)
  clear hx
  obtain ⟨s0, s1, s2, s3⟩ := HST.out.cells
  go_region_held3 (fun W => W.cell? ⟨w.heap.size, 0, none⟩ = some (.slice FA2 fn2 fc2) ∧ W.cell? ⟨w.heap.size, 1, none⟩ = some (.slice IA2 inn2 ic2) ∧ W.cell? ⟨w.heap.size, 2, none⟩ = some (.slice TA2 tn2 tc2) ∧ W.cell? ⟨w.heap.size, 3, none⟩ = some (.int .i64 c.lets))
    (first | go_keep)
    (first
      | ((go_at_call 9; with_reducible refine (CM _ ?_).mono ?_); (first | exact hsR | exact HST.out.drew); rintro e wm ⟨rfl, hsM, mM0, mM1, mM2, mM3⟩)
      | ((go_at_call 10; with_reducible refine (CR _ ?_).mono ?_); (first | exact hsM | exact HST.out.drew); rintro e wm ⟨rfl, hsR, mM0, mM1, mM2, mM3⟩)
      | ((go_at_call 11; with_reducible refine (CL _ ?_).mono ?_); (first | exact hsM | exact hsR); rintro e wm ⟨rfl, hsL, mM0, mM1, mM2, mM3⟩))
  all_goals
    go_wp2_with fail
    go_ret
    exact ⟨rfl, hsL.below⟩
set_option maxHeartbeats 4000000 in
theorem verifyDepths_walk (v : Value) (c : Cod) (f : Int) (w : World) (hc : CodAt w w.heap.size v c) (hf0 : (Lit.int .i64 f).wf = true) :
    Calls Try.prog 4 #[v, .int .i64 f] w fun e w' => e = .returned (.bool true) ∧ Below w.heap.size w w' := by
  clear hf0
  obtain ⟨FA, fn, fc, IA, inn, ic, TA, tn, tc, rfl, h1, h2, h3, hf, hi, ht⟩ := hc.form
  have HC : Hid (CodAt (w.alloc (.cells #[.slice FA fn fc, .slice IA inn ic, .slice TA tn tc, .int .i64 c.lets] 26)) (w.alloc (.cells #[.slice FA fn fc, .slice IA inn ic, .slice TA tn tc, .int .i64 c.lets] 26)).heap.size _ c) :=
    (hc.below ((Below.refl _ _).alloc (Nat.le_refl _) _)).more (by simp)
  clear hc h1 h2 h3 hf hi ht
  go_enter Try.func4, Try.ntmps4
  go_wp2_with fail
  refine (cut_form _ _ c HC.out).mono ?_
  rintro e w1 ⟨FA2, fn2, fc2, IA2, inn2, ic2, TA2, tn2, tc2, rfl, ho, hb⟩
  rw [show (w.alloc (.cells #[.slice FA fn fc, .slice IA inn ic, .slice TA tn tc, .int .i64 c.lets] 26)).heap.size = w.heap.size + 1 from by simp] at ho hb
  have hW := (Whole.made w 26 #[.slice FA fn fc, .slice IA inn ic, .slice TA tn tc, .int .i64 c.lets]).below hb (by omega)
  have c0 : w1.cell? ⟨w.heap.size, 0, none⟩ = some (.slice FA fn fc) := hW.cell 0
  have c1 : w1.cell? ⟨w.heap.size, 1, none⟩ = some (.slice IA inn ic) := hW.cell 1
  have c2 : w1.cell? ⟨w.heap.size, 2, none⟩ = some (.slice TA tn tc) := hW.cell 2
  have c3 : w1.cell? ⟨w.heap.size, 3, none⟩ = some (.int .i64 c.lets) := hW.cell 3
  have f0 := hW.free 0
  have f1 := hW.free 1
  have f2 := hW.free 2
  have f3 := hW.free 3
  have HST := Lib.hid (cut_stored (a := .slice FA2 fn2 fc2) (b := .slice IA2 inn2 ic2) (d := .slice TA2 tn2 tc2) (e := .int .i64 c.lets) rfl ho hb)
  clear ho hb hW HC
  go_wp2_with fail
  generalize (((w1.setCell ⟨w.heap.size, 0, none⟩ (.slice FA2 fn2 fc2)).setCell ⟨w.heap.size, 1, none⟩ (.slice IA2 inn2 ic2)).setCell ⟨w.heap.size, 2, none⟩ (.slice TA2 tn2 tc2)).setCell ⟨w.heap.size, 3, none⟩ (.int .i64 c.lets) = w2 at *
  clear c0 c1 c2 c3 f0 f1 f2 f3
  refine (depths_any w2 _ (cutC c) f HST.out.at_).mono ?_
  rintro e w3 ⟨hb1, A1, n1, p1, xs, rfl, hi1, hd1, hl1⟩
  have HS3 := Lib.hid (HST.out.later hb1)
  have HI1 := Lib.hid hi1
  have HD1 := Lib.hid hd1
  have HL1 := Lib.hid hl1
  clear hb1 HST hi1 hd1 hl1
  obtain ⟨s0, s1, s2, s3⟩ := HS3.out.cells
  go_wp2_with fail
  refine (rdepths_any w3 _ (cutC c) f HS3.out.at_).mono ?_
  rintro e w4 ⟨hb2, A2, n2, p2, ys, rfl, hi2, hd2, hl2⟩
  have HS4 := Lib.hid (HS3.out.later hb2)
  have HI2 := Lib.hid hi2
  have HI1' := Lib.hid ((HI1.out.below hb2).more hb2.size)
  have HE : Hid (xs = ys) := HD1.out.uniq hd2
  have CS := Lib.hid (sameints_any w4 _ A1 A2 n1 n2 p1 p2 xs ys HI1'.out hi2 (by have h1 := HI1.out.1; have h2 := HL1.out.1; omega) (by have h1 := hi2.1; omega))
  rw [HE.out, beq_self_eq_true] at CS
  clear hb2 HS3 HI1 s0 s1 s2 s3 hi2 hd2 hl2
  go_wp2_with fail
  refine CS.out.mono ?_
  rintro e w5 ⟨rfl, hb5⟩
  have HS5 := Lib.hid (HS4.out.later hb5)
  clear hb5 CS
  go_wp2_with fail
  refine (lives_any w5).mono ?_
  rintro e w6 ⟨rfl, hb6⟩
  have HS6 := Lib.hid (HS5.out.later hb6)
  clear hb6
  go_wp2_with fail
  go_ret
  exact ⟨rfl, HS6.out.below⟩
end Go.Proofs.Ytjkbhdocpjekmaa
