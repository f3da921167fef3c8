/- The law of folded programs: its walk. -/
import Derived.KernelRfl
import Derived.Test.YtgjchgmlogbmmaaRQ2
import Derived.Test.YtgjchgmlogbmmaaRI
import Derived.Test.YtgjchgmlogbmmaaRQ4
namespace Go.Proofs.Ytgjchgmlogbmmaa
open Go.RowKit
set_option linter.unusedVariables false
set_option linter.unusedSimpArgs false
attribute [local go_sem ↓] Go.wp_at_zero Go.wp_at_succ

set_option maxRecDepth 100000 in
set_option maxHeartbeats 8000000 in
theorem foldPrograms_walk (a : ByteArray) (W : World) (hs : a.size ≤ maxLen) : Calls Try.prog 6 #[.string a] W fun e w' => e = .returned (.bool true) ∧ Below W.heap.size W w' := by
 have CF := Lib.hid (fun wx => few_any a wx hs)
 have CP := Lib.hid (fun wx => program_any wx (fewB a) (by have := fewB_size a; omega))
 have HW : Hid (WfN (progF (fewB a).data.toList).1) := srcN_wf a
 have HT : Hid (wtN (progF (fewB a).data.toList).1 ≤ 100000) := srcN_wt a
 have HDK := Lib.hid (prog_wf (fewB a).data.toList).2.2
 generalize progF (fewB a).data.toList = q at *
 obtain ⟨x, at0, e0⟩ := q
 dsimp only at CP HW HT HDK
 have CE := Lib.hid (fprog_any x HW.out HT.out)
 have CR := Lib.hid (rprog_any x HW.out HDK.out)
 have CM := Lib.hid (same_any (progN x) (wf_prog HW.out))
 unfold FProgC at CE
 unfold RProgC GivesN at CR
 unfold SameC at CM
 generalize progN x = xe at *
 clear hs HT HW HDK
 go_enter Try.func6, Try.ntmps6
 go_upto_region 1 with (fail)
 go_wp2_with fail
 refine (CF.out _).mono ?_
 rintro e w0 ⟨rfl, rfl⟩
 go_wp2_with fail
 refine (CP.out _).mono ?_
 rintro e w1 ⟨f, rfl, n0, b0⟩
 unfold ndV
 go_upto_region 2 with (fail)
 have HX2 : Hid (Whole (w1.alloc (.cells #[.int .i64 x.kd, .string ⟨x.tx.toArray⟩, .int .i64 x.nm, .int .i64 (x.at_ : Int), .slice f.na x.ns.length f.nc, .slice f.ka x.ks.length f.kc] 25)) w1.heap.size 25 #[.int .i64 x.kd, .string ⟨x.tx.toArray⟩, .int .i64 x.nm, .int .i64 (x.at_ : Int), .slice f.na x.ns.length f.nc, .slice f.ka x.ks.length f.kc]) := Whole.made w1 25 _
 have HN2 : Hid (NodeIn (w1.alloc (.cells #[.int .i64 x.kd, .string ⟨x.tx.toArray⟩, .int .i64 x.nm, .int .i64 (x.at_ : Int), .slice f.na x.ns.length f.nc, .slice f.ka x.ks.length f.kc] 25)) (fun _ => True) x f) := (n0.later ((Below.refl _ _).alloc (Nat.le_refl _) _) (Nat.le_refl _)).mono fun _ _ _ => trivial
 have HB2 : Hid (Below W.heap.size W (w1.alloc (.cells #[.int .i64 x.kd, .string ⟨x.tx.toArray⟩, .int .i64 x.nm, .int .i64 (x.at_ : Int), .slice f.na x.ns.length f.nc, .slice f.ka x.ks.length f.kc] 25))) := b0.alloc b0.size _
 generalize w1.alloc (.cells #[.int .i64 x.kd, .string ⟨x.tx.toArray⟩, .int .i64 x.nm, .int .i64 (x.at_ : Int), .slice f.na x.ns.length f.nc, .slice f.ka x.ks.length f.kc] 25) = w2 at *
 generalize w1.heap.size = G at *
 clear n0 b0 CF CP
 by_cases he : e0 = 0
 ·subst he
  go_upto_region 4 with (fail)
  have HXD := Lib.hid (HX2.out.below (Below.refl _ _).drew HX2.out.lt)
  refine region_Z (fun W => C6 W G 0 1 2 3 4 5 x f) (fun i => false) (by kernel_rfl) (sixC HXD.out) (fun hHeld => ?_)
  refine tkf 0 rfl (v := ?_) ?_ ?_; rotate_left
  ·(intro w hSw; (try dsimp only at hSw); obtain ⟨u0, u1, u2, u3, u4, u5⟩ := hSw; go_simp; try with_reducible rfl)
  (try simp only [Act.put, sZ])
  refine tkf 2 rfl (v := ?_) ?_ ?_; rotate_left
  ·(intro w hSw; (try dsimp only at hSw); obtain ⟨u0, u1, u2, u3, u4, u5⟩ := hSw; go_simp; try with_reducible rfl)
  (try simp only [Act.put, sZ])
  refine stp 1 rfl (fun K hK => ?_)
  go_simp
  go_at_call 19
  have C3 := Lib.hid (CE.out w2.drew (fun a => a < w2.drew.heap.size) f (fun a ha => ha) ((HN2.out.later (Below.refl _ _).drew (Nat.le_refl _)).mono fun a _ hl => hl))
  unfold ndV at C3
  refine C3.out.mono ?_
  rintro e w3 ⟨f3, rfl, n3, b⟩
  have b3 : Below w2.heap.size w2 w3 := (Below.refl w2.heap.size w2).drew.trans b
  have HX3 := Lib.hid (HX2.out.below b3 HX2.out.lt)
  have HN3 := Lib.hid (HN2.out.later b3 (Nat.le_refl _))
  have HE3 : Hid (NodeIn w3 (fun _ => True) xe f3) := n3.mono fun _ _ _ => trivial
  have HB3 := Lib.hid (HB2.out.trans (b3.mono HB2.out.size))
  refine hK.out _ _ (fun _ => sixC HX3.out) (fun hHeld2 => ?_)
  replace hHeld2 := hHeld2 rfl
  clear hK K hHeld b3 b n3 C3 CE HX2 HN2 HB2 HXD
  (try simp only [Act.put, sZ])
  refine stp 3 rfl (fun K hK => ?_)
  go_simp
  go_at_call 20
  have C4 := Lib.hid (CR.out w3 (fun a => a < w3.heap.size) f (fun a ha => ha) (HN3.out.mono fun a _ hl => hl))
  unfold ndV at C4
  refine C4.out.mono ?_
  rintro e w4 ⟨f4, rfl, n4, b4⟩
  have HX4 := Lib.hid (HX3.out.below b4 HX3.out.lt)
  have HE4 := Lib.hid (HE3.out.later b4 (Nat.le_refl _))
  have HR4 : Hid (NodeIn w4 (fun _ => True) xe f4) := n4.mono fun _ _ _ => trivial
  have HB4 := Lib.hid (HB3.out.trans (b4.mono HB3.out.size))
  refine hK.out _ _ (fun _ => sixC HX4.out) (fun hHeld3 => ?_)
  replace hHeld3 := hHeld3 rfl
  clear hK K hHeld2 b4 n4 C4 CR HX3 HN3 HE3 HB3
  (try simp only [Act.put, sZ])
  refine stp 4 rfl (fun K hK => ?_)
  go_simp
  go_at_call 10
  have C5 := Lib.hid (CM.out w4 _ _ f3 f4 HE4.out HR4.out)
  unfold ndV at C5
  refine C5.out.mono ?_
  rintro e w5 ⟨rfl, b5⟩
  have HX5 := Lib.hid (HX4.out.below b5 HX4.out.lt)
  have HB5 := Lib.hid (HB4.out.trans (b5.mono HB4.out.size))
  refine hK.out _ _ (fun _ => sixC HX5.out) (fun hHeld4 => ?_)
  replace hHeld4 := hHeld4 rfl
  clear hK K hHeld3 b5 C5 CM HX4 HE4 HR4 HB4
  (try simp only [Act.put, sZ])
  refine tkf 5 rfl (v := ?_) ?_ ?_; rotate_left
  ·(intro w hSw; (try dsimp only at hSw); obtain ⟨u0, u1, u2, u3, u4, u5⟩ := hSw; go_simp; try with_reducible rfl)
  (try simp only [Act.put, sZ])
  refine stp 6 rfl (fun K hK => ?_)
  go_simp
  go_at_call 9
  refine (lives_any w5).mono ?_
  rintro e w6 ⟨rfl, b6⟩
  have HX6 := Lib.hid (HX5.out.below b6 HX5.out.lt)
  have HB6 := Lib.hid (HB5.out.trans (b6.mono HB5.out.size))
  refine hK.out _ _ (fun _ => sixC HX6.out) (fun hHeld5 => ?_)
  clear hK K hHeld4 b6 HX5 HB5
  (try simp only [Act.put, sZ])
  refine stp 7 rfl (fun K hK => ?_)
  go_simp
  refine hK.out _ _ (fun _ => sixC HX6.out) (fun _ => ?_)
  clear hK K hHeld5
  (try simp only [Act.put, sZ])
  refine stp 8 rfl (fun K hK => ?_)
  go_simp
  refine hK.out _ _ (fun _ => sixC HX6.out) (fun _ => ?_)
  clear hK K
  (try simp only [Act.put, sZ])
  refine anyZ_done (by kernel_rfl) ?_ _
  go_wp2_with fail
  exact bodyPost_ret (v := .bool true) (by simp [results, Try.results6, go_sem]) rfl ⟨rfl, HB6.out⟩
 ·have CL := Lib.hid (lives_any w2)
  go_wp2_with fail
  refine CL.out.mono ?_
  rintro e w3 ⟨rfl, b3⟩
  have HB3 := Lib.hid (HB2.out.trans (b3.mono HB2.out.size))
  go_wp2_with fail
  exact bodyPost_ret (v := .bool true) (by simp [results, Try.results6, go_sem]) rfl ⟨rfl, HB3.out⟩
end Go.Proofs.Ytgjchgmlogbmmaa
