/- The law of what is folded twice: its walk. -/
import Derived.KernelRfl
import Derived.Test.YtgjchgmlogbmmaaQ2
import Derived.Test.YtgjchgmlogbmmaaPI
import Derived.Test.YtgjchgmlogbmmaaPK
namespace Go.Proofs.Ytgjchgmlogbmmaa
open Go.RowKit
set_option linter.unusedVariables false
set_option linter.unusedSimpArgs false
attribute [local go_sem ↓] Go.wp_at_zero Go.wp_at_succ

theorem wt_dec (x : Nd) : wtN (declN x) ≤ wtN x := by
  unfold declN
  split
  · rw [wtN_eq, wtN_eq x]
    simp only [kd_mk, ks_mk]
    have : ∀ l : List Nd, wtL (l.map expN) ≤ wtL l := fun l => by
      induction l with
      | nil => exact Nat.le_refl _
      | cons y l ih => rw [List.map_cons, wtL, wtL]; have := wt_exp y; omega
    have := this x.ks
    omega
  · exact Nat.le_refl _
theorem wt_progK : ∀ l : List Nd, wtL (progK l) ≤ wtL l
  | [] => Nat.le_refl _
  | [x] => by rw [progK, wtL, wtL, wtL, wtL]; have := wt_exp x; omega
  | x :: y :: xs => by rw [progK, wtL, wtL.eq_2 x]; have := wt_dec x; have := wt_progK (y :: xs); omega
theorem wt_prog {x : Nd} (h : wtN x ≤ 100000) : wtN (progN x) ≤ 100000 := by
  have := wt_progK x.ks
  rw [wtN_eq] at h
  unfold progN
  rw [wtN_eq]; simp only [kd_mk, ks_mk]; omega
set_option maxRecDepth 100000 in
set_option maxHeartbeats 8000000 in
theorem foldTwice_walk (a : ByteArray) (W : World) (hs : a.size ≤ maxLen) : Calls Try.prog 7 #[.string a] W fun e w' => e = .returned (.bool true) ∧ Below W.heap.size W w' := by
  have CF := Lib.hid (fun wx => few_any a wx hs)
  have CP := Lib.hid (fun wx => program_any wx (fewB a) (by have := fewB_size a; omega))
  have HW : Hid (WfN (progF (fewB a).data.toList).1) := srcN_wf a
  have HT : Hid (wtN (progF (fewB a).data.toList).1 ≤ 100000) := srcN_wt a
  generalize progF (fewB a).data.toList = q at *
  obtain ⟨x, at0, e0⟩ := q
  dsimp only at CP HW HT
  have CE := Lib.hid (fprog_any x HW.out HT.out)
  have CD := Lib.hid (fprog_any (progN x) (wf_prog HW.out) (wt_prog HT.out))
  have CM := Lib.hid (same_any (progN x) (wf_prog HW.out))
  unfold FProgC at CE CD
  rw [prog_prog x HW.out] at CD
  unfold SameC at CM
  generalize progN x = xe at *
  clear hs HT HW
  go_enter Try.func7, Try.ntmps7
  go_upto_region 1 with (fail)
  go_wp2_with fail
  refine (CF.out _).mono ?_
  rintro e w0 ⟨rfl, rfl⟩
  go_wp2_with fail
  refine (CP.out _).mono ?_
  rintro e w1 ⟨f, rfl, n0, b0⟩
  unfold ndV
  go_upto_region 2 with (fail)
  have HX2 : Hid (Whole (w1.alloc (.cells #[.int .i64 x.kd, .string ⟨x.tx.toArray⟩, .int .i64 x.nm, .int .i64 (x.at_ : Int), .slice f.na x.ns.length f.nc, .slice f.ka x.ks.length f.kc] 25)) w1.heap.size 25 #[.int .i64 x.kd, .string ⟨x.tx.toArray⟩, .int .i64 x.nm, .int .i64 (x.at_ : Int), .slice f.na x.ns.length f.nc, .slice f.ka x.ks.length f.kc]) := Whole.made w1 25 _
  have HN2 : Hid (NodeIn (w1.alloc (.cells #[.int .i64 x.kd, .string ⟨x.tx.toArray⟩, .int .i64 x.nm, .int .i64 (x.at_ : Int), .slice f.na x.ns.length f.nc, .slice f.ka x.ks.length f.kc] 25)) (fun _ => True) x f) := (n0.later ((Below.refl _ _).alloc (Nat.le_refl _) _) (Nat.le_refl _)).mono fun _ _ _ => trivial
  have HB2 : Hid (Below W.heap.size W (w1.alloc (.cells #[.int .i64 x.kd, .string ⟨x.tx.toArray⟩, .int .i64 x.nm, .int .i64 (x.at_ : Int), .slice f.na x.ns.length f.nc, .slice f.ka x.ks.length f.kc] 25))) := b0.alloc b0.size _
  generalize w1.alloc (.cells #[.int .i64 x.kd, .string ⟨x.tx.toArray⟩, .int .i64 x.nm, .int .i64 (x.at_ : Int), .slice f.na x.ns.length f.nc, .slice f.ka x.ks.length f.kc] 25) = w2 at *
  generalize w1.heap.size = G at *
  clear n0 b0 CF CP
  by_cases he : e0 = 0
  · subst he
    have c0 : w2.cell? ⟨G, 0, none⟩ = some (.int .i64 x.kd) := HX2.out.cell 0
    have c1 : w2.cell? ⟨G, 1, none⟩ = some (.string ⟨x.tx.toArray⟩) := HX2.out.cell 1
    have c2 : w2.cell? ⟨G, 2, none⟩ = some (.int .i64 x.nm) := HX2.out.cell 2
    have c3 : w2.cell? ⟨G, 3, none⟩ = some (.int .i64 (x.at_ : Int)) := HX2.out.cell 3
    have c4 : w2.cell? ⟨G, 4, none⟩ = some (.slice f.na x.ns.length f.nc) := HX2.out.cell 4
    have c5 : w2.cell? ⟨G, 5, none⟩ = some (.slice f.ka x.ks.length f.kc) := HX2.out.cell 5
    have C3 := Lib.hid (CE.out w2 (fun a => a < w2.heap.size) f (fun a ha => ha) (HN2.out.mono fun a _ hl => hl))
    unfold ndV at C3
    go_wp2_with fail
    refine C3.out.mono ?_
    rintro e w3 ⟨f3, rfl, n3, b3⟩
    have HE3 : Hid (NodeIn w3 (fun _ => True) xe f3) := n3.mono fun _ _ _ => trivial
    have HB3 := Lib.hid (HB2.out.trans (b3.mono HB2.out.size))
    clear n3 b3 C3 CE HX2 HN2 HB2 c0 c1 c2 c3 c4 c5
    go_upto_region 5 with (fail)
    have HX4 : Hid (Whole (w3.alloc (.cells #[.int .i64 xe.kd, .string ⟨xe.tx.toArray⟩, .int .i64 xe.nm, .int .i64 (xe.at_ : Int), .slice f3.na xe.ns.length f3.nc, .slice f3.ka xe.ks.length f3.kc] 25)) w3.heap.size 25 #[.int .i64 xe.kd, .string ⟨xe.tx.toArray⟩, .int .i64 xe.nm, .int .i64 (xe.at_ : Int), .slice f3.na xe.ns.length f3.nc, .slice f3.ka xe.ks.length f3.kc]) := Whole.made w3 25 _
    have HE4 := Lib.hid (HE3.out.later ((Below.refl w3.heap.size w3).alloc (Nat.le_refl _) (.cells #[.int .i64 xe.kd, .string ⟨xe.tx.toArray⟩, .int .i64 xe.nm, .int .i64 (xe.at_ : Int), .slice f3.na xe.ns.length f3.nc, .slice f3.ka xe.ks.length f3.kc] 25)) (Nat.le_refl _))
    have HB4 := Lib.hid (HB3.out.alloc HB3.out.size (.cells #[.int .i64 xe.kd, .string ⟨xe.tx.toArray⟩, .int .i64 xe.nm, .int .i64 (xe.at_ : Int), .slice f3.na xe.ns.length f3.nc, .slice f3.ka xe.ks.length f3.kc] 25))
    generalize w3.alloc (.cells #[.int .i64 xe.kd, .string ⟨xe.tx.toArray⟩, .int .i64 xe.nm, .int .i64 (xe.at_ : Int), .slice f3.na xe.ns.length f3.nc, .slice f3.ka xe.ks.length f3.kc] 25) = w4 at *
    generalize w3.heap.size = M at *
    have HXD := Lib.hid (HX4.out.below (Below.refl _ _).drew HX4.out.lt)
    refine region_Z (fun W => C6 W M 0 1 2 3 4 5 xe f3) (fun i => false) (by kernel_rfl) (sixC HXD.out) (fun hHeld => ?_)
    refine tkf 0 rfl (v := ?_) ?_ ?_; rotate_left
    · (intro w hSw; (try dsimp only at hSw); obtain ⟨u0, u1, u2, u3, u4, u5⟩ := hSw; go_simp; try with_reducible rfl)
    (try simp only [Act.put, sZ])
    refine tkf 1 rfl (v := ?_) ?_ ?_; rotate_left
    · (intro w hSw; (try dsimp only at hSw); obtain ⟨u0, u1, u2, u3, u4, u5⟩ := hSw; go_simp; try with_reducible rfl)
    (try simp only [Act.put, sZ])
    refine stp 2 rfl (fun K hK => ?_)
    go_simp
    go_at_call 19
    have C5 := Lib.hid (CD.out w4.drew (fun a => a < w4.drew.heap.size) f3 (fun a ha => ha) ((HE4.out.later (Below.refl _ _).drew (Nat.le_refl _)).mono fun a _ hl => hl))
    unfold ndV at C5
    refine C5.out.mono ?_
    rintro e w5 ⟨f5, rfl, n5, b⟩
    have b5 : Below w4.heap.size w4 w5 := (Below.refl w4.heap.size w4).drew.trans b
    have HX5 := Lib.hid (HX4.out.below b5 HX4.out.lt)
    have HE5 := Lib.hid (HE4.out.later b5 (Nat.le_refl _))
    have HR5 : Hid (NodeIn w5 (fun _ => True) xe f5) := n5.mono fun _ _ _ => trivial
    have HB5 := Lib.hid (HB4.out.trans (b5.mono HB4.out.size))
    refine hK.out _ _ (fun _ => sixC HX5.out) (fun hHeld2 => ?_)
    replace hHeld2 := hHeld2 rfl
    clear hK K hHeld b b5 n5 C5 CD HX4 HXD HE4 HB4
    (try simp only [Act.put, sZ])
    refine stp 3 rfl (fun K hK => ?_)
    go_simp
    go_at_call 10
    have C6 := Lib.hid (CM.out w5 _ _ f3 f5 HE5.out HR5.out)
    unfold ndV at C6
    refine C6.out.mono ?_
    rintro e w6 ⟨rfl, b6⟩
    have HX6 := Lib.hid (HX5.out.below b6 HX5.out.lt)
    have HB6 := Lib.hid (HB5.out.trans (b6.mono HB5.out.size))
    refine hK.out _ _ (fun _ => sixC HX6.out) (fun hHeld4 => ?_)
    replace hHeld4 := hHeld4 rfl
    clear hK K hHeld2 b6 C6 CM HX5 HE5 HR5 HB5
    (try simp only [Act.put, sZ])
    refine tkf 4 rfl (v := ?_) ?_ ?_; rotate_left
    · (intro w hSw; (try dsimp only at hSw); obtain ⟨u0, u1, u2, u3, u4, u5⟩ := hSw; go_simp; try with_reducible rfl)
    (try simp only [Act.put, sZ])
    refine stp 5 rfl (fun K hK => ?_)
    go_simp
    go_at_call 9
    refine (lives_any w6).mono ?_
    rintro e w7 ⟨rfl, b7⟩
    have HX7 := Lib.hid (HX6.out.below b7 HX6.out.lt)
    have HB7 := Lib.hid (HB6.out.trans (b7.mono HB6.out.size))
    refine hK.out _ _ (fun _ => sixC HX7.out) (fun hHeld5 => ?_)
    clear hK K hHeld4 b7 HX6 HB6
    (try simp only [Act.put, sZ])
    refine stp 6 rfl (fun K hK => ?_)
    go_simp
    refine hK.out _ _ (fun _ => sixC HX7.out) (fun _ => ?_)
    clear hK K hHeld5
    (try simp only [Act.put, sZ])
    refine stp 7 rfl (fun K hK => ?_)
    go_simp
    refine hK.out _ _ (fun _ => sixC HX7.out) (fun _ => ?_)
    clear hK K
    (try simp only [Act.put, sZ])
    refine anyZ_done (by kernel_rfl) ?_ _
    go_wp2_with fail
    exact bodyPost_ret (v := .bool true) (by simp [results, Try.results7, go_sem]) rfl ⟨rfl, HB7.out⟩
  · have CL := Lib.hid (lives_any w2)
    go_wp2_with fail
    refine CL.out.mono ?_
    rintro e w3 ⟨rfl, b3⟩
    have HB3 := Lib.hid (HB2.out.trans (b3.mono HB2.out.size))
    go_wp2_with fail
    exact bodyPost_ret (v := .bool true) (by simp [results, Try.results7, go_sem]) rfl ⟨rfl, HB3.out⟩
end Go.Proofs.Ytgjchgmlogbmmaa
