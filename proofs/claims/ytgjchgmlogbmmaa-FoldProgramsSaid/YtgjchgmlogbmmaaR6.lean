/- A part of the proofs of chapter 11, squeezed, merged and shrunk by group.py: GWalkM. -/
import Derived.Test.YtgjchgmlogbmmaaR1
import Derived.KernelRfl
import Derived.Test.YtgjchgmlogbmmaaR5
/- The walks of layer 5, the document's: an atom. -/
namespace Go.Proofs.Ytgjchgmlogbmmaa
open Go.RowKit
set_option linter.unusedVariables false
set_option linter.unusedSimpArgs false
attribute [local go_sem ↓] Go.wp_at_zero Go.wp_at_succ

set_option maxRecDepth 100000 in
set_option maxHeartbeats 16000000 in
theorem atom_any (w : World) (R g c : Nat) (T : List Tok) (r : Rec) (n : Nat) (s : PS) (E : Ends T) (F : Fine T r) (C : Calm r) (D : Deep R g c T r n) (hp : PAt w R g c T s) (hd : 41 ≤ s.deep + n) :
  Calls Try.prog 80 #[.pointer (some ⟨R, 0, none⟩)] w (Gives w R g c T (atomF T r s)) := by
 have H0 := Lib.hid (St.start hp)
 have HD := Lib.hid hd
 have HL := Lib.hid hp.lt
 have G_s := Lib.hid (Goes.refl hp.lt)
 clear hp hd
 obtain ⟨q, hq⟩ : ∃ q, atomF T r s = q := ⟨_, rfl⟩
 rw [hq]
 have HQ := Lib.hid hq
 clear hq
 obtain ⟨a, h_a⟩ : ∃ a, atF T s = a := ⟨_, rfl⟩
 have E_a := Lib.hid h_a
 clear h_a
 obtain ⟨k, h_k⟩ : ∃ k, kdF T s = k := ⟨_, rfl⟩
 have E_k := Lib.hid h_k
 clear h_k
 go_enter Try.func80, Try.ntmps80
 go_upto_region 1 with (fail)
 generalize w.alloc (.cells #[.int .i64 0, .string ⟨#[]⟩, .int .i64 0, .int .i64 0, .slice none 0 0, .slice none 0 0] 25) = w1 at *
 go_wp2_with fail
 refine (at_eq E_a.out H0.out.p).mono ?_
 rintro e w2 ⟨rfl, b2⟩
 have H2 := Lib.hid (H0.out.read b2)
 clear b2 H0
 have S_G : Hid (w.heap.size < w2.heap.size) := H2.out.size
 have H3 := Lib.hid (H2.out.alloc (.cells #[.int .i64 0, .string ⟨#[]⟩, .int .i64 0, .int .i64 (a : Int), .slice none 0 0, .slice none 0 0] 25))
 have B_G3 : Hid (Box (w2.alloc (.cells #[.int .i64 0, .string ⟨#[]⟩, .int .i64 0, .int .i64 (a : Int), .slice none 0 0, .slice none 0 0] 25)) w2.heap.size (w.heap.size + 1) (Nd.mk 0 [] 0 a [] []) fr0 []) := Box.made w2 (base := w.heap.size + 1) (x := (Nd.mk 0 [] 0 a [] [])) H2.out.size rfl rfl
 go_upto_region 2 with (fail)
 generalize w2.alloc (.cells #[.int .i64 0, .string ⟨#[]⟩, .int .i64 0, .int .i64 (a : Int), .slice none 0 0, .slice none 0 0] 25) = w3 at *
 generalize w2.heap.size = G at *
 clear H2
 obtain ⟨zz0, h_zz0⟩ : ∃ z9, (Nd.mk 0 [] 0 a [] []) = z9 := ⟨_, rfl⟩
 rw [h_zz0] at B_G3
 have Z_zz0 := Lib.hid h_zz0
 clear h_zz0
 go_wp2_with fail
 refine (kind_eq E_k.out H3.out.p).mono ?_
 rintro e w4 ⟨rfl, b4⟩
 have H4 := Lib.hid (H3.out.read b4)
 have B_G4 := Lib.hid (B_G3.out.below b4 (Nat.le_refl _))
 clear b4 H3 B_G3
 by_cases k1 : k = 1
 ·subst k1
  clear B_G4
  have hq : (leafN T s 1, stepF T s) = q := by rw [← HQ.out]; unfold atomF; rw [E_k.out]; exact (if_pos rfl).symm
  subst hq
  have CL := Lib.hid (leaf_any w4 R g c T s 1 E H4.out.p)
  clear HQ
  generalize leafN T s 1 = x at *
  generalize stepF T s = s2 at *
  go_wp2_with fail
  refine CL.out.mono ?_
  rintro e w9 ⟨f, rfl, h9, n9, b9⟩
  have H9 := Lib.hid (H4.out.call h9 b9)
  have N9 := Lib.hid (n9.gt H4.out)
  clear h9 n9 b9 CL
  unfold ndV
  obtain ⟨z0, z1, z2, z3, z4, z5⟩ := zeroC (H9.out.z)
  obtain ⟨y0, y1, y2, y3, y4, y5⟩ := freeC (H9.out.z)
  go_wp2_with fail
  obtain ⟨wf, HZF, HBF, hwf⟩ := endsN (H9.out.z) x f
  rw [hwf]
  clear hwf
  obtain ⟨g0, g1, g2, g3, g4, g5⟩ := cells6 HZF.out
  exact bodyPost_ret (v := ndV x f) (by simp [results, Try.results80, go_sem, ndV, Nd.kd, Nd.tx, Nd.nm, Nd.at_, Nd.ns, Nd.ks, leafN, fr0, nd0, g0, g1, g2, g3, g4, g5]) rfl (H9.out.done N9.out HBF.out)
 by_cases k2 : k = 2
 ·subst k2
  clear B_G4
  have hq : (leafN T s 2, stepF T s) = q := by rw [← HQ.out]; unfold atomF; rw [E_k.out, if_neg (by decide), if_pos rfl]
  subst hq
  have CL := Lib.hid (leaf_any w4 R g c T s 2 E H4.out.p)
  clear HQ
  generalize leafN T s 2 = x at *
  generalize stepF T s = s2 at *
  go_wp2_with fail
  refine CL.out.mono ?_
  rintro e w9 ⟨f, rfl, h9, n9, b9⟩
  have H9 := Lib.hid (H4.out.call h9 b9)
  have N9 := Lib.hid (n9.gt H4.out)
  clear h9 n9 b9 CL
  unfold ndV
  obtain ⟨z0, z1, z2, z3, z4, z5⟩ := zeroC (H9.out.z)
  obtain ⟨y0, y1, y2, y3, y4, y5⟩ := freeC (H9.out.z)
  go_wp2_with fail
  obtain ⟨wf, HZF, HBF, hwf⟩ := endsN (H9.out.z) x f
  rw [hwf]
  clear hwf
  obtain ⟨g0, g1, g2, g3, g4, g5⟩ := cells6 HZF.out
  exact bodyPost_ret (v := ndV x f) (by simp [results, Try.results80, go_sem, ndV, Nd.kd, Nd.tx, Nd.nm, Nd.at_, Nd.ns, Nd.ks, leafN, fr0, nd0, g0, g1, g2, g3, g4, g5]) rfl (H9.out.done N9.out HBF.out)
 by_cases k3 : k = 3
 ·subst k3
  clear B_G4
  have hq : (leafN T s 4, stepF T s) = q := by rw [← HQ.out]; unfold atomF; rw [E_k.out, if_neg (by decide), if_neg (by decide), if_pos rfl]
  subst hq
  have CL := Lib.hid (leaf_any w4 R g c T s 4 E H4.out.p)
  clear HQ
  generalize leafN T s 4 = x at *
  generalize stepF T s = s2 at *
  go_wp2_with fail
  refine CL.out.mono ?_
  rintro e w9 ⟨f, rfl, h9, n9, b9⟩
  have H9 := Lib.hid (H4.out.call h9 b9)
  have N9 := Lib.hid (n9.gt H4.out)
  clear h9 n9 b9 CL
  unfold ndV
  obtain ⟨z0, z1, z2, z3, z4, z5⟩ := zeroC (H9.out.z)
  obtain ⟨y0, y1, y2, y3, y4, y5⟩ := freeC (H9.out.z)
  go_wp2_with fail
  obtain ⟨wf, HZF, HBF, hwf⟩ := endsN (H9.out.z) x f
  rw [hwf]
  clear hwf
  obtain ⟨g0, g1, g2, g3, g4, g5⟩ := cells6 HZF.out
  exact bodyPost_ret (v := ndV x f) (by simp [results, Try.results80, go_sem, ndV, Nd.kd, Nd.tx, Nd.nm, Nd.at_, Nd.ns, Nd.ks, leafN, fr0, nd0, g0, g1, g2, g3, g4, g5]) rfl (H9.out.done N9.out HBF.out)
 by_cases k4 : k = 4
 ·subst k4
  clear B_G4
  have hq : (leafN T s 5, stepF T s) = q := by rw [← HQ.out]; unfold atomF; rw [E_k.out, if_neg (by decide), if_neg (by decide), if_neg (by decide), if_pos rfl]
  subst hq
  have CL := Lib.hid (leaf_any w4 R g c T s 5 E H4.out.p)
  clear HQ
  generalize leafN T s 5 = x at *
  generalize stepF T s = s2 at *
  go_wp2_with fail
  refine CL.out.mono ?_
  rintro e w9 ⟨f, rfl, h9, n9, b9⟩
  have H9 := Lib.hid (H4.out.call h9 b9)
  have N9 := Lib.hid (n9.gt H4.out)
  clear h9 n9 b9 CL
  unfold ndV
  obtain ⟨z0, z1, z2, z3, z4, z5⟩ := zeroC (H9.out.z)
  obtain ⟨y0, y1, y2, y3, y4, y5⟩ := freeC (H9.out.z)
  go_wp2_with fail
  obtain ⟨wf, HZF, HBF, hwf⟩ := endsN (H9.out.z) x f
  rw [hwf]
  clear hwf
  obtain ⟨g0, g1, g2, g3, g4, g5⟩ := cells6 HZF.out
  exact bodyPost_ret (v := ndV x f) (by simp [results, Try.results80, go_sem, ndV, Nd.kd, Nd.tx, Nd.nm, Nd.at_, Nd.ns, Nd.ks, leafN, fr0, nd0, g0, g1, g2, g3, g4, g5]) rfl (H9.out.done N9.out HBF.out)
 obtain ⟨br, h_br⟩ : ∃ br, isF T s retK = br := ⟨_, rfl⟩
 have E_br := Lib.hid h_br
 clear h_br
 obtain ⟨bm, h_bm⟩ : ∃ bm, isF T s matK = bm := ⟨_, rfl⟩
 have E_bm := Lib.hid h_bm
 clear h_bm
 obtain ⟨bt, h_bt⟩ : ∃ bt, isF T s tryK = bt := ⟨_, rfl⟩
 have E_bt := Lib.hid h_bt
 clear h_bt
 obtain ⟨bo, h_bo⟩ : ∃ bo, isF T s [40] = bo := ⟨_, rfl⟩
 have E_bo := Lib.hid h_bo
 clear h_bo
 have HQ2 : Hid ((if br = true then ((Nd.mk 0 [] 0 a [] []).setKd 19, stepF T s) else if bo = true then
    if isF T (stepF T s) [41] = true then ((Nd.mk 0 [] 0 a [] []).setKd 3, stepF T (stepF T s))
    else ((wholeF r (stepF T s)).1, wantF T (wholeF r (stepF T s)).2 [41])
   else if bt = true then
    (((((Nd.mk 0 [] 0 a [] []).add (wholeF r (stepF T s)).1).setKd 12).setTx (textT T (wantF T (wholeF r (stepF T s)).2 [119, 105, 116, 104]) 3)).add (wholeF r (wantF T (textF T (wantF T (wholeF r (stepF T s)).2 [119, 105, 116, 104]) 3) [45, 62])).1, wantF T (wholeF r (wantF T (textF T (wantF T (wholeF r (stepF T s)).2 [119, 105, 116, 104]) 3) [45, 62])).2 [101, 110, 100])
   else if bm = true then
    ((matL T r (T.length + 1) true (((Nd.mk 0 [] 0 a [] []).add (wholeF r (stepF T s)).1).setKd 11) (wantF T (wholeF r (stepF T s)).2 [119, 105, 116, 104])).1, wantF T (matL T r (T.length + 1) true (((Nd.mk 0 [] 0 a [] []).add (wholeF r (stepF T s)).1).setKd 11) (wantF T (wholeF r (stepF T s)).2 [119, 105, 116, 104])).2 [101, 110, 100])
   else (nd0, failF T s 14)) = q) := by
  show _ = _
  rw [← HQ.out, ← E_br.out, ← E_bm.out, ← E_bt.out, ← E_bo.out, ← E_a.out]; unfold atomF; rw [E_k.out, if_neg k1, if_neg k2, if_neg k3, if_neg k4]
 have q1 : (k == 1) = false := beq_eq_false_iff_ne.2 k1
 have q2 : (k == 2) = false := beq_eq_false_iff_ne.2 k2
 have q3 : (k == 3) = false := beq_eq_false_iff_ne.2 k3
 have q4 : (k == 4) = false := beq_eq_false_iff_ne.2 k4
 clear k1 k2 k3 k4 HQ
 go_upto_region 11 with (fail)
 clear q1 q2 q3 q4
 have E_rk := Lib.hid (show isF T s [114, 101, 116, 114, 121] = br from E_br.out)
 have E_mk := Lib.hid (show isF T s [109, 97, 116, 99, 104] = bm from E_bm.out)
 have E_tk := Lib.hid (show isF T s [116, 114, 121] = bt from E_bt.out)
 go_wp2_with fail
 refine (is_eq E_rk.out H4.out.p).mono ?_
 rintro e w5 ⟨rfl, b5⟩
 have H5 := Lib.hid (H4.out.read b5)
 have B_G5 := Lib.hid (B_G4.out.below b5 (Nat.le_refl _))
 clear b5 H4 B_G4
 go_wp2_with fail
 refine (is_eq E_mk.out H5.out.p).mono ?_
 rintro e w6 ⟨rfl, b6⟩
 have H6 := Lib.hid (H5.out.read b6)
 have B_G6 := Lib.hid (B_G5.out.below b6 (Nat.le_refl _))
 clear b6 H5 B_G5
 go_wp2_with fail
 refine (is_eq E_tk.out H6.out.p).mono ?_
 rintro e w7 ⟨rfl, b7⟩
 have H7 := Lib.hid (H6.out.read b7)
 have B_G7 := Lib.hid (B_G6.out.below b7 (Nat.le_refl _))
 clear b7 H6 B_G6
 go_wp2_with fail
 refine (is_eq E_bo.out H7.out.p).mono ?_
 rintro e w8 ⟨rfl, b8⟩
 have H8 := Lib.hid (H7.out.read b8)
 have B_G8 := Lib.hid (B_G7.out.below b8 (Nat.le_refl _))
 clear b8 H7 B_G7
 rcases br with _ | _
 ·rcases bo with _ | _
  ·rcases bt with _ | _
   ·rcases bm with _ | _
    ·obtain ⟨s1, h_s1⟩ : ∃ s1, failF T s 14 = s1 := ⟨_, rfl⟩
     have E_s1 := Lib.hid h_s1
     clear h_s1
     have hq := HQ2.out
     rw [if_neg (by decide), if_neg (by decide), if_neg (by decide), if_neg (by decide), E_s1.out] at hq
     subst hq
     clear HQ2 B_G8
     go_wp2_with fail
     refine (fail_eq E_s1.out H8.out.p).mono ?_
     rintro e w9 ⟨rfl, h9, b9⟩
     have H9 := Lib.hid (H8.out.call h9 b9)
     clear h9 b9 H8
     obtain ⟨z0, z1, z2, z3, z4, z5⟩ := zeroC (H9.out.z)
     obtain ⟨y0, y1, y2, y3, y4, y5⟩ := freeC (H9.out.z)
     go_wp2_with fail
     obtain ⟨wf, HZF, HBF, hwf⟩ := ends6 (H9.out.z) (.int .i64 0) (.string ⟨#[]⟩) (.int .i64 0) (.int .i64 0) (.slice none 0 0) (.slice none 0 0)
     rw [hwf]
     clear hwf
     obtain ⟨g0, g1, g2, g3, g4, g5⟩ := cells6 HZF.out
     exact bodyPost_ret (v := ndV nd0 fr0) (by simp [results, Try.results80, go_sem, ndV, Nd.kd, Nd.tx, Nd.nm, Nd.at_, Nd.ns, Nd.ks, leafN, fr0, nd0, g0, g1, g2, g3, g4, g5]) rfl (H9.out.done (x := nd0) (f := fr0) (.leaf _ _ rfl rfl) HBF.out)
    ·obtain ⟨t, h_t⟩ : ∃ t, stepT T s = t := ⟨_, rfl⟩
     have E_t := Lib.hid h_t
     clear h_t
     obtain ⟨s1, h_s1⟩ : ∃ s1, stepF T s = s1 := ⟨_, rfl⟩
     have E_s1 := Lib.hid h_s1
     clear h_s1
     have G_s1 := Lib.hid (show Goes T s s1 from by have q := (goes_step E HL.out); rw [E_s1.out] at q; exact q)
     obtain ⟨x, s2, h_s2⟩ : ∃ x s2, wholeF r s1 = (x, s2) := ⟨_, _, rfl⟩
     have E_s2 := Lib.hid h_s2
     clear h_s2
     have G_s2 := Lib.hid (show Goes T s s2 from by have q := (G_s1.out.whole F); rw [E_s2.out] at q; exact q)
     obtain ⟨s3, h_s3⟩ : ∃ s3, wantF T s2 [119, 105, 116, 104] = s3 := ⟨_, rfl⟩
     have E_s3 := Lib.hid h_s3
     clear h_s3
     have G_s3 := Lib.hid (show Goes T s s3 from by have q := G_s2.out.want E [119, 105, 116, 104]; rw [E_s3.out] at q; exact q)
     have HI : Hid (1 ≤ s3.i) := by
      show _ ≤ _
      have h0 : s1.i = s.i + 1 := by rw [← E_s1.out]; unfold stepF; rw [if_neg (is_kd E_bm.out)]
      have h1 : Goes T s1 s2 := by have q := goes_whole F G_s1.out.lt; rw [E_s2.out] at q; exact q
      have h2 : Goes T s2 s3 := by have q := goes_want E G_s2.out.lt [119, 105, 116, 104]; rw [E_s3.out] at q; exact q
      have := h1.i; have := h2.i; omega
     obtain ⟨zz2, hz2⟩ : ∃ zz2, ((Nd.mk 0 [] 0 a [] []).add x).setKd 11 = zz2 := ⟨_, rfl⟩
     obtain ⟨res, hres⟩ : ∃ res, matL T r (T.length + 1) true zz2 s3 = res := ⟨_, rfl⟩
     have hq := HQ2.out
     rw [if_neg (by decide), if_neg (by decide), if_neg (by decide), if_pos rfl, E_s1.out, E_s2.out, E_s3.out, hz2, hres] at hq
     have HZ2 := Lib.hid hz2
     have HRES := Lib.hid hres
     have HQ3 := Lib.hid hq
     clear hq HQ2 hz2 hres
     go_wp2_with fail
     refine (step_eq E E_t.out E_s1.out H8.out.p).mono ?_
     rintro e w10 ⟨rfl, h10, b10⟩
     have H10 := Lib.hid (H8.out.call h10 b10)
     have B_G10 := Lib.hid (B_G8.out.but b10 (Nat.le_refl _) (by have := H8.out.r; omega))
     clear h10 b10 H8 B_G8
     go_upto_region 31 with (fail)
     have l0 : zz0.ks.length ≤ 5 := by rw [← Z_zz0.out]; exact Nat.zero_le 5
     have C11 := Lib.hid (fun wx (h : PAt wx R g c T s1) => gives_eq E_s2.out (whole_any wx R g c T r n s1 D h (by rw [G_s1.out.deep]; exact HD.out)))
     refine region_Z (fun W => W.cell? ⟨G, 5, none⟩ = some (.slice fr0.ka zz0.ks.length fr0.kc)) (fun i => i == 7) (by kernel_rfl) B_G10.out.drew.c5 (fun hHeld => ?_)
     refine tke 0 rfl (v := ?_) ?_ ?_; rotate_left
     ·(intro w hSw; (try dsimp only at hSw); go_simp; try with_reducible rfl)
     (try simp only [Act.put, sZ])
     refine tke 1 rfl (v := ?_) ?_ ?_; rotate_left
     ·(intro w hSw; (try dsimp only at hSw); go_simp; try with_reducible rfl)
     (try simp only [Act.put, sZ])
     refine tke 2 rfl (v := ?_) ?_ ?_; rotate_left
     ·(intro w hSw; (try dsimp only at hSw); go_simp; try with_reducible rfl)
     (try simp only [Act.put, sZ])
     refine stp 3 rfl (fun K hK => ?_)
     go_simp
     go_at_call 83
     refine (C11.out _ H10.out.drew.p).mono ?_
     rintro e wc ⟨fy, rfl, hpc, ny, bc⟩
     have HC := Lib.hid (H10.out.drew.call hpc bc)
     have BC := Lib.hid (B_G10.out.drew.but bc (Nat.le_refl _) (by have := H10.out.r; omega))
     have NY : Hid (NodeIn wc (fun a => w10.heap.size ≤ a) x fy) := ny
     clear hpc ny bc
     unfold ndV
     refine hK.out _ _ (fun _ => BC.out.c5) (fun hHeld2 => ?_)
     clear hK K hHeld
     (try simp only [Act.put, sZ])
     refine stp 4 rfl (fun K hK => ?_)
     go_simp
     refine hK.out _ _ (fun _ => (BC.out.alloc _).c5) (fun hHeld3 => ?_)
     clear hK K hHeld2
     (try simp only [Act.put, sZ])
     refine stp 5 rfl (fun K hK => ?_)
     refine step_app ty_nd (v := .slice fr0.ka zz0.ks.length fr0.kc) (by rfl) _ _ (by rfl) (by rfl) (BC.out.alloc _).kid wc.heap.size 1 (ndL x fy) (by rfl) (Whole.made wc 25 _) (by rfl) (by simp [ndL, Value.oneCell']) (by decide) (by omega) (by decide) (by have := HC.out.size; simp; omega) ?_
     intro gv cv wd hap
     have HD := Lib.hid ((HC.out.alloc (.cells (ndL x fy).toArray 25)).low (hap.below (BC.out.alloc (.cells (ndL x fy).toArray 25)).kid (Below.refl _ _) (Nat.le_refl _) (by have := HC.out.size; simp; omega)))
     have BN0 := Lib.hid ((BC.out.alloc (.cells (ndL x fy).toArray 25)).app (B := w10.heap.size) B_G10.out.lt B_G10.out.nlt B_G10.out.klt (NY.out.alloc _) hap)
     have XD := Lib.hid (hap.far (BC.out.alloc (.cells (ndL x fy).toArray 25)).box (row_ne (BC.out.alloc (.cells (ndL x fy).toArray 25)).kid BC.out.kN))
     have z5 : wd.cell? ⟨G, 5, none⟩ = some (.slice fr0.ka zz0.ks.length fr0.kc) := XD.out.cell 5
     have y5 := XD.out.free 5
     refine hK.out _ _ (fun _ => z5) (fun hHeld4 => ?_)
     replace hHeld4 := hHeld4 (by decide)
     clear hK K hHeld3 hap
     (try simp only [Act.put, sZ])
     refine tke 6 rfl (v := ?_) ?_ ?_; rotate_left
     ·(intro w hSw; (try dsimp only at hSw); go_simp; try with_reducible rfl)
     (try simp only [Act.put, sZ])
     refine stp 7 rfl (fun K hK => ?_)
     go_simp
     refine hK.out _ _ (fun h => absurd h (by decide)) (fun _ => ?_)
     refine anyZ_done (by kernel_rfl) ?_ _
     have H11 := Lib.hid (HD.out.own (p := ⟨G, 5, none⟩) (Nat.lt_of_succ_le B_G10.out.lo) (.slice (some ⟨gv, 0, none⟩) (zz0.ks.length + 1) cv))
     obtain ⟨f11, fs11, BN1⟩ : ∃ f2 fs2, Box (wd.setCell ⟨G, 5, none⟩ (.slice (some ⟨gv, 0, none⟩) (zz0.ks.length + 1) cv)) G (w.heap.size + 1) (zz0.add x) f2 fs2 := ⟨_, _, BN0.out⟩
     have B_G11 := Lib.hid BN1
     clear hK K hHeld4 z5 y5 XD BN0 BN1 HD BC HC NY
     generalize wd.setCell ⟨G, 5, none⟩ (.slice (some ⟨gv, 0, none⟩) (zz0.ks.length + 1) cv) = w11 at *
     clear C11 H10 B_G10
     obtain ⟨zz1, h_zz1⟩ : ∃ z9, (zz0.add x) = z9 := ⟨_, rfl⟩
     rw [h_zz1] at B_G11
     have Z_zz1 := Lib.hid h_zz1
     clear h_zz1
     go_wp2_with fail
     refine (want_eq E E_s3.out H11.out.p).mono ?_
     rintro e w12 ⟨rfl, h12, b12⟩
     have H12 := Lib.hid (H11.out.call h12 b12)
     have B_G12 := Lib.hid (B_G11.out.but b12 (Nat.le_refl _) (by have := H11.out.r; omega))
     clear h12 b12 H11 B_G11
     go_upto_region 40 with (fail)
     have c0 := B_G12.out.c0
     have f0 := B_G12.out.free 0
     go_upto_block 1 with (fail)
     have B_G13 := Lib.hid (B_G12.out.putKd 11)
     have H13 := Lib.hid (H12.out.own (p := ⟨G, 0, none⟩) B_G12.out.lo (.int .i64 11))
     clear c0 f0 B_G12 H12
     generalize w12.setCell ⟨G, 0, none⟩ (.int .i64 11) = w13 at *
     obtain ⟨zz3, h_zz3⟩ : ∃ z9, (zz1.setKd 11) = z9 := ⟨_, rfl⟩
     rw [h_zz3] at B_G13
     have Z_zz3 := Lib.hid h_zz3
     clear h_zz3
     have hz3 : zz3 = zz2 := by rw [← Z_zz3.out, ← Z_zz1.out, ← Z_zz0.out]; exact HZ2.out
     have l3 : zz3.ks.length = 1 := by rw [← Z_zz3.out, setKd_ks, ← Z_zz1.out, add_ks, ← Z_zz0.out]; rfl
     have HLZ := Lib.hid (And.intro hz3 l3)
     clear hz3 l3 l0
     go_cut [10] (fun _ wx => ∃ z s4 f3 fs3, res = (z, s4) ∧ St w wx R g c T s4 ∧ Box wx G (w.heap.size + 1) z f3 fs3 ∧ Goes T s s4)
     case first =>
      go_wp2_with fail
      go_loopg [10] (T.length + 1) (fun gk mo wr => ∃ b z s4 f3 fs3, mo = .bool b ∧ (b = true → T.length + 1 ≤ gk + s4.i ∧ (isF T s4 [124] = true ∨ T.length + 2 ≤ gk + s4.i)) ∧ z.ks.length + 2 * gk ≤ 2 * T.length + 3 ∧ matL T r gk b z s4 = res ∧ Box wr G (w.heap.size + 1) z f3 fs3 ∧ St w wr R g c T s4 ∧ Goes T s s4)
      case atStart => exact ⟨true, zz3, s3, f11, fs11, rfl, fun _ => ⟨by omega, .inr (by have := HI.out; omega)⟩, by have := HLZ.out.2; omega, by rw [HLZ.out.1]; exact HRES.out, B_G13.out, H13.out, G_s3.out⟩
      case round =>
       obtain ⟨b, z, s4, f3, fs3, rfl, hz, hz4, hpl, hbx, hst, hgo⟩ := hrel
       have hlen := hst.p.len
       have BX := Lib.hid hbx
       have HS := Lib.hid hst
       have G_s4 := Lib.hid hgo
       have HFU := Lib.hid hz
       have HPL := Lib.hid hpl
       clear hbx hst hgo hpl hz B_G13 H13 HRES HQ3
       rcases b with _ | _
       ·have hr := HPL.out
        rw [matL_stop] at hr
        subst hr
        clear HPL
        go_wp2_with fail
        go_meet
        exact ⟨z, s4, f3, fs3, rfl, HS.out, BX.out, G_s4.out⟩
       ·obtain ⟨m, rfl⟩ : ∃ m, gk = m + 1 := ⟨gk - 1, by have := (HFU.out rfl).1; have := G_s4.out.lt; omega⟩
        have hz5 : z.ks.length ≤ 300000 := by omega
        have d5 := BX.out.c5
        go_upto_region 43 with (fail)
        obtain ⟨lb, ql⟩ : ∃ lb, ((z.ks.length : Int) == 41) = lb := ⟨_, rfl⟩
        rcases lb with _ | _
        ·obtain ⟨s5, h_s5⟩ : ∃ s5, wantF T s4 [124] = s5 := ⟨_, rfl⟩
         have E_s5 := Lib.hid h_s5
         clear h_s5
         have G_s5 := Lib.hid (show Goes T s s5 from by have q := G_s4.out.want E [124]; rw [E_s5.out] at q; exact q)
         obtain ⟨x2, s6, h_s6⟩ : ∃ x2 s6, r.pat s5 = (x2, s6) := ⟨_, _, rfl⟩
         have E_s6 := Lib.hid h_s6
         clear h_s6
         have G_s6 := Lib.hid (show Goes T s s6 from by have q := (G_s5.out.pat F); rw [E_s6.out] at q; exact q)
         obtain ⟨s7, h_s7⟩ : ∃ s7, wantF T s6 [45, 62] = s7 := ⟨_, rfl⟩
         have E_s7 := Lib.hid h_s7
         clear h_s7
         have G_s7 := Lib.hid (show Goes T s s7 from by have q := G_s6.out.want E [45, 62]; rw [E_s7.out] at q; exact q)
         obtain ⟨y2, s8, h_s8⟩ : ∃ y2 s8, wholeF r s7 = (y2, s8) := ⟨_, _, rfl⟩
         have E_s8 := Lib.hid h_s8
         clear h_s8
         have G_s8 := Lib.hid (show Goes T s s8 from by have q := (G_s7.out.whole F); rw [E_s8.out] at q; exact q)
         obtain ⟨b2, h_b2⟩ : ∃ b2, isF T s8 [124] = b2 := ⟨_, rfl⟩
         have E_b2 := Lib.hid h_b2
         clear h_b2
         have HPL3 : Hid (matL T r m b2 ((z.add x2).add y2) s8 = res) := by
          show _ = _
          have q1 : (if true = true then matL T r m (isF T (wholeF r (wantF T (r.pat (wantF T (if z.ks.length = 41 then failF T s4 16 else s4) [124])).2 [45, 62])).2 [124]) ((z.add (r.pat (wantF T (if z.ks.length = 41 then failF T s4 16 else s4) [124])).1).add (wholeF r (wantF T (r.pat (wantF T (if z.ks.length = 41 then failF T s4 16 else s4) [124])).2 [45, 62])).1) (wholeF r (wantF T (r.pat (wantF T (if z.ks.length = 41 then failF T s4 16 else s4) [124])).2 [45, 62])).2 else (z, s4)) = res := HPL.out
          rw [if_pos rfl, if_neg (by have := beq_eq_false_iff_ne.1 ql; omega), E_s5.out, E_s6.out, E_s7.out, E_s8.out, E_b2.out] at q1; exact q1
         have HFU2 : Hid (b2 = true → T.length + 1 ≤ m + s8.i ∧ (isF T s8 [124] = true ∨ T.length + 2 ≤ m + s8.i)) := fun h => by
          have h6 : Goes T s5 s6 := by have q := F.pat s5 G_s5.out.lt; rw [E_s6.out] at q; exact q
          have h7 : Goes T s6 s7 := by have q := goes_want E G_s6.out.lt [45, 62]; rw [E_s7.out] at q; exact q
          have h8 : Goes T s7 s8 := by have q := goes_whole F G_s7.out.lt; rw [E_s8.out] at q; exact q
          have h5 : Goes T s4 s5 := by have q := goes_want E G_s4.out.lt [124]; rw [E_s5.out] at q; exact q
          have i5 := h5.i; have i6 := h6.i; have i7 := h7.i; have i8 := h8.i
          have hf := HFU.out rfl
          refine ⟨?_, .inl (E_b2.out.trans h)⟩
          rcases hf.2 with h9 | h9
          ·have : s5.i = s4.i + 1 := by rw [← E_s5.out]; unfold wantF; rw [if_pos h9]; unfold stepF; rw [if_neg (is_kd h9)]
           have := hf.1; omega
          ·omega
         clear HPL HFU
         go_upto_region 45 with (fail)
         clear d5
         go_wp2_with fail
         refine (want_eq E E_s5.out HS.out.p).mono ?_
         rintro e w61 ⟨rfl, h61, b61⟩
         have H61 := Lib.hid (HS.out.call h61 b61)
         have B_G61 := Lib.hid (BX.out.but b61 (Nat.le_refl _) (by have := HS.out.r; omega))
         clear h61 b61 HS BX
         go_upto_region 46 with (fail)
         have C62 := Lib.hid (fun wx (h : PAt wx R g c T s5) => gives_eq E_s6.out (D.pat wx s5 h (by rw [G_s5.out.deep]; exact HD.out)))
         refine region_Z (fun W => W.cell? ⟨G, 5, none⟩ = some (.slice f3.ka z.ks.length f3.kc)) (fun i => i == 7) (by kernel_rfl) B_G61.out.drew.c5 (fun hHeld => ?_)
         refine tke 0 rfl (v := ?_) ?_ ?_; rotate_left
         ·(intro w hSw; (try dsimp only at hSw); go_simp; try with_reducible rfl)
         (try simp only [Act.put, sZ])
         refine tke 1 rfl (v := ?_) ?_ ?_; rotate_left
         ·(intro w hSw; (try dsimp only at hSw); go_simp; try with_reducible rfl)
         (try simp only [Act.put, sZ])
         refine tke 2 rfl (v := ?_) ?_ ?_; rotate_left
         ·(intro w hSw; (try dsimp only at hSw); go_simp; try with_reducible rfl)
         (try simp only [Act.put, sZ])
         refine stp 3 rfl (fun K hK => ?_)
         go_simp
         go_at_call 84
         refine (C62.out _ H61.out.drew.p).mono ?_
         rintro e wc ⟨fy, rfl, hpc, ny, bc⟩
         have HC := Lib.hid (H61.out.drew.call hpc bc)
         have BC := Lib.hid (B_G61.out.drew.but bc (Nat.le_refl _) (by have := H61.out.r; omega))
         have NY : Hid (NodeIn wc (fun a => w61.heap.size ≤ a) x2 fy) := ny
         clear hpc ny bc
         unfold ndV
         refine hK.out _ _ (fun _ => BC.out.c5) (fun hHeld2 => ?_)
         clear hK K hHeld
         (try simp only [Act.put, sZ])
         refine stp 4 rfl (fun K hK => ?_)
         go_simp
         refine hK.out _ _ (fun _ => (BC.out.alloc _).c5) (fun hHeld3 => ?_)
         clear hK K hHeld2
         (try simp only [Act.put, sZ])
         refine stp 5 rfl (fun K hK => ?_)
         refine step_app ty_nd (v := .slice f3.ka z.ks.length f3.kc) (by rfl) _ _ (by rfl) (by rfl) (BC.out.alloc _).kid wc.heap.size 1 (ndL x2 fy) (by rfl) (Whole.made wc 25 _) (by rfl) (by simp [ndL, Value.oneCell']) (by decide) (by omega) (by decide) (by have := HC.out.size; simp; omega) ?_
         intro gv cv wd hap
         have HD := Lib.hid ((HC.out.alloc (.cells (ndL x2 fy).toArray 25)).low (hap.below (BC.out.alloc (.cells (ndL x2 fy).toArray 25)).kid (Below.refl _ _) (Nat.le_refl _) (by have := HC.out.size; simp; omega)))
         have BN0 := Lib.hid ((BC.out.alloc (.cells (ndL x2 fy).toArray 25)).app (B := w61.heap.size) B_G61.out.lt B_G61.out.nlt B_G61.out.klt (NY.out.alloc _) hap)
         have XD := Lib.hid (hap.far (BC.out.alloc (.cells (ndL x2 fy).toArray 25)).box (row_ne (BC.out.alloc (.cells (ndL x2 fy).toArray 25)).kid BC.out.kN))
         have z5 : wd.cell? ⟨G, 5, none⟩ = some (.slice f3.ka z.ks.length f3.kc) := XD.out.cell 5
         have y5 := XD.out.free 5
         refine hK.out _ _ (fun _ => z5) (fun hHeld4 => ?_)
         replace hHeld4 := hHeld4 (by decide)
         clear hK K hHeld3 hap
         (try simp only [Act.put, sZ])
         refine tke 6 rfl (v := ?_) ?_ ?_; rotate_left
         ·(intro w hSw; (try dsimp only at hSw); go_simp; try with_reducible rfl)
         (try simp only [Act.put, sZ])
         refine stp 7 rfl (fun K hK => ?_)
         go_simp
         refine hK.out _ _ (fun h => absurd h (by decide)) (fun _ => ?_)
         refine anyZ_done (by kernel_rfl) ?_ _
         have H62 := Lib.hid (HD.out.own (p := ⟨G, 5, none⟩) (Nat.lt_of_succ_le B_G61.out.lo) (.slice (some ⟨gv, 0, none⟩) (z.ks.length + 1) cv))
         obtain ⟨f62, fs62, BN1⟩ : ∃ f2 fs2, Box (wd.setCell ⟨G, 5, none⟩ (.slice (some ⟨gv, 0, none⟩) (z.ks.length + 1) cv)) G (w.heap.size + 1) (z.add x2) f2 fs2 := ⟨_, _, BN0.out⟩
         have B_G62 := Lib.hid BN1
         clear hK K hHeld4 z5 y5 XD BN0 BN1 HD BC HC NY
         generalize wd.setCell ⟨G, 5, none⟩ (.slice (some ⟨gv, 0, none⟩) (z.ks.length + 1) cv) = w62 at *
         clear C62 H61 B_G61
         obtain ⟨za, h_za⟩ : ∃ z9, (z.add x2) = z9 := ⟨_, rfl⟩
         rw [h_za] at B_G62
         have Z_za := Lib.hid h_za
         clear h_za
         have l5 : za.ks.length = z.ks.length + 1 := by rw [← Z_za.out, add_ks]; simp
         have l6 : za.ks.length ≤ 300001 := by omega
         have L5 := Lib.hid l5
         clear l5
         go_wp2_with fail
         refine (want_eq E E_s7.out H62.out.p).mono ?_
         rintro e w63 ⟨rfl, h63, b63⟩
         have H63 := Lib.hid (H62.out.call h63 b63)
         have B_G63 := Lib.hid (B_G62.out.but b63 (Nat.le_refl _) (by have := H62.out.r; omega))
         clear h63 b63 H62 B_G62
         go_upto_region 48 with (fail)
         have C64 := Lib.hid (fun wx (h : PAt wx R g c T s7) => gives_eq E_s8.out (whole_any wx R g c T r n s7 D h (by rw [G_s7.out.deep]; exact HD.out)))
         refine region_Z (fun W => W.cell? ⟨G, 5, none⟩ = some (.slice f62.ka za.ks.length f62.kc)) (fun i => i == 7) (by kernel_rfl) B_G63.out.drew.c5 (fun hHeld => ?_)
         refine tke 0 rfl (v := ?_) ?_ ?_; rotate_left
         ·(intro w hSw; (try dsimp only at hSw); go_simp; try with_reducible rfl)
         (try simp only [Act.put, sZ])
         refine tke 1 rfl (v := ?_) ?_ ?_; rotate_left
         ·(intro w hSw; (try dsimp only at hSw); go_simp; try with_reducible rfl)
         (try simp only [Act.put, sZ])
         refine tke 2 rfl (v := ?_) ?_ ?_; rotate_left
         ·(intro w hSw; (try dsimp only at hSw); go_simp; try with_reducible rfl)
         (try simp only [Act.put, sZ])
         refine stp 3 rfl (fun K hK => ?_)
         go_simp
         go_at_call 83
         refine (C64.out _ H63.out.drew.p).mono ?_
         rintro e wc ⟨fy, rfl, hpc, ny, bc⟩
         have HC := Lib.hid (H63.out.drew.call hpc bc)
         have BC := Lib.hid (B_G63.out.drew.but bc (Nat.le_refl _) (by have := H63.out.r; omega))
         have NY : Hid (NodeIn wc (fun a => w63.heap.size ≤ a) y2 fy) := ny
         clear hpc ny bc
         unfold ndV
         refine hK.out _ _ (fun _ => BC.out.c5) (fun hHeld2 => ?_)
         clear hK K hHeld
         (try simp only [Act.put, sZ])
         refine stp 4 rfl (fun K hK => ?_)
         go_simp
         refine hK.out _ _ (fun _ => (BC.out.alloc _).c5) (fun hHeld3 => ?_)
         clear hK K hHeld2
         (try simp only [Act.put, sZ])
         refine stp 5 rfl (fun K hK => ?_)
         refine step_app ty_nd (v := .slice f62.ka za.ks.length f62.kc) (by rfl) _ _ (by rfl) (by rfl) (BC.out.alloc _).kid wc.heap.size 1 (ndL y2 fy) (by rfl) (Whole.made wc 25 _) (by rfl) (by simp [ndL, Value.oneCell']) (by decide) (by omega) (by decide) (by have := HC.out.size; simp; omega) ?_
         intro gv cv wd hap
         have HD := Lib.hid ((HC.out.alloc (.cells (ndL y2 fy).toArray 25)).low (hap.below (BC.out.alloc (.cells (ndL y2 fy).toArray 25)).kid (Below.refl _ _) (Nat.le_refl _) (by have := HC.out.size; simp; omega)))
         have BN0 := Lib.hid ((BC.out.alloc (.cells (ndL y2 fy).toArray 25)).app (B := w63.heap.size) B_G63.out.lt B_G63.out.nlt B_G63.out.klt (NY.out.alloc _) hap)
         have XD := Lib.hid (hap.far (BC.out.alloc (.cells (ndL y2 fy).toArray 25)).box (row_ne (BC.out.alloc (.cells (ndL y2 fy).toArray 25)).kid BC.out.kN))
         have z5 : wd.cell? ⟨G, 5, none⟩ = some (.slice f62.ka za.ks.length f62.kc) := XD.out.cell 5
         have y5 := XD.out.free 5
         refine hK.out _ _ (fun _ => z5) (fun hHeld4 => ?_)
         replace hHeld4 := hHeld4 (by decide)
         clear hK K hHeld3 hap
         (try simp only [Act.put, sZ])
         refine tke 6 rfl (v := ?_) ?_ ?_; rotate_left
         ·(intro w hSw; (try dsimp only at hSw); go_simp; try with_reducible rfl)
         (try simp only [Act.put, sZ])
         refine stp 7 rfl (fun K hK => ?_)
         go_simp
         refine hK.out _ _ (fun h => absurd h (by decide)) (fun _ => ?_)
         refine anyZ_done (by kernel_rfl) ?_ _
         have H64 := Lib.hid (HD.out.own (p := ⟨G, 5, none⟩) (Nat.lt_of_succ_le B_G63.out.lo) (.slice (some ⟨gv, 0, none⟩) (za.ks.length + 1) cv))
         obtain ⟨f64, fs64, BN1⟩ : ∃ f2 fs2, Box (wd.setCell ⟨G, 5, none⟩ (.slice (some ⟨gv, 0, none⟩) (za.ks.length + 1) cv)) G (w.heap.size + 1) (za.add y2) f2 fs2 := ⟨_, _, BN0.out⟩
         have B_G64 := Lib.hid BN1
         clear hK K hHeld4 z5 y5 XD BN0 BN1 HD BC HC NY
         generalize wd.setCell ⟨G, 5, none⟩ (.slice (some ⟨gv, 0, none⟩) (za.ks.length + 1) cv) = w64 at *
         clear C64 H63 B_G63
         obtain ⟨zb, h_zb⟩ : ∃ z9, (za.add y2) = z9 := ⟨_, rfl⟩
         rw [h_zb] at B_G64
         have Z_zb := Lib.hid h_zb
         clear h_zb
         go_wp2_with fail
         refine (is_eq E_b2.out H64.out.p).mono ?_
         rintro e w65 ⟨rfl, b65⟩
         have H65 := Lib.hid (H64.out.read b65)
         have B_G65 := Lib.hid (B_G64.out.below b65 (Nat.le_refl _))
         clear b65 H64 B_G64
         go_wp2_with fail
         go_roundg m
         case measure => exact Nat.lt_succ_self _
         case rel => exact ⟨b2, zb, s8, f64, fs64, rfl, HFU2.out, by rw [← Z_zb.out, add_ks]; have := L5.out; simp; omega, by rw [← Z_zb.out, ← Z_za.out]; exact HPL3.out, B_G65.out, H65.out, G_s8.out⟩
        ·obtain ⟨s40, h_s40⟩ : ∃ s40, failF T s4 16 = s40 := ⟨_, rfl⟩
         have E_s40 := Lib.hid h_s40
         clear h_s40
         have G_s40 := Lib.hid (show Goes T s s40 from by have q := G_s4.out.fail 16; rw [E_s40.out] at q; exact q)
         go_upto_region 44 with (fail)
         clear d5
         go_wp2_with fail
         refine (fail_eq E_s40.out HS.out.p).mono ?_
         rintro e w66 ⟨rfl, h66, b66⟩
         have H66 := Lib.hid (HS.out.call h66 b66)
         have B_G66 := Lib.hid (BX.out.but b66 (Nat.le_refl _) (by have := HS.out.r; omega))
         clear h66 b66 HS BX
         have d5 := B_G66.out.c5
         obtain ⟨s5, h_s5⟩ : ∃ s5, wantF T s40 [124] = s5 := ⟨_, rfl⟩
         have E_s5 := Lib.hid h_s5
         clear h_s5
         have G_s5 := Lib.hid (show Goes T s s5 from by have q := G_s40.out.want E [124]; rw [E_s5.out] at q; exact q)
         obtain ⟨x2, s6, h_s6⟩ : ∃ x2 s6, r.pat s5 = (x2, s6) := ⟨_, _, rfl⟩
         have E_s6 := Lib.hid h_s6
         clear h_s6
         have G_s6 := Lib.hid (show Goes T s s6 from by have q := (G_s5.out.pat F); rw [E_s6.out] at q; exact q)
         obtain ⟨s7, h_s7⟩ : ∃ s7, wantF T s6 [45, 62] = s7 := ⟨_, rfl⟩
         have E_s7 := Lib.hid h_s7
         clear h_s7
         have G_s7 := Lib.hid (show Goes T s s7 from by have q := G_s6.out.want E [45, 62]; rw [E_s7.out] at q; exact q)
         obtain ⟨y2, s8, h_s8⟩ : ∃ y2 s8, wholeF r s7 = (y2, s8) := ⟨_, _, rfl⟩
         have E_s8 := Lib.hid h_s8
         clear h_s8
         have G_s8 := Lib.hid (show Goes T s s8 from by have q := (G_s7.out.whole F); rw [E_s8.out] at q; exact q)
         obtain ⟨b2, h_b2⟩ : ∃ b2, isF T s8 [124] = b2 := ⟨_, rfl⟩
         have E_b2 := Lib.hid h_b2
         clear h_b2
         have HPL3 : Hid (matL T r m b2 ((z.add x2).add y2) s8 = res) := by
          show _ = _
          have q1 : (if true = true then matL T r m (isF T (wholeF r (wantF T (r.pat (wantF T (if z.ks.length = 41 then failF T s4 16 else s4) [124])).2 [45, 62])).2 [124]) ((z.add (r.pat (wantF T (if z.ks.length = 41 then failF T s4 16 else s4) [124])).1).add (wholeF r (wantF T (r.pat (wantF T (if z.ks.length = 41 then failF T s4 16 else s4) [124])).2 [45, 62])).1) (wholeF r (wantF T (r.pat (wantF T (if z.ks.length = 41 then failF T s4 16 else s4) [124])).2 [45, 62])).2 else (z, s4)) = res := HPL.out
          rw [if_pos rfl, if_pos (by have := beq_iff_eq.1 ql; omega), E_s40.out, E_s5.out, E_s6.out, E_s7.out, E_s8.out, E_b2.out] at q1; exact q1
         have HFU2 : Hid (b2 = true → T.length + 1 ≤ m + s8.i ∧ (isF T s8 [124] = true ∨ T.length + 2 ≤ m + s8.i)) := fun h => by
          have e0 : s40.e ≠ 0 := by rw [← E_s40.out]; exact fail_sad s4 (by decide)
          have e5 : s5 = s40 := by rw [← E_s5.out, sad_want e0]
          have e6 : s6 = s40 := by have q := E_s6.out; rw [e5, C.pat _ e0] at q; exact (Prod.mk.inj q).2.symm
          have e7 : s7 = s40 := by rw [← E_s7.out, e6, sad_want e0]
          have e8 : s8 = s40 := by have q := E_s8.out; rw [e7, calm_whole C e0] at q; exact (Prod.mk.inj q).2.symm
          rw [e8, sad_is e0] at E_b2
          exact absurd (E_b2.out.trans h) (by decide)
         clear HPL HFU
         go_upto_region 45 with (fail)
         clear d5
         go_wp2_with fail
         refine (want_eq E E_s5.out H66.out.p).mono ?_
         rintro e w67 ⟨rfl, h67, b67⟩
         have H67 := Lib.hid (H66.out.call h67 b67)
         have B_G67 := Lib.hid (B_G66.out.but b67 (Nat.le_refl _) (by have := H66.out.r; omega))
         clear h67 b67 H66 B_G66
         go_upto_region 46 with (fail)
         have C68 := Lib.hid (fun wx (h : PAt wx R g c T s5) => gives_eq E_s6.out (D.pat wx s5 h (by rw [G_s5.out.deep]; exact HD.out)))
         refine region_Z (fun W => W.cell? ⟨G, 5, none⟩ = some (.slice f3.ka z.ks.length f3.kc)) (fun i => i == 7) (by kernel_rfl) B_G67.out.drew.c5 (fun hHeld => ?_)
         refine tke 0 rfl (v := ?_) ?_ ?_; rotate_left
         ·(intro w hSw; (try dsimp only at hSw); go_simp; try with_reducible rfl)
         (try simp only [Act.put, sZ])
         refine tke 1 rfl (v := ?_) ?_ ?_; rotate_left
         ·(intro w hSw; (try dsimp only at hSw); go_simp; try with_reducible rfl)
         (try simp only [Act.put, sZ])
         refine tke 2 rfl (v := ?_) ?_ ?_; rotate_left
         ·(intro w hSw; (try dsimp only at hSw); go_simp; try with_reducible rfl)
         (try simp only [Act.put, sZ])
         refine stp 3 rfl (fun K hK => ?_)
         go_simp
         go_at_call 84
         refine (C68.out _ H67.out.drew.p).mono ?_
         rintro e wc ⟨fy, rfl, hpc, ny, bc⟩
         have HC := Lib.hid (H67.out.drew.call hpc bc)
         have BC := Lib.hid (B_G67.out.drew.but bc (Nat.le_refl _) (by have := H67.out.r; omega))
         have NY : Hid (NodeIn wc (fun a => w67.heap.size ≤ a) x2 fy) := ny
         clear hpc ny bc
         unfold ndV
         refine hK.out _ _ (fun _ => BC.out.c5) (fun hHeld2 => ?_)
         clear hK K hHeld
         (try simp only [Act.put, sZ])
         refine stp 4 rfl (fun K hK => ?_)
         go_simp
         refine hK.out _ _ (fun _ => (BC.out.alloc _).c5) (fun hHeld3 => ?_)
         clear hK K hHeld2
         (try simp only [Act.put, sZ])
         refine stp 5 rfl (fun K hK => ?_)
         refine step_app ty_nd (v := .slice f3.ka z.ks.length f3.kc) (by rfl) _ _ (by rfl) (by rfl) (BC.out.alloc _).kid wc.heap.size 1 (ndL x2 fy) (by rfl) (Whole.made wc 25 _) (by rfl) (by simp [ndL, Value.oneCell']) (by decide) (by omega) (by decide) (by have := HC.out.size; simp; omega) ?_
         intro gv cv wd hap
         have HD := Lib.hid ((HC.out.alloc (.cells (ndL x2 fy).toArray 25)).low (hap.below (BC.out.alloc (.cells (ndL x2 fy).toArray 25)).kid (Below.refl _ _) (Nat.le_refl _) (by have := HC.out.size; simp; omega)))
         have BN0 := Lib.hid ((BC.out.alloc (.cells (ndL x2 fy).toArray 25)).app (B := w67.heap.size) B_G67.out.lt B_G67.out.nlt B_G67.out.klt (NY.out.alloc _) hap)
         have XD := Lib.hid (hap.far (BC.out.alloc (.cells (ndL x2 fy).toArray 25)).box (row_ne (BC.out.alloc (.cells (ndL x2 fy).toArray 25)).kid BC.out.kN))
         have z5 : wd.cell? ⟨G, 5, none⟩ = some (.slice f3.ka z.ks.length f3.kc) := XD.out.cell 5
         have y5 := XD.out.free 5
         refine hK.out _ _ (fun _ => z5) (fun hHeld4 => ?_)
         replace hHeld4 := hHeld4 (by decide)
         clear hK K hHeld3 hap
         (try simp only [Act.put, sZ])
         refine tke 6 rfl (v := ?_) ?_ ?_; rotate_left
         ·(intro w hSw; (try dsimp only at hSw); go_simp; try with_reducible rfl)
         (try simp only [Act.put, sZ])
         refine stp 7 rfl (fun K hK => ?_)
         go_simp
         refine hK.out _ _ (fun h => absurd h (by decide)) (fun _ => ?_)
         refine anyZ_done (by kernel_rfl) ?_ _
         have H68 := Lib.hid (HD.out.own (p := ⟨G, 5, none⟩) (Nat.lt_of_succ_le B_G67.out.lo) (.slice (some ⟨gv, 0, none⟩) (z.ks.length + 1) cv))
         obtain ⟨f68, fs68, BN1⟩ : ∃ f2 fs2, Box (wd.setCell ⟨G, 5, none⟩ (.slice (some ⟨gv, 0, none⟩) (z.ks.length + 1) cv)) G (w.heap.size + 1) (z.add x2) f2 fs2 := ⟨_, _, BN0.out⟩
         have B_G68 := Lib.hid BN1
         clear hK K hHeld4 z5 y5 XD BN0 BN1 HD BC HC NY
         generalize wd.setCell ⟨G, 5, none⟩ (.slice (some ⟨gv, 0, none⟩) (z.ks.length + 1) cv) = w68 at *
         clear C68 H67 B_G67
         obtain ⟨za, h_za⟩ : ∃ z9, (z.add x2) = z9 := ⟨_, rfl⟩
         rw [h_za] at B_G68
         have Z_za := Lib.hid h_za
         clear h_za
         have l5 : za.ks.length = z.ks.length + 1 := by rw [← Z_za.out, add_ks]; simp
         have l6 : za.ks.length ≤ 300001 := by omega
         have L5 := Lib.hid l5
         clear l5
         go_wp2_with fail
         refine (want_eq E E_s7.out H68.out.p).mono ?_
         rintro e w69 ⟨rfl, h69, b69⟩
         have H69 := Lib.hid (H68.out.call h69 b69)
         have B_G69 := Lib.hid (B_G68.out.but b69 (Nat.le_refl _) (by have := H68.out.r; omega))
         clear h69 b69 H68 B_G68
         go_upto_region 48 with (fail)
         have C70 := Lib.hid (fun wx (h : PAt wx R g c T s7) => gives_eq E_s8.out (whole_any wx R g c T r n s7 D h (by rw [G_s7.out.deep]; exact HD.out)))
         refine region_Z (fun W => W.cell? ⟨G, 5, none⟩ = some (.slice f68.ka za.ks.length f68.kc)) (fun i => i == 7) (by kernel_rfl) B_G69.out.drew.c5 (fun hHeld => ?_)
         refine tke 0 rfl (v := ?_) ?_ ?_; rotate_left
         ·(intro w hSw; (try dsimp only at hSw); go_simp; try with_reducible rfl)
         (try simp only [Act.put, sZ])
         refine tke 1 rfl (v := ?_) ?_ ?_; rotate_left
         ·(intro w hSw; (try dsimp only at hSw); go_simp; try with_reducible rfl)
         (try simp only [Act.put, sZ])
         refine tke 2 rfl (v := ?_) ?_ ?_; rotate_left
         ·(intro w hSw; (try dsimp only at hSw); go_simp; try with_reducible rfl)
         (try simp only [Act.put, sZ])
         refine stp 3 rfl (fun K hK => ?_)
         go_simp
         go_at_call 83
         refine (C70.out _ H69.out.drew.p).mono ?_
         rintro e wc ⟨fy, rfl, hpc, ny, bc⟩
         have HC := Lib.hid (H69.out.drew.call hpc bc)
         have BC := Lib.hid (B_G69.out.drew.but bc (Nat.le_refl _) (by have := H69.out.r; omega))
         have NY : Hid (NodeIn wc (fun a => w69.heap.size ≤ a) y2 fy) := ny
         clear hpc ny bc
         unfold ndV
         refine hK.out _ _ (fun _ => BC.out.c5) (fun hHeld2 => ?_)
         clear hK K hHeld
         (try simp only [Act.put, sZ])
         refine stp 4 rfl (fun K hK => ?_)
         go_simp
         refine hK.out _ _ (fun _ => (BC.out.alloc _).c5) (fun hHeld3 => ?_)
         clear hK K hHeld2
         (try simp only [Act.put, sZ])
         refine stp 5 rfl (fun K hK => ?_)
         refine step_app ty_nd (v := .slice f68.ka za.ks.length f68.kc) (by rfl) _ _ (by rfl) (by rfl) (BC.out.alloc _).kid wc.heap.size 1 (ndL y2 fy) (by rfl) (Whole.made wc 25 _) (by rfl) (by simp [ndL, Value.oneCell']) (by decide) (by omega) (by decide) (by have := HC.out.size; simp; omega) ?_
         intro gv cv wd hap
         have HD := Lib.hid ((HC.out.alloc (.cells (ndL y2 fy).toArray 25)).low (hap.below (BC.out.alloc (.cells (ndL y2 fy).toArray 25)).kid (Below.refl _ _) (Nat.le_refl _) (by have := HC.out.size; simp; omega)))
         have BN0 := Lib.hid ((BC.out.alloc (.cells (ndL y2 fy).toArray 25)).app (B := w69.heap.size) B_G69.out.lt B_G69.out.nlt B_G69.out.klt (NY.out.alloc _) hap)
         have XD := Lib.hid (hap.far (BC.out.alloc (.cells (ndL y2 fy).toArray 25)).box (row_ne (BC.out.alloc (.cells (ndL y2 fy).toArray 25)).kid BC.out.kN))
         have z5 : wd.cell? ⟨G, 5, none⟩ = some (.slice f68.ka za.ks.length f68.kc) := XD.out.cell 5
         have y5 := XD.out.free 5
         refine hK.out _ _ (fun _ => z5) (fun hHeld4 => ?_)
         replace hHeld4 := hHeld4 (by decide)
         clear hK K hHeld3 hap
         (try simp only [Act.put, sZ])
         refine tke 6 rfl (v := ?_) ?_ ?_; rotate_left
         ·(intro w hSw; (try dsimp only at hSw); go_simp; try with_reducible rfl)
         (try simp only [Act.put, sZ])
         refine stp 7 rfl (fun K hK => ?_)
         go_simp
         refine hK.out _ _ (fun h => absurd h (by decide)) (fun _ => ?_)
         refine anyZ_done (by kernel_rfl) ?_ _
         have H70 := Lib.hid (HD.out.own (p := ⟨G, 5, none⟩) (Nat.lt_of_succ_le B_G69.out.lo) (.slice (some ⟨gv, 0, none⟩) (za.ks.length + 1) cv))
         obtain ⟨f70, fs70, BN1⟩ : ∃ f2 fs2, Box (wd.setCell ⟨G, 5, none⟩ (.slice (some ⟨gv, 0, none⟩) (za.ks.length + 1) cv)) G (w.heap.size + 1) (za.add y2) f2 fs2 := ⟨_, _, BN0.out⟩
         have B_G70 := Lib.hid BN1
         clear hK K hHeld4 z5 y5 XD BN0 BN1 HD BC HC NY
         generalize wd.setCell ⟨G, 5, none⟩ (.slice (some ⟨gv, 0, none⟩) (za.ks.length + 1) cv) = w70 at *
         clear C70 H69 B_G69
         obtain ⟨zb, h_zb⟩ : ∃ z9, (za.add y2) = z9 := ⟨_, rfl⟩
         rw [h_zb] at B_G70
         have Z_zb := Lib.hid h_zb
         clear h_zb
         go_wp2_with fail
         refine (is_eq E_b2.out H70.out.p).mono ?_
         rintro e w71 ⟨rfl, b71⟩
         have H71 := Lib.hid (H70.out.read b71)
         have B_G71 := Lib.hid (B_G70.out.below b71 (Nat.le_refl _))
         clear b71 H70 B_G70
         go_wp2_with fail
         go_roundg m
         case measure => exact Nat.lt_succ_self _
         case rel => exact ⟨b2, zb, s8, f70, fs70, rfl, HFU2.out, by rw [← Z_zb.out, add_ks]; have := L5.out; simp; omega, by rw [← Z_zb.out, ← Z_za.out]; exact HPL3.out, B_G71.out, H71.out, G_s8.out⟩
     case rest =>
      obtain ⟨z, s4, f3, fs3, hq5, h5, b5, g5⟩ := hcut
      have H5 := Lib.hid h5
      have B5 := Lib.hid b5
      have G_s4 := Lib.hid g5
      have hq := HQ3.out
      rw [hq5] at hq
      have HQ4 := Lib.hid hq
      clear hq HQ3 hq5 HRES h5 b5 g5 B_G13 H13
      obtain ⟨s5, h_s5⟩ : ∃ s5, wantF T s4 [101, 110, 100] = s5 := ⟨_, rfl⟩
      have E_s5 := Lib.hid h_s5
      clear h_s5
      have hq : (z, s5) = q := by rw [← E_s5.out]; exact HQ4.out
      subst hq
      clear HQ4
      go_wp2_with fail
      refine (want_eq E E_s5.out H5.out.p).mono ?_
      rintro e w91 ⟨rfl, h91, b91⟩
      have H91 := Lib.hid (H5.out.call h91 b91)
      have B_G91 := Lib.hid (B5.out.but b91 (Nat.le_refl _) (by have := H5.out.r; omega))
      clear h91 b91 H5 B5
      obtain ⟨t0, t1, t2, t3, t4, t5⟩ := nodeC (B_G91.out.box)
      obtain ⟨z0, z1, z2, z3, z4, z5⟩ := zeroC (H91.out.z)
      obtain ⟨y0, y1, y2, y3, y4, y5⟩ := freeC (H91.out.z)
      go_wp2_with fail
      obtain ⟨wf, HZF, HBF, hwf⟩ := endsN (H91.out.z) z f3
      rw [hwf]
      clear hwf
      obtain ⟨g0, g1, g2, g3, g4, g5⟩ := cells6 HZF.out
      exact bodyPost_ret (v := ndV z f3) (by simp [results, Try.results80, go_sem, ndV, Nd.kd, Nd.tx, Nd.nm, Nd.at_, Nd.ns, Nd.ks, leafN, fr0, nd0, g0, g1, g2, g3, g4, g5]) rfl (H91.out.done B_G91.out.var.node HBF.out)
   ·rcases bm with _ | _
    ·obtain ⟨t, h_t⟩ : ∃ t, stepT T s = t := ⟨_, rfl⟩
     have E_t := Lib.hid h_t
     clear h_t
     obtain ⟨s1, h_s1⟩ : ∃ s1, stepF T s = s1 := ⟨_, rfl⟩
     have E_s1 := Lib.hid h_s1
     clear h_s1
     have G_s1 := Lib.hid (show Goes T s s1 from by have q := (goes_step E HL.out); rw [E_s1.out] at q; exact q)
     obtain ⟨x, s2, h_s2⟩ : ∃ x s2, wholeF r s1 = (x, s2) := ⟨_, _, rfl⟩
     have E_s2 := Lib.hid h_s2
     clear h_s2
     have G_s2 := Lib.hid (show Goes T s s2 from by have q := (G_s1.out.whole F); rw [E_s2.out] at q; exact q)
     obtain ⟨s3, h_s3⟩ : ∃ s3, wantF T s2 [119, 105, 116, 104] = s3 := ⟨_, rfl⟩
     have E_s3 := Lib.hid h_s3
     clear h_s3
     have G_s3 := Lib.hid (show Goes T s s3 from by have q := G_s2.out.want E [119, 105, 116, 104]; rw [E_s3.out] at q; exact q)
     obtain ⟨tx, h_tx⟩ : ∃ tx, textT T s3 3 = tx := ⟨_, rfl⟩
     have E_tx := Lib.hid h_tx
     clear h_tx
     obtain ⟨s4, h_s4⟩ : ∃ s4, textF T s3 3 = s4 := ⟨_, rfl⟩
     have E_s4 := Lib.hid h_s4
     clear h_s4
     have G_s4 := Lib.hid (show Goes T s s4 from by have q := G_s3.out.text E 3; rw [E_s4.out] at q; exact q)
     obtain ⟨s5, h_s5⟩ : ∃ s5, wantF T s4 [45, 62] = s5 := ⟨_, rfl⟩
     have E_s5 := Lib.hid h_s5
     clear h_s5
     have G_s5 := Lib.hid (show Goes T s s5 from by have q := G_s4.out.want E [45, 62]; rw [E_s5.out] at q; exact q)
     obtain ⟨y, s6, h_s6⟩ : ∃ y s6, wholeF r s5 = (y, s6) := ⟨_, _, rfl⟩
     have E_s6 := Lib.hid h_s6
     clear h_s6
     have G_s6 := Lib.hid (show Goes T s s6 from by have q := (G_s5.out.whole F); rw [E_s6.out] at q; exact q)
     obtain ⟨s7, h_s7⟩ : ∃ s7, wantF T s6 [101, 110, 100] = s7 := ⟨_, rfl⟩
     have E_s7 := Lib.hid h_s7
     clear h_s7
     have hq := HQ2.out
     rw [if_neg (by decide), if_neg (by decide), if_pos rfl, E_s1.out, E_s2.out, E_s3.out, E_tx.out, E_s4.out, E_s5.out, E_s6.out, E_s7.out] at hq
     have HQ3 := Lib.hid hq
     clear hq HQ2
     go_wp2_with fail
     refine (step_eq E E_t.out E_s1.out H8.out.p).mono ?_
     rintro e w72 ⟨rfl, h72, b72⟩
     have H72 := Lib.hid (H8.out.call h72 b72)
     have B_G72 := Lib.hid (B_G8.out.but b72 (Nat.le_refl _) (by have := H8.out.r; omega))
     clear h72 b72 H8 B_G8
     go_upto_region 31 with (fail)
     have l0 : zz0.ks.length ≤ 5 := by rw [← Z_zz0.out]; exact Nat.zero_le 5
     have C73 := Lib.hid (fun wx (h : PAt wx R g c T s1) => gives_eq E_s2.out (whole_any wx R g c T r n s1 D h (by rw [G_s1.out.deep]; exact HD.out)))
     refine region_Z (fun W => W.cell? ⟨G, 5, none⟩ = some (.slice fr0.ka zz0.ks.length fr0.kc)) (fun i => i == 7) (by kernel_rfl) B_G72.out.drew.c5 (fun hHeld => ?_)
     refine tke 0 rfl (v := ?_) ?_ ?_; rotate_left
     ·(intro w hSw; (try dsimp only at hSw); go_simp; try with_reducible rfl)
     (try simp only [Act.put, sZ])
     refine tke 1 rfl (v := ?_) ?_ ?_; rotate_left
     ·(intro w hSw; (try dsimp only at hSw); go_simp; try with_reducible rfl)
     (try simp only [Act.put, sZ])
     refine tke 2 rfl (v := ?_) ?_ ?_; rotate_left
     ·(intro w hSw; (try dsimp only at hSw); go_simp; try with_reducible rfl)
     (try simp only [Act.put, sZ])
     refine stp 3 rfl (fun K hK => ?_)
     go_simp
     go_at_call 83
     refine (C73.out _ H72.out.drew.p).mono ?_
     rintro e wc ⟨fy, rfl, hpc, ny, bc⟩
     have HC := Lib.hid (H72.out.drew.call hpc bc)
     have BC := Lib.hid (B_G72.out.drew.but bc (Nat.le_refl _) (by have := H72.out.r; omega))
     have NY : Hid (NodeIn wc (fun a => w72.heap.size ≤ a) x fy) := ny
     clear hpc ny bc
     unfold ndV
     refine hK.out _ _ (fun _ => BC.out.c5) (fun hHeld2 => ?_)
     clear hK K hHeld
     (try simp only [Act.put, sZ])
     refine stp 4 rfl (fun K hK => ?_)
     go_simp
     refine hK.out _ _ (fun _ => (BC.out.alloc _).c5) (fun hHeld3 => ?_)
     clear hK K hHeld2
     (try simp only [Act.put, sZ])
     refine stp 5 rfl (fun K hK => ?_)
     refine step_app ty_nd (v := .slice fr0.ka zz0.ks.length fr0.kc) (by rfl) _ _ (by rfl) (by rfl) (BC.out.alloc _).kid wc.heap.size 1 (ndL x fy) (by rfl) (Whole.made wc 25 _) (by rfl) (by simp [ndL, Value.oneCell']) (by decide) (by omega) (by decide) (by have := HC.out.size; simp; omega) ?_
     intro gv cv wd hap
     have HD := Lib.hid ((HC.out.alloc (.cells (ndL x fy).toArray 25)).low (hap.below (BC.out.alloc (.cells (ndL x fy).toArray 25)).kid (Below.refl _ _) (Nat.le_refl _) (by have := HC.out.size; simp; omega)))
     have BN0 := Lib.hid ((BC.out.alloc (.cells (ndL x fy).toArray 25)).app (B := w72.heap.size) B_G72.out.lt B_G72.out.nlt B_G72.out.klt (NY.out.alloc _) hap)
     have XD := Lib.hid (hap.far (BC.out.alloc (.cells (ndL x fy).toArray 25)).box (row_ne (BC.out.alloc (.cells (ndL x fy).toArray 25)).kid BC.out.kN))
     have z5 : wd.cell? ⟨G, 5, none⟩ = some (.slice fr0.ka zz0.ks.length fr0.kc) := XD.out.cell 5
     have y5 := XD.out.free 5
     refine hK.out _ _ (fun _ => z5) (fun hHeld4 => ?_)
     replace hHeld4 := hHeld4 (by decide)
     clear hK K hHeld3 hap
     (try simp only [Act.put, sZ])
     refine tke 6 rfl (v := ?_) ?_ ?_; rotate_left
     ·(intro w hSw; (try dsimp only at hSw); go_simp; try with_reducible rfl)
     (try simp only [Act.put, sZ])
     refine stp 7 rfl (fun K hK => ?_)
     go_simp
     refine hK.out _ _ (fun h => absurd h (by decide)) (fun _ => ?_)
     refine anyZ_done (by kernel_rfl) ?_ _
     have H73 := Lib.hid (HD.out.own (p := ⟨G, 5, none⟩) (Nat.lt_of_succ_le B_G72.out.lo) (.slice (some ⟨gv, 0, none⟩) (zz0.ks.length + 1) cv))
     obtain ⟨f73, fs73, BN1⟩ : ∃ f2 fs2, Box (wd.setCell ⟨G, 5, none⟩ (.slice (some ⟨gv, 0, none⟩) (zz0.ks.length + 1) cv)) G (w.heap.size + 1) (zz0.add x) f2 fs2 := ⟨_, _, BN0.out⟩
     have B_G73 := Lib.hid BN1
     clear hK K hHeld4 z5 y5 XD BN0 BN1 HD BC HC NY
     generalize wd.setCell ⟨G, 5, none⟩ (.slice (some ⟨gv, 0, none⟩) (zz0.ks.length + 1) cv) = w73 at *
     clear C73 H72 B_G72
     obtain ⟨zz1, h_zz1⟩ : ∃ z9, (zz0.add x) = z9 := ⟨_, rfl⟩
     rw [h_zz1] at B_G73
     have Z_zz1 := Lib.hid h_zz1
     clear h_zz1
     go_wp2_with fail
     refine (want_eq E E_s3.out H73.out.p).mono ?_
     rintro e w74 ⟨rfl, h74, b74⟩
     have H74 := Lib.hid (H73.out.call h74 b74)
     have B_G74 := Lib.hid (B_G73.out.but b74 (Nat.le_refl _) (by have := H73.out.r; omega))
     clear h74 b74 H73 B_G73
     go_upto_region 34 with (fail)
     have c0 := B_G74.out.c0
     have f0 := B_G74.out.free 0
     go_upto_region 35 with (fail)
     have B_G75 := Lib.hid (B_G74.out.putKd 12)
     have H75 := Lib.hid (H74.out.own (p := ⟨G, 0, none⟩) B_G74.out.lo (.int .i64 12))
     clear c0 f0 B_G74 H74
     generalize w74.setCell ⟨G, 0, none⟩ (.int .i64 12) = w75 at *
     obtain ⟨zz2, h_zz2⟩ : ∃ z9, (zz1.setKd 12) = z9 := ⟨_, rfl⟩
     rw [h_zz2] at B_G75
     have Z_zz2 := Lib.hid h_zz2
     clear h_zz2
     go_wp2_with fail
     refine (text_eq E E_tx.out E_s4.out H75.out.p).mono ?_
     rintro e w76 ⟨rfl, h76, b76⟩
     have H76 := Lib.hid (H75.out.call h76 b76)
     have B_G76 := Lib.hid (B_G75.out.but b76 (Nat.le_refl _) (by have := H75.out.r; omega))
     clear h76 b76 H75 B_G75
     have c1 := B_G76.out.c1
     have f1 := B_G76.out.free 1
     go_upto_region 36 with (fail)
     have B_G77 := Lib.hid (B_G76.out.putTx tx)
     have H77 := Lib.hid (H76.out.own (p := ⟨G, 1, none⟩) B_G76.out.lo (.string ⟨tx.toArray⟩))
     clear c1 f1 B_G76 H76
     generalize w76.setCell ⟨G, 1, none⟩ (.string ⟨tx.toArray⟩) = w77 at *
     obtain ⟨zz3, h_zz3⟩ : ∃ z9, (zz2.setTx tx) = z9 := ⟨_, rfl⟩
     rw [h_zz3] at B_G77
     have Z_zz3 := Lib.hid h_zz3
     clear h_zz3
     go_wp2_with fail
     refine (want_eq E E_s5.out H77.out.p).mono ?_
     rintro e w78 ⟨rfl, h78, b78⟩
     have H78 := Lib.hid (H77.out.call h78 b78)
     have B_G78 := Lib.hid (B_G77.out.but b78 (Nat.le_refl _) (by have := H77.out.r; omega))
     clear h78 b78 H77 B_G77
     go_upto_region 37 with (fail)
     have l3 : zz3.ks.length ≤ 5 := by rw [← Z_zz3.out, setTx_ks, ← Z_zz2.out, setKd_ks, ← Z_zz1.out, add_ks, ← Z_zz0.out]; simp [Nd.ks]
     have C79 := Lib.hid (fun wx (h : PAt wx R g c T s5) => gives_eq E_s6.out (whole_any wx R g c T r n s5 D h (by rw [G_s5.out.deep]; exact HD.out)))
     refine region_Z (fun W => W.cell? ⟨G, 5, none⟩ = some (.slice f73.ka zz3.ks.length f73.kc)) (fun i => i == 7) (by kernel_rfl) B_G78.out.drew.c5 (fun hHeld => ?_)
     refine tke 0 rfl (v := ?_) ?_ ?_; rotate_left
     ·(intro w hSw; (try dsimp only at hSw); go_simp; try with_reducible rfl)
     (try simp only [Act.put, sZ])
     refine tke 1 rfl (v := ?_) ?_ ?_; rotate_left
     ·(intro w hSw; (try dsimp only at hSw); go_simp; try with_reducible rfl)
     (try simp only [Act.put, sZ])
     refine tke 2 rfl (v := ?_) ?_ ?_; rotate_left
     ·(intro w hSw; (try dsimp only at hSw); go_simp; try with_reducible rfl)
     (try simp only [Act.put, sZ])
     refine stp 3 rfl (fun K hK => ?_)
     go_simp
     go_at_call 83
     refine (C79.out _ H78.out.drew.p).mono ?_
     rintro e wc ⟨fy, rfl, hpc, ny, bc⟩
     have HC := Lib.hid (H78.out.drew.call hpc bc)
     have BC := Lib.hid (B_G78.out.drew.but bc (Nat.le_refl _) (by have := H78.out.r; omega))
     have NY : Hid (NodeIn wc (fun a => w78.heap.size ≤ a) y fy) := ny
     clear hpc ny bc
     unfold ndV
     refine hK.out _ _ (fun _ => BC.out.c5) (fun hHeld2 => ?_)
     clear hK K hHeld
     (try simp only [Act.put, sZ])
     refine stp 4 rfl (fun K hK => ?_)
     go_simp
     refine hK.out _ _ (fun _ => (BC.out.alloc _).c5) (fun hHeld3 => ?_)
     clear hK K hHeld2
     (try simp only [Act.put, sZ])
     refine stp 5 rfl (fun K hK => ?_)
     refine step_app ty_nd (v := .slice f73.ka zz3.ks.length f73.kc) (by rfl) _ _ (by rfl) (by rfl) (BC.out.alloc _).kid wc.heap.size 1 (ndL y fy) (by rfl) (Whole.made wc 25 _) (by rfl) (by simp [ndL, Value.oneCell']) (by decide) (by omega) (by decide) (by have := HC.out.size; simp; omega) ?_
     intro gv cv wd hap
     have HD := Lib.hid ((HC.out.alloc (.cells (ndL y fy).toArray 25)).low (hap.below (BC.out.alloc (.cells (ndL y fy).toArray 25)).kid (Below.refl _ _) (Nat.le_refl _) (by have := HC.out.size; simp; omega)))
     have BN0 := Lib.hid ((BC.out.alloc (.cells (ndL y fy).toArray 25)).app (B := w78.heap.size) B_G78.out.lt B_G78.out.nlt B_G78.out.klt (NY.out.alloc _) hap)
     have XD := Lib.hid (hap.far (BC.out.alloc (.cells (ndL y fy).toArray 25)).box (row_ne (BC.out.alloc (.cells (ndL y fy).toArray 25)).kid BC.out.kN))
     have z5 : wd.cell? ⟨G, 5, none⟩ = some (.slice f73.ka zz3.ks.length f73.kc) := XD.out.cell 5
     have y5 := XD.out.free 5
     refine hK.out _ _ (fun _ => z5) (fun hHeld4 => ?_)
     replace hHeld4 := hHeld4 (by decide)
     clear hK K hHeld3 hap
     (try simp only [Act.put, sZ])
     refine tke 6 rfl (v := ?_) ?_ ?_; rotate_left
     ·(intro w hSw; (try dsimp only at hSw); go_simp; try with_reducible rfl)
     (try simp only [Act.put, sZ])
     refine stp 7 rfl (fun K hK => ?_)
     go_simp
     refine hK.out _ _ (fun h => absurd h (by decide)) (fun _ => ?_)
     refine anyZ_done (by kernel_rfl) ?_ _
     have H79 := Lib.hid (HD.out.own (p := ⟨G, 5, none⟩) (Nat.lt_of_succ_le B_G78.out.lo) (.slice (some ⟨gv, 0, none⟩) (zz3.ks.length + 1) cv))
     obtain ⟨f79, fs79, BN1⟩ : ∃ f2 fs2, Box (wd.setCell ⟨G, 5, none⟩ (.slice (some ⟨gv, 0, none⟩) (zz3.ks.length + 1) cv)) G (w.heap.size + 1) (zz3.add y) f2 fs2 := ⟨_, _, BN0.out⟩
     have B_G79 := Lib.hid BN1
     clear hK K hHeld4 z5 y5 XD BN0 BN1 HD BC HC NY
     generalize wd.setCell ⟨G, 5, none⟩ (.slice (some ⟨gv, 0, none⟩) (zz3.ks.length + 1) cv) = w79 at *
     clear C79 H78 B_G78
     obtain ⟨zz4, h_zz4⟩ : ∃ z9, (zz3.add y) = z9 := ⟨_, rfl⟩
     rw [h_zz4] at B_G79
     have Z_zz4 := Lib.hid h_zz4
     clear h_zz4
     go_wp2_with fail
     refine (want_eq E E_s7.out H79.out.p).mono ?_
     rintro e w80 ⟨rfl, h80, b80⟩
     have H80 := Lib.hid (H79.out.call h80 b80)
     have B_G80 := Lib.hid (B_G79.out.but b80 (Nat.le_refl _) (by have := H79.out.r; omega))
     clear h80 b80 H79 B_G79
     have hq : (zz4, s7) = q := by rw [← Z_zz4.out, ← Z_zz3.out, ← Z_zz2.out, ← Z_zz1.out, ← Z_zz0.out]; exact HQ3.out
     subst hq
     clear HQ3 l0 l3
     obtain ⟨t0, t1, t2, t3, t4, t5⟩ := nodeC (B_G80.out.box)
     obtain ⟨z0, z1, z2, z3, z4, z5⟩ := zeroC (H80.out.z)
     obtain ⟨y0, y1, y2, y3, y4, y5⟩ := freeC (H80.out.z)
     go_wp2_with fail
     obtain ⟨wf, HZF, HBF, hwf⟩ := endsN (H80.out.z) zz4 f79
     rw [hwf]
     clear hwf
     obtain ⟨g0, g1, g2, g3, g4, g5⟩ := cells6 HZF.out
     exact bodyPost_ret (v := ndV zz4 f79) (by simp [results, Try.results80, go_sem, ndV, Nd.kd, Nd.tx, Nd.nm, Nd.at_, Nd.ns, Nd.ks, leafN, fr0, nd0, g0, g1, g2, g3, g4, g5]) rfl (H80.out.done B_G80.out.var.node HBF.out)
    ·obtain ⟨t, h_t⟩ : ∃ t, stepT T s = t := ⟨_, rfl⟩
     have E_t := Lib.hid h_t
     clear h_t
     obtain ⟨s1, h_s1⟩ : ∃ s1, stepF T s = s1 := ⟨_, rfl⟩
     have E_s1 := Lib.hid h_s1
     clear h_s1
     have G_s1 := Lib.hid (show Goes T s s1 from by have q := (goes_step E HL.out); rw [E_s1.out] at q; exact q)
     obtain ⟨x, s2, h_s2⟩ : ∃ x s2, wholeF r s1 = (x, s2) := ⟨_, _, rfl⟩
     have E_s2 := Lib.hid h_s2
     clear h_s2
     have G_s2 := Lib.hid (show Goes T s s2 from by have q := (G_s1.out.whole F); rw [E_s2.out] at q; exact q)
     obtain ⟨s3, h_s3⟩ : ∃ s3, wantF T s2 [119, 105, 116, 104] = s3 := ⟨_, rfl⟩
     have E_s3 := Lib.hid h_s3
     clear h_s3
     have G_s3 := Lib.hid (show Goes T s s3 from by have q := G_s2.out.want E [119, 105, 116, 104]; rw [E_s3.out] at q; exact q)
     obtain ⟨tx, h_tx⟩ : ∃ tx, textT T s3 3 = tx := ⟨_, rfl⟩
     have E_tx := Lib.hid h_tx
     clear h_tx
     obtain ⟨s4, h_s4⟩ : ∃ s4, textF T s3 3 = s4 := ⟨_, rfl⟩
     have E_s4 := Lib.hid h_s4
     clear h_s4
     have G_s4 := Lib.hid (show Goes T s s4 from by have q := G_s3.out.text E 3; rw [E_s4.out] at q; exact q)
     obtain ⟨s5, h_s5⟩ : ∃ s5, wantF T s4 [45, 62] = s5 := ⟨_, rfl⟩
     have E_s5 := Lib.hid h_s5
     clear h_s5
     have G_s5 := Lib.hid (show Goes T s s5 from by have q := G_s4.out.want E [45, 62]; rw [E_s5.out] at q; exact q)
     obtain ⟨y, s6, h_s6⟩ : ∃ y s6, wholeF r s5 = (y, s6) := ⟨_, _, rfl⟩
     have E_s6 := Lib.hid h_s6
     clear h_s6
     have G_s6 := Lib.hid (show Goes T s s6 from by have q := (G_s5.out.whole F); rw [E_s6.out] at q; exact q)
     obtain ⟨s7, h_s7⟩ : ∃ s7, wantF T s6 [101, 110, 100] = s7 := ⟨_, rfl⟩
     have E_s7 := Lib.hid h_s7
     clear h_s7
     have hq := HQ2.out
     rw [if_neg (by decide), if_neg (by decide), if_pos rfl, E_s1.out, E_s2.out, E_s3.out, E_tx.out, E_s4.out, E_s5.out, E_s6.out, E_s7.out] at hq
     have HQ3 := Lib.hid hq
     clear hq HQ2
     go_wp2_with fail
     refine (step_eq E E_t.out E_s1.out H8.out.p).mono ?_
     rintro e w81 ⟨rfl, h81, b81⟩
     have H81 := Lib.hid (H8.out.call h81 b81)
     have B_G81 := Lib.hid (B_G8.out.but b81 (Nat.le_refl _) (by have := H8.out.r; omega))
     clear h81 b81 H8 B_G8
     go_upto_region 31 with (fail)
     have l0 : zz0.ks.length ≤ 5 := by rw [← Z_zz0.out]; exact Nat.zero_le 5
     have C82 := Lib.hid (fun wx (h : PAt wx R g c T s1) => gives_eq E_s2.out (whole_any wx R g c T r n s1 D h (by rw [G_s1.out.deep]; exact HD.out)))
     refine region_Z (fun W => W.cell? ⟨G, 5, none⟩ = some (.slice fr0.ka zz0.ks.length fr0.kc)) (fun i => i == 7) (by kernel_rfl) B_G81.out.drew.c5 (fun hHeld => ?_)
     refine tke 0 rfl (v := ?_) ?_ ?_; rotate_left
     ·(intro w hSw; (try dsimp only at hSw); go_simp; try with_reducible rfl)
     (try simp only [Act.put, sZ])
     refine tke 1 rfl (v := ?_) ?_ ?_; rotate_left
     ·(intro w hSw; (try dsimp only at hSw); go_simp; try with_reducible rfl)
     (try simp only [Act.put, sZ])
     refine tke 2 rfl (v := ?_) ?_ ?_; rotate_left
     ·(intro w hSw; (try dsimp only at hSw); go_simp; try with_reducible rfl)
     (try simp only [Act.put, sZ])
     refine stp 3 rfl (fun K hK => ?_)
     go_simp
     go_at_call 83
     refine (C82.out _ H81.out.drew.p).mono ?_
     rintro e wc ⟨fy, rfl, hpc, ny, bc⟩
     have HC := Lib.hid (H81.out.drew.call hpc bc)
     have BC := Lib.hid (B_G81.out.drew.but bc (Nat.le_refl _) (by have := H81.out.r; omega))
     have NY : Hid (NodeIn wc (fun a => w81.heap.size ≤ a) x fy) := ny
     clear hpc ny bc
     unfold ndV
     refine hK.out _ _ (fun _ => BC.out.c5) (fun hHeld2 => ?_)
     clear hK K hHeld
     (try simp only [Act.put, sZ])
     refine stp 4 rfl (fun K hK => ?_)
     go_simp
     refine hK.out _ _ (fun _ => (BC.out.alloc _).c5) (fun hHeld3 => ?_)
     clear hK K hHeld2
     (try simp only [Act.put, sZ])
     refine stp 5 rfl (fun K hK => ?_)
     refine step_app ty_nd (v := .slice fr0.ka zz0.ks.length fr0.kc) (by rfl) _ _ (by rfl) (by rfl) (BC.out.alloc _).kid wc.heap.size 1 (ndL x fy) (by rfl) (Whole.made wc 25 _) (by rfl) (by simp [ndL, Value.oneCell']) (by decide) (by omega) (by decide) (by have := HC.out.size; simp; omega) ?_
     intro gv cv wd hap
     have HD := Lib.hid ((HC.out.alloc (.cells (ndL x fy).toArray 25)).low (hap.below (BC.out.alloc (.cells (ndL x fy).toArray 25)).kid (Below.refl _ _) (Nat.le_refl _) (by have := HC.out.size; simp; omega)))
     have BN0 := Lib.hid ((BC.out.alloc (.cells (ndL x fy).toArray 25)).app (B := w81.heap.size) B_G81.out.lt B_G81.out.nlt B_G81.out.klt (NY.out.alloc _) hap)
     have XD := Lib.hid (hap.far (BC.out.alloc (.cells (ndL x fy).toArray 25)).box (row_ne (BC.out.alloc (.cells (ndL x fy).toArray 25)).kid BC.out.kN))
     have z5 : wd.cell? ⟨G, 5, none⟩ = some (.slice fr0.ka zz0.ks.length fr0.kc) := XD.out.cell 5
     have y5 := XD.out.free 5
     refine hK.out _ _ (fun _ => z5) (fun hHeld4 => ?_)
     replace hHeld4 := hHeld4 (by decide)
     clear hK K hHeld3 hap
     (try simp only [Act.put, sZ])
     refine tke 6 rfl (v := ?_) ?_ ?_; rotate_left
     ·(intro w hSw; (try dsimp only at hSw); go_simp; try with_reducible rfl)
     (try simp only [Act.put, sZ])
     refine stp 7 rfl (fun K hK => ?_)
     go_simp
     refine hK.out _ _ (fun h => absurd h (by decide)) (fun _ => ?_)
     refine anyZ_done (by kernel_rfl) ?_ _
     have H82 := Lib.hid (HD.out.own (p := ⟨G, 5, none⟩) (Nat.lt_of_succ_le B_G81.out.lo) (.slice (some ⟨gv, 0, none⟩) (zz0.ks.length + 1) cv))
     obtain ⟨f82, fs82, BN1⟩ : ∃ f2 fs2, Box (wd.setCell ⟨G, 5, none⟩ (.slice (some ⟨gv, 0, none⟩) (zz0.ks.length + 1) cv)) G (w.heap.size + 1) (zz0.add x) f2 fs2 := ⟨_, _, BN0.out⟩
     have B_G82 := Lib.hid BN1
     clear hK K hHeld4 z5 y5 XD BN0 BN1 HD BC HC NY
     generalize wd.setCell ⟨G, 5, none⟩ (.slice (some ⟨gv, 0, none⟩) (zz0.ks.length + 1) cv) = w82 at *
     clear C82 H81 B_G81
     obtain ⟨zz1, h_zz1⟩ : ∃ z9, (zz0.add x) = z9 := ⟨_, rfl⟩
     rw [h_zz1] at B_G82
     have Z_zz1 := Lib.hid h_zz1
     clear h_zz1
     go_wp2_with fail
     refine (want_eq E E_s3.out H82.out.p).mono ?_
     rintro e w83 ⟨rfl, h83, b83⟩
     have H83 := Lib.hid (H82.out.call h83 b83)
     have B_G83 := Lib.hid (B_G82.out.but b83 (Nat.le_refl _) (by have := H82.out.r; omega))
     clear h83 b83 H82 B_G82
     go_upto_region 34 with (fail)
     have c0 := B_G83.out.c0
     have f0 := B_G83.out.free 0
     go_upto_region 35 with (fail)
     have B_G84 := Lib.hid (B_G83.out.putKd 12)
     have H84 := Lib.hid (H83.out.own (p := ⟨G, 0, none⟩) B_G83.out.lo (.int .i64 12))
     clear c0 f0 B_G83 H83
     generalize w83.setCell ⟨G, 0, none⟩ (.int .i64 12) = w84 at *
     obtain ⟨zz2, h_zz2⟩ : ∃ z9, (zz1.setKd 12) = z9 := ⟨_, rfl⟩
     rw [h_zz2] at B_G84
     have Z_zz2 := Lib.hid h_zz2
     clear h_zz2
     go_wp2_with fail
     refine (text_eq E E_tx.out E_s4.out H84.out.p).mono ?_
     rintro e w85 ⟨rfl, h85, b85⟩
     have H85 := Lib.hid (H84.out.call h85 b85)
     have B_G85 := Lib.hid (B_G84.out.but b85 (Nat.le_refl _) (by have := H84.out.r; omega))
     clear h85 b85 H84 B_G84
     have c1 := B_G85.out.c1
     have f1 := B_G85.out.free 1
     go_upto_region 36 with (fail)
     have B_G86 := Lib.hid (B_G85.out.putTx tx)
     have H86 := Lib.hid (H85.out.own (p := ⟨G, 1, none⟩) B_G85.out.lo (.string ⟨tx.toArray⟩))
     clear c1 f1 B_G85 H85
     generalize w85.setCell ⟨G, 1, none⟩ (.string ⟨tx.toArray⟩) = w86 at *
     obtain ⟨zz3, h_zz3⟩ : ∃ z9, (zz2.setTx tx) = z9 := ⟨_, rfl⟩
     rw [h_zz3] at B_G86
     have Z_zz3 := Lib.hid h_zz3
     clear h_zz3
     go_wp2_with fail
     refine (want_eq E E_s5.out H86.out.p).mono ?_
     rintro e w87 ⟨rfl, h87, b87⟩
     have H87 := Lib.hid (H86.out.call h87 b87)
     have B_G87 := Lib.hid (B_G86.out.but b87 (Nat.le_refl _) (by have := H86.out.r; omega))
     clear h87 b87 H86 B_G86
     go_upto_region 37 with (fail)
     have l3 : zz3.ks.length ≤ 5 := by rw [← Z_zz3.out, setTx_ks, ← Z_zz2.out, setKd_ks, ← Z_zz1.out, add_ks, ← Z_zz0.out]; simp [Nd.ks]
     have C88 := Lib.hid (fun wx (h : PAt wx R g c T s5) => gives_eq E_s6.out (whole_any wx R g c T r n s5 D h (by rw [G_s5.out.deep]; exact HD.out)))
     refine region_Z (fun W => W.cell? ⟨G, 5, none⟩ = some (.slice f82.ka zz3.ks.length f82.kc)) (fun i => i == 7) (by kernel_rfl) B_G87.out.drew.c5 (fun hHeld => ?_)
     refine tke 0 rfl (v := ?_) ?_ ?_; rotate_left
     ·(intro w hSw; (try dsimp only at hSw); go_simp; try with_reducible rfl)
     (try simp only [Act.put, sZ])
     refine tke 1 rfl (v := ?_) ?_ ?_; rotate_left
     ·(intro w hSw; (try dsimp only at hSw); go_simp; try with_reducible rfl)
     (try simp only [Act.put, sZ])
     refine tke 2 rfl (v := ?_) ?_ ?_; rotate_left
     ·(intro w hSw; (try dsimp only at hSw); go_simp; try with_reducible rfl)
     (try simp only [Act.put, sZ])
     refine stp 3 rfl (fun K hK => ?_)
     go_simp
     go_at_call 83
     refine (C88.out _ H87.out.drew.p).mono ?_
     rintro e wc ⟨fy, rfl, hpc, ny, bc⟩
     have HC := Lib.hid (H87.out.drew.call hpc bc)
     have BC := Lib.hid (B_G87.out.drew.but bc (Nat.le_refl _) (by have := H87.out.r; omega))
     have NY : Hid (NodeIn wc (fun a => w87.heap.size ≤ a) y fy) := ny
     clear hpc ny bc
     unfold ndV
     refine hK.out _ _ (fun _ => BC.out.c5) (fun hHeld2 => ?_)
     clear hK K hHeld
     (try simp only [Act.put, sZ])
     refine stp 4 rfl (fun K hK => ?_)
     go_simp
     refine hK.out _ _ (fun _ => (BC.out.alloc _).c5) (fun hHeld3 => ?_)
     clear hK K hHeld2
     (try simp only [Act.put, sZ])
     refine stp 5 rfl (fun K hK => ?_)
     refine step_app ty_nd (v := .slice f82.ka zz3.ks.length f82.kc) (by rfl) _ _ (by rfl) (by rfl) (BC.out.alloc _).kid wc.heap.size 1 (ndL y fy) (by rfl) (Whole.made wc 25 _) (by rfl) (by simp [ndL, Value.oneCell']) (by decide) (by omega) (by decide) (by have := HC.out.size; simp; omega) ?_
     intro gv cv wd hap
     have HD := Lib.hid ((HC.out.alloc (.cells (ndL y fy).toArray 25)).low (hap.below (BC.out.alloc (.cells (ndL y fy).toArray 25)).kid (Below.refl _ _) (Nat.le_refl _) (by have := HC.out.size; simp; omega)))
     have BN0 := Lib.hid ((BC.out.alloc (.cells (ndL y fy).toArray 25)).app (B := w87.heap.size) B_G87.out.lt B_G87.out.nlt B_G87.out.klt (NY.out.alloc _) hap)
     have XD := Lib.hid (hap.far (BC.out.alloc (.cells (ndL y fy).toArray 25)).box (row_ne (BC.out.alloc (.cells (ndL y fy).toArray 25)).kid BC.out.kN))
     have z5 : wd.cell? ⟨G, 5, none⟩ = some (.slice f82.ka zz3.ks.length f82.kc) := XD.out.cell 5
     have y5 := XD.out.free 5
     refine hK.out _ _ (fun _ => z5) (fun hHeld4 => ?_)
     replace hHeld4 := hHeld4 (by decide)
     clear hK K hHeld3 hap
     (try simp only [Act.put, sZ])
     refine tke 6 rfl (v := ?_) ?_ ?_; rotate_left
     ·(intro w hSw; (try dsimp only at hSw); go_simp; try with_reducible rfl)
     (try simp only [Act.put, sZ])
     refine stp 7 rfl (fun K hK => ?_)
     go_simp
     refine hK.out _ _ (fun h => absurd h (by decide)) (fun _ => ?_)
     refine anyZ_done (by kernel_rfl) ?_ _
     have H88 := Lib.hid (HD.out.own (p := ⟨G, 5, none⟩) (Nat.lt_of_succ_le B_G87.out.lo) (.slice (some ⟨gv, 0, none⟩) (zz3.ks.length + 1) cv))
     obtain ⟨f88, fs88, BN1⟩ : ∃ f2 fs2, Box (wd.setCell ⟨G, 5, none⟩ (.slice (some ⟨gv, 0, none⟩) (zz3.ks.length + 1) cv)) G (w.heap.size + 1) (zz3.add y) f2 fs2 := ⟨_, _, BN0.out⟩
     have B_G88 := Lib.hid BN1
     clear hK K hHeld4 z5 y5 XD BN0 BN1 HD BC HC NY
     generalize wd.setCell ⟨G, 5, none⟩ (.slice (some ⟨gv, 0, none⟩) (zz3.ks.length + 1) cv) = w88 at *
     clear C88 H87 B_G87
     obtain ⟨zz4, h_zz4⟩ : ∃ z9, (zz3.add y) = z9 := ⟨_, rfl⟩
     rw [h_zz4] at B_G88
     have Z_zz4 := Lib.hid h_zz4
     clear h_zz4
     go_wp2_with fail
     refine (want_eq E E_s7.out H88.out.p).mono ?_
     rintro e w89 ⟨rfl, h89, b89⟩
     have H89 := Lib.hid (H88.out.call h89 b89)
     have B_G89 := Lib.hid (B_G88.out.but b89 (Nat.le_refl _) (by have := H88.out.r; omega))
     clear h89 b89 H88 B_G88
     have hq : (zz4, s7) = q := by rw [← Z_zz4.out, ← Z_zz3.out, ← Z_zz2.out, ← Z_zz1.out, ← Z_zz0.out]; exact HQ3.out
     subst hq
     clear HQ3 l0 l3
     obtain ⟨t0, t1, t2, t3, t4, t5⟩ := nodeC (B_G89.out.box)
     obtain ⟨z0, z1, z2, z3, z4, z5⟩ := zeroC (H89.out.z)
     obtain ⟨y0, y1, y2, y3, y4, y5⟩ := freeC (H89.out.z)
     go_wp2_with fail
     obtain ⟨wf, HZF, HBF, hwf⟩ := endsN (H89.out.z) zz4 f88
     rw [hwf]
     clear hwf
     obtain ⟨g0, g1, g2, g3, g4, g5⟩ := cells6 HZF.out
     exact bodyPost_ret (v := ndV zz4 f88) (by simp [results, Try.results80, go_sem, ndV, Nd.kd, Nd.tx, Nd.nm, Nd.at_, Nd.ns, Nd.ks, leafN, fr0, nd0, g0, g1, g2, g3, g4, g5]) rfl (H89.out.done B_G89.out.var.node HBF.out)
  ·rcases bm with _ | _
   ·rcases bt with _ | _
    ·obtain ⟨t, h_t⟩ : ∃ t, stepT T s = t := ⟨_, rfl⟩
     have E_t := Lib.hid h_t
     clear h_t
     obtain ⟨s1, h_s1⟩ : ∃ s1, stepF T s = s1 := ⟨_, rfl⟩
     have E_s1 := Lib.hid h_s1
     clear h_s1
     have G_s1 := Lib.hid (show Goes T s s1 from by have q := (goes_step E HL.out); rw [E_s1.out] at q; exact q)
     obtain ⟨be, h_be⟩ : ∃ be, isF T s1 [41] = be := ⟨_, rfl⟩
     have E_be := Lib.hid h_be
     clear h_be
     have hq := HQ2.out
     rw [if_neg (by decide), if_pos rfl, E_s1.out, E_be.out] at hq
     have HQ3 := Lib.hid hq
     clear hq HQ2
     go_wp2_with fail
     refine (step_eq E E_t.out E_s1.out H8.out.p).mono ?_
     rintro e w90 ⟨rfl, h90, b90⟩
     have H90 := Lib.hid (H8.out.call h90 b90)
     have B_G90 := Lib.hid (B_G8.out.but b90 (Nat.le_refl _) (by have := H8.out.r; omega))
     clear h90 b90 H8 B_G8
     go_wp2_with fail
     refine (is_eq E_be.out H90.out.p).mono ?_
     rintro e w91 ⟨rfl, b91⟩
     have H91 := Lib.hid (H90.out.read b91)
     have B_G91 := Lib.hid (B_G90.out.below b91 (Nat.le_refl _))
     clear b91 H90 B_G90
     rcases be with _ | _
     ·obtain ⟨x, s2, h_s2⟩ : ∃ x s2, wholeF r s1 = (x, s2) := ⟨_, _, rfl⟩
      have E_s2 := Lib.hid h_s2
      clear h_s2
      have G_s2 := Lib.hid (show Goes T s s2 from by have q := (G_s1.out.whole F); rw [E_s2.out] at q; exact q)
      obtain ⟨s3, h_s3⟩ : ∃ s3, wantF T s2 [41] = s3 := ⟨_, rfl⟩
      have E_s3 := Lib.hid h_s3
      clear h_s3
      have hq := HQ3.out
      rw [if_neg (by decide), E_s2.out, E_s3.out] at hq
      subst hq
      clear HQ3 B_G91
      go_wp2_with fail
      refine (gives_eq E_s2.out (whole_any w91 R g c T r n s1 D H91.out.p (by rw [G_s1.out.deep]; exact HD.out))).mono ?_
      rintro e w92 ⟨f, rfl, h92, n92, b92⟩
      have N_x92 := Lib.hid (n92.gt H91.out)
      have H92 := Lib.hid (H91.out.call h92 b92)
      clear h92 b92 H91 n92
      unfold ndV
      have S_K : Hid (w.heap.size < w92.heap.size) := H92.out.size
      have H93 := Lib.hid (H92.out.alloc (.cells #[.int .i64 x.kd, .string ⟨x.tx.toArray⟩, .int .i64 x.nm, .int .i64 (x.at_ : Int), .slice f.na x.ns.length f.nc, .slice f.ka x.ks.length f.kc] 25))
      have N_x93 := Lib.hid (N_x92.out.alloc (.cells #[.int .i64 x.kd, .string ⟨x.tx.toArray⟩, .int .i64 x.nm, .int .i64 (x.at_ : Int), .slice f.na x.ns.length f.nc, .slice f.ka x.ks.length f.kc] 25))
      have V_K93 : Hid (Var w (w92.alloc (.cells #[.int .i64 x.kd, .string ⟨x.tx.toArray⟩, .int .i64 x.nm, .int .i64 (x.at_ : Int), .slice f.na x.ns.length f.nc, .slice f.ka x.ks.length f.kc] 25)) w92.heap.size x f) := Var.made H92.out N_x92.out
      go_upto_region 29 with (fail)
      generalize w92.alloc (.cells #[.int .i64 x.kd, .string ⟨x.tx.toArray⟩, .int .i64 x.nm, .int .i64 (x.at_ : Int), .slice f.na x.ns.length f.nc, .slice f.ka x.ks.length f.kc] 25) = w93 at *
      generalize w92.heap.size = K at *
      clear H92 N_x92
      go_wp2_with fail
      refine (want_eq E E_s3.out H93.out.p).mono ?_
      rintro e w94 ⟨rfl, h94, b94⟩
      have H94 := Lib.hid (H93.out.call h94 b94)
      have V_K94 := Lib.hid (V_K93.out.call H93.out b94)
      clear h94 b94 H93 V_K93
      obtain ⟨t0, t1, t2, t3, t4, t5⟩ := nodeC (V_K94.out.X)
      obtain ⟨z0, z1, z2, z3, z4, z5⟩ := zeroC (H94.out.z)
      obtain ⟨y0, y1, y2, y3, y4, y5⟩ := freeC (H94.out.z)
      go_wp2_with fail
      obtain ⟨wf, HZF, HBF, hwf⟩ := endsN (H94.out.z) x f
      rw [hwf]
      clear hwf
      obtain ⟨g0, g1, g2, g3, g4, g5⟩ := cells6 HZF.out
      exact bodyPost_ret (v := ndV x f) (by simp [results, Try.results80, go_sem, ndV, Nd.kd, Nd.tx, Nd.nm, Nd.at_, Nd.ns, Nd.ks, leafN, fr0, nd0, g0, g1, g2, g3, g4, g5]) rfl (H94.out.done V_K94.out.node HBF.out)
     ·obtain ⟨t2, h_t2⟩ : ∃ t2, stepT T s1 = t2 := ⟨_, rfl⟩
      have E_t2 := Lib.hid h_t2
      clear h_t2
      obtain ⟨s2, h_s2⟩ : ∃ s2, stepF T s1 = s2 := ⟨_, rfl⟩
      have E_s2 := Lib.hid h_s2
      clear h_s2
      have hq := HQ3.out
      rw [if_pos rfl, E_s2.out] at hq
      have HQ4 := Lib.hid hq
      clear hq HQ3
      go_wp2_with fail
      refine (step_eq E E_t2.out E_s2.out H91.out.p).mono ?_
      rintro e w95 ⟨rfl, h95, b95⟩
      have H95 := Lib.hid (H91.out.call h95 b95)
      have B_G95 := Lib.hid (B_G91.out.but b95 (Nat.le_refl _) (by have := H91.out.r; omega))
      clear h95 b95 H91 B_G91
      go_upto_region 26 with (fail)
      have c0 := B_G95.out.c0
      have f0 := B_G95.out.free 0
      go_upto_region 27 with (fail)
      have B_G96 := Lib.hid (B_G95.out.putKd 3)
      have H96 := Lib.hid (H95.out.own (p := ⟨G, 0, none⟩) B_G95.out.lo (.int .i64 3))
      clear c0 f0 B_G95 H95
      generalize w95.setCell ⟨G, 0, none⟩ (.int .i64 3) = w96 at *
      obtain ⟨zz1, h_zz1⟩ : ∃ z9, (zz0.setKd 3) = z9 := ⟨_, rfl⟩
      rw [h_zz1] at B_G96
      have Z_zz1 := Lib.hid h_zz1
      clear h_zz1
      have hq : (zz1, s2) = q := by rw [← Z_zz1.out, ← Z_zz0.out]; exact HQ4.out
      subst hq
      clear HQ4
      obtain ⟨t0, t1, t2, t3, t4, t5⟩ := nodeC (B_G96.out.box)
      obtain ⟨z0, z1, z2, z3, z4, z5⟩ := zeroC (H96.out.z)
      obtain ⟨y0, y1, y2, y3, y4, y5⟩ := freeC (H96.out.z)
      go_wp2_with fail
      obtain ⟨wf, HZF, HBF, hwf⟩ := endsN (H96.out.z) zz1 fr0
      rw [hwf]
      clear hwf
      obtain ⟨g0, g1, g2, g3, g4, g5⟩ := cells6 HZF.out
      exact bodyPost_ret (v := ndV zz1 fr0) (by simp [results, Try.results80, go_sem, ndV, Nd.kd, Nd.tx, Nd.nm, Nd.at_, Nd.ns, Nd.ks, leafN, fr0, nd0, g0, g1, g2, g3, g4, g5]) rfl (H96.out.done B_G96.out.var.node HBF.out)
    ·obtain ⟨t, h_t⟩ : ∃ t, stepT T s = t := ⟨_, rfl⟩
     have E_t := Lib.hid h_t
     clear h_t
     obtain ⟨s1, h_s1⟩ : ∃ s1, stepF T s = s1 := ⟨_, rfl⟩
     have E_s1 := Lib.hid h_s1
     clear h_s1
     have G_s1 := Lib.hid (show Goes T s s1 from by have q := (goes_step E HL.out); rw [E_s1.out] at q; exact q)
     obtain ⟨be, h_be⟩ : ∃ be, isF T s1 [41] = be := ⟨_, rfl⟩
     have E_be := Lib.hid h_be
     clear h_be
     have hq := HQ2.out
     rw [if_neg (by decide), if_pos rfl, E_s1.out, E_be.out] at hq
     have HQ3 := Lib.hid hq
     clear hq HQ2
     go_wp2_with fail
     refine (step_eq E E_t.out E_s1.out H8.out.p).mono ?_
     rintro e w97 ⟨rfl, h97, b97⟩
     have H97 := Lib.hid (H8.out.call h97 b97)
     have B_G97 := Lib.hid (B_G8.out.but b97 (Nat.le_refl _) (by have := H8.out.r; omega))
     clear h97 b97 H8 B_G8
     go_wp2_with fail
     refine (is_eq E_be.out H97.out.p).mono ?_
     rintro e w98 ⟨rfl, b98⟩
     have H98 := Lib.hid (H97.out.read b98)
     have B_G98 := Lib.hid (B_G97.out.below b98 (Nat.le_refl _))
     clear b98 H97 B_G97
     rcases be with _ | _
     ·obtain ⟨x, s2, h_s2⟩ : ∃ x s2, wholeF r s1 = (x, s2) := ⟨_, _, rfl⟩
      have E_s2 := Lib.hid h_s2
      clear h_s2
      have G_s2 := Lib.hid (show Goes T s s2 from by have q := (G_s1.out.whole F); rw [E_s2.out] at q; exact q)
      obtain ⟨s3, h_s3⟩ : ∃ s3, wantF T s2 [41] = s3 := ⟨_, rfl⟩
      have E_s3 := Lib.hid h_s3
      clear h_s3
      have hq := HQ3.out
      rw [if_neg (by decide), E_s2.out, E_s3.out] at hq
      subst hq
      clear HQ3 B_G98
      go_wp2_with fail
      refine (gives_eq E_s2.out (whole_any w98 R g c T r n s1 D H98.out.p (by rw [G_s1.out.deep]; exact HD.out))).mono ?_
      rintro e w99 ⟨f, rfl, h99, n99, b99⟩
      have N_x99 := Lib.hid (n99.gt H98.out)
      have H99 := Lib.hid (H98.out.call h99 b99)
      clear h99 b99 H98 n99
      unfold ndV
      have S_K : Hid (w.heap.size < w99.heap.size) := H99.out.size
      have H100 := Lib.hid (H99.out.alloc (.cells #[.int .i64 x.kd, .string ⟨x.tx.toArray⟩, .int .i64 x.nm, .int .i64 (x.at_ : Int), .slice f.na x.ns.length f.nc, .slice f.ka x.ks.length f.kc] 25))
      have N_x100 := Lib.hid (N_x99.out.alloc (.cells #[.int .i64 x.kd, .string ⟨x.tx.toArray⟩, .int .i64 x.nm, .int .i64 (x.at_ : Int), .slice f.na x.ns.length f.nc, .slice f.ka x.ks.length f.kc] 25))
      have V_K100 : Hid (Var w (w99.alloc (.cells #[.int .i64 x.kd, .string ⟨x.tx.toArray⟩, .int .i64 x.nm, .int .i64 (x.at_ : Int), .slice f.na x.ns.length f.nc, .slice f.ka x.ks.length f.kc] 25)) w99.heap.size x f) := Var.made H99.out N_x99.out
      go_upto_region 29 with (fail)
      generalize w99.alloc (.cells #[.int .i64 x.kd, .string ⟨x.tx.toArray⟩, .int .i64 x.nm, .int .i64 (x.at_ : Int), .slice f.na x.ns.length f.nc, .slice f.ka x.ks.length f.kc] 25) = w100 at *
      generalize w99.heap.size = K at *
      clear H99 N_x99
      go_wp2_with fail
      refine (want_eq E E_s3.out H100.out.p).mono ?_
      rintro e w101 ⟨rfl, h101, b101⟩
      have H101 := Lib.hid (H100.out.call h101 b101)
      have V_K101 := Lib.hid (V_K100.out.call H100.out b101)
      clear h101 b101 H100 V_K100
      obtain ⟨t0, t1, t2, t3, t4, t5⟩ := nodeC (V_K101.out.X)
      obtain ⟨z0, z1, z2, z3, z4, z5⟩ := zeroC (H101.out.z)
      obtain ⟨y0, y1, y2, y3, y4, y5⟩ := freeC (H101.out.z)
      go_wp2_with fail
      obtain ⟨wf, HZF, HBF, hwf⟩ := endsN (H101.out.z) x f
      rw [hwf]
      clear hwf
      obtain ⟨g0, g1, g2, g3, g4, g5⟩ := cells6 HZF.out
      exact bodyPost_ret (v := ndV x f) (by simp [results, Try.results80, go_sem, ndV, Nd.kd, Nd.tx, Nd.nm, Nd.at_, Nd.ns, Nd.ks, leafN, fr0, nd0, g0, g1, g2, g3, g4, g5]) rfl (H101.out.done V_K101.out.node HBF.out)
     ·obtain ⟨t2, h_t2⟩ : ∃ t2, stepT T s1 = t2 := ⟨_, rfl⟩
      have E_t2 := Lib.hid h_t2
      clear h_t2
      obtain ⟨s2, h_s2⟩ : ∃ s2, stepF T s1 = s2 := ⟨_, rfl⟩
      have E_s2 := Lib.hid h_s2
      clear h_s2
      have hq := HQ3.out
      rw [if_pos rfl, E_s2.out] at hq
      have HQ4 := Lib.hid hq
      clear hq HQ3
      go_wp2_with fail
      refine (step_eq E E_t2.out E_s2.out H98.out.p).mono ?_
      rintro e w102 ⟨rfl, h102, b102⟩
      have H102 := Lib.hid (H98.out.call h102 b102)
      have B_G102 := Lib.hid (B_G98.out.but b102 (Nat.le_refl _) (by have := H98.out.r; omega))
      clear h102 b102 H98 B_G98
      go_upto_region 26 with (fail)
      have c0 := B_G102.out.c0
      have f0 := B_G102.out.free 0
      go_upto_region 27 with (fail)
      have B_G103 := Lib.hid (B_G102.out.putKd 3)
      have H103 := Lib.hid (H102.out.own (p := ⟨G, 0, none⟩) B_G102.out.lo (.int .i64 3))
      clear c0 f0 B_G102 H102
      generalize w102.setCell ⟨G, 0, none⟩ (.int .i64 3) = w103 at *
      obtain ⟨zz1, h_zz1⟩ : ∃ z9, (zz0.setKd 3) = z9 := ⟨_, rfl⟩
      rw [h_zz1] at B_G103
      have Z_zz1 := Lib.hid h_zz1
      clear h_zz1
      have hq : (zz1, s2) = q := by rw [← Z_zz1.out, ← Z_zz0.out]; exact HQ4.out
      subst hq
      clear HQ4
      obtain ⟨t0, t1, t2, t3, t4, t5⟩ := nodeC (B_G103.out.box)
      obtain ⟨z0, z1, z2, z3, z4, z5⟩ := zeroC (H103.out.z)
      obtain ⟨y0, y1, y2, y3, y4, y5⟩ := freeC (H103.out.z)
      go_wp2_with fail
      obtain ⟨wf, HZF, HBF, hwf⟩ := endsN (H103.out.z) zz1 fr0
      rw [hwf]
      clear hwf
      obtain ⟨g0, g1, g2, g3, g4, g5⟩ := cells6 HZF.out
      exact bodyPost_ret (v := ndV zz1 fr0) (by simp [results, Try.results80, go_sem, ndV, Nd.kd, Nd.tx, Nd.nm, Nd.at_, Nd.ns, Nd.ks, leafN, fr0, nd0, g0, g1, g2, g3, g4, g5]) rfl (H103.out.done B_G103.out.var.node HBF.out)
   ·obtain ⟨t, h_t⟩ : ∃ t, stepT T s = t := ⟨_, rfl⟩
    have E_t := Lib.hid h_t
    clear h_t
    obtain ⟨s1, h_s1⟩ : ∃ s1, stepF T s = s1 := ⟨_, rfl⟩
    have E_s1 := Lib.hid h_s1
    clear h_s1
    have G_s1 := Lib.hid (show Goes T s s1 from by have q := (goes_step E HL.out); rw [E_s1.out] at q; exact q)
    obtain ⟨be, h_be⟩ : ∃ be, isF T s1 [41] = be := ⟨_, rfl⟩
    have E_be := Lib.hid h_be
    clear h_be
    have hq := HQ2.out
    rw [if_neg (by decide), if_pos rfl, E_s1.out, E_be.out] at hq
    have HQ3 := Lib.hid hq
    clear hq HQ2
    go_wp2_with fail
    refine (step_eq E E_t.out E_s1.out H8.out.p).mono ?_
    rintro e w104 ⟨rfl, h104, b104⟩
    have H104 := Lib.hid (H8.out.call h104 b104)
    have B_G104 := Lib.hid (B_G8.out.but b104 (Nat.le_refl _) (by have := H8.out.r; omega))
    clear h104 b104 H8 B_G8
    go_wp2_with fail
    refine (is_eq E_be.out H104.out.p).mono ?_
    rintro e w105 ⟨rfl, b105⟩
    have H105 := Lib.hid (H104.out.read b105)
    have B_G105 := Lib.hid (B_G104.out.below b105 (Nat.le_refl _))
    clear b105 H104 B_G104
    rcases be with _ | _
    ·obtain ⟨x, s2, h_s2⟩ : ∃ x s2, wholeF r s1 = (x, s2) := ⟨_, _, rfl⟩
     have E_s2 := Lib.hid h_s2
     clear h_s2
     have G_s2 := Lib.hid (show Goes T s s2 from by have q := (G_s1.out.whole F); rw [E_s2.out] at q; exact q)
     obtain ⟨s3, h_s3⟩ : ∃ s3, wantF T s2 [41] = s3 := ⟨_, rfl⟩
     have E_s3 := Lib.hid h_s3
     clear h_s3
     have hq := HQ3.out
     rw [if_neg (by decide), E_s2.out, E_s3.out] at hq
     subst hq
     clear HQ3 B_G105
     go_wp2_with fail
     refine (gives_eq E_s2.out (whole_any w105 R g c T r n s1 D H105.out.p (by rw [G_s1.out.deep]; exact HD.out))).mono ?_
     rintro e w106 ⟨f, rfl, h106, n106, b106⟩
     have N_x106 := Lib.hid (n106.gt H105.out)
     have H106 := Lib.hid (H105.out.call h106 b106)
     clear h106 b106 H105 n106
     unfold ndV
     have S_K : Hid (w.heap.size < w106.heap.size) := H106.out.size
     have H107 := Lib.hid (H106.out.alloc (.cells #[.int .i64 x.kd, .string ⟨x.tx.toArray⟩, .int .i64 x.nm, .int .i64 (x.at_ : Int), .slice f.na x.ns.length f.nc, .slice f.ka x.ks.length f.kc] 25))
     have N_x107 := Lib.hid (N_x106.out.alloc (.cells #[.int .i64 x.kd, .string ⟨x.tx.toArray⟩, .int .i64 x.nm, .int .i64 (x.at_ : Int), .slice f.na x.ns.length f.nc, .slice f.ka x.ks.length f.kc] 25))
     have V_K107 : Hid (Var w (w106.alloc (.cells #[.int .i64 x.kd, .string ⟨x.tx.toArray⟩, .int .i64 x.nm, .int .i64 (x.at_ : Int), .slice f.na x.ns.length f.nc, .slice f.ka x.ks.length f.kc] 25)) w106.heap.size x f) := Var.made H106.out N_x106.out
     go_upto_region 29 with (fail)
     generalize w106.alloc (.cells #[.int .i64 x.kd, .string ⟨x.tx.toArray⟩, .int .i64 x.nm, .int .i64 (x.at_ : Int), .slice f.na x.ns.length f.nc, .slice f.ka x.ks.length f.kc] 25) = w107 at *
     generalize w106.heap.size = K at *
     clear H106 N_x106
     go_wp2_with fail
     refine (want_eq E E_s3.out H107.out.p).mono ?_
     rintro e w108 ⟨rfl, h108, b108⟩
     have H108 := Lib.hid (H107.out.call h108 b108)
     have V_K108 := Lib.hid (V_K107.out.call H107.out b108)
     clear h108 b108 H107 V_K107
     obtain ⟨t0, t1, t2, t3, t4, t5⟩ := nodeC (V_K108.out.X)
     obtain ⟨z0, z1, z2, z3, z4, z5⟩ := zeroC (H108.out.z)
     obtain ⟨y0, y1, y2, y3, y4, y5⟩ := freeC (H108.out.z)
     go_wp2_with fail
     obtain ⟨wf, HZF, HBF, hwf⟩ := endsN (H108.out.z) x f
     rw [hwf]
     clear hwf
     obtain ⟨g0, g1, g2, g3, g4, g5⟩ := cells6 HZF.out
     exact bodyPost_ret (v := ndV x f) (by simp [results, Try.results80, go_sem, ndV, Nd.kd, Nd.tx, Nd.nm, Nd.at_, Nd.ns, Nd.ks, leafN, fr0, nd0, g0, g1, g2, g3, g4, g5]) rfl (H108.out.done V_K108.out.node HBF.out)
    ·obtain ⟨t2, h_t2⟩ : ∃ t2, stepT T s1 = t2 := ⟨_, rfl⟩
     have E_t2 := Lib.hid h_t2
     clear h_t2
     obtain ⟨s2, h_s2⟩ : ∃ s2, stepF T s1 = s2 := ⟨_, rfl⟩
     have E_s2 := Lib.hid h_s2
     clear h_s2
     have hq := HQ3.out
     rw [if_pos rfl, E_s2.out] at hq
     have HQ4 := Lib.hid hq
     clear hq HQ3
     go_wp2_with fail
     refine (step_eq E E_t2.out E_s2.out H105.out.p).mono ?_
     rintro e w109 ⟨rfl, h109, b109⟩
     have H109 := Lib.hid (H105.out.call h109 b109)
     have B_G109 := Lib.hid (B_G105.out.but b109 (Nat.le_refl _) (by have := H105.out.r; omega))
     clear h109 b109 H105 B_G105
     go_upto_region 26 with (fail)
     have c0 := B_G109.out.c0
     have f0 := B_G109.out.free 0
     go_upto_region 27 with (fail)
     have B_G110 := Lib.hid (B_G109.out.putKd 3)
     have H110 := Lib.hid (H109.out.own (p := ⟨G, 0, none⟩) B_G109.out.lo (.int .i64 3))
     clear c0 f0 B_G109 H109
     generalize w109.setCell ⟨G, 0, none⟩ (.int .i64 3) = w110 at *
     obtain ⟨zz1, h_zz1⟩ : ∃ z9, (zz0.setKd 3) = z9 := ⟨_, rfl⟩
     rw [h_zz1] at B_G110
     have Z_zz1 := Lib.hid h_zz1
     clear h_zz1
     have hq : (zz1, s2) = q := by rw [← Z_zz1.out, ← Z_zz0.out]; exact HQ4.out
     subst hq
     clear HQ4
     obtain ⟨t0, t1, t2, t3, t4, t5⟩ := nodeC (B_G110.out.box)
     obtain ⟨z0, z1, z2, z3, z4, z5⟩ := zeroC (H110.out.z)
     obtain ⟨y0, y1, y2, y3, y4, y5⟩ := freeC (H110.out.z)
     go_wp2_with fail
     obtain ⟨wf, HZF, HBF, hwf⟩ := endsN (H110.out.z) zz1 fr0
     rw [hwf]
     clear hwf
     obtain ⟨g0, g1, g2, g3, g4, g5⟩ := cells6 HZF.out
     exact bodyPost_ret (v := ndV zz1 fr0) (by simp [results, Try.results80, go_sem, ndV, Nd.kd, Nd.tx, Nd.nm, Nd.at_, Nd.ns, Nd.ks, leafN, fr0, nd0, g0, g1, g2, g3, g4, g5]) rfl (H110.out.done B_G110.out.var.node HBF.out)
 ·obtain ⟨t, h_t⟩ : ∃ t, stepT T s = t := ⟨_, rfl⟩
  have E_t := Lib.hid h_t
  clear h_t
  obtain ⟨s1, h_s1⟩ : ∃ s1, stepF T s = s1 := ⟨_, rfl⟩
  have E_s1 := Lib.hid h_s1
  clear h_s1
  have G_s1 := Lib.hid (show Goes T s s1 from by have q := (goes_step E HL.out); rw [E_s1.out] at q; exact q)
  have hq := HQ2.out
  rw [if_pos rfl, E_s1.out] at hq
  have HQ3 := Lib.hid hq
  clear hq HQ2
  go_wp2_with fail
  refine (step_eq E E_t.out E_s1.out H8.out.p).mono ?_
  rintro e w111 ⟨rfl, h111, b111⟩
  have H111 := Lib.hid (H8.out.call h111 b111)
  have B_G111 := Lib.hid (B_G8.out.but b111 (Nat.le_refl _) (by have := H8.out.r; omega))
  clear h111 b111 H8 B_G8
  go_upto_region 20 with (fail)
  have c0 := B_G111.out.c0
  have f0 := B_G111.out.free 0
  go_upto_region 21 with (fail)
  have B_G112 := Lib.hid (B_G111.out.putKd 19)
  have H112 := Lib.hid (H111.out.own (p := ⟨G, 0, none⟩) B_G111.out.lo (.int .i64 19))
  clear c0 f0 B_G111 H111
  generalize w111.setCell ⟨G, 0, none⟩ (.int .i64 19) = w112 at *
  obtain ⟨zz1, h_zz1⟩ : ∃ z9, (zz0.setKd 19) = z9 := ⟨_, rfl⟩
  rw [h_zz1] at B_G112
  have Z_zz1 := Lib.hid h_zz1
  clear h_zz1
  have hq : (zz1, s1) = q := by rw [← Z_zz1.out, ← Z_zz0.out]; exact HQ3.out
  subst hq
  clear HQ3
  obtain ⟨t0, t1, t2, t3, t4, t5⟩ := nodeC (B_G112.out.box)
  obtain ⟨z0, z1, z2, z3, z4, z5⟩ := zeroC (H112.out.z)
  obtain ⟨y0, y1, y2, y3, y4, y5⟩ := freeC (H112.out.z)
  go_wp2_with fail
  obtain ⟨wf, HZF, HBF, hwf⟩ := endsN (H112.out.z) zz1 fr0
  rw [hwf]
  clear hwf
  obtain ⟨g0, g1, g2, g3, g4, g5⟩ := cells6 HZF.out
  exact bodyPost_ret (v := ndV zz1 fr0) (by simp [results, Try.results80, go_sem, ndV, Nd.kd, Nd.tx, Nd.nm, Nd.at_, Nd.ns, Nd.ks, leafN, fr0, nd0, g0, g1, g2, g3, g4, g5]) rfl (H112.out.done B_G112.out.var.node HBF.out)
end Go.Proofs.Ytgjchgmlogbmmaa
