/- A part of the proofs of chapter 11, squeezed, merged and shrunk by group.py: GWalkQ. -/
import Derived.Test.YtgjchgmlogbmmaaR1
import Derived.KernelRfl
import Derived.Test.YtgjchgmlogbmmaaR9
/- The walks of layer 5, the document's: a declaration. -/
namespace Go.Proofs.Ytgjchgmlogbmmaa
open Go.RowKit
set_option linter.unusedVariables false
set_option linter.unusedSimpArgs false
attribute [local go_sem ↓] Go.wp_at_zero Go.wp_at_succ

set_option maxRecDepth 100000 in
set_option maxHeartbeats 32000000 in
theorem decl_any (w : World) (R g c : Nat) (T : List Tok) (r : Rec) (n : Nat) (s : PS) (E : Ends T) (F : Fine T r) (D : Deep R g c T r n) (hp : PAt w R g c T s) (hd : 41 ≤ s.deep + n) :
  Calls Try.prog 37 #[.pointer (some ⟨R, 0, none⟩)] w (Gives w R g c T (declF T r s)) := by
 have H0 := Lib.hid (St.start hp)
 have HD := Lib.hid hd
 have HL := Lib.hid hp.lt
 have G_s := Lib.hid (Goes.refl hp.lt)
 clear hp hd
 obtain ⟨q, hq⟩ : ∃ q, declF T r s = q := ⟨_, rfl⟩
 rw [hq]
 have HQ := Lib.hid hq
 clear hq
 obtain ⟨t, h_t⟩ : ∃ t, stepT T s = t := ⟨_, rfl⟩
 have E_t := Lib.hid h_t
 clear h_t
 obtain ⟨s1, h_s1⟩ : ∃ s1, stepF T s = s1 := ⟨_, rfl⟩
 have E_s1 := Lib.hid h_s1
 clear h_s1
 have G_s1 := Lib.hid (show Goes T s s1 from by have q := (goes_step E HL.out); rw [E_s1.out] at q; exact q)
 obtain ⟨bt, h_bt⟩ : ∃ bt, isF T s [116, 121, 112, 101] = bt := ⟨_, rfl⟩
 have E_bt := Lib.hid h_bt
 clear h_bt
 obtain ⟨zz0, h_zz0⟩ : ∃ z9, Nd.mk 0 [] 0 t.at_ [] [] = z9 := ⟨_, rfl⟩
 have HQ2 : Hid ((if bt = true then
   ((cosL T r (T.length + 1) true (namL T 5 ((zz0.setKd 25).setTx (textT T s1 3)) (textF T s1 3)).1 (wantF T (namL T 5 ((zz0.setKd 25).setTx (textT T s1 3)) (textF T s1 3)).2 [61])).1, wantF T (cosL T r (T.length + 1) true (namL T 5 ((zz0.setKd 25).setTx (textT T s1 3)) (textF T s1 3)).1 (wantF T (namL T 5 ((zz0.setKd 25).setTx (textT T s1 3)) (textF T s1 3)).2 [61])).2 [59])
  else
   (if valueB T { s1 with flat := true } = true then (valueF T r (zz0.setKd 28) { s1 with flat := true }).1.setKd 29 else (valueF T r (zz0.setKd 28) { s1 with flat := true }).1, wantF T { (valueF T r (zz0.setKd 28) { s1 with flat := true }).2 with flat := false } [59])) = q) := by
  show _ = _
  rw [← HQ.out, ← E_bt.out, ← h_zz0, ← E_t.out, ← E_s1.out]; rfl
 have Z_zz0 := Lib.hid h_zz0
 clear HQ h_zz0
 go_enter Try.func37, Try.ntmps37
 go_upto_region 1 with (fail)
 generalize w.alloc (.cells #[.int .i64 0, .string ⟨#[]⟩, .int .i64 0, .int .i64 0, .slice none 0 0, .slice none 0 0] 25) = w1 at *
 go_wp2_with fail
 refine (is_eq E_bt.out H0.out.p).mono ?_
 rintro e w2 ⟨rfl, b2⟩
 have H2 := Lib.hid (H0.out.read b2)
 clear b2 H0
 go_wp2_with fail
 refine (step_eq E E_t.out E_s1.out H2.out.p).mono ?_
 rintro e w3 ⟨rfl, h3, b3⟩
 have H3 := Lib.hid (H2.out.call h3 b3)
 clear h3 b3 H2
 unfold tokV
 have S_K : Hid (w.heap.size < w3.heap.size) := H3.out.size
 have H4 := Lib.hid (H3.out.alloc (.cells #[.int .i64 t.kind, .string ⟨t.text.toArray⟩, .int .i64 t.num, .int .i64 (t.at_ : Int)] 67))
 have X_K4 : Hid (Whole (w3.alloc (.cells #[.int .i64 t.kind, .string ⟨t.text.toArray⟩, .int .i64 t.num, .int .i64 (t.at_ : Int)] 67)) w3.heap.size 67 #[.int .i64 t.kind, .string ⟨t.text.toArray⟩, .int .i64 t.num, .int .i64 (t.at_ : Int)]) := Whole.made _ _ _
 go_upto_region 3 with (fail)
 generalize w3.alloc (.cells #[.int .i64 t.kind, .string ⟨t.text.toArray⟩, .int .i64 t.num, .int .i64 (t.at_ : Int)] 67) = w4 at *
 generalize w3.heap.size = K at *
 clear H3
 have t3 : w4.cell? ⟨K, 3, none⟩ = some (.int .i64 (t.at_ : Int)) := X_K4.out.cell 3
 have S_G : Hid (w.heap.size < w4.heap.size) := H4.out.size
 have H5 := Lib.hid (H4.out.alloc (.cells #[.int .i64 0, .string ⟨#[]⟩, .int .i64 0, .int .i64 (t.at_ : Int), .slice none 0 0, .slice none 0 0] 25))
 have B_G5 : Hid (Box (w4.alloc (.cells #[.int .i64 0, .string ⟨#[]⟩, .int .i64 0, .int .i64 (t.at_ : Int), .slice none 0 0, .slice none 0 0] 25)) w4.heap.size (w.heap.size + 1) (Nd.mk 0 [] 0 t.at_ [] []) fr0 []) := Box.made w4 (base := w.heap.size + 1) (x := (Nd.mk 0 [] 0 t.at_ [] [])) H4.out.size rfl rfl
 go_upto_region 4 with (fail)
 clear t3
 generalize w4.alloc (.cells #[.int .i64 0, .string ⟨#[]⟩, .int .i64 0, .int .i64 (t.at_ : Int), .slice none 0 0, .slice none 0 0] 25) = w5 at *
 generalize w4.heap.size = G at *
 clear H4
 rw [Z_zz0.out] at B_G5
 clear X_K4
 rcases bt with _ | _
 ·obtain ⟨s2, h_s2⟩ : ∃ s2, ({ s1 with flat := true } : PS) = s2 := ⟨_, rfl⟩
  have E_s2 := Lib.hid h_s2
  clear h_s2
  have G_s2 := Lib.hid (show Goes T s s2 from by rw [← E_s2.out]; exact G_s1.out.flat true)
  obtain ⟨vb, h_vb⟩ : ∃ vb, valueB T s2 = vb := ⟨_, rfl⟩
  have E_vb := Lib.hid h_vb
  clear h_vb
  obtain ⟨zz1, h_zz1⟩ : ∃ z9, zz0.setKd 28 = z9 := ⟨_, rfl⟩
  have Z_zz1 := Lib.hid h_zz1
  clear h_zz1
  obtain ⟨zz2, s3, h_s3⟩ : ∃ zz2 s3, valueF T r zz1 s2 = (zz2, s3) := ⟨_, _, rfl⟩
  have E_s3 := Lib.hid h_s3
  clear h_s3
  obtain ⟨s4, h_s4⟩ : ∃ s4, ({ s3 with flat := false } : PS) = s4 := ⟨_, rfl⟩
  have E_s4 := Lib.hid h_s4
  clear h_s4
  obtain ⟨s5, h_s5⟩ : ∃ s5, wantF T s4 [59] = s5 := ⟨_, rfl⟩
  have E_s5 := Lib.hid h_s5
  clear h_s5
  have hq := HQ2.out
  rw [if_neg (by decide), E_s2.out, Z_zz1.out, E_s3.out, E_vb.out] at hq
  have HQ3 := Lib.hid hq
  clear hq HQ2
  go_upto_region 21 with (fail)
  have c0 := B_G5.out.c0
  have f0 := B_G5.out.free 0
  go_upto_region 22 with (fail)
  have B_G6 := Lib.hid (B_G5.out.putKd 28)
  rw [Z_zz1.out] at B_G6
  have H6 := Lib.hid (H5.out.own (p := ⟨G, 0, none⟩) B_G5.out.lo (.int .i64 28))
  clear c0 f0 B_G5 H5
  generalize w5.setCell ⟨G, 0, none⟩ (.int .i64 28) = w6 at *
  have c4 := H6.out.p.c4
  have f4 := H6.out.p.free 4
  go_upto_region 23 with (fail)
  have H7 := Lib.hid (H6.out.upd (s' := { s1 with flat := true }) 4 (.bool true) rfl H6.out.p.lt H6.out.p.deep)
  have B_G7 := Lib.hid (B_G6.out.but ((But.refl R w6.heap.size w6).set 4 (.bool true)) (Nat.le_refl _) (by have := H6.out.r; omega))
  rw [E_s2.out] at H7
  clear c4 f4 H6 B_G6
  generalize w6.setCell ⟨R, 4, none⟩ (.bool true) = w7 at *
  have CV := Lib.hid (value_any w7 R g c (w.heap.size + 1) G T r n s2 zz1 fr0 [] E F D H7.out.p (by have := H7.out.r; omega) (by have := H7.out.l; omega) B_G7.out (by rw [← Z_zz1.out, setKd_ks, ← Z_zz0.out]; exact Nat.zero_le _) (by rw [G_s2.out.deep]; exact HD.out))
  rw [E_vb.out, E_s3.out] at CV
  go_wp2_with fail
  refine CV.out.mono ?_
  rintro e w8 ⟨rfl, ⟨f8, fs8, hbx⟩, hp8, hb8⟩
  have H8 := Lib.hid (H7.out.lowR hb8 hp8)
  have B_G8 := Lib.hid hbx
  clear hbx hp8 hb8 CV B_G7 H7
  (try dsimp only at B_G8 H8)
  go_upto_region 24 with (fail)
  have c4 := H8.out.p.c4
  have f4 := H8.out.p.free 4
  go_upto_region 25 with (fail)
  have H9 := Lib.hid (H8.out.upd (s' := { s3 with flat := false }) 4 (.bool false) rfl H8.out.p.lt H8.out.p.deep)
  have B_G9 := Lib.hid (B_G8.out.but ((But.refl R w8.heap.size w8).set 4 (.bool false)) (Nat.le_refl _) (by have := H8.out.r; omega))
  rw [E_s4.out] at H9
  clear c4 f4 H8 B_G8
  generalize w8.setCell ⟨R, 4, none⟩ (.bool false) = w9 at *
  rcases vb with _ | _
  ·go_upto_region 27 with (fail)
   go_wp2_with fail
   refine (want_eq E E_s5.out H9.out.p).mono ?_
   rintro e w10 ⟨rfl, h10, b10⟩
   have H10 := Lib.hid (H9.out.call h10 b10)
   have B_G10 := Lib.hid (B_G9.out.but b10 (Nat.le_refl _) (by have := H9.out.r; omega))
   clear h10 b10 H9 B_G9
   have hq := HQ3.out
   rw [if_neg (by decide), E_s4.out, E_s5.out] at hq
   subst hq
   clear HQ3
   obtain ⟨t0, t1, t2, t3, t4, t5⟩ := nodeC (B_G10.out.box)
   obtain ⟨z0, z1, z2, z3, z4, z5⟩ := zeroC (H10.out.z)
   obtain ⟨y0, y1, y2, y3, y4, y5⟩ := freeC (H10.out.z)
   go_wp2_with fail
   obtain ⟨wf, HZF, HBF, hwf⟩ := endsN (H10.out.z) zz2 f8
   rw [hwf]
   clear hwf
   obtain ⟨g0, g1, g2, g3, g4, g5⟩ := cells6 HZF.out
   exact bodyPost_ret (v := ndV zz2 f8) (by simp [results, Try.results37, go_sem, ndV, Nd.kd, Nd.tx, Nd.nm, Nd.at_, Nd.ns, Nd.ks, leafN, fr0, nd0, g0, g1, g2, g3, g4, g5]) rfl (H10.out.done B_G10.out.var.node HBF.out)
  ·go_upto_region 26 with (fail)
   have c0 := B_G9.out.c0
   have f0 := B_G9.out.free 0
   go_upto_region 27 with (fail)
   have B_G11 := Lib.hid (B_G9.out.putKd 29)
   have H11 := Lib.hid (H9.out.own (p := ⟨G, 0, none⟩) B_G9.out.lo (.int .i64 29))
   clear c0 f0 B_G9 H9
   generalize w9.setCell ⟨G, 0, none⟩ (.int .i64 29) = w11 at *
   obtain ⟨zz3, h_zz3⟩ : ∃ z9, (zz2.setKd 29) = z9 := ⟨_, rfl⟩
   rw [h_zz3] at B_G11
   have Z_zz3 := Lib.hid h_zz3
   clear h_zz3
   go_wp2_with fail
   refine (want_eq E E_s5.out H11.out.p).mono ?_
   rintro e w12 ⟨rfl, h12, b12⟩
   have H12 := Lib.hid (H11.out.call h12 b12)
   have B_G12 := Lib.hid (B_G11.out.but b12 (Nat.le_refl _) (by have := H11.out.r; omega))
   clear h12 b12 H11 B_G11
   have hq := HQ3.out
   rw [if_pos trivial, E_s4.out, E_s5.out, Z_zz3.out] at hq
   subst hq
   clear HQ3
   obtain ⟨t0, t1, t2, t3, t4, t5⟩ := nodeC (B_G12.out.box)
   obtain ⟨z0, z1, z2, z3, z4, z5⟩ := zeroC (H12.out.z)
   obtain ⟨y0, y1, y2, y3, y4, y5⟩ := freeC (H12.out.z)
   go_wp2_with fail
   obtain ⟨wf, HZF, HBF, hwf⟩ := endsN (H12.out.z) zz3 f8
   rw [hwf]
   clear hwf
   obtain ⟨g0, g1, g2, g3, g4, g5⟩ := cells6 HZF.out
   exact bodyPost_ret (v := ndV zz3 f8) (by simp [results, Try.results37, go_sem, ndV, Nd.kd, Nd.tx, Nd.nm, Nd.at_, Nd.ns, Nd.ks, leafN, fr0, nd0, g0, g1, g2, g3, g4, g5]) rfl (H12.out.done B_G12.out.var.node HBF.out)
 ·obtain ⟨tx, h_tx⟩ : ∃ tx, textT T s1 3 = tx := ⟨_, rfl⟩
  have E_tx := Lib.hid h_tx
  clear h_tx
  obtain ⟨s2, h_s2⟩ : ∃ s2, textF T s1 3 = s2 := ⟨_, rfl⟩
  have E_s2 := Lib.hid h_s2
  clear h_s2
  have G_s2 := Lib.hid (show Goes T s s2 from by have q := (G_s1.out.text E 3); rw [E_s2.out] at q; exact q)
  obtain ⟨zz2, h_zz2⟩ : ∃ z9, (zz0.setKd 25).setTx tx = z9 := ⟨_, rfl⟩
  have Z_zz2 := Lib.hid h_zz2
  clear h_zz2
  obtain ⟨res, hres⟩ : ∃ res, namL T 5 zz2 s2 = res := ⟨_, rfl⟩
  have hq := HQ2.out
  rw [if_pos rfl, E_tx.out, E_s2.out, Z_zz2.out, hres] at hq
  have HQ3 := Lib.hid hq
  have HRES := Lib.hid hres
  clear hq HQ2 hres
  go_upto_region 5 with (fail)
  have c0 := B_G5.out.c0
  have f0 := B_G5.out.free 0
  go_upto_region 6 with (fail)
  have B_G13 := Lib.hid (B_G5.out.putKd 25)
  have H13 := Lib.hid (H5.out.own (p := ⟨G, 0, none⟩) B_G5.out.lo (.int .i64 25))
  clear c0 f0 B_G5 H5
  generalize w5.setCell ⟨G, 0, none⟩ (.int .i64 25) = w13 at *
  obtain ⟨zz1, h_zz1⟩ : ∃ z9, (zz0.setKd 25) = z9 := ⟨_, rfl⟩
  rw [h_zz1] at B_G13
  have Z_zz1 := Lib.hid h_zz1
  clear h_zz1
  go_wp2_with fail
  refine (text_eq E E_tx.out E_s2.out H13.out.p).mono ?_
  rintro e w14 ⟨rfl, h14, b14⟩
  have H14 := Lib.hid (H13.out.call h14 b14)
  have B_G14 := Lib.hid (B_G13.out.but b14 (Nat.le_refl _) (by have := H13.out.r; omega))
  clear h14 b14 H13 B_G13
  have c1 := B_G14.out.c1
  have f1 := B_G14.out.free 1
  go_upto_block 0 with (fail)
  have B_G15 := Lib.hid (B_G14.out.putTx tx)
  have H15 := Lib.hid (H14.out.own (p := ⟨G, 1, none⟩) B_G14.out.lo (.string ⟨tx.toArray⟩))
  clear c1 f1 B_G14 H14
  generalize w14.setCell ⟨G, 1, none⟩ (.string ⟨tx.toArray⟩) = w15 at *
  obtain ⟨zz3, h_zz3⟩ : ∃ z9, (zz1.setTx tx) = z9 := ⟨_, rfl⟩
  rw [h_zz3] at B_G15
  have Z_zz3 := Lib.hid h_zz3
  clear h_zz3
  have h23 : zz3 = zz2 := by rw [← Z_zz3.out, ← Z_zz1.out]; exact Z_zz2.out
  rw [h23] at B_G15
  clear h23
  have HN0 := Lib.hid (show zz2.ns = [] ∧ zz2.ks = [] from by rw [← Z_zz2.out, setTx_ns, setTx_ks, setKd_ns, setKd_ks, ← Z_zz0.out]; exact ⟨rfl, rfl⟩)
  go_cut [6] (fun _ wx => ∃ z s3 f3, res = (z, s3) ∧ z.ks = [] ∧ St w wx R g c T s3 ∧ Box wx G (w.heap.size + 1) z f3 [] ∧ Goes T s s3)
  case first =>
   go_wp2_with fail
   go_loopg [6] 5 (fun gk _ wr => ∃ z s3 f3, z.ns.length + gk = 5 ∧ z.ns.length ≤ 4 ∧ z.ks = [] ∧ namL T gk z s3 = res ∧ Box wr G (w.heap.size + 1) z f3 [] ∧ St w wr R g c T s3 ∧ Goes T s s3)
   case atStart => exact ⟨zz2, s2, fr0, by rw [HN0.out.1]; rfl, by rw [HN0.out.1]; exact Nat.zero_le _, HN0.out.2, HRES.out, B_G15.out, H15.out, G_s2.out⟩
   case round =>
    obtain ⟨z, s3, f3, hz, hz4, hks, hpl, hbx, hst, hgo⟩ := hrel
    obtain ⟨m, rfl⟩ : ∃ m, gk = m + 1 := ⟨gk - 1, by omega⟩
    have BX := Lib.hid hbx
    have HS := Lib.hid hst
    have G_s3 := Lib.hid hgo
    have HKS := Lib.hid hks
    have HPL := Lib.hid (show (if kdF T s3 = 3 then if z.ns.length = 4 then (z, failF T s3 16) else namL T m (z.addNs (stepT T s3).text) (stepF T s3) else (z, s3)) = res from hpl)
    clear hbx hst hgo hpl hks HQ3 HRES HN0 B_G15 H15
    obtain ⟨k, h_k⟩ : ∃ k, kdF T s3 = k := ⟨_, rfl⟩
    have E_k := Lib.hid h_k
    clear h_k
    obtain ⟨kb, q4⟩ : ∃ kb, (k == 3) = kb := ⟨_, rfl⟩
    go_wp2_with fail
    refine (kind_eq E_k.out HS.out.p).mono ?_
    rintro e w41 ⟨rfl, b41⟩
    have H41 := Lib.hid (HS.out.read b41)
    have B_G41 := Lib.hid (BX.out.below b41 (Nat.le_refl _))
    clear b41 HS BX
    rcases kb with _ | _
    ·have hr := (if_neg (by rw [E_k.out]; exact beq_eq_false_iff_ne.1 q4)).symm.trans HPL.out
     subst hr
     clear HPL
     go_wp2_with fail
     go_meet
     exact ⟨z, s3, f3, rfl, HKS.out, H41.out, B_G41.out, G_s3.out⟩
    ·have HPL2 := Lib.hid ((if_pos (by rw [E_k.out]; exact beq_iff_eq.1 q4)).symm.trans HPL.out)
     clear HPL
     have d4 := B_G41.out.c4
     go_upto_region 8 with (fail)
     obtain ⟨lb, ql⟩ : ∃ lb, ((z.ns.length : Int) == 4) = lb := ⟨_, rfl⟩
     rcases lb with _ | _
     ·obtain ⟨t2, h_t2⟩ : ∃ t2, stepT T s3 = t2 := ⟨_, rfl⟩
      have E_t2 := Lib.hid h_t2
      clear h_t2
      obtain ⟨s4, h_s4⟩ : ∃ s4, stepF T s3 = s4 := ⟨_, rfl⟩
      have E_s4 := Lib.hid h_s4
      clear h_s4
      have G_s4 := Lib.hid (show Goes T s s4 from by have q := (G_s3.out.step E); rw [E_s4.out] at q; exact q)
      have HPL3 : Hid (namL T m (z.addNs t2.text) s4 = res) := by
       show _ = _
       have q1 := (if_neg (fun h => beq_eq_false_iff_ne.1 ql (by omega))).symm.trans HPL2.out
       rw [E_t2.out, E_s4.out] at q1; exact q1
      have hz6 : z.ns.length ≤ 3 := by have := beq_eq_false_iff_ne.1 ql; omega
      clear HPL2
      go_upto_region 10 with (fail)
      clear d4
      go_wp2_with fail
      refine (step_eq E E_t2.out E_s4.out H41.out.p).mono ?_
      rintro e w42 ⟨rfl, h42, b42⟩
      have H42 := Lib.hid (H41.out.call h42 b42)
      have B_G42 := Lib.hid (B_G41.out.but b42 (Nat.le_refl _) (by have := H41.out.r; omega))
      clear h42 b42 H41 B_G41
      unfold tokV
      have S_K2 : Hid (w.heap.size < w42.heap.size) := H42.out.size
      have H43 := Lib.hid (H42.out.alloc (.cells #[.int .i64 t2.kind, .string ⟨t2.text.toArray⟩, .int .i64 t2.num, .int .i64 (t2.at_ : Int)] 67))
      have B_G43 := Lib.hid (B_G42.out.alloc (.cells #[.int .i64 t2.kind, .string ⟨t2.text.toArray⟩, .int .i64 t2.num, .int .i64 (t2.at_ : Int)] 67))
      have X_K243 : Hid (Whole (w42.alloc (.cells #[.int .i64 t2.kind, .string ⟨t2.text.toArray⟩, .int .i64 t2.num, .int .i64 (t2.at_ : Int)] 67)) w42.heap.size 67 #[.int .i64 t2.kind, .string ⟨t2.text.toArray⟩, .int .i64 t2.num, .int .i64 (t2.at_ : Int)]) := Whole.made _ _ _
      go_upto_region 11 with (fail)
      generalize w42.alloc (.cells #[.int .i64 t2.kind, .string ⟨t2.text.toArray⟩, .int .i64 t2.num, .int .i64 (t2.at_ : Int)] 67) = w43 at *
      generalize w42.heap.size = K2 at *
      clear H42 B_G42
      have c4 := B_G43.out.c4
      have z1 := X_K243.out.cell 1
      go_wp2_with (at_builtin; refine list_app ty_str (v := .slice f3.na z.ns.length f3.nc) rfl _ _ rfl rfl (B_G43.out.alloc _).nam w43.heap.size 1 [strV t2.text] rfl (Whole.made w43 9 _) rfl (by simp [strV, Value.oneCell']) (by decide) (by omega) (by decide) (by have := H43.out.size; simp; omega) ?_; intro gv cv wd hap; have HD := Lib.hid ((H43.out.alloc (.cells #[strV t2.text] 9)).low (hap.below (B_G43.out.alloc (.cells #[strV t2.text] 9)).nam (Below.refl _ _) (Nat.le_refl _) (by have := H43.out.size; simp; omega))); have BN0 := Lib.hid ((B_G43.out.alloc (.cells #[strV t2.text] 9)).appN HKS.out hap); have XD := Lib.hid (hap.far (B_G43.out.alloc (.cells #[strV t2.text] 9)).box (row_ne (B_G43.out.alloc (.cells #[strV t2.text] 9)).nam B_G43.out.nN)); have z4 : wd.cell? ⟨G, 4, none⟩ = some (.slice f3.na z.ns.length f3.nc) := XD.out.cell 4; have y4 := XD.out.free 4; clear hap c4 z1)
      have H80 := Lib.hid (HD.out.own (p := ⟨G, 4, none⟩) (Nat.lt_of_succ_le B_G43.out.lo) (.slice (some ⟨gv, 0, none⟩) (z.ns.length + 1) cv))
      have B80 := Lib.hid BN0.out
      clear z4 y4 XD BN0 HD X_K243
      generalize wd.setCell ⟨G, 4, none⟩ (.slice (some ⟨gv, 0, none⟩) (z.ns.length + 1) cv) = w80 at *
      go_wp2_with fail
      go_roundg m
      case measure => exact Nat.lt_succ_self _
      case rel => exact ⟨_, s4, _, by rw [addNs_ns]; simp; omega, by rw [addNs_ns]; simp; omega, by rw [addNs_ks]; exact HKS.out, HPL3.out, B80.out, H80.out, G_s4.out⟩
     ·obtain ⟨s5, h_s5⟩ : ∃ s5, failF T s3 16 = s5 := ⟨_, rfl⟩
      have E_s5 := Lib.hid h_s5
      clear h_s5
      have G_s5 := Lib.hid (show Goes T s s5 from by have q := (G_s3.out.fail 16); rw [E_s5.out] at q; exact q)
      have hr := (if_pos (by have := beq_iff_eq.1 ql; omega)).symm.trans HPL2.out
      rw [E_s5.out] at hr
      subst hr
      clear HPL2
      go_upto_region 9 with (fail)
      clear d4
      go_wp2_with fail
      refine (fail_eq E_s5.out H41.out.p).mono ?_
      rintro e w44 ⟨rfl, h44, b44⟩
      have H44 := Lib.hid (H41.out.call h44 b44)
      have B_G44 := Lib.hid (B_G41.out.but b44 (Nat.le_refl _) (by have := H41.out.r; omega))
      clear h44 b44 H41 B_G41
      go_wp2_with fail
      go_meet
      exact ⟨z, s5, f3, rfl, HKS.out, H44.out, B_G44.out, G_s5.out⟩
  case rest =>
   obtain ⟨z, s3, f3, hres, hks, h5, b5, g5⟩ := hcut
   have H91 := Lib.hid h5
   have B91 := Lib.hid b5
   have G_s3 := Lib.hid g5
   have HKS := Lib.hid hks
   have hq := HQ3.out
   rw [hres] at hq
   have HQ4 := Lib.hid hq
   clear hq HQ3 HRES HN0 hres hks h5 b5 g5 B_G15 H15
   obtain ⟨s4, h_s4⟩ : ∃ s4, wantF T s3 [61] = s4 := ⟨_, rfl⟩
   have E_s4 := Lib.hid h_s4
   clear h_s4
   have G_s4 := Lib.hid (show Goes T s s4 from by have q := (G_s3.out.want E [61]); rw [E_s4.out] at q; exact q)
   obtain ⟨rs2, hrs2⟩ : ∃ rs2, cosL T r (T.length + 1) true z s4 = rs2 := ⟨_, rfl⟩
   have hq := HQ4.out
   (try dsimp only at hq)
   rw [E_s4.out, hrs2] at hq
   have HQ5 := Lib.hid hq
   have HRS2 := Lib.hid hrs2
   clear hq HQ4 hrs2
   go_upto_region 12 with (fail)
   go_wp2_with fail
   refine (want_eq E E_s4.out H91.out.p).mono ?_
   rintro e w93 ⟨rfl, h93, b93⟩
   have H93 := Lib.hid (H91.out.call h93 b93)
   have B_G93 := Lib.hid (B91.out.but b93 (Nat.le_refl _) (by have := H91.out.r; omega))
   clear h93 b93 H91 B91
   go_upto_block 2 with (fail)
   go_cut [7] (fun _ wx => ∃ z s3 f3 fs3, rs2 = (z, s3) ∧ St w wx R g c T s3 ∧ Box wx G (w.heap.size + 1) z f3 fs3 ∧ Goes T s s3)
   case first =>
    go_wp2_with fail
    go_loopg [7] (T.length + 1) (fun gk mo wr => ∃ b y s5 f5 fs5, mo = .bool b ∧ (b = true → T.length + 1 ≤ gk + s5.i) ∧ y.ks.length + gk ≤ T.length + 1 ∧ cosL T r gk b y s5 = rs2 ∧ Box wr G (w.heap.size + 1) y f5 fs5 ∧ St w wr R g c T s5 ∧ Goes T s s5)
    case atStart => exact ⟨true, z, s4, f3, [], rfl, fun _ => by omega, by rw [HKS.out]; simp, HRS2.out, B_G93.out, H93.out, G_s4.out⟩
    case round =>
     obtain ⟨b, y, s5, f5, fs5, rfl, hz, hz4, hpl, hbx, hst, hgo⟩ := hrel
     have hlen := hst.p.len
     have BX := Lib.hid hbx
     have HS := Lib.hid hst
     have G_s5 := Lib.hid hgo
     have HFU := Lib.hid hz
     have HPL := Lib.hid hpl
     clear hbx hst hgo hpl hz HQ5 HRS2 B_G93 H93
     rcases b with _ | _
     ·have hr := HPL.out
      rw [cosL_stop] at hr
      subst hr
      clear HPL
      go_wp2_with fail
      go_meet
      exact ⟨y, s5, f5, fs5, rfl, HS.out, BX.out, G_s5.out⟩
     ·obtain ⟨m, rfl⟩ : ∃ m, gk = m + 1 := ⟨gk - 1, by have := HFU.out rfl; have := G_s5.out.lt; omega⟩
      have hz5 : y.ks.length ≤ 300000 := by omega
      have HPL1 := Lib.hid (show (if true = true ∧ s5.e = 0 then cosL T r m (isF T (conF T r (if y.ks.length = 20 then failF T s5 16 else s5)).2 [124]) (y.add (conF T r (if y.ks.length = 20 then failF T s5 16 else s5)).1) (if isF T (conF T r (if y.ks.length = 20 then failF T s5 16 else s5)).2 [124] = true then stepF T (conF T r (if y.ks.length = 20 then failF T s5 16 else s5)).2 else (conF T r (if y.ks.length = 20 then failF T s5 16 else s5)).2) else (y, s5)) = rs2 from HPL.out)
      clear HPL
      have c5 := HS.out.p.c5
      have ff := HS.out.p.free 5
      obtain ⟨es, qe⟩ : ∃ es, (s5.e == 0) = es := ⟨_, rfl⟩
      rcases es with _ | _
      ·have hr := (if_neg (fun h => beq_eq_false_iff_ne.1 qe h.2)).symm.trans HPL1.out
       subst hr
       clear HPL1
       go_wp2_with fail
       go_meet
       exact ⟨y, s5, f5, fs5, rfl, HS.out, BX.out, G_s5.out⟩
      ·have HPL2 := Lib.hid ((if_pos ⟨rfl, beq_iff_eq.1 qe⟩).symm.trans HPL1.out)
       clear HPL1
       have d5 := BX.out.c5
       go_upto_region 15 with (fail)
       clear c5 ff
       obtain ⟨lb, ql⟩ : ∃ lb, ((y.ks.length : Int) == 20) = lb := ⟨_, rfl⟩
       rcases lb with _ | _
       ·obtain ⟨y2, s6, h_s6⟩ : ∃ y2 s6, conF T r s5 = (y2, s6) := ⟨_, _, rfl⟩
        have E_s6 := Lib.hid h_s6
        clear h_s6
        have G_s6 := Lib.hid (show Goes T s s6 from by have q := G_s5.out.trans (goes_con E F (r := r) G_s5.out.lt); rw [E_s6.out] at q; exact q)
        obtain ⟨b2, h_b2⟩ : ∃ b2, isF T s6 [124] = b2 := ⟨_, rfl⟩
        have E_b2 := Lib.hid h_b2
        clear h_b2
        have HPL3 : Hid (cosL T r m b2 (y.add y2) (if b2 = true then stepF T s6 else s6) = rs2) := by
         show _ = _
         have q1 := HPL2.out
         rw [if_neg (fun h => beq_eq_false_iff_ne.1 ql (by omega)), E_s6.out, E_b2.out] at q1; exact q1
        have HI2 : Hid (s5.i ≤ s6.i) := by
         show _ ≤ _
         have h1 : Goes T s5 s6 := by have q := goes_con E F (r := r) G_s5.out.lt; rw [E_s6.out] at q; exact q
         have := h1.i; omega
        clear HPL2
        go_upto_region 17 with (fail)
        clear d5
        have C101 := Lib.hid (fun wx (h : PAt wx R g c T s5) => gives_eq E_s6.out (con_any wx R g c T r n s5 E F D h (by rw [G_s5.out.deep]; exact HD.out)))
        go_cut [56] (fun _ wx => ∃ f2 fs2, Box wx G (w.heap.size + 1) (y.add y2) f2 fs2 ∧ St w wx R g c T s6)
        case first =>
         refine region_Z (fun W => W.cell? ⟨G, 5, none⟩ = some (.slice f5.ka y.ks.length f5.kc)) (fun i => decide (6 ≤ i ∧ i < 11)) (by kernel_rfl) BX.out.drew.c5 (fun hHeld => ?_)
         refine tkg 0 rfl (fun k hk => by have hk2 : 11 ≤ k := hk; simp; omega) (v := ?_) ?_ ?_; rotate_left
         ·(intro w hSw; (try dsimp only at hSw); go_simp; try with_reducible rfl)
         (try simp only [Act.put, sZ])
         refine tkg 1 rfl (fun k hk => by have hk2 : 11 ≤ k := hk; simp; omega) (v := ?_) ?_ ?_; rotate_left
         ·(intro w hSw; (try dsimp only at hSw); go_simp; try with_reducible rfl)
         (try simp only [Act.put, sZ])
         refine tkg 2 rfl (fun k hk => by have hk2 : 11 ≤ k := hk; simp; omega) (v := ?_) ?_ ?_; rotate_left
         ·(intro w hSw; (try dsimp only at hSw); go_simp; try with_reducible rfl)
         (try simp only [Act.put, sZ])
         refine tkg 4 rfl (fun k hk => by have hk2 : 11 ≤ k := hk; simp; omega) (v := ?_) ?_ ?_; rotate_left
         ·(intro w hSw; (try dsimp only at hSw); go_simp; try with_reducible rfl)
         (try simp only [Act.put, sZ])
         refine anyZ_split (i := 3) (j := 5) (by kernel_rfl) rfl rfl (fun K hK => ?_) (fun K hK => ?_)
         ·go_simp
          go_at_call 52
          refine (C101.out _ HS.out.drew.p).mono ?_
          rintro e wc ⟨fy, rfl, hpc, ny, bc⟩
          have HC := Lib.hid (HS.out.drew.call hpc bc)
          have BC := Lib.hid (BX.out.drew.but bc (Nat.le_refl _) (by have := HS.out.r; omega))
          have NY : Hid (NodeIn wc (fun a => wr.heap.size ≤ a) y2 fy) := ny
          clear hpc ny bc
          unfold ndV
          refine hK.out _ _ (fun _ => BC.out.c5) (fun hHeld2 => ?_)
          replace hHeld2 := hHeld2 (by decide)
          clear hK K hHeld
          (try simp only [Act.put, sZ])
          refine stp 5 rfl (fun K hK => ?_)
          go_simp
          refine hK.out _ _ (fun _ => (BC.out.alloc _).c5) (fun hHeld3 => ?_)
          clear hK K hHeld2 hHeld3
          (try simp only [Act.put, sZ])
          have HA := Lib.hid (HC.out.alloc (.cells #[.int .i64 0, .string ⟨#[]⟩, .int .i64 0, .int .i64 0, .slice none 0 0, .slice none 0 0] 25))
          have BA := Lib.hid (BC.out.alloc (.cells #[.int .i64 0, .string ⟨#[]⟩, .int .i64 0, .int .i64 0, .slice none 0 0, .slice none 0 0] 25))
          have NA := Lib.hid (NY.out.alloc (.cells #[.int .i64 0, .string ⟨#[]⟩, .int .i64 0, .int .i64 0, .slice none 0 0, .slice none 0 0] 25))
          have ZA : Hid (Whole (wc.alloc (.cells #[.int .i64 0, .string ⟨#[]⟩, .int .i64 0, .int .i64 0, .slice none 0 0, .slice none 0 0] 25)) wc.heap.size 25 #[.int .i64 0, .string ⟨#[]⟩, .int .i64 0, .int .i64 0, .slice none 0 0, .slice none 0 0]) := Whole.made _ _ _
          clear HC BC NY
          generalize wc.alloc (.cells #[.int .i64 0, .string ⟨#[]⟩, .int .i64 0, .int .i64 0, .slice none 0 0, .slice none 0 0] 25) = wa at *
          generalize wc.heap.size = Zb at *
          refine stp 6 rfl (fun K hK => ?_)
          refine step_app ty_nd (v := .slice f5.ka y.ks.length f5.kc) (by rfl) _ _ (by rfl) (by rfl) BA.out.kid Zb 1 [.int .i64 0, .string ⟨#[]⟩, .int .i64 0, .int .i64 0, .slice none 0 0, .slice none 0 0] (by rfl) ZA.out (by rfl) (by simp [Value.oneCell']) (by decide) (by omega) (by decide) (by have := HA.out.size; omega) ?_
          intro gv cv wd hap
          have KD := Lib.hid (kid_done rfl HA.out BA.out BX.out.lt BX.out.nlt BX.out.klt NA.out hap)
          have hln := flatL_len _ _ BA.out.len
          have ZC := Lib.hid (zero_cells hap (by rw [hln]; omega))
          rw [hln] at ZC
          have XD := Lib.hid (hap.far BA.out.box (row_ne BA.out.kid BA.out.kN))
          have hgn : gv ≠ G := KD.out.2.2
          have hgn2 : G ≠ gv := Ne.symm hgn
          have HGN := Lib.hid hgn
          have HGN2 := Lib.hid hgn2
          clear hln hgn hgn2 hap HA BA NA ZA
          refine hK.out _ _ (fun h => absurd h (by decide)) (fun _ => ?_)
          clear hK K
          (try simp only [Act.put, sZ])
          refine anyZ_free _ _ _ _ (by decide) ?_
          have hT : True := trivial
          have hix : (y.ks.length : Int) < (y.ks.length : Int) + 1 := by omega
          refine tkf 7 rfl (v := ?_) ?_ ?_; rotate_left
          ·(intro w hSw; (try dsimp only at hSw); go_simp; try with_reducible rfl)
          (try simp only [Act.put, sZ])
          refine tkf 9 rfl (v := ?_) ?_ ?_; rotate_left
          ·(intro w hSw; (try dsimp only at hSw); go_simp; try with_reducible rfl)
          (try simp only [Act.put, sZ])
          refine anyZ_split (i := 8) (j := 10) (by kernel_rfl) rfl rfl (fun K hK => ?_) (fun K hK => ?_)
          ·obtain ⟨u0, v0, u1, v1, u2, v2, u3, v3, u4, v4, u5, v5⟩ := zcA ZC.out
           go_simp
           refine hK.out _ _ (fun _ => trivial) (fun _ => ?_)
           clear hK K u0 u1 u2 u3 u4 u5 v0 v1 v2 v3 v4 v5
           have XK := Lib.hid (kid_whole XD.out HGN2.out (y.ks.length * 6) y2 fy)
           have c5 : (kidW wd gv (y.ks.length * 6) y2 fy).cell? ⟨G, 5, none⟩ = some (.slice f5.ka y.ks.length f5.kc) := XK.out.cell 5
           have v5 := XK.out.free 5
           change anyZ _ _ _ _ _ _ _ _ _ (kidW wd gv (y.ks.length * 6) y2 fy)
           generalize kidW wd gv (y.ks.length * 6) y2 fy = wk at *
           clear XK
           (try simp only [Act.put, sZ])
           refine stp 10 rfl (fun K hK => ?_)
           go_simp
           refine hK.out _ _ (fun _ => trivial) (fun _ => ?_)
           refine anyZ_done (by kernel_rfl) ?_ _
           clear hK K c5 v5
           go_wp2_with fail
           go_meet
           exact ⟨_, _, KD.out.1, KD.out.2.1⟩
          ·have c5 : wd.cell? ⟨G, 5, none⟩ = some (.slice f5.ka y.ks.length f5.kc) := XD.out.cell 5
           have v5 := XD.out.free 5
           go_simp
           refine hK.out _ _ (fun _ => trivial) (fun _ => ?_)
           clear hK K c5 v5
           obtain ⟨u0, v0, u1, v1, u2, v2, u3, v3, u4, v4, u5, v5⟩ := zcB (p := ⟨G, 5, none⟩) ZC.out HGN.out (.slice (some ⟨gv, 0, none⟩) (y.ks.length + 1) cv)
           have KD2 := Lib.hid (show Box (kidW (wd.setCell ⟨G, 5, none⟩ (.slice (some ⟨gv, 0, none⟩) (y.ks.length + 1) cv)) gv (y.ks.length * 6) y2 fy) G (w.heap.size + 1) (y.add y2) _ _ ∧ St w (kidW (wd.setCell ⟨G, 5, none⟩ (.slice (some ⟨gv, 0, none⟩) (y.ks.length + 1) cv)) gv (y.ks.length * 6) y2 fy) R g c T s6 from by rw [kid_comm _ HGN.out]; exact ⟨KD.out.1, KD.out.2.1⟩)
           clear KD
           generalize wd.setCell ⟨G, 5, none⟩ (.slice (some ⟨gv, 0, none⟩) (y.ks.length + 1) cv) = wk at *
           (try simp only [Act.put, sZ])
           refine stp 8 rfl (fun K hK => ?_)
           go_simp
           refine hK.out _ _ (fun _ => trivial) (fun _ => ?_)
           refine anyZ_done (by kernel_rfl) ?_ _
           clear hK K u0 u1 u2 u3 u4 u5 v0 v1 v2 v3 v4 v5
           go_wp2_with fail
           go_meet
           exact ⟨_, _, KD2.out.1, KD2.out.2⟩
         ·go_simp
          refine hK.out _ _ (fun _ => (BX.out.drew.alloc _).c5) (fun hHeld2 => ?_)
          replace hHeld2 := hHeld2 (by decide)
          clear hK K hHeld
          (try simp only [Act.put, sZ])
          refine stp 3 rfl (fun K hK => ?_)
          go_simp
          go_at_call 52
          refine (C101.out _ (HS.out.drew.alloc (.cells #[.int .i64 0, .string ⟨#[]⟩, .int .i64 0, .int .i64 0, .slice none 0 0, .slice none 0 0] 25)).p).mono ?_
          rintro e wc ⟨fy, rfl, hpc, ny, bc⟩
          have HA := Lib.hid ((HS.out.drew.alloc (.cells #[.int .i64 0, .string ⟨#[]⟩, .int .i64 0, .int .i64 0, .slice none 0 0, .slice none 0 0] 25)).call hpc bc)
          have BA := Lib.hid ((BX.out.drew.alloc (.cells #[.int .i64 0, .string ⟨#[]⟩, .int .i64 0, .int .i64 0, .slice none 0 0, .slice none 0 0] 25)).but bc (Nat.le_refl _) (by have := HS.out.r; omega))
          have NA : Hid (NodeIn wc (fun a => wr.heap.size ≤ a) y2 fy) := ny.mono fun a ha _ => by simp at ha; omega
          have ZA : Hid (Whole wc wr.heap.size 25 #[.int .i64 0, .string ⟨#[]⟩, .int .i64 0, .int .i64 0, .slice none 0 0, .slice none 0 0]) := bc.whole (Whole.made wr.drew 25 #[.int .i64 0, .string ⟨#[]⟩, .int .i64 0, .int .i64 0, .slice none 0 0, .slice none 0 0]) (by simp) (by have := HS.out.r; have := HS.out.size; simp; omega)
          clear hpc ny bc
          unfold ndV
          refine hK.out _ _ (fun _ => BA.out.c5) (fun hHeld3 => ?_)
          clear hK K hHeld2 hHeld3
          (try simp only [Act.put, sZ])
          refine stp 6 rfl (fun K hK => ?_)
          refine step_app ty_nd (v := .slice f5.ka y.ks.length f5.kc) (by rfl) _ _ (by rfl) (by rfl) BA.out.kid wr.heap.size 1 [.int .i64 0, .string ⟨#[]⟩, .int .i64 0, .int .i64 0, .slice none 0 0, .slice none 0 0] (by rfl) ZA.out (by rfl) (by simp [Value.oneCell']) (by decide) (by omega) (by decide) (by have := HA.out.size; omega) ?_
          intro gv cv wd hap
          have KD := Lib.hid (kid_done rfl HA.out BA.out BX.out.lt BX.out.nlt BX.out.klt NA.out hap)
          have hln := flatL_len _ _ BA.out.len
          have ZC := Lib.hid (zero_cells hap (by rw [hln]; omega))
          rw [hln] at ZC
          have XD := Lib.hid (hap.far BA.out.box (row_ne BA.out.kid BA.out.kN))
          have hgn : gv ≠ G := KD.out.2.2
          have hgn2 : G ≠ gv := Ne.symm hgn
          have HGN := Lib.hid hgn
          have HGN2 := Lib.hid hgn2
          clear hln hgn hgn2 hap HA BA NA ZA
          refine hK.out _ _ (fun h => absurd h (by decide)) (fun _ => ?_)
          clear hK K
          (try simp only [Act.put, sZ])
          refine anyZ_free _ _ _ _ (by decide) ?_
          have hT : True := trivial
          have hix : (y.ks.length : Int) < (y.ks.length : Int) + 1 := by omega
          refine tkf 7 rfl (v := ?_) ?_ ?_; rotate_left
          ·(intro w hSw; (try dsimp only at hSw); go_simp; try with_reducible rfl)
          (try simp only [Act.put, sZ])
          refine tkf 9 rfl (v := ?_) ?_ ?_; rotate_left
          ·(intro w hSw; (try dsimp only at hSw); go_simp; try with_reducible rfl)
          (try simp only [Act.put, sZ])
          refine anyZ_split (i := 8) (j := 10) (by kernel_rfl) rfl rfl (fun K hK => ?_) (fun K hK => ?_)
          ·obtain ⟨u0, v0, u1, v1, u2, v2, u3, v3, u4, v4, u5, v5⟩ := zcA ZC.out
           go_simp
           refine hK.out _ _ (fun _ => trivial) (fun _ => ?_)
           clear hK K u0 u1 u2 u3 u4 u5 v0 v1 v2 v3 v4 v5
           have XK := Lib.hid (kid_whole XD.out HGN2.out (y.ks.length * 6) y2 fy)
           have c5 : (kidW wd gv (y.ks.length * 6) y2 fy).cell? ⟨G, 5, none⟩ = some (.slice f5.ka y.ks.length f5.kc) := XK.out.cell 5
           have v5 := XK.out.free 5
           change anyZ _ _ _ _ _ _ _ _ _ (kidW wd gv (y.ks.length * 6) y2 fy)
           generalize kidW wd gv (y.ks.length * 6) y2 fy = wk at *
           clear XK
           (try simp only [Act.put, sZ])
           refine stp 10 rfl (fun K hK => ?_)
           go_simp
           refine hK.out _ _ (fun _ => trivial) (fun _ => ?_)
           refine anyZ_done (by kernel_rfl) ?_ _
           clear hK K c5 v5
           go_wp2_with fail
           go_meet
           exact ⟨_, _, KD.out.1, KD.out.2.1⟩
          ·have c5 : wd.cell? ⟨G, 5, none⟩ = some (.slice f5.ka y.ks.length f5.kc) := XD.out.cell 5
           have v5 := XD.out.free 5
           go_simp
           refine hK.out _ _ (fun _ => trivial) (fun _ => ?_)
           clear hK K c5 v5
           obtain ⟨u0, v0, u1, v1, u2, v2, u3, v3, u4, v4, u5, v5⟩ := zcB (p := ⟨G, 5, none⟩) ZC.out HGN.out (.slice (some ⟨gv, 0, none⟩) (y.ks.length + 1) cv)
           have KD2 := Lib.hid (show Box (kidW (wd.setCell ⟨G, 5, none⟩ (.slice (some ⟨gv, 0, none⟩) (y.ks.length + 1) cv)) gv (y.ks.length * 6) y2 fy) G (w.heap.size + 1) (y.add y2) _ _ ∧ St w (kidW (wd.setCell ⟨G, 5, none⟩ (.slice (some ⟨gv, 0, none⟩) (y.ks.length + 1) cv)) gv (y.ks.length * 6) y2 fy) R g c T s6 from by rw [kid_comm _ HGN.out]; exact ⟨KD.out.1, KD.out.2.1⟩)
           clear KD
           generalize wd.setCell ⟨G, 5, none⟩ (.slice (some ⟨gv, 0, none⟩) (y.ks.length + 1) cv) = wk at *
           (try simp only [Act.put, sZ])
           refine stp 8 rfl (fun K hK => ?_)
           go_simp
           refine hK.out _ _ (fun _ => trivial) (fun _ => ?_)
           refine anyZ_done (by kernel_rfl) ?_ _
           clear hK K u0 u1 u2 u3 u4 u5 v0 v1 v2 v3 v4 v5
           go_wp2_with fail
           go_meet
           exact ⟨_, _, KD2.out.1, KD2.out.2⟩
        case rest =>
         obtain ⟨f101, fs101, hbx, hlo⟩ := hcut
         have B_G101 := Lib.hid hbx
         have H101 := Lib.hid hlo
         clear hbx hlo C101 BX HS
         obtain ⟨za, h_za⟩ : ∃ z9, (y.add y2) = z9 := ⟨_, rfl⟩
         rw [h_za] at B_G101
         have Z_za := Lib.hid h_za
         clear h_za
         have l5 : za.ks.length = y.ks.length + 1 := by rw [← Z_za.out, add_ks]; simp
         have L5 := Lib.hid l5
         clear l5
         go_wp2_with fail
         refine (is_eq E_b2.out H101.out.p).mono ?_
         rintro e w102 ⟨rfl, b102⟩
         have H102 := Lib.hid (H101.out.read b102)
         have B_G102 := Lib.hid (B_G101.out.below b102 (Nat.le_refl _))
         clear b102 H101 B_G101
         rcases b2 with _ | _
         ·go_wp2_with fail
          go_roundg m
          case measure => exact Nat.lt_succ_self _
          case rel => exact ⟨false, za, s6, f101, fs101, rfl, (fun h => by cases h), by have := L5.out; omega, by rw [← Z_za.out]; exact HPL3.out, B_G102.out, H102.out, G_s6.out⟩
         ·obtain ⟨t3, h_t3⟩ : ∃ t3, stepT T s6 = t3 := ⟨_, rfl⟩
          have E_t3 := Lib.hid h_t3
          clear h_t3
          obtain ⟨s7, h_s7⟩ : ∃ s7, stepF T s6 = s7 := ⟨_, rfl⟩
          have E_s7 := Lib.hid h_s7
          clear h_s7
          have G_s7 := Lib.hid (show Goes T s s7 from by have q := (G_s6.out.step E); rw [E_s7.out] at q; exact q)
          go_upto_region 20 with (fail)
          go_wp2_with fail
          refine (step_eq E E_t3.out E_s7.out H102.out.p).mono ?_
          rintro e w103 ⟨rfl, h103, b103⟩
          have H103 := Lib.hid (H102.out.call h103 b103)
          have B_G103 := Lib.hid (B_G102.out.but b103 (Nat.le_refl _) (by have := H102.out.r; omega))
          clear h103 b103 H102 B_G102
          have HI3 : Hid (s7.i = s6.i + 1) := by
           show _ = _
           rw [← E_s7.out]; unfold stepF; rw [if_neg (is_kd E_b2.out)]
          go_wp2_with fail
          go_roundg m
          case measure => exact Nat.lt_succ_self _
          case rel => exact ⟨true, za, s7, f101, fs101, rfl, (fun _ => by have := HI3.out; have := HI2.out; have := HFU.out (by trivial); omega), by have := L5.out; omega, by rw [← Z_za.out, ← E_s7.out]; exact HPL3.out, B_G103.out, H103.out, G_s7.out⟩
       ·obtain ⟨s50, h_s50⟩ : ∃ s50, failF T s5 16 = s50 := ⟨_, rfl⟩
        have E_s50 := Lib.hid h_s50
        clear h_s50
        have G_s50 := Lib.hid (show Goes T s s50 from by have q := (G_s5.out.fail 16); rw [E_s50.out] at q; exact q)
        go_upto_region 16 with (fail)
        clear d5
        go_wp2_with fail
        refine (fail_eq E_s50.out HS.out.p).mono ?_
        rintro e w104 ⟨rfl, h104, b104⟩
        have H104 := Lib.hid (HS.out.call h104 b104)
        have B_G104 := Lib.hid (BX.out.but b104 (Nat.le_refl _) (by have := HS.out.r; omega))
        clear h104 b104 HS BX
        have d5 := B_G104.out.c5
        obtain ⟨y2, s6, h_s6⟩ : ∃ y2 s6, conF T r s50 = (y2, s6) := ⟨_, _, rfl⟩
        have E_s6 := Lib.hid h_s6
        clear h_s6
        have G_s6 := Lib.hid (show Goes T s s6 from by have q := G_s50.out.trans (goes_con E F (r := r) G_s50.out.lt); rw [E_s6.out] at q; exact q)
        obtain ⟨b2, h_b2⟩ : ∃ b2, isF T s6 [124] = b2 := ⟨_, rfl⟩
        have E_b2 := Lib.hid h_b2
        clear h_b2
        have HPL3 : Hid (cosL T r m b2 (y.add y2) (if b2 = true then stepF T s6 else s6) = rs2) := by
         show _ = _
         have q1 := HPL2.out
         rw [if_pos (by have := beq_iff_eq.1 ql; omega), E_s50.out, E_s6.out, E_b2.out] at q1; exact q1
        have HI2 : Hid (s5.i ≤ s6.i) := by
         show _ ≤ _
         have h1 : Goes T s50 s6 := by have q := goes_con E F (r := r) G_s50.out.lt; rw [E_s6.out] at q; exact q
         have h2 : Goes T s5 s50 := by have q := goes_fail G_s5.out.lt 16; rw [E_s50.out] at q; exact q
         have := h2.i; have := h1.i; omega
        clear HPL2
        go_upto_region 17 with (fail)
        clear d5
        have C105 := Lib.hid (fun wx (h : PAt wx R g c T s50) => gives_eq E_s6.out (con_any wx R g c T r n s50 E F D h (by rw [G_s50.out.deep]; exact HD.out)))
        go_cut [56] (fun _ wx => ∃ f2 fs2, Box wx G (w.heap.size + 1) (y.add y2) f2 fs2 ∧ St w wx R g c T s6)
        case first =>
         refine region_Z (fun W => W.cell? ⟨G, 5, none⟩ = some (.slice f5.ka y.ks.length f5.kc)) (fun i => decide (6 ≤ i ∧ i < 11)) (by kernel_rfl) B_G104.out.drew.c5 (fun hHeld => ?_)
         refine tkg 0 rfl (fun k hk => by have hk2 : 11 ≤ k := hk; simp; omega) (v := ?_) ?_ ?_; rotate_left
         ·(intro w hSw; (try dsimp only at hSw); go_simp; try with_reducible rfl)
         (try simp only [Act.put, sZ])
         refine tkg 1 rfl (fun k hk => by have hk2 : 11 ≤ k := hk; simp; omega) (v := ?_) ?_ ?_; rotate_left
         ·(intro w hSw; (try dsimp only at hSw); go_simp; try with_reducible rfl)
         (try simp only [Act.put, sZ])
         refine tkg 2 rfl (fun k hk => by have hk2 : 11 ≤ k := hk; simp; omega) (v := ?_) ?_ ?_; rotate_left
         ·(intro w hSw; (try dsimp only at hSw); go_simp; try with_reducible rfl)
         (try simp only [Act.put, sZ])
         refine tkg 4 rfl (fun k hk => by have hk2 : 11 ≤ k := hk; simp; omega) (v := ?_) ?_ ?_; rotate_left
         ·(intro w hSw; (try dsimp only at hSw); go_simp; try with_reducible rfl)
         (try simp only [Act.put, sZ])
         refine anyZ_split (i := 3) (j := 5) (by kernel_rfl) rfl rfl (fun K hK => ?_) (fun K hK => ?_)
         ·go_simp
          go_at_call 52
          refine (C105.out _ H104.out.drew.p).mono ?_
          rintro e wc ⟨fy, rfl, hpc, ny, bc⟩
          have HC := Lib.hid (H104.out.drew.call hpc bc)
          have BC := Lib.hid (B_G104.out.drew.but bc (Nat.le_refl _) (by have := H104.out.r; omega))
          have NY : Hid (NodeIn wc (fun a => w104.heap.size ≤ a) y2 fy) := ny
          clear hpc ny bc
          unfold ndV
          refine hK.out _ _ (fun _ => BC.out.c5) (fun hHeld2 => ?_)
          replace hHeld2 := hHeld2 (by decide)
          clear hK K hHeld
          (try simp only [Act.put, sZ])
          refine stp 5 rfl (fun K hK => ?_)
          go_simp
          refine hK.out _ _ (fun _ => (BC.out.alloc _).c5) (fun hHeld3 => ?_)
          clear hK K hHeld2 hHeld3
          (try simp only [Act.put, sZ])
          have HA := Lib.hid (HC.out.alloc (.cells #[.int .i64 0, .string ⟨#[]⟩, .int .i64 0, .int .i64 0, .slice none 0 0, .slice none 0 0] 25))
          have BA := Lib.hid (BC.out.alloc (.cells #[.int .i64 0, .string ⟨#[]⟩, .int .i64 0, .int .i64 0, .slice none 0 0, .slice none 0 0] 25))
          have NA := Lib.hid (NY.out.alloc (.cells #[.int .i64 0, .string ⟨#[]⟩, .int .i64 0, .int .i64 0, .slice none 0 0, .slice none 0 0] 25))
          have ZA : Hid (Whole (wc.alloc (.cells #[.int .i64 0, .string ⟨#[]⟩, .int .i64 0, .int .i64 0, .slice none 0 0, .slice none 0 0] 25)) wc.heap.size 25 #[.int .i64 0, .string ⟨#[]⟩, .int .i64 0, .int .i64 0, .slice none 0 0, .slice none 0 0]) := Whole.made _ _ _
          clear HC BC NY
          generalize wc.alloc (.cells #[.int .i64 0, .string ⟨#[]⟩, .int .i64 0, .int .i64 0, .slice none 0 0, .slice none 0 0] 25) = wa at *
          generalize wc.heap.size = Zb at *
          refine stp 6 rfl (fun K hK => ?_)
          refine step_app ty_nd (v := .slice f5.ka y.ks.length f5.kc) (by rfl) _ _ (by rfl) (by rfl) BA.out.kid Zb 1 [.int .i64 0, .string ⟨#[]⟩, .int .i64 0, .int .i64 0, .slice none 0 0, .slice none 0 0] (by rfl) ZA.out (by rfl) (by simp [Value.oneCell']) (by decide) (by omega) (by decide) (by have := HA.out.size; omega) ?_
          intro gv cv wd hap
          have KD := Lib.hid (kid_done rfl HA.out BA.out B_G104.out.lt B_G104.out.nlt B_G104.out.klt NA.out hap)
          have hln := flatL_len _ _ BA.out.len
          have ZC := Lib.hid (zero_cells hap (by rw [hln]; omega))
          rw [hln] at ZC
          have XD := Lib.hid (hap.far BA.out.box (row_ne BA.out.kid BA.out.kN))
          have hgn : gv ≠ G := KD.out.2.2
          have hgn2 : G ≠ gv := Ne.symm hgn
          have HGN := Lib.hid hgn
          have HGN2 := Lib.hid hgn2
          clear hln hgn hgn2 hap HA BA NA ZA
          refine hK.out _ _ (fun h => absurd h (by decide)) (fun _ => ?_)
          clear hK K
          (try simp only [Act.put, sZ])
          refine anyZ_free _ _ _ _ (by decide) ?_
          have hT : True := trivial
          have hix : (y.ks.length : Int) < (y.ks.length : Int) + 1 := by omega
          refine tkf 7 rfl (v := ?_) ?_ ?_; rotate_left
          ·(intro w hSw; (try dsimp only at hSw); go_simp; try with_reducible rfl)
          (try simp only [Act.put, sZ])
          refine tkf 9 rfl (v := ?_) ?_ ?_; rotate_left
          ·(intro w hSw; (try dsimp only at hSw); go_simp; try with_reducible rfl)
          (try simp only [Act.put, sZ])
          refine anyZ_split (i := 8) (j := 10) (by kernel_rfl) rfl rfl (fun K hK => ?_) (fun K hK => ?_)
          ·obtain ⟨u0, v0, u1, v1, u2, v2, u3, v3, u4, v4, u5, v5⟩ := zcA ZC.out
           go_simp
           refine hK.out _ _ (fun _ => trivial) (fun _ => ?_)
           clear hK K u0 u1 u2 u3 u4 u5 v0 v1 v2 v3 v4 v5
           have XK := Lib.hid (kid_whole XD.out HGN2.out (y.ks.length * 6) y2 fy)
           have c5 : (kidW wd gv (y.ks.length * 6) y2 fy).cell? ⟨G, 5, none⟩ = some (.slice f5.ka y.ks.length f5.kc) := XK.out.cell 5
           have v5 := XK.out.free 5
           change anyZ _ _ _ _ _ _ _ _ _ (kidW wd gv (y.ks.length * 6) y2 fy)
           generalize kidW wd gv (y.ks.length * 6) y2 fy = wk at *
           clear XK
           (try simp only [Act.put, sZ])
           refine stp 10 rfl (fun K hK => ?_)
           go_simp
           refine hK.out _ _ (fun _ => trivial) (fun _ => ?_)
           refine anyZ_done (by kernel_rfl) ?_ _
           clear hK K c5 v5
           go_wp2_with fail
           go_meet
           exact ⟨_, _, KD.out.1, KD.out.2.1⟩
          ·have c5 : wd.cell? ⟨G, 5, none⟩ = some (.slice f5.ka y.ks.length f5.kc) := XD.out.cell 5
           have v5 := XD.out.free 5
           go_simp
           refine hK.out _ _ (fun _ => trivial) (fun _ => ?_)
           clear hK K c5 v5
           obtain ⟨u0, v0, u1, v1, u2, v2, u3, v3, u4, v4, u5, v5⟩ := zcB (p := ⟨G, 5, none⟩) ZC.out HGN.out (.slice (some ⟨gv, 0, none⟩) (y.ks.length + 1) cv)
           have KD2 := Lib.hid (show Box (kidW (wd.setCell ⟨G, 5, none⟩ (.slice (some ⟨gv, 0, none⟩) (y.ks.length + 1) cv)) gv (y.ks.length * 6) y2 fy) G (w.heap.size + 1) (y.add y2) _ _ ∧ St w (kidW (wd.setCell ⟨G, 5, none⟩ (.slice (some ⟨gv, 0, none⟩) (y.ks.length + 1) cv)) gv (y.ks.length * 6) y2 fy) R g c T s6 from by rw [kid_comm _ HGN.out]; exact ⟨KD.out.1, KD.out.2.1⟩)
           clear KD
           generalize wd.setCell ⟨G, 5, none⟩ (.slice (some ⟨gv, 0, none⟩) (y.ks.length + 1) cv) = wk at *
           (try simp only [Act.put, sZ])
           refine stp 8 rfl (fun K hK => ?_)
           go_simp
           refine hK.out _ _ (fun _ => trivial) (fun _ => ?_)
           refine anyZ_done (by kernel_rfl) ?_ _
           clear hK K u0 u1 u2 u3 u4 u5 v0 v1 v2 v3 v4 v5
           go_wp2_with fail
           go_meet
           exact ⟨_, _, KD2.out.1, KD2.out.2⟩
         ·go_simp
          refine hK.out _ _ (fun _ => (B_G104.out.drew.alloc _).c5) (fun hHeld2 => ?_)
          replace hHeld2 := hHeld2 (by decide)
          clear hK K hHeld
          (try simp only [Act.put, sZ])
          refine stp 3 rfl (fun K hK => ?_)
          go_simp
          go_at_call 52
          refine (C105.out _ (H104.out.drew.alloc (.cells #[.int .i64 0, .string ⟨#[]⟩, .int .i64 0, .int .i64 0, .slice none 0 0, .slice none 0 0] 25)).p).mono ?_
          rintro e wc ⟨fy, rfl, hpc, ny, bc⟩
          have HA := Lib.hid ((H104.out.drew.alloc (.cells #[.int .i64 0, .string ⟨#[]⟩, .int .i64 0, .int .i64 0, .slice none 0 0, .slice none 0 0] 25)).call hpc bc)
          have BA := Lib.hid ((B_G104.out.drew.alloc (.cells #[.int .i64 0, .string ⟨#[]⟩, .int .i64 0, .int .i64 0, .slice none 0 0, .slice none 0 0] 25)).but bc (Nat.le_refl _) (by have := H104.out.r; omega))
          have NA : Hid (NodeIn wc (fun a => w104.heap.size ≤ a) y2 fy) := ny.mono fun a ha _ => by simp at ha; omega
          have ZA : Hid (Whole wc w104.heap.size 25 #[.int .i64 0, .string ⟨#[]⟩, .int .i64 0, .int .i64 0, .slice none 0 0, .slice none 0 0]) := bc.whole (Whole.made w104.drew 25 #[.int .i64 0, .string ⟨#[]⟩, .int .i64 0, .int .i64 0, .slice none 0 0, .slice none 0 0]) (by simp) (by have := H104.out.r; have := H104.out.size; simp; omega)
          clear hpc ny bc
          unfold ndV
          refine hK.out _ _ (fun _ => BA.out.c5) (fun hHeld3 => ?_)
          clear hK K hHeld2 hHeld3
          (try simp only [Act.put, sZ])
          refine stp 6 rfl (fun K hK => ?_)
          refine step_app ty_nd (v := .slice f5.ka y.ks.length f5.kc) (by rfl) _ _ (by rfl) (by rfl) BA.out.kid w104.heap.size 1 [.int .i64 0, .string ⟨#[]⟩, .int .i64 0, .int .i64 0, .slice none 0 0, .slice none 0 0] (by rfl) ZA.out (by rfl) (by simp [Value.oneCell']) (by decide) (by omega) (by decide) (by have := HA.out.size; omega) ?_
          intro gv cv wd hap
          have KD := Lib.hid (kid_done rfl HA.out BA.out B_G104.out.lt B_G104.out.nlt B_G104.out.klt NA.out hap)
          have hln := flatL_len _ _ BA.out.len
          have ZC := Lib.hid (zero_cells hap (by rw [hln]; omega))
          rw [hln] at ZC
          have XD := Lib.hid (hap.far BA.out.box (row_ne BA.out.kid BA.out.kN))
          have hgn : gv ≠ G := KD.out.2.2
          have hgn2 : G ≠ gv := Ne.symm hgn
          have HGN := Lib.hid hgn
          have HGN2 := Lib.hid hgn2
          clear hln hgn hgn2 hap HA BA NA ZA
          refine hK.out _ _ (fun h => absurd h (by decide)) (fun _ => ?_)
          clear hK K
          (try simp only [Act.put, sZ])
          refine anyZ_free _ _ _ _ (by decide) ?_
          have hT : True := trivial
          have hix : (y.ks.length : Int) < (y.ks.length : Int) + 1 := by omega
          refine tkf 7 rfl (v := ?_) ?_ ?_; rotate_left
          ·(intro w hSw; (try dsimp only at hSw); go_simp; try with_reducible rfl)
          (try simp only [Act.put, sZ])
          refine tkf 9 rfl (v := ?_) ?_ ?_; rotate_left
          ·(intro w hSw; (try dsimp only at hSw); go_simp; try with_reducible rfl)
          (try simp only [Act.put, sZ])
          refine anyZ_split (i := 8) (j := 10) (by kernel_rfl) rfl rfl (fun K hK => ?_) (fun K hK => ?_)
          ·obtain ⟨u0, v0, u1, v1, u2, v2, u3, v3, u4, v4, u5, v5⟩ := zcA ZC.out
           go_simp
           refine hK.out _ _ (fun _ => trivial) (fun _ => ?_)
           clear hK K u0 u1 u2 u3 u4 u5 v0 v1 v2 v3 v4 v5
           have XK := Lib.hid (kid_whole XD.out HGN2.out (y.ks.length * 6) y2 fy)
           have c5 : (kidW wd gv (y.ks.length * 6) y2 fy).cell? ⟨G, 5, none⟩ = some (.slice f5.ka y.ks.length f5.kc) := XK.out.cell 5
           have v5 := XK.out.free 5
           change anyZ _ _ _ _ _ _ _ _ _ (kidW wd gv (y.ks.length * 6) y2 fy)
           generalize kidW wd gv (y.ks.length * 6) y2 fy = wk at *
           clear XK
           (try simp only [Act.put, sZ])
           refine stp 10 rfl (fun K hK => ?_)
           go_simp
           refine hK.out _ _ (fun _ => trivial) (fun _ => ?_)
           refine anyZ_done (by kernel_rfl) ?_ _
           clear hK K c5 v5
           go_wp2_with fail
           go_meet
           exact ⟨_, _, KD.out.1, KD.out.2.1⟩
          ·have c5 : wd.cell? ⟨G, 5, none⟩ = some (.slice f5.ka y.ks.length f5.kc) := XD.out.cell 5
           have v5 := XD.out.free 5
           go_simp
           refine hK.out _ _ (fun _ => trivial) (fun _ => ?_)
           clear hK K c5 v5
           obtain ⟨u0, v0, u1, v1, u2, v2, u3, v3, u4, v4, u5, v5⟩ := zcB (p := ⟨G, 5, none⟩) ZC.out HGN.out (.slice (some ⟨gv, 0, none⟩) (y.ks.length + 1) cv)
           have KD2 := Lib.hid (show Box (kidW (wd.setCell ⟨G, 5, none⟩ (.slice (some ⟨gv, 0, none⟩) (y.ks.length + 1) cv)) gv (y.ks.length * 6) y2 fy) G (w.heap.size + 1) (y.add y2) _ _ ∧ St w (kidW (wd.setCell ⟨G, 5, none⟩ (.slice (some ⟨gv, 0, none⟩) (y.ks.length + 1) cv)) gv (y.ks.length * 6) y2 fy) R g c T s6 from by rw [kid_comm _ HGN.out]; exact ⟨KD.out.1, KD.out.2.1⟩)
           clear KD
           generalize wd.setCell ⟨G, 5, none⟩ (.slice (some ⟨gv, 0, none⟩) (y.ks.length + 1) cv) = wk at *
           (try simp only [Act.put, sZ])
           refine stp 8 rfl (fun K hK => ?_)
           go_simp
           refine hK.out _ _ (fun _ => trivial) (fun _ => ?_)
           refine anyZ_done (by kernel_rfl) ?_ _
           clear hK K u0 u1 u2 u3 u4 u5 v0 v1 v2 v3 v4 v5
           go_wp2_with fail
           go_meet
           exact ⟨_, _, KD2.out.1, KD2.out.2⟩
        case rest =>
         obtain ⟨f105, fs105, hbx, hlo⟩ := hcut
         have B_G105 := Lib.hid hbx
         have H105 := Lib.hid hlo
         clear hbx hlo C105 B_G104 H104
         obtain ⟨za, h_za⟩ : ∃ z9, (y.add y2) = z9 := ⟨_, rfl⟩
         rw [h_za] at B_G105
         have Z_za := Lib.hid h_za
         clear h_za
         have l5 : za.ks.length = y.ks.length + 1 := by rw [← Z_za.out, add_ks]; simp
         have L5 := Lib.hid l5
         clear l5
         go_wp2_with fail
         refine (is_eq E_b2.out H105.out.p).mono ?_
         rintro e w106 ⟨rfl, b106⟩
         have H106 := Lib.hid (H105.out.read b106)
         have B_G106 := Lib.hid (B_G105.out.below b106 (Nat.le_refl _))
         clear b106 H105 B_G105
         rcases b2 with _ | _
         ·go_wp2_with fail
          go_roundg m
          case measure => exact Nat.lt_succ_self _
          case rel => exact ⟨false, za, s6, f105, fs105, rfl, (fun h => by cases h), by have := L5.out; omega, by rw [← Z_za.out]; exact HPL3.out, B_G106.out, H106.out, G_s6.out⟩
         ·obtain ⟨t3, h_t3⟩ : ∃ t3, stepT T s6 = t3 := ⟨_, rfl⟩
          have E_t3 := Lib.hid h_t3
          clear h_t3
          obtain ⟨s7, h_s7⟩ : ∃ s7, stepF T s6 = s7 := ⟨_, rfl⟩
          have E_s7 := Lib.hid h_s7
          clear h_s7
          have G_s7 := Lib.hid (show Goes T s s7 from by have q := (G_s6.out.step E); rw [E_s7.out] at q; exact q)
          go_upto_region 20 with (fail)
          go_wp2_with fail
          refine (step_eq E E_t3.out E_s7.out H106.out.p).mono ?_
          rintro e w107 ⟨rfl, h107, b107⟩
          have H107 := Lib.hid (H106.out.call h107 b107)
          have B_G107 := Lib.hid (B_G106.out.but b107 (Nat.le_refl _) (by have := H106.out.r; omega))
          clear h107 b107 H106 B_G106
          have HI3 : Hid (s7.i = s6.i + 1) := by
           show _ = _
           rw [← E_s7.out]; unfold stepF; rw [if_neg (is_kd E_b2.out)]
          go_wp2_with fail
          go_roundg m
          case measure => exact Nat.lt_succ_self _
          case rel => exact ⟨true, za, s7, f105, fs105, rfl, (fun _ => by have := HI3.out; have := HI2.out; have := HFU.out (by trivial); omega), by have := L5.out; omega, by rw [← Z_za.out, ← E_s7.out]; exact HPL3.out, B_G107.out, H107.out, G_s7.out⟩
   case rest =>
    obtain ⟨y, s5, f5, fs5, hres, h5, b5, g5⟩ := hcut
    have H191 := Lib.hid h5
    have B191 := Lib.hid b5
    have hq := HQ5.out
    rw [hres] at hq
    have HQ6 := Lib.hid hq
    clear hq HQ5 HRS2 hres h5 b5 g5 B_G93 H93
    obtain ⟨s6, h_s6⟩ : ∃ s6, wantF T s5 [59] = s6 := ⟨_, rfl⟩
    have E_s6 := Lib.hid h_s6
    clear h_s6
    have hq : (y, s6) = q := by rw [← E_s6.out]; exact HQ6.out
    subst hq
    clear HQ6
    go_wp2_with fail
    refine (want_eq E E_s6.out H191.out.p).mono ?_
    rintro e w193 ⟨rfl, h193, b193⟩
    have H193 := Lib.hid (H191.out.call h193 b193)
    have B_G193 := Lib.hid (B191.out.but b193 (Nat.le_refl _) (by have := H191.out.r; omega))
    clear h193 b193 H191 B191
    obtain ⟨t0, t1, t2, t3, t4, t5⟩ := nodeC (B_G193.out.box)
    obtain ⟨z0, z1, z2, z3, z4, z5⟩ := zeroC (H193.out.z)
    obtain ⟨y0, y1, y2, y3, y4, y5⟩ := freeC (H193.out.z)
    go_wp2_with fail
    obtain ⟨wf, HZF, HBF, hwf⟩ := endsN (H193.out.z) y f5
    rw [hwf]
    clear hwf
    obtain ⟨g0, g1, g2, g3, g4, g5⟩ := cells6 HZF.out
    exact bodyPost_ret (v := ndV y f5) (by simp [results, Try.results37, go_sem, ndV, Nd.kd, Nd.tx, Nd.nm, Nd.at_, Nd.ns, Nd.ks, leafN, fr0, nd0, g0, g1, g2, g3, g4, g5]) rfl (H193.out.done B_G193.out.var.node HBF.out)
end Go.Proofs.Ytgjchgmlogbmmaa
