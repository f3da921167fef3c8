/- A part of the proofs of chapter 11, squeezed, merged and shrunk by group.py: GWalkL GNd. -/
import Derived.Test.YtgjchgmlogbmmaaR1
import Derived.KernelRfl
import Derived.Test.YtgjchgmlogbmmaaR4
/- The walks of layer 5, the document's: products, sums and comparisons. -/
namespace Go.Proofs.Ytgjchgmlogbmmaa
open Go.RowKit
set_option linter.unusedVariables false
set_option linter.unusedSimpArgs false
attribute [local go_sem ↓] Go.wp_at_zero Go.wp_at_succ

set_option maxRecDepth 100000 in
set_option maxHeartbeats 8000000 in
theorem prod_any (w : World) (R g c : Nat) (T : List Tok) (r : Rec) (n : Nat) (s : PS) (E : Ends T) (F : Fine T r) (CA : ∀ (w : World) (s : PS), PAt w R g c T s → 41 ≤ s.deep + n → Calls Try.prog 79 #[.pointer (some ⟨R, 0, none⟩)] w (Gives w R g c T (appF T r s))) (hp : PAt w R g c T s) (hd : 41 ≤ s.deep + n) :
  Calls Try.prog 78 #[.pointer (some ⟨R, 0, none⟩)] w (Gives w R g c T (prodF T r s)) := by
 have H0 := Lib.hid (St.start hp)
 have HD := Lib.hid hd
 have HL := Lib.hid hp.lt
 have G_s := Lib.hid (Goes.refl hp.lt)
 clear hp hd
 obtain ⟨q, hq⟩ : ∃ q, prodF T r s = q := ⟨_, rfl⟩
 rw [hq]
 have HQ := Lib.hid hq
 clear hq
 obtain ⟨x, s2, h_s2⟩ : ∃ x s2, appF T r s = (x, s2) := ⟨_, _, rfl⟩
 have E_s2 := Lib.hid h_s2
 clear h_s2
 have G_s2 := Lib.hid (show Goes T s s2 from by have q := (goes_app E F HL.out); rw [E_s2.out] at q; exact q)
 obtain ⟨op, h_op⟩ : ∃ op, opF T s2 [42] [47] [37] = op := ⟨_, rfl⟩
 have E_op := Lib.hid h_op
 clear h_op
 have HQ2 : Hid (prodL T r (T.length + 1) x s2 = q) := by
  show _ = _
  rw [← HQ.out]; unfold prodF; rw [E_s2.out]
 clear HQ
 go_enter Try.func78, Try.ntmps78
 go_upto_region 1 with (fail)
 generalize w.alloc (.cells #[.int .i64 0, .string ⟨#[]⟩, .int .i64 0, .int .i64 0, .slice none 0 0, .slice none 0 0] 25) = w1 at *
 go_wp2_with fail
 refine (gives_eq E_s2.out (CA w1 s H0.out.p HD.out)).mono ?_
 rintro e w2 ⟨f, rfl, h2, n2, b2⟩
 have N_x2 := Lib.hid (n2.gt H0.out)
 have H2 := Lib.hid (H0.out.call h2 b2)
 clear h2 b2 H0 n2
 unfold ndV
 have S_G : Hid (w.heap.size < w2.heap.size) := H2.out.size
 have H3 := Lib.hid (H2.out.alloc (.cells #[.int .i64 x.kd, .string ⟨x.tx.toArray⟩, .int .i64 x.nm, .int .i64 (x.at_ : Int), .slice f.na x.ns.length f.nc, .slice f.ka x.ks.length f.kc] 25))
 have N_x3 := Lib.hid (N_x2.out.alloc (.cells #[.int .i64 x.kd, .string ⟨x.tx.toArray⟩, .int .i64 x.nm, .int .i64 (x.at_ : Int), .slice f.na x.ns.length f.nc, .slice f.ka x.ks.length f.kc] 25))
 have V_G3 : Hid (Var w (w2.alloc (.cells #[.int .i64 x.kd, .string ⟨x.tx.toArray⟩, .int .i64 x.nm, .int .i64 (x.at_ : Int), .slice f.na x.ns.length f.nc, .slice f.ka x.ks.length f.kc] 25)) w2.heap.size x f) := Var.made H2.out N_x2.out
 go_upto_region 2 with (fail)
 generalize w2.alloc (.cells #[.int .i64 x.kd, .string ⟨x.tx.toArray⟩, .int .i64 x.nm, .int .i64 (x.at_ : Int), .slice f.na x.ns.length f.nc, .slice f.ka x.ks.length f.kc] 25) = w3 at *
 generalize w2.heap.size = G at *
 clear H2 N_x2
 go_wp2_with fail
 refine (op_eq E_op.out H3.out.p).mono ?_
 rintro e w4 ⟨rfl, b4⟩
 have H4 := Lib.hid (H3.out.read b4)
 have V_G4 := Lib.hid (V_G3.out.later b4 (Nat.le_refl _))
 clear b4 H3 V_G3
 go_upto_block 0 with (fail)
 go_cut [4] (fun _ wx => ∃ z s3 f3, q = (z, s3) ∧ St w wx R g c T s3 ∧ Var w wx G z f3)
 case first =>
  go_wp2_with fail
  go_loopg [4] (T.length + 1) (fun gk mo wr => ∃ o z s3 f3, mo = .string ⟨o.toArray⟩ ∧ opF T s3 [42] [47] [37] = o ∧ T.length + 1 ≤ gk + s3.i ∧ prodL T r gk z s3 = q ∧ Var w wr G z f3 ∧ St w wr R g c T s3 ∧ Goes T s s3)
  case atStart => exact ⟨op, x, s2, f, rfl, E_op.out, by omega, HQ2.out, V_G4.out, H4.out, G_s2.out⟩
  case round =>
   obtain ⟨o, z, s3, f3, rfl, ho, hz, hpl, hbx, hst, hgo⟩ := hrel
   obtain ⟨m, rfl⟩ : ∃ m, gk = m + 1 := ⟨gk - 1, by have := hgo.lt; omega⟩
   have VX := Lib.hid hbx
   have HS := Lib.hid hst
   have G_s3 := Lib.hid hgo
   have HO := Lib.hid ho
   have HPL := Lib.hid (show (if opF T s3 [42] [47] [37] = [] then (z, s3) else prodL T r m (binN (opF T s3 [42] [47] [37]) z (appF T r (stepF T s3)).1) (appF T r (stepF T s3)).2) = q from hpl)
   clear hbx hst hgo hpl ho HQ2 E_op V_G4 H4
   rcases o with _ | ⟨o1, o2⟩
   ·have hr := (if_pos HO.out).symm.trans HPL.out
    subst hr
    clear HPL
    go_wp2_with fail
    go_meet
    exact ⟨z, s3, f3, rfl, HS.out, VX.out⟩
   ·have HN : Hid (opF T s3 [42] [47] [37] ≠ []) := fun h => by rw [HO.out] at h; cases h
    have HK := Lib.hid (op_kd HN.out)
    have HPL2 := Lib.hid ((if_neg HN.out).symm.trans HPL.out)
    clear HPL
    obtain ⟨t, h_t⟩ : ∃ t, stepT T s3 = t := ⟨_, rfl⟩
    have E_t := Lib.hid h_t
    clear h_t
    obtain ⟨s4, h_s4⟩ : ∃ s4, stepF T s3 = s4 := ⟨_, rfl⟩
    have E_s4 := Lib.hid h_s4
    clear h_s4
    have HI : Hid (s4.i = s3.i + 1) := by
     show _ = _
     rw [← E_s4.out]; unfold stepF; rw [if_neg HK.out]
    have G_s4 := Lib.hid (show Goes T s s4 from by have q := (G_s3.out.step E); rw [E_s4.out] at q; exact q)
    obtain ⟨y, s5, h_s5⟩ : ∃ y s5, appF T r s4 = (y, s5) := ⟨_, _, rfl⟩
    have E_s5 := Lib.hid h_s5
    clear h_s5
    have G_s5 := Lib.hid (show Goes T s s5 from by have q := G_s4.out.app E F; rw [E_s5.out] at q; exact q)
    obtain ⟨p2, h_p2⟩ : ∃ p2, opF T s5 [42] [47] [37] = p2 := ⟨_, rfl⟩
    have E_p2 := Lib.hid h_p2
    clear h_p2
    have HPL3 : Hid (prodL T r m (.mk 13 (o1 :: o2) 0 z.at_ [] [z, y]) s5 = q) := by
     show _ = _
     have q1 := HPL2.out
     rw [HO.out, E_s4.out, E_s5.out] at q1; exact q1
    have HI2 : Hid (s3.i + 1 ≤ s5.i) := by
     show _ ≤ _
     have h1 : Goes T s4 s5 := by have q := goes_app E F (r := r) G_s4.out.lt; rw [E_s5.out] at q; exact q
     have := h1.i; have := HI.out; omega
    clear HPL2 HN HO
    go_upto_region 4 with (fail)
    go_wp2_with fail
    refine (step_eq E E_t.out E_s4.out HS.out.p).mono ?_
    rintro e w31 ⟨rfl, h31, b31⟩
    have H31 := Lib.hid (HS.out.call h31 b31)
    have V_G31 := Lib.hid (VX.out.call HS.out b31)
    clear h31 b31 HS VX
    go_upto_region 5 with (fail)
    have C32 := Lib.hid (fun wx (h : PAt wx R g c T s4) => gives_eq E_s5.out (CA wx s4 h (by rw [G_s4.out.deep]; exact HD.out)))
    refine region_Z (fun W => Whole W G 25 (ndL z f3).toArray) (fun i => i == 8) (by kernel_rfl) V_G31.out.drew.X (fun hHeld => ?_)
    refine tke 0 rfl (v := ?_) ?_ ?_; rotate_left
    ·(intro w hSw; (try dsimp only at hSw); have u0 := hSw.cell 0; have u1 := hSw.cell 1; have u2 := hSw.cell 2; have u3 := hSw.cell 3; have u4 := hSw.cell 4; have u5 := hSw.cell 5; simp only [ndL, List.getElem?_toArray, List.getElem?_cons_zero, List.getElem?_cons_succ] at u0 u1 u2 u3 u4 u5; clear hSw; go_simp; try with_reducible rfl)
    (try simp only [Act.put, sZ])
    refine tke 1 rfl (v := ?_) ?_ ?_; rotate_left
    ·(intro w hSw; (try dsimp only at hSw); have u0 := hSw.cell 0; have u1 := hSw.cell 1; have u2 := hSw.cell 2; have u3 := hSw.cell 3; have u4 := hSw.cell 4; have u5 := hSw.cell 5; simp only [ndL, List.getElem?_toArray, List.getElem?_cons_zero, List.getElem?_cons_succ] at u0 u1 u2 u3 u4 u5; clear hSw; go_simp; try with_reducible rfl)
    (try simp only [Act.put, sZ])
    refine tke 2 rfl (v := ?_) ?_ ?_; rotate_left
    ·(intro w hSw; (try dsimp only at hSw); have u0 := hSw.cell 0; have u1 := hSw.cell 1; have u2 := hSw.cell 2; have u3 := hSw.cell 3; have u4 := hSw.cell 4; have u5 := hSw.cell 5; simp only [ndL, List.getElem?_toArray, List.getElem?_cons_zero, List.getElem?_cons_succ] at u0 u1 u2 u3 u4 u5; clear hSw; go_simp; try with_reducible rfl)
    (try simp only [Act.put, sZ])
    refine tke 3 rfl (v := ?_) ?_ ?_; rotate_left
    ·(intro w hSw; (try dsimp only at hSw); have u0 := hSw.cell 0; have u1 := hSw.cell 1; have u2 := hSw.cell 2; have u3 := hSw.cell 3; have u4 := hSw.cell 4; have u5 := hSw.cell 5; simp only [ndL, List.getElem?_toArray, List.getElem?_cons_zero, List.getElem?_cons_succ] at u0 u1 u2 u3 u4 u5; clear hSw; go_simp; try with_reducible rfl)
    (try simp only [Act.put, sZ])
    refine tke 4 rfl (v := ?_) ?_ ?_; rotate_left
    ·(intro w hSw; (try dsimp only at hSw); have u0 := hSw.cell 0; have u1 := hSw.cell 1; have u2 := hSw.cell 2; have u3 := hSw.cell 3; have u4 := hSw.cell 4; have u5 := hSw.cell 5; simp only [ndL, List.getElem?_toArray, List.getElem?_cons_zero, List.getElem?_cons_succ] at u0 u1 u2 u3 u4 u5; clear hSw; go_simp; try with_reducible rfl)
    (try simp only [Act.put, sZ])
    refine stp 5 rfl (fun K hK => ?_)
    go_simp
    go_at_call 79
    refine (C32.out _ H31.out.drew.p).mono ?_
    rintro e wc ⟨fy, rfl, hpc, ny, bc⟩
    have HC := Lib.hid (H31.out.drew.call hpc bc)
    have VC := Lib.hid (V_G31.out.drew.call H31.out.drew bc)
    have NY := Lib.hid (ny.new H31.out.drew V_G31.out.drew)
    clear hpc ny bc
    unfold ndV
    refine hK.out _ _ (fun _ => VC.out.X) (fun hHeld2 => ?_)
    replace hHeld2 := hHeld2 (by decide)
    clear hK K hHeld
    (try simp only [Act.put, sZ])
    refine stp 6 rfl (fun K hK => ?_)
    go_simp
    refine hK.out _ _ (fun _ => (VC.out.alloc (.cells #[.int .i64 z.kd, .string ⟨z.tx.toArray⟩, .int .i64 z.nm, .int .i64 (z.at_ : Int), .slice f3.na z.ns.length f3.nc, .slice f3.ka z.ks.length f3.kc, .int .i64 y.kd, .string ⟨y.tx.toArray⟩, .int .i64 y.nm, .int .i64 (y.at_ : Int), .slice fy.na y.ns.length fy.nc, .slice fy.ka y.ks.length fy.kc] 25)).X) (fun hHeld3 => ?_)
    replace hHeld3 := hHeld3 (by decide)
    clear hK K hHeld2
    (try simp only [Act.put, sZ])
    refine tke 7 rfl (v := ?_) ?_ ?_; rotate_left
    ·(intro w hSw; (try dsimp only at hSw); have u0 := hSw.cell 0; have u1 := hSw.cell 1; have u2 := hSw.cell 2; have u3 := hSw.cell 3; have u4 := hSw.cell 4; have u5 := hSw.cell 5; simp only [ndL, List.getElem?_toArray, List.getElem?_cons_zero, List.getElem?_cons_succ] at u0 u1 u2 u3 u4 u5; clear hSw; go_simp; try with_reducible rfl)
    (try simp only [Act.put, sZ])
    have VP : Var w (((((((wc.alloc (.cells #[.int .i64 z.kd, .string ⟨z.tx.toArray⟩, .int .i64 z.nm, .int .i64 (z.at_ : Int), .slice f3.na z.ns.length f3.nc, .slice f3.ka z.ks.length f3.kc, .int .i64 y.kd, .string ⟨y.tx.toArray⟩, .int .i64 y.nm, .int .i64 (y.at_ : Int), .slice fy.na y.ns.length fy.nc, .slice fy.ka y.ks.length fy.kc] 25)).setCell ⟨G, 0, none⟩ (.int .i64 13)).setCell ⟨G, 1, none⟩ (.string ⟨(o1 :: o2).toArray⟩)).setCell ⟨G, 2, none⟩ (.int .i64 0)).setCell ⟨G, 3, none⟩ (.int .i64 (z.at_ : Int))).setCell ⟨G, 4, none⟩ (.slice none 0 0)).setCell ⟨G, 5, none⟩ (.slice (some ⟨wc.heap.size, 0, none⟩) 2 2)) G (.mk 13 (o1 :: o2) 0 z.at_ [] [z, y]) ⟨none, 0, some ⟨wc.heap.size, 0, none⟩, 2⟩ := (VC.out.pair HC.out NY.out 13 (o1 :: o2) z.at_).1
    have V_G32 := Lib.hid VP
    have HP1 : St w (((((((wc.alloc (.cells #[.int .i64 z.kd, .string ⟨z.tx.toArray⟩, .int .i64 z.nm, .int .i64 (z.at_ : Int), .slice f3.na z.ns.length f3.nc, .slice f3.ka z.ks.length f3.kc, .int .i64 y.kd, .string ⟨y.tx.toArray⟩, .int .i64 y.nm, .int .i64 (y.at_ : Int), .slice fy.na y.ns.length fy.nc, .slice fy.ka y.ks.length fy.kc] 25)).setCell ⟨G, 0, none⟩ (.int .i64 13)).setCell ⟨G, 1, none⟩ (.string ⟨(o1 :: o2).toArray⟩)).setCell ⟨G, 2, none⟩ (.int .i64 0)).setCell ⟨G, 3, none⟩ (.int .i64 (z.at_ : Int))).setCell ⟨G, 4, none⟩ (.slice none 0 0)).setCell ⟨G, 5, none⟩ (.slice (some ⟨wc.heap.size, 0, none⟩) 2 2)) R g c T _ := (VC.out.pair HC.out NY.out 13 (o1 :: o2) z.at_).2
    have H32 := Lib.hid HP1
    have VA : Var w (wc.alloc (.cells #[.int .i64 z.kd, .string ⟨z.tx.toArray⟩, .int .i64 z.nm, .int .i64 (z.at_ : Int), .slice f3.na z.ns.length f3.nc, .slice f3.ka z.ks.length f3.kc, .int .i64 y.kd, .string ⟨y.tx.toArray⟩, .int .i64 y.nm, .int .i64 (y.at_ : Int), .slice fy.na y.ns.length fy.nc, .slice fy.ka y.ks.length fy.kc] 25)) G z f3 := VC.out.alloc _
    clear VP HP1 VC HC NY hHeld3
    generalize wc.alloc (.cells #[.int .i64 z.kd, .string ⟨z.tx.toArray⟩, .int .i64 z.nm, .int .i64 (z.at_ : Int), .slice f3.na z.ns.length f3.nc, .slice f3.ka z.ks.length f3.kc, .int .i64 y.kd, .string ⟨y.tx.toArray⟩, .int .i64 y.nm, .int .i64 (y.at_ : Int), .slice fy.na y.ns.length fy.nc, .slice fy.ka y.ks.length fy.kc] 25) = wq at *
    have u0 := VA.X.cell 0
    have u1 := VA.X.cell 1
    have u2 := VA.X.cell 2
    have u3 := VA.X.cell 3
    have u4 := VA.X.cell 4
    have u5 := VA.X.cell 5
    have v0 := VA.X.free 0
    have v1 := VA.X.free 1
    have v2 := VA.X.free 2
    have v3 := VA.X.free 3
    have v4 := VA.X.free 4
    have v5 := VA.X.free 5
    simp only [ndL, List.getElem?_toArray, List.getElem?_cons_zero, List.getElem?_cons_succ] at u0 u1 u2 u3 u4 u5
    clear VA
    refine stp 8 rfl (fun K hK => ?_)
    go_simp
    refine hK.out _ _ (fun h => absurd h (by decide)) (fun _ => ?_)
    refine anyZ_done (by kernel_rfl) ?_ _
    clear hK K v0 v1 v2 v3 v4 v5 u0 u1 u2 u3 u4 u5
    obtain ⟨fw32, qf⟩ : ∃ f, (⟨none, 0, some ⟨wc.heap.size, 0, none⟩, 2⟩ : Fr) = f := ⟨_, rfl⟩
    rw [qf] at V_G32
    clear qf
    generalize ((((((wq.setCell ⟨G, 0, none⟩ (.int .i64 13)).setCell ⟨G, 1, none⟩ (.string ⟨(o1 :: o2).toArray⟩)).setCell ⟨G, 2, none⟩ (.int .i64 0)).setCell ⟨G, 3, none⟩ (.int .i64 (z.at_ : Int))).setCell ⟨G, 4, none⟩ (.slice none 0 0)).setCell ⟨G, 5, none⟩ (.slice (some ⟨wc.heap.size, 0, none⟩) 2 2)) = w32 at *
    clear C32 H31 V_G31
    go_wp2_with fail
    refine (op_eq E_p2.out H32.out.p).mono ?_
    rintro e w33 ⟨rfl, b33⟩
    have H33 := Lib.hid (H32.out.read b33)
    have V_G33 := Lib.hid (V_G32.out.later b33 (Nat.le_refl _))
    clear b33 H32 V_G32
    go_wp2_with fail
    go_roundg m
    case measure => exact Nat.lt_succ_self _
    case rel => exact ⟨p2, _, s5, _, rfl, E_p2.out, by have := HI2.out; omega, HPL3.out, V_G33.out, H33.out, G_s5.out⟩
 case rest =>
  obtain ⟨z, s3, f3, hq, h5, b5⟩ := hcut
  subst hq
  have H5 := Lib.hid h5
  have V5 := Lib.hid b5
  clear HQ2 h5 b5 E_op V_G4 H4
  obtain ⟨t0, t1, t2, t3, t4, t5⟩ := nodeC (V5.out.X)
  obtain ⟨z0, z1, z2, z3, z4, z5⟩ := zeroC (H5.out.z)
  obtain ⟨y0, y1, y2, y3, y4, y5⟩ := freeC (H5.out.z)
  go_wp2_with fail
  obtain ⟨wf, HZF, HBF, hwf⟩ := endsN (H5.out.z) z f3
  rw [hwf]
  clear hwf
  obtain ⟨g0, g1, g2, g3, g4, g5⟩ := cells6 HZF.out
  exact bodyPost_ret (v := ndV z f3) (by simp [results, Try.results78, go_sem, ndV, Nd.kd, Nd.tx, Nd.nm, Nd.at_, Nd.ns, Nd.ks, leafN, fr0, nd0, g0, g1, g2, g3, g4, g5]) rfl (H5.out.done V5.out.node HBF.out)
set_option maxRecDepth 100000 in
set_option maxHeartbeats 8000000 in
theorem sum_any (w : World) (R g c : Nat) (T : List Tok) (r : Rec) (n : Nat) (s : PS) (E : Ends T) (F : Fine T r) (CA : ∀ (w : World) (s : PS), PAt w R g c T s → 41 ≤ s.deep + n → Calls Try.prog 78 #[.pointer (some ⟨R, 0, none⟩)] w (Gives w R g c T (prodF T r s))) (hp : PAt w R g c T s) (hd : 41 ≤ s.deep + n) :
  Calls Try.prog 75 #[.pointer (some ⟨R, 0, none⟩)] w (Gives w R g c T (sumF T r s)) := by
 have H0 := Lib.hid (St.start hp)
 have HD := Lib.hid hd
 have HL := Lib.hid hp.lt
 have G_s := Lib.hid (Goes.refl hp.lt)
 clear hp hd
 obtain ⟨q, hq⟩ : ∃ q, sumF T r s = q := ⟨_, rfl⟩
 rw [hq]
 have HQ := Lib.hid hq
 clear hq
 obtain ⟨x, s2, h_s2⟩ : ∃ x s2, prodF T r s = (x, s2) := ⟨_, _, rfl⟩
 have E_s2 := Lib.hid h_s2
 clear h_s2
 have G_s2 := Lib.hid (show Goes T s s2 from by have q := (goes_prod E F HL.out); rw [E_s2.out] at q; exact q)
 obtain ⟨op, h_op⟩ : ∃ op, opF T s2 [43] [45] [94] = op := ⟨_, rfl⟩
 have E_op := Lib.hid h_op
 clear h_op
 have HQ2 : Hid (sumL T r (T.length + 1) x s2 = q) := by
  show _ = _
  rw [← HQ.out]; unfold sumF; rw [E_s2.out]
 clear HQ
 go_enter Try.func75, Try.ntmps75
 go_upto_region 1 with (fail)
 generalize w.alloc (.cells #[.int .i64 0, .string ⟨#[]⟩, .int .i64 0, .int .i64 0, .slice none 0 0, .slice none 0 0] 25) = w1 at *
 go_wp2_with fail
 refine (gives_eq E_s2.out (CA w1 s H0.out.p HD.out)).mono ?_
 rintro e w2 ⟨f, rfl, h2, n2, b2⟩
 have N_x2 := Lib.hid (n2.gt H0.out)
 have H2 := Lib.hid (H0.out.call h2 b2)
 clear h2 b2 H0 n2
 unfold ndV
 have S_G : Hid (w.heap.size < w2.heap.size) := H2.out.size
 have H3 := Lib.hid (H2.out.alloc (.cells #[.int .i64 x.kd, .string ⟨x.tx.toArray⟩, .int .i64 x.nm, .int .i64 (x.at_ : Int), .slice f.na x.ns.length f.nc, .slice f.ka x.ks.length f.kc] 25))
 have N_x3 := Lib.hid (N_x2.out.alloc (.cells #[.int .i64 x.kd, .string ⟨x.tx.toArray⟩, .int .i64 x.nm, .int .i64 (x.at_ : Int), .slice f.na x.ns.length f.nc, .slice f.ka x.ks.length f.kc] 25))
 have V_G3 : Hid (Var w (w2.alloc (.cells #[.int .i64 x.kd, .string ⟨x.tx.toArray⟩, .int .i64 x.nm, .int .i64 (x.at_ : Int), .slice f.na x.ns.length f.nc, .slice f.ka x.ks.length f.kc] 25)) w2.heap.size x f) := Var.made H2.out N_x2.out
 go_upto_region 2 with (fail)
 generalize w2.alloc (.cells #[.int .i64 x.kd, .string ⟨x.tx.toArray⟩, .int .i64 x.nm, .int .i64 (x.at_ : Int), .slice f.na x.ns.length f.nc, .slice f.ka x.ks.length f.kc] 25) = w3 at *
 generalize w2.heap.size = G at *
 clear H2 N_x2
 go_wp2_with fail
 refine (op_eq E_op.out H3.out.p).mono ?_
 rintro e w4 ⟨rfl, b4⟩
 have H4 := Lib.hid (H3.out.read b4)
 have V_G4 := Lib.hid (V_G3.out.later b4 (Nat.le_refl _))
 clear b4 H3 V_G3
 go_upto_block 0 with (fail)
 go_cut [4] (fun _ wx => ∃ z s3 f3, q = (z, s3) ∧ St w wx R g c T s3 ∧ Var w wx G z f3)
 case first =>
  go_wp2_with fail
  go_loopg [4] (T.length + 1) (fun gk mo wr => ∃ o z s3 f3, mo = .string ⟨o.toArray⟩ ∧ opF T s3 [43] [45] [94] = o ∧ T.length + 1 ≤ gk + s3.i ∧ sumL T r gk z s3 = q ∧ Var w wr G z f3 ∧ St w wr R g c T s3 ∧ Goes T s s3)
  case atStart => exact ⟨op, x, s2, f, rfl, E_op.out, by omega, HQ2.out, V_G4.out, H4.out, G_s2.out⟩
  case round =>
   obtain ⟨o, z, s3, f3, rfl, ho, hz, hpl, hbx, hst, hgo⟩ := hrel
   obtain ⟨m, rfl⟩ : ∃ m, gk = m + 1 := ⟨gk - 1, by have := hgo.lt; omega⟩
   have VX := Lib.hid hbx
   have HS := Lib.hid hst
   have G_s3 := Lib.hid hgo
   have HO := Lib.hid ho
   have HPL := Lib.hid (show (if opF T s3 [43] [45] [94] = [] then (z, s3) else sumL T r m (binN (opF T s3 [43] [45] [94]) z (prodF T r (stepF T s3)).1) (prodF T r (stepF T s3)).2) = q from hpl)
   clear hbx hst hgo hpl ho HQ2 E_op V_G4 H4
   rcases o with _ | ⟨o1, o2⟩
   ·have hr := (if_pos HO.out).symm.trans HPL.out
    subst hr
    clear HPL
    go_wp2_with fail
    go_meet
    exact ⟨z, s3, f3, rfl, HS.out, VX.out⟩
   ·have HN : Hid (opF T s3 [43] [45] [94] ≠ []) := fun h => by rw [HO.out] at h; cases h
    have HK := Lib.hid (op_kd HN.out)
    have HPL2 := Lib.hid ((if_neg HN.out).symm.trans HPL.out)
    clear HPL
    obtain ⟨t, h_t⟩ : ∃ t, stepT T s3 = t := ⟨_, rfl⟩
    have E_t := Lib.hid h_t
    clear h_t
    obtain ⟨s4, h_s4⟩ : ∃ s4, stepF T s3 = s4 := ⟨_, rfl⟩
    have E_s4 := Lib.hid h_s4
    clear h_s4
    have HI : Hid (s4.i = s3.i + 1) := by
     show _ = _
     rw [← E_s4.out]; unfold stepF; rw [if_neg HK.out]
    have G_s4 := Lib.hid (show Goes T s s4 from by have q := (G_s3.out.step E); rw [E_s4.out] at q; exact q)
    obtain ⟨y, s5, h_s5⟩ : ∃ y s5, prodF T r s4 = (y, s5) := ⟨_, _, rfl⟩
    have E_s5 := Lib.hid h_s5
    clear h_s5
    have G_s5 := Lib.hid (show Goes T s s5 from by have q := G_s4.out.prod E F; rw [E_s5.out] at q; exact q)
    obtain ⟨p2, h_p2⟩ : ∃ p2, opF T s5 [43] [45] [94] = p2 := ⟨_, rfl⟩
    have E_p2 := Lib.hid h_p2
    clear h_p2
    have HPL3 : Hid (sumL T r m (.mk 13 (o1 :: o2) 0 z.at_ [] [z, y]) s5 = q) := by
     show _ = _
     have q1 := HPL2.out
     rw [HO.out, E_s4.out, E_s5.out] at q1; exact q1
    have HI2 : Hid (s3.i + 1 ≤ s5.i) := by
     show _ ≤ _
     have h1 : Goes T s4 s5 := by have q := goes_prod E F (r := r) G_s4.out.lt; rw [E_s5.out] at q; exact q
     have := h1.i; have := HI.out; omega
    clear HPL2 HN HO
    go_upto_region 4 with (fail)
    go_wp2_with fail
    refine (step_eq E E_t.out E_s4.out HS.out.p).mono ?_
    rintro e w31 ⟨rfl, h31, b31⟩
    have H31 := Lib.hid (HS.out.call h31 b31)
    have V_G31 := Lib.hid (VX.out.call HS.out b31)
    clear h31 b31 HS VX
    go_upto_region 5 with (fail)
    have C32 := Lib.hid (fun wx (h : PAt wx R g c T s4) => gives_eq E_s5.out (CA wx s4 h (by rw [G_s4.out.deep]; exact HD.out)))
    refine region_Z (fun W => Whole W G 25 (ndL z f3).toArray) (fun i => i == 8) (by kernel_rfl) V_G31.out.drew.X (fun hHeld => ?_)
    refine tke 0 rfl (v := ?_) ?_ ?_; rotate_left
    ·(intro w hSw; (try dsimp only at hSw); have u0 := hSw.cell 0; have u1 := hSw.cell 1; have u2 := hSw.cell 2; have u3 := hSw.cell 3; have u4 := hSw.cell 4; have u5 := hSw.cell 5; simp only [ndL, List.getElem?_toArray, List.getElem?_cons_zero, List.getElem?_cons_succ] at u0 u1 u2 u3 u4 u5; clear hSw; go_simp; try with_reducible rfl)
    (try simp only [Act.put, sZ])
    refine tke 1 rfl (v := ?_) ?_ ?_; rotate_left
    ·(intro w hSw; (try dsimp only at hSw); have u0 := hSw.cell 0; have u1 := hSw.cell 1; have u2 := hSw.cell 2; have u3 := hSw.cell 3; have u4 := hSw.cell 4; have u5 := hSw.cell 5; simp only [ndL, List.getElem?_toArray, List.getElem?_cons_zero, List.getElem?_cons_succ] at u0 u1 u2 u3 u4 u5; clear hSw; go_simp; try with_reducible rfl)
    (try simp only [Act.put, sZ])
    refine tke 2 rfl (v := ?_) ?_ ?_; rotate_left
    ·(intro w hSw; (try dsimp only at hSw); have u0 := hSw.cell 0; have u1 := hSw.cell 1; have u2 := hSw.cell 2; have u3 := hSw.cell 3; have u4 := hSw.cell 4; have u5 := hSw.cell 5; simp only [ndL, List.getElem?_toArray, List.getElem?_cons_zero, List.getElem?_cons_succ] at u0 u1 u2 u3 u4 u5; clear hSw; go_simp; try with_reducible rfl)
    (try simp only [Act.put, sZ])
    refine tke 3 rfl (v := ?_) ?_ ?_; rotate_left
    ·(intro w hSw; (try dsimp only at hSw); have u0 := hSw.cell 0; have u1 := hSw.cell 1; have u2 := hSw.cell 2; have u3 := hSw.cell 3; have u4 := hSw.cell 4; have u5 := hSw.cell 5; simp only [ndL, List.getElem?_toArray, List.getElem?_cons_zero, List.getElem?_cons_succ] at u0 u1 u2 u3 u4 u5; clear hSw; go_simp; try with_reducible rfl)
    (try simp only [Act.put, sZ])
    refine tke 4 rfl (v := ?_) ?_ ?_; rotate_left
    ·(intro w hSw; (try dsimp only at hSw); have u0 := hSw.cell 0; have u1 := hSw.cell 1; have u2 := hSw.cell 2; have u3 := hSw.cell 3; have u4 := hSw.cell 4; have u5 := hSw.cell 5; simp only [ndL, List.getElem?_toArray, List.getElem?_cons_zero, List.getElem?_cons_succ] at u0 u1 u2 u3 u4 u5; clear hSw; go_simp; try with_reducible rfl)
    (try simp only [Act.put, sZ])
    refine stp 5 rfl (fun K hK => ?_)
    go_simp
    go_at_call 78
    refine (C32.out _ H31.out.drew.p).mono ?_
    rintro e wc ⟨fy, rfl, hpc, ny, bc⟩
    have HC := Lib.hid (H31.out.drew.call hpc bc)
    have VC := Lib.hid (V_G31.out.drew.call H31.out.drew bc)
    have NY := Lib.hid (ny.new H31.out.drew V_G31.out.drew)
    clear hpc ny bc
    unfold ndV
    refine hK.out _ _ (fun _ => VC.out.X) (fun hHeld2 => ?_)
    replace hHeld2 := hHeld2 (by decide)
    clear hK K hHeld
    (try simp only [Act.put, sZ])
    refine stp 6 rfl (fun K hK => ?_)
    go_simp
    refine hK.out _ _ (fun _ => (VC.out.alloc (.cells #[.int .i64 z.kd, .string ⟨z.tx.toArray⟩, .int .i64 z.nm, .int .i64 (z.at_ : Int), .slice f3.na z.ns.length f3.nc, .slice f3.ka z.ks.length f3.kc, .int .i64 y.kd, .string ⟨y.tx.toArray⟩, .int .i64 y.nm, .int .i64 (y.at_ : Int), .slice fy.na y.ns.length fy.nc, .slice fy.ka y.ks.length fy.kc] 25)).X) (fun hHeld3 => ?_)
    replace hHeld3 := hHeld3 (by decide)
    clear hK K hHeld2
    (try simp only [Act.put, sZ])
    refine tke 7 rfl (v := ?_) ?_ ?_; rotate_left
    ·(intro w hSw; (try dsimp only at hSw); have u0 := hSw.cell 0; have u1 := hSw.cell 1; have u2 := hSw.cell 2; have u3 := hSw.cell 3; have u4 := hSw.cell 4; have u5 := hSw.cell 5; simp only [ndL, List.getElem?_toArray, List.getElem?_cons_zero, List.getElem?_cons_succ] at u0 u1 u2 u3 u4 u5; clear hSw; go_simp; try with_reducible rfl)
    (try simp only [Act.put, sZ])
    have VP : Var w (((((((wc.alloc (.cells #[.int .i64 z.kd, .string ⟨z.tx.toArray⟩, .int .i64 z.nm, .int .i64 (z.at_ : Int), .slice f3.na z.ns.length f3.nc, .slice f3.ka z.ks.length f3.kc, .int .i64 y.kd, .string ⟨y.tx.toArray⟩, .int .i64 y.nm, .int .i64 (y.at_ : Int), .slice fy.na y.ns.length fy.nc, .slice fy.ka y.ks.length fy.kc] 25)).setCell ⟨G, 0, none⟩ (.int .i64 13)).setCell ⟨G, 1, none⟩ (.string ⟨(o1 :: o2).toArray⟩)).setCell ⟨G, 2, none⟩ (.int .i64 0)).setCell ⟨G, 3, none⟩ (.int .i64 (z.at_ : Int))).setCell ⟨G, 4, none⟩ (.slice none 0 0)).setCell ⟨G, 5, none⟩ (.slice (some ⟨wc.heap.size, 0, none⟩) 2 2)) G (.mk 13 (o1 :: o2) 0 z.at_ [] [z, y]) ⟨none, 0, some ⟨wc.heap.size, 0, none⟩, 2⟩ := (VC.out.pair HC.out NY.out 13 (o1 :: o2) z.at_).1
    have V_G32 := Lib.hid VP
    have HP1 : St w (((((((wc.alloc (.cells #[.int .i64 z.kd, .string ⟨z.tx.toArray⟩, .int .i64 z.nm, .int .i64 (z.at_ : Int), .slice f3.na z.ns.length f3.nc, .slice f3.ka z.ks.length f3.kc, .int .i64 y.kd, .string ⟨y.tx.toArray⟩, .int .i64 y.nm, .int .i64 (y.at_ : Int), .slice fy.na y.ns.length fy.nc, .slice fy.ka y.ks.length fy.kc] 25)).setCell ⟨G, 0, none⟩ (.int .i64 13)).setCell ⟨G, 1, none⟩ (.string ⟨(o1 :: o2).toArray⟩)).setCell ⟨G, 2, none⟩ (.int .i64 0)).setCell ⟨G, 3, none⟩ (.int .i64 (z.at_ : Int))).setCell ⟨G, 4, none⟩ (.slice none 0 0)).setCell ⟨G, 5, none⟩ (.slice (some ⟨wc.heap.size, 0, none⟩) 2 2)) R g c T _ := (VC.out.pair HC.out NY.out 13 (o1 :: o2) z.at_).2
    have H32 := Lib.hid HP1
    have VA : Var w (wc.alloc (.cells #[.int .i64 z.kd, .string ⟨z.tx.toArray⟩, .int .i64 z.nm, .int .i64 (z.at_ : Int), .slice f3.na z.ns.length f3.nc, .slice f3.ka z.ks.length f3.kc, .int .i64 y.kd, .string ⟨y.tx.toArray⟩, .int .i64 y.nm, .int .i64 (y.at_ : Int), .slice fy.na y.ns.length fy.nc, .slice fy.ka y.ks.length fy.kc] 25)) G z f3 := VC.out.alloc _
    clear VP HP1 VC HC NY hHeld3
    generalize wc.alloc (.cells #[.int .i64 z.kd, .string ⟨z.tx.toArray⟩, .int .i64 z.nm, .int .i64 (z.at_ : Int), .slice f3.na z.ns.length f3.nc, .slice f3.ka z.ks.length f3.kc, .int .i64 y.kd, .string ⟨y.tx.toArray⟩, .int .i64 y.nm, .int .i64 (y.at_ : Int), .slice fy.na y.ns.length fy.nc, .slice fy.ka y.ks.length fy.kc] 25) = wq at *
    have u0 := VA.X.cell 0
    have u1 := VA.X.cell 1
    have u2 := VA.X.cell 2
    have u3 := VA.X.cell 3
    have u4 := VA.X.cell 4
    have u5 := VA.X.cell 5
    have v0 := VA.X.free 0
    have v1 := VA.X.free 1
    have v2 := VA.X.free 2
    have v3 := VA.X.free 3
    have v4 := VA.X.free 4
    have v5 := VA.X.free 5
    simp only [ndL, List.getElem?_toArray, List.getElem?_cons_zero, List.getElem?_cons_succ] at u0 u1 u2 u3 u4 u5
    clear VA
    refine stp 8 rfl (fun K hK => ?_)
    go_simp
    refine hK.out _ _ (fun h => absurd h (by decide)) (fun _ => ?_)
    refine anyZ_done (by kernel_rfl) ?_ _
    clear hK K v0 v1 v2 v3 v4 v5 u0 u1 u2 u3 u4 u5
    obtain ⟨fw32, qf⟩ : ∃ f, (⟨none, 0, some ⟨wc.heap.size, 0, none⟩, 2⟩ : Fr) = f := ⟨_, rfl⟩
    rw [qf] at V_G32
    clear qf
    generalize ((((((wq.setCell ⟨G, 0, none⟩ (.int .i64 13)).setCell ⟨G, 1, none⟩ (.string ⟨(o1 :: o2).toArray⟩)).setCell ⟨G, 2, none⟩ (.int .i64 0)).setCell ⟨G, 3, none⟩ (.int .i64 (z.at_ : Int))).setCell ⟨G, 4, none⟩ (.slice none 0 0)).setCell ⟨G, 5, none⟩ (.slice (some ⟨wc.heap.size, 0, none⟩) 2 2)) = w32 at *
    clear C32 H31 V_G31
    go_wp2_with fail
    refine (op_eq E_p2.out H32.out.p).mono ?_
    rintro e w33 ⟨rfl, b33⟩
    have H33 := Lib.hid (H32.out.read b33)
    have V_G33 := Lib.hid (V_G32.out.later b33 (Nat.le_refl _))
    clear b33 H32 V_G32
    go_wp2_with fail
    go_roundg m
    case measure => exact Nat.lt_succ_self _
    case rel => exact ⟨p2, _, s5, _, rfl, E_p2.out, by have := HI2.out; omega, HPL3.out, V_G33.out, H33.out, G_s5.out⟩
 case rest =>
  obtain ⟨z, s3, f3, hq, h5, b5⟩ := hcut
  subst hq
  have H5 := Lib.hid h5
  have V5 := Lib.hid b5
  clear HQ2 h5 b5 E_op V_G4 H4
  obtain ⟨t0, t1, t2, t3, t4, t5⟩ := nodeC (V5.out.X)
  obtain ⟨z0, z1, z2, z3, z4, z5⟩ := zeroC (H5.out.z)
  obtain ⟨y0, y1, y2, y3, y4, y5⟩ := freeC (H5.out.z)
  go_wp2_with fail
  obtain ⟨wf, HZF, HBF, hwf⟩ := endsN (H5.out.z) z f3
  rw [hwf]
  clear hwf
  obtain ⟨g0, g1, g2, g3, g4, g5⟩ := cells6 HZF.out
  exact bodyPost_ret (v := ndV z f3) (by simp [results, Try.results75, go_sem, ndV, Nd.kd, Nd.tx, Nd.nm, Nd.at_, Nd.ns, Nd.ks, leafN, fr0, nd0, g0, g1, g2, g3, g4, g5]) rfl (H5.out.done V5.out.node HBF.out)
set_option maxRecDepth 100000 in
set_option maxHeartbeats 8000000 in
theorem cmp_any (w : World) (R g c : Nat) (T : List Tok) (r : Rec) (n : Nat) (s : PS) (E : Ends T) (F : Fine T r) (CA : ∀ (w : World) (s : PS), PAt w R g c T s → 41 ≤ s.deep + n → Calls Try.prog 75 #[.pointer (some ⟨R, 0, none⟩)] w (Gives w R g c T (sumF T r s))) (hp : PAt w R g c T s) (hd : 41 ≤ s.deep + n) :
  Calls Try.prog 68 #[.pointer (some ⟨R, 0, none⟩)] w (Gives w R g c T (cmpF T r s)) := by
 have H0 := Lib.hid (St.start hp)
 have HD := Lib.hid hd
 have HL := Lib.hid hp.lt
 have G_s := Lib.hid (Goes.refl hp.lt)
 clear hp hd
 obtain ⟨q, hq⟩ : ∃ q, cmpF T r s = q := ⟨_, rfl⟩
 rw [hq]
 have HQ := Lib.hid hq
 clear hq
 obtain ⟨x, s2, h_s2⟩ : ∃ x s2, sumF T r s = (x, s2) := ⟨_, _, rfl⟩
 have E_s2 := Lib.hid h_s2
 clear h_s2
 have G_s2 := Lib.hid (show Goes T s s2 from by have q := (goes_sum E F HL.out); rw [E_s2.out] at q; exact q)
 obtain ⟨op, h_op⟩ : ∃ op, opF T s2 [61] [60] [61] = op := ⟨_, rfl⟩
 have E_op := Lib.hid h_op
 clear h_op
 have HQ2 : Hid ((if op = [] then (x, s2) else (binN op x (sumF T r (stepF T s2)).1, (sumF T r (stepF T s2)).2)) = q) := by
  show _ = _
  rw [← HQ.out]; unfold cmpF; rw [E_s2.out, ← E_op.out]
 clear HQ
 go_enter Try.func68, Try.ntmps68
 go_upto_region 1 with (fail)
 generalize w.alloc (.cells #[.int .i64 0, .string ⟨#[]⟩, .int .i64 0, .int .i64 0, .slice none 0 0, .slice none 0 0] 25) = w1 at *
 go_wp2_with fail
 refine (gives_eq E_s2.out (CA w1 s H0.out.p HD.out)).mono ?_
 rintro e w2 ⟨f, rfl, h2, n2, b2⟩
 have N_x2 := Lib.hid (n2.gt H0.out)
 have H2 := Lib.hid (H0.out.call h2 b2)
 clear h2 b2 H0 n2
 unfold ndV
 have S_G : Hid (w.heap.size < w2.heap.size) := H2.out.size
 have H3 := Lib.hid (H2.out.alloc (.cells #[.int .i64 x.kd, .string ⟨x.tx.toArray⟩, .int .i64 x.nm, .int .i64 (x.at_ : Int), .slice f.na x.ns.length f.nc, .slice f.ka x.ks.length f.kc] 25))
 have N_x3 := Lib.hid (N_x2.out.alloc (.cells #[.int .i64 x.kd, .string ⟨x.tx.toArray⟩, .int .i64 x.nm, .int .i64 (x.at_ : Int), .slice f.na x.ns.length f.nc, .slice f.ka x.ks.length f.kc] 25))
 have V_G3 : Hid (Var w (w2.alloc (.cells #[.int .i64 x.kd, .string ⟨x.tx.toArray⟩, .int .i64 x.nm, .int .i64 (x.at_ : Int), .slice f.na x.ns.length f.nc, .slice f.ka x.ks.length f.kc] 25)) w2.heap.size x f) := Var.made H2.out N_x2.out
 go_upto_region 2 with (fail)
 generalize w2.alloc (.cells #[.int .i64 x.kd, .string ⟨x.tx.toArray⟩, .int .i64 x.nm, .int .i64 (x.at_ : Int), .slice f.na x.ns.length f.nc, .slice f.ka x.ks.length f.kc] 25) = w3 at *
 generalize w2.heap.size = G at *
 clear H2 N_x2
 go_wp2_with fail
 refine (op_eq E_op.out H3.out.p).mono ?_
 rintro e w4 ⟨rfl, b4⟩
 have H4 := Lib.hid (H3.out.read b4)
 have V_G4 := Lib.hid (V_G3.out.later b4 (Nat.le_refl _))
 clear b4 H3 V_G3
 rcases op with _ | ⟨o1, o2⟩
 ·have hr := (if_pos rfl).symm.trans HQ2.out
  subst hr
  clear HQ2
  obtain ⟨t0, t1, t2, t3, t4, t5⟩ := nodeC (V_G4.out.X)
  obtain ⟨z0, z1, z2, z3, z4, z5⟩ := zeroC (H4.out.z)
  obtain ⟨y0, y1, y2, y3, y4, y5⟩ := freeC (H4.out.z)
  go_wp2_with fail
  obtain ⟨wf, HZF, HBF, hwf⟩ := endsN (H4.out.z) x f
  rw [hwf]
  clear hwf
  obtain ⟨g0, g1, g2, g3, g4, g5⟩ := cells6 HZF.out
  exact bodyPost_ret (v := ndV x f) (by simp [results, Try.results68, go_sem, ndV, Nd.kd, Nd.tx, Nd.nm, Nd.at_, Nd.ns, Nd.ks, leafN, fr0, nd0, g0, g1, g2, g3, g4, g5]) rfl (H4.out.done V_G4.out.node HBF.out)
 ·have HN : Hid (opF T s2 [61] [60] [61] ≠ []) := fun h => by rw [E_op.out] at h; cases h
  obtain ⟨t, h_t⟩ : ∃ t, stepT T s2 = t := ⟨_, rfl⟩
  have E_t := Lib.hid h_t
  clear h_t
  obtain ⟨s4, h_s4⟩ : ∃ s4, stepF T s2 = s4 := ⟨_, rfl⟩
  have E_s4 := Lib.hid h_s4
  clear h_s4
  have G_s4 := Lib.hid (show Goes T s s4 from by have q := (G_s2.out.step E); rw [E_s4.out] at q; exact q)
  obtain ⟨y, s5, h_s5⟩ : ∃ y s5, sumF T r s4 = (y, s5) := ⟨_, _, rfl⟩
  have E_s5 := Lib.hid h_s5
  clear h_s5
  have hr : (Nd.mk 13 (o1 :: o2) 0 x.at_ [] [x, y], s5) = q := by
   have q1 := (if_neg (by simp)).symm.trans HQ2.out
   rw [E_s4.out, E_s5.out] at q1; exact q1
  subst hr
  clear HQ2 HN
  go_wp2_with fail
  refine (step_eq E E_t.out E_s4.out H4.out.p).mono ?_
  rintro e w5 ⟨rfl, h5, b5⟩
  have H5 := Lib.hid (H4.out.call h5 b5)
  have V_G5 := Lib.hid (V_G4.out.call H4.out b5)
  clear h5 b5 H4 V_G4
  go_upto_region 5 with (fail)
  have C6 := Lib.hid (fun wx (h : PAt wx R g c T s4) => gives_eq E_s5.out (CA wx s4 h (by rw [G_s4.out.deep]; exact HD.out)))
  refine region_Z (fun W => Whole W G 25 (ndL x f).toArray) (fun i => i == 8) (by kernel_rfl) V_G5.out.drew.X (fun hHeld => ?_)
  refine tke 0 rfl (v := ?_) ?_ ?_; rotate_left
  ·(intro w hSw; (try dsimp only at hSw); have u0 := hSw.cell 0; have u1 := hSw.cell 1; have u2 := hSw.cell 2; have u3 := hSw.cell 3; have u4 := hSw.cell 4; have u5 := hSw.cell 5; simp only [ndL, List.getElem?_toArray, List.getElem?_cons_zero, List.getElem?_cons_succ] at u0 u1 u2 u3 u4 u5; clear hSw; go_simp; try with_reducible rfl)
  (try simp only [Act.put, sZ])
  refine tke 1 rfl (v := ?_) ?_ ?_; rotate_left
  ·(intro w hSw; (try dsimp only at hSw); have u0 := hSw.cell 0; have u1 := hSw.cell 1; have u2 := hSw.cell 2; have u3 := hSw.cell 3; have u4 := hSw.cell 4; have u5 := hSw.cell 5; simp only [ndL, List.getElem?_toArray, List.getElem?_cons_zero, List.getElem?_cons_succ] at u0 u1 u2 u3 u4 u5; clear hSw; go_simp; try with_reducible rfl)
  (try simp only [Act.put, sZ])
  refine tke 2 rfl (v := ?_) ?_ ?_; rotate_left
  ·(intro w hSw; (try dsimp only at hSw); have u0 := hSw.cell 0; have u1 := hSw.cell 1; have u2 := hSw.cell 2; have u3 := hSw.cell 3; have u4 := hSw.cell 4; have u5 := hSw.cell 5; simp only [ndL, List.getElem?_toArray, List.getElem?_cons_zero, List.getElem?_cons_succ] at u0 u1 u2 u3 u4 u5; clear hSw; go_simp; try with_reducible rfl)
  (try simp only [Act.put, sZ])
  refine tke 3 rfl (v := ?_) ?_ ?_; rotate_left
  ·(intro w hSw; (try dsimp only at hSw); have u0 := hSw.cell 0; have u1 := hSw.cell 1; have u2 := hSw.cell 2; have u3 := hSw.cell 3; have u4 := hSw.cell 4; have u5 := hSw.cell 5; simp only [ndL, List.getElem?_toArray, List.getElem?_cons_zero, List.getElem?_cons_succ] at u0 u1 u2 u3 u4 u5; clear hSw; go_simp; try with_reducible rfl)
  (try simp only [Act.put, sZ])
  refine tke 4 rfl (v := ?_) ?_ ?_; rotate_left
  ·(intro w hSw; (try dsimp only at hSw); have u0 := hSw.cell 0; have u1 := hSw.cell 1; have u2 := hSw.cell 2; have u3 := hSw.cell 3; have u4 := hSw.cell 4; have u5 := hSw.cell 5; simp only [ndL, List.getElem?_toArray, List.getElem?_cons_zero, List.getElem?_cons_succ] at u0 u1 u2 u3 u4 u5; clear hSw; go_simp; try with_reducible rfl)
  (try simp only [Act.put, sZ])
  refine stp 5 rfl (fun K hK => ?_)
  go_simp
  go_at_call 75
  refine (C6.out _ H5.out.drew.p).mono ?_
  rintro e wc ⟨fy, rfl, hpc, ny, bc⟩
  have HC := Lib.hid (H5.out.drew.call hpc bc)
  have VC := Lib.hid (V_G5.out.drew.call H5.out.drew bc)
  have NY := Lib.hid (ny.new H5.out.drew V_G5.out.drew)
  clear hpc ny bc
  unfold ndV
  refine hK.out _ _ (fun _ => VC.out.X) (fun hHeld2 => ?_)
  replace hHeld2 := hHeld2 (by decide)
  clear hK K hHeld
  (try simp only [Act.put, sZ])
  refine stp 6 rfl (fun K hK => ?_)
  go_simp
  refine hK.out _ _ (fun _ => (VC.out.alloc (.cells #[.int .i64 x.kd, .string ⟨x.tx.toArray⟩, .int .i64 x.nm, .int .i64 (x.at_ : Int), .slice f.na x.ns.length f.nc, .slice f.ka x.ks.length f.kc, .int .i64 y.kd, .string ⟨y.tx.toArray⟩, .int .i64 y.nm, .int .i64 (y.at_ : Int), .slice fy.na y.ns.length fy.nc, .slice fy.ka y.ks.length fy.kc] 25)).X) (fun hHeld3 => ?_)
  replace hHeld3 := hHeld3 (by decide)
  clear hK K hHeld2
  (try simp only [Act.put, sZ])
  refine tke 7 rfl (v := ?_) ?_ ?_; rotate_left
  ·(intro w hSw; (try dsimp only at hSw); have u0 := hSw.cell 0; have u1 := hSw.cell 1; have u2 := hSw.cell 2; have u3 := hSw.cell 3; have u4 := hSw.cell 4; have u5 := hSw.cell 5; simp only [ndL, List.getElem?_toArray, List.getElem?_cons_zero, List.getElem?_cons_succ] at u0 u1 u2 u3 u4 u5; clear hSw; go_simp; try with_reducible rfl)
  (try simp only [Act.put, sZ])
  have VP : Var w (((((((wc.alloc (.cells #[.int .i64 x.kd, .string ⟨x.tx.toArray⟩, .int .i64 x.nm, .int .i64 (x.at_ : Int), .slice f.na x.ns.length f.nc, .slice f.ka x.ks.length f.kc, .int .i64 y.kd, .string ⟨y.tx.toArray⟩, .int .i64 y.nm, .int .i64 (y.at_ : Int), .slice fy.na y.ns.length fy.nc, .slice fy.ka y.ks.length fy.kc] 25)).setCell ⟨G, 0, none⟩ (.int .i64 13)).setCell ⟨G, 1, none⟩ (.string ⟨(o1 :: o2).toArray⟩)).setCell ⟨G, 2, none⟩ (.int .i64 0)).setCell ⟨G, 3, none⟩ (.int .i64 (x.at_ : Int))).setCell ⟨G, 4, none⟩ (.slice none 0 0)).setCell ⟨G, 5, none⟩ (.slice (some ⟨wc.heap.size, 0, none⟩) 2 2)) G (.mk 13 (o1 :: o2) 0 x.at_ [] [x, y]) ⟨none, 0, some ⟨wc.heap.size, 0, none⟩, 2⟩ := (VC.out.pair HC.out NY.out 13 (o1 :: o2) x.at_).1
  have V_G6 := Lib.hid VP
  have HP1 : St w (((((((wc.alloc (.cells #[.int .i64 x.kd, .string ⟨x.tx.toArray⟩, .int .i64 x.nm, .int .i64 (x.at_ : Int), .slice f.na x.ns.length f.nc, .slice f.ka x.ks.length f.kc, .int .i64 y.kd, .string ⟨y.tx.toArray⟩, .int .i64 y.nm, .int .i64 (y.at_ : Int), .slice fy.na y.ns.length fy.nc, .slice fy.ka y.ks.length fy.kc] 25)).setCell ⟨G, 0, none⟩ (.int .i64 13)).setCell ⟨G, 1, none⟩ (.string ⟨(o1 :: o2).toArray⟩)).setCell ⟨G, 2, none⟩ (.int .i64 0)).setCell ⟨G, 3, none⟩ (.int .i64 (x.at_ : Int))).setCell ⟨G, 4, none⟩ (.slice none 0 0)).setCell ⟨G, 5, none⟩ (.slice (some ⟨wc.heap.size, 0, none⟩) 2 2)) R g c T _ := (VC.out.pair HC.out NY.out 13 (o1 :: o2) x.at_).2
  have H6 := Lib.hid HP1
  have VA : Var w (wc.alloc (.cells #[.int .i64 x.kd, .string ⟨x.tx.toArray⟩, .int .i64 x.nm, .int .i64 (x.at_ : Int), .slice f.na x.ns.length f.nc, .slice f.ka x.ks.length f.kc, .int .i64 y.kd, .string ⟨y.tx.toArray⟩, .int .i64 y.nm, .int .i64 (y.at_ : Int), .slice fy.na y.ns.length fy.nc, .slice fy.ka y.ks.length fy.kc] 25)) G x f := VC.out.alloc _
  clear VP HP1 VC HC NY hHeld3
  generalize wc.alloc (.cells #[.int .i64 x.kd, .string ⟨x.tx.toArray⟩, .int .i64 x.nm, .int .i64 (x.at_ : Int), .slice f.na x.ns.length f.nc, .slice f.ka x.ks.length f.kc, .int .i64 y.kd, .string ⟨y.tx.toArray⟩, .int .i64 y.nm, .int .i64 (y.at_ : Int), .slice fy.na y.ns.length fy.nc, .slice fy.ka y.ks.length fy.kc] 25) = wq at *
  have u0 := VA.X.cell 0
  have u1 := VA.X.cell 1
  have u2 := VA.X.cell 2
  have u3 := VA.X.cell 3
  have u4 := VA.X.cell 4
  have u5 := VA.X.cell 5
  have v0 := VA.X.free 0
  have v1 := VA.X.free 1
  have v2 := VA.X.free 2
  have v3 := VA.X.free 3
  have v4 := VA.X.free 4
  have v5 := VA.X.free 5
  simp only [ndL, List.getElem?_toArray, List.getElem?_cons_zero, List.getElem?_cons_succ] at u0 u1 u2 u3 u4 u5
  clear VA
  refine stp 8 rfl (fun K hK => ?_)
  go_simp
  refine hK.out _ _ (fun h => absurd h (by decide)) (fun _ => ?_)
  refine anyZ_done (by kernel_rfl) ?_ _
  clear hK K v0 v1 v2 v3 v4 v5 u0 u1 u2 u3 u4 u5
  obtain ⟨fw6, qf⟩ : ∃ f, (⟨none, 0, some ⟨wc.heap.size, 0, none⟩, 2⟩ : Fr) = f := ⟨_, rfl⟩
  rw [qf] at V_G6
  clear qf
  generalize ((((((wq.setCell ⟨G, 0, none⟩ (.int .i64 13)).setCell ⟨G, 1, none⟩ (.string ⟨(o1 :: o2).toArray⟩)).setCell ⟨G, 2, none⟩ (.int .i64 0)).setCell ⟨G, 3, none⟩ (.int .i64 (x.at_ : Int))).setCell ⟨G, 4, none⟩ (.slice none 0 0)).setCell ⟨G, 5, none⟩ (.slice (some ⟨wc.heap.size, 0, none⟩) 2 2)) = w6 at *
  clear C6 H5 V_G5
  have t0 : w6.cell? ⟨G, 0, none⟩ = some (.int .i64 13) := V_G6.out.X.cell 0
  have t1 : w6.cell? ⟨G, 1, none⟩ = some (.string ⟨(o1 :: o2).toArray⟩) := V_G6.out.X.cell 1
  have t2 : w6.cell? ⟨G, 2, none⟩ = some (.int .i64 0) := V_G6.out.X.cell 2
  have t3 : w6.cell? ⟨G, 3, none⟩ = some (.int .i64 (x.at_ : Int)) := V_G6.out.X.cell 3
  have t4 : w6.cell? ⟨G, 4, none⟩ = some (.slice fw6.na 0 fw6.nc) := V_G6.out.X.cell 4
  have t5 : w6.cell? ⟨G, 5, none⟩ = some (.slice fw6.ka 2 fw6.kc) := V_G6.out.X.cell 5
  obtain ⟨z0, z1, z2, z3, z4, z5⟩ := zeroC (H6.out.z)
  obtain ⟨y0, y1, y2, y3, y4, y5⟩ := freeC (H6.out.z)
  go_wp2_with fail
  obtain ⟨wf, HZF, HBF, hwf⟩ := ends6 (H6.out.z) (.int .i64 13) (.string ⟨(o1 :: o2).toArray⟩) (.int .i64 0) (.int .i64 (x.at_ : Int)) (.slice fw6.na 0 fw6.nc) (.slice fw6.ka 2 fw6.kc)
  rw [hwf]
  clear hwf
  obtain ⟨g0, g1, g2, g3, g4, g5⟩ := cells6 HZF.out
  exact bodyPost_ret (v := ndV (Nd.mk 13 (o1 :: o2) 0 x.at_ [] [x, y]) fw6) (by simp [results, Try.results68, go_sem, ndV, Nd.kd, Nd.tx, Nd.nm, Nd.at_, Nd.ns, Nd.ks, leafN, fr0, nd0, g0, g1, g2, g3, g4, g5]) rfl (H6.out.done (x := (Nd.mk 13 (o1 :: o2) 0 x.at_ [] [x, y])) (f := fw6) V_G6.out.node HBF.out)
end Go.Proofs.Ytgjchgmlogbmmaa
/- Fields of a node that is being made; rules where an error stands. -/
namespace Go.Proofs.Ytgjchgmlogbmmaa
open Go.RowKit
set_option linter.unusedVariables false
set_option linter.unusedSimpArgs false

theorem setKd_ns (x : Nd) (k : Int) : (x.setKd k).ns = x.ns := by cases x; rfl
theorem setKd_ks (x : Nd) (k : Int) : (x.setKd k).ks = x.ks := by cases x; rfl
theorem setTx_ns (x : Nd) (k : List UInt8) : (x.setTx k).ns = x.ns := by cases x; rfl
theorem setTx_ks (x : Nd) (k : List UInt8) : (x.setTx k).ks = x.ks := by cases x; rfl
theorem Box.putKd {w : World} {N base : Nat} {x : Nd} {f : Fr} {fs : List Fr} (h : Box w N base x f fs) (k : Int) : Box (w.setCell ⟨N, 0, none⟩ (.int .i64 k)) N base (x.setKd k) f fs :=
 h.put 0 _ (by cases x; rfl) (setKd_ns x k) (setKd_ks x k)
theorem Box.putTx {w : World} {N base : Nat} {x : Nd} {f : Fr} {fs : List Fr} (h : Box w N base x f fs) (k : List UInt8) : Box (w.setCell ⟨N, 1, none⟩ (.string ⟨k.toArray⟩)) N base (x.setTx k) f fs :=
 h.put 1 _ (by cases x; rfl) (setTx_ns x k) (setTx_ks x k)
section
variable {T : List Tok} {s : PS}
theorem sad_kd (h : s.e ≠ 0) : kdF T s = 0 := by unfold kdF; rw [if_neg h]
theorem sad_is (h : s.e ≠ 0) (x : List UInt8) : isF T s x = false := by unfold isF; rw [sad_kd h]; rfl
theorem sad_fail (h : s.e ≠ 0) (c : Int) : failF T s c = s := by unfold failF; rw [if_neg h]
theorem sad_want (h : s.e ≠ 0) (x : List UInt8) : wantF T s x = s := by unfold wantF; rw [sad_is h, if_neg (by decide), sad_fail h]
theorem sad_deep (h : s.e ≠ 0) : deepF T s = s := by unfold deepF; rw [sad_fail h]; split <;> rfl
theorem sad_enter (h : s.e ≠ 0) : enterB T s = false ∧ enterF T s = s := by
 unfold enterB enterF; rw [sad_deep h]; exact ⟨decide_eq_false h, if_neg h⟩
theorem fail_sad (s : PS) {c : Int} (hc : c ≠ 0) : (failF T s c).e ≠ 0 := by
 unfold failF; split
 ·exact hc
 ·assumption
/-- Where an error stands a rule that goes deeper gives nothing. -/
structure Calm (r : Rec) : Prop where
 exp : ∀ s : PS, s.e ≠ 0 → r.exp s = (nd0, s)
 pat : ∀ s : PS, s.e ≠ 0 → r.pat s = (nd0, s)
 ty : ∀ s : PS, s.e ≠ 0 → r.ty s = (nd0, s)
theorem calm_rules : ∀ n, Calm (rules T n)
 | 0 => ⟨fun _ _ => rfl, fun _ _ => rfl, fun _ _ => rfl⟩
 | n + 1 => ⟨fun s h => by show expF T _ s = _; unfold expF; rw [(sad_enter h).1, (sad_enter h).2]; rfl, fun s h => by show patF T _ s = _; unfold patF; rw [(sad_enter h).1, (sad_enter h).2]; rfl, fun s h => by show tyF T _ s = _; unfold tyF; rw [(sad_enter h).1, (sad_enter h).2]; rfl⟩
theorem calm_whole {r : Rec} (C : Calm r) (h : s.e ≠ 0) : wholeF r s = (nd0, s) := by
 unfold wholeF; rw [C.exp { s with flat := false } h]
theorem matL_stop {r : Rec} : ∀ (f : Nat) (n : Nd) (s : PS), matL T r f false n s = (n, s)
 | 0, _, _ => rfl
 | f + 1, n, s => by show (if _ then _ else _) = _; rw [if_neg (by decide)]
end
end Go.Proofs.Ytgjchgmlogbmmaa
