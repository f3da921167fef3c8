import Derived.Test.YtgjchgmlogbmmaaN7
/- The walks of layer 5, the document's: products, sums and comparisons. -/
namespace Go.Proofs.Ytgjchgmlogbmmaa
open Go.RowKit
set_option linter.unusedVariables false
set_option linter.unusedSimpArgs false
attribute [local go_sem ↓] Go.wp_at_zero Go.wp_at_succ

set_option maxRecDepth 100000 in
set_option maxHeartbeats 8000000 in
theorem prod_any (w : World) (R g c : Nat) (T : List Tok) (r : Rec) (n : Nat) (s : PS) (E : Ends T) (F : Fine T r) (CA : ∀ (w : World) (s : PS), PAt w R g c T s → 41 ≤ s.deep + n → Calls Try.prog 79 #[.pointer (some ⟨R, 0, none⟩)] w (Gives w R g c T (appF T r s))) (hp : PAt w R g c T s) (hd : 41 ≤ s.deep + n) :
    Calls Try.prog 78 #[.pointer (some ⟨R, 0, none⟩)] w (Gives w R g c T (prodF T r s)) := by
  have H0 := Lib.hid (St.start hp)
  have HD := Lib.hid hd
  have HL := Lib.hid hp.lt
  have G_s := Lib.hid (Goes.refl hp.lt)
  clear hp hd
  obtain ⟨q, hq⟩ : ∃ q, prodF T r s = q := ⟨_, rfl⟩
  rw [hq]
  have HQ := Lib.hid hq
  clear hq
  obtain ⟨x, s2, h_s2⟩ : ∃ x s2, appF T r s = (x, s2) := ⟨_, _, rfl⟩
  have E_s2 := Lib.hid h_s2
  clear h_s2
  have G_s2 := Lib.hid (show Goes T s s2 from by have q := (goes_app E F HL.out); rw [E_s2.out] at q; exact q)
  obtain ⟨op, h_op⟩ : ∃ op, opF T s2 [42] [47] [37] = op := ⟨_, rfl⟩
  have E_op := Lib.hid h_op
  clear h_op
  have HQ2 : Hid (prodL T r (T.length + 1) x s2 = q) := by
    show _ = _
    rw [← HQ.out]; unfold prodF; rw [E_s2.out]
  clear HQ
  go_enter Try.func78, Try.ntmps78
  go_upto_region 1 with (fail)
  generalize w.alloc (.cells zZ 25) = w1 at *
  go_wp2_with fail
  refine (gives_eq E_s2.out (CA w1 s H0.out.p HD.out)).mono ?_
  rintro e w2 ⟨f, rfl, h2, n2, b2⟩
  have N_x2 := Lib.hid (n2.gt H0.out)
  have H2 := Lib.hid (H0.out.call h2 b2)
  clear h2 b2 H0 n2
  unfold ndV
  have S_G : Hid (w.heap.size < w2.heap.size) := H2.out.size
  have H3 := Lib.hid (H2.out.alloc (.cells zN(x, f) 25))
  have N_x3 := Lib.hid (N_x2.out.alloc (.cells zN(x, f) 25))
  have V_G3 : Hid (Var w (w2.alloc (.cells zN(x, f) 25)) w2.heap.size x f) := Var.made H2.out N_x2.out
  go_upto_region 2 with (fail)
  generalize w2.alloc (.cells zN(x, f) 25) = w3 at *
  generalize w2.heap.size = G at *
  clear H2 N_x2
  go_wp2_with fail
  refine (op_eq E_op.out H3.out.p).mono ?_
  rintro e w4 ⟨rfl, b4⟩
  have H4 := Lib.hid (H3.out.read b4)
  have V_G4 := Lib.hid (V_G3.out.later b4 (Nat.le_refl _))
  clear b4 H3 V_G3
  go_upto_block 0 with (fail)
  go_cut [4] (fun _ wx => ∃ z s3 f3, q = (z, s3) ∧ St w wx R g c T s3 ∧ Var w wx G z f3)
  case first =>
    go_wp2_with fail
    go_loopg [4] (T.length + 1) (fun gk mo wr => ∃ o z s3 f3, mo = .string ⟨o.toArray⟩ ∧ opF T s3 [42] [47] [37] = o ∧ T.length + 1 ≤ gk + s3.i ∧ prodL T r gk z s3 = q ∧ Var w wr G z f3 ∧ St w wr R g c T s3 ∧ Goes T s s3)
    case atStart => exact ⟨op, x, s2, f, rfl, E_op.out, by omega, HQ2.out, V_G4.out, H4.out, G_s2.out⟩
    case round =>
      obtain ⟨o, z, s3, f3, rfl, ho, hz, hpl, hbx, hst, hgo⟩ := hrel
      obtain ⟨m, rfl⟩ : ∃ m, gk = m + 1 := ⟨gk - 1, by have := hgo.lt; omega⟩
      have VX := Lib.hid hbx
      have HS := Lib.hid hst
      have G_s3 := Lib.hid hgo
      have HO := Lib.hid ho
      have HPL := Lib.hid (show (if opF T s3 [42] [47] [37] = [] then (z, s3) else prodL T r m (binN (opF T s3 [42] [47] [37]) z (appF T r (stepF T s3)).1) (appF T r (stepF T s3)).2) = q from hpl)
      clear hbx hst hgo hpl ho HQ2 E_op V_G4 H4
      rcases o with _ | ⟨o1, o2⟩
      · have hr := (if_pos HO.out).symm.trans HPL.out
        subst hr
        clear HPL
        go_wp2_with fail
        go_meet
        exact ⟨z, s3, f3, rfl, HS.out, VX.out⟩
      · have HN : Hid (opF T s3 [42] [47] [37] ≠ []) := fun h => by rw [HO.out] at h; cases h
        have HK := Lib.hid (op_kd HN.out)
        have HPL2 := Lib.hid ((if_neg HN.out).symm.trans HPL.out)
        clear HPL
        obtain ⟨t, h_t⟩ : ∃ t, stepT T s3 = t := ⟨_, rfl⟩
        have E_t := Lib.hid h_t
        clear h_t
        obtain ⟨s4, h_s4⟩ : ∃ s4, stepF T s3 = s4 := ⟨_, rfl⟩
        have E_s4 := Lib.hid h_s4
        clear h_s4
        have HI : Hid (s4.i = s3.i + 1) := by
          show _ = _
          rw [← E_s4.out]; unfold stepF; rw [if_neg HK.out]
        have G_s4 := Lib.hid (show Goes T s s4 from by have q := (G_s3.out.step E); rw [E_s4.out] at q; exact q)
        obtain ⟨y, s5, h_s5⟩ : ∃ y s5, appF T r s4 = (y, s5) := ⟨_, _, rfl⟩
        have E_s5 := Lib.hid h_s5
        clear h_s5
        have G_s5 := Lib.hid (show Goes T s s5 from by have q := G_s4.out.app E F; rw [E_s5.out] at q; exact q)
        obtain ⟨p2, h_p2⟩ : ∃ p2, opF T s5 [42] [47] [37] = p2 := ⟨_, rfl⟩
        have E_p2 := Lib.hid h_p2
        clear h_p2
        have HPL3 : Hid (prodL T r m (.mk 13 (o1 :: o2) 0 z.at_ [] [z, y]) s5 = q) := by
          show _ = _
          have q1 := HPL2.out
          rw [HO.out, E_s4.out, E_s5.out] at q1; exact q1
        have HI2 : Hid (s3.i + 1 ≤ s5.i) := by
          show _ ≤ _
          have h1 : Goes T s4 s5 := by have q := goes_app E F (r := r) G_s4.out.lt; rw [E_s5.out] at q; exact q
          have := h1.i; have := HI.out; omega
        clear HPL2 HN HO
        go_upto_region 4 with (fail)
        go_wp2_with fail
        refine (step_eq E E_t.out E_s4.out HS.out.p).mono ?_
        rintro e w31 ⟨rfl, h31, b31⟩
        have H31 := Lib.hid (HS.out.call h31 b31)
        have V_G31 := Lib.hid (VX.out.call HS.out b31)
        clear h31 b31 HS VX
        go_upto_region 5 with (fail)
        have C32 := Lib.hid (fun wx (h : PAt wx R g c T s4) => gives_eq E_s5.out (CA wx s4 h (by rw [G_s4.out.deep]; exact HD.out)))
        refine region_Z (fun W => Whole W G 25 (ndL z f3).toArray) (fun i => i == 8) (by kernel_rfl) V_G31.out.drew.X (fun hHeld => ?_)
        ztk 0 9
        · zcells
        zput
        ztk 1 9
        · zcells
        zput
        ztk 2 9
        · zcells
        zput
        ztk 3 9
        · zcells
        zput
        ztk 4 9
        · zcells
        zput
        zstep 5
        go_simp
        go_at_call 79
        refine (C32.out _ H31.out.drew.p).mono ?_
        rintro e wc ⟨fy, rfl, hpc, ny, bc⟩
        have HC := Lib.hid (H31.out.drew.call hpc bc)
        have VC := Lib.hid (V_G31.out.drew.call H31.out.drew bc)
        have NY := Lib.hid (ny.new H31.out.drew V_G31.out.drew)
        clear hpc ny bc
        unfold ndV
        refine hK.out _ _ (fun _ => VC.out.X) (fun hHeld2 => ?_)
        replace hHeld2 := hHeld2 (by decide)
        clear hK K hHeld
        zput
        zstep 6
        go_simp
        refine hK.out _ _ (fun _ => (VC.out.alloc (.cells #[.int .i64 z.kd, .string ⟨z.tx.toArray⟩, .int .i64 z.nm, .int .i64 (z.at_ : Int), .slice f3.na z.ns.length f3.nc, .slice f3.ka z.ks.length f3.kc, .int .i64 y.kd, .string ⟨y.tx.toArray⟩, .int .i64 y.nm, .int .i64 (y.at_ : Int), .slice fy.na y.ns.length fy.nc, .slice fy.ka y.ks.length fy.kc] 25)).X) (fun hHeld3 => ?_)
        replace hHeld3 := hHeld3 (by decide)
        clear hK K hHeld2
        zput
        ztk 7 9
        · zcells
        zput
        have VP : Var w (((((((wc.alloc (.cells #[.int .i64 z.kd, .string ⟨z.tx.toArray⟩, .int .i64 z.nm, .int .i64 (z.at_ : Int), .slice f3.na z.ns.length f3.nc, .slice f3.ka z.ks.length f3.kc, .int .i64 y.kd, .string ⟨y.tx.toArray⟩, .int .i64 y.nm, .int .i64 (y.at_ : Int), .slice fy.na y.ns.length fy.nc, .slice fy.ka y.ks.length fy.kc] 25)).setCell ⟨G, 0, none⟩ (.int .i64 13)).setCell ⟨G, 1, none⟩ (.string ⟨(o1 :: o2).toArray⟩)).setCell ⟨G, 2, none⟩ (.int .i64 0)).setCell ⟨G, 3, none⟩ (.int .i64 (z.at_ : Int))).setCell ⟨G, 4, none⟩ (.slice none 0 0)).setCell ⟨G, 5, none⟩ (.slice (some ⟨wc.heap.size, 0, none⟩) 2 2)) G (.mk 13 (o1 :: o2) 0 z.at_ [] [z, y]) ⟨none, 0, some ⟨wc.heap.size, 0, none⟩, 2⟩ := (VC.out.pair HC.out NY.out 13 (o1 :: o2) z.at_).1
        have V_G32 := Lib.hid VP
        have HP1 : St w (((((((wc.alloc (.cells #[.int .i64 z.kd, .string ⟨z.tx.toArray⟩, .int .i64 z.nm, .int .i64 (z.at_ : Int), .slice f3.na z.ns.length f3.nc, .slice f3.ka z.ks.length f3.kc, .int .i64 y.kd, .string ⟨y.tx.toArray⟩, .int .i64 y.nm, .int .i64 (y.at_ : Int), .slice fy.na y.ns.length fy.nc, .slice fy.ka y.ks.length fy.kc] 25)).setCell ⟨G, 0, none⟩ (.int .i64 13)).setCell ⟨G, 1, none⟩ (.string ⟨(o1 :: o2).toArray⟩)).setCell ⟨G, 2, none⟩ (.int .i64 0)).setCell ⟨G, 3, none⟩ (.int .i64 (z.at_ : Int))).setCell ⟨G, 4, none⟩ (.slice none 0 0)).setCell ⟨G, 5, none⟩ (.slice (some ⟨wc.heap.size, 0, none⟩) 2 2)) R g c T _ := (VC.out.pair HC.out NY.out 13 (o1 :: o2) z.at_).2
        have H32 := Lib.hid HP1
        have VA : Var w (wc.alloc (.cells #[.int .i64 z.kd, .string ⟨z.tx.toArray⟩, .int .i64 z.nm, .int .i64 (z.at_ : Int), .slice f3.na z.ns.length f3.nc, .slice f3.ka z.ks.length f3.kc, .int .i64 y.kd, .string ⟨y.tx.toArray⟩, .int .i64 y.nm, .int .i64 (y.at_ : Int), .slice fy.na y.ns.length fy.nc, .slice fy.ka y.ks.length fy.kc] 25)) G z f3 := VC.out.alloc _
        clear VP HP1 VC HC NY hHeld3
        generalize wc.alloc (.cells #[.int .i64 z.kd, .string ⟨z.tx.toArray⟩, .int .i64 z.nm, .int .i64 (z.at_ : Int), .slice f3.na z.ns.length f3.nc, .slice f3.ka z.ks.length f3.kc, .int .i64 y.kd, .string ⟨y.tx.toArray⟩, .int .i64 y.nm, .int .i64 (y.at_ : Int), .slice fy.na y.ns.length fy.nc, .slice fy.ka y.ks.length fy.kc] 25) = wq at *
        have u0 := VA.X.cell 0
        have u1 := VA.X.cell 1
        have u2 := VA.X.cell 2
        have u3 := VA.X.cell 3
        have u4 := VA.X.cell 4
        have u5 := VA.X.cell 5
        have v0 := VA.X.free 0
        have v1 := VA.X.free 1
        have v2 := VA.X.free 2
        have v3 := VA.X.free 3
        have v4 := VA.X.free 4
        have v5 := VA.X.free 5
        simp only [ndL, List.getElem?_toArray, List.getElem?_cons_zero, List.getElem?_cons_succ] at u0 u1 u2 u3 u4 u5
        clear VA
        zstep 8
        go_simp
        zgoz
        zdone
        clear hK K v0 v1 v2 v3 v4 v5 u0 u1 u2 u3 u4 u5
        obtain ⟨fw32, qf⟩ : ∃ f, (⟨none, 0, some ⟨wc.heap.size, 0, none⟩, 2⟩ : Fr) = f := ⟨_, rfl⟩
        rw [qf] at V_G32
        clear qf
        generalize ((((((wq.setCell ⟨G, 0, none⟩ (.int .i64 13)).setCell ⟨G, 1, none⟩ (.string ⟨(o1 :: o2).toArray⟩)).setCell ⟨G, 2, none⟩ (.int .i64 0)).setCell ⟨G, 3, none⟩ (.int .i64 (z.at_ : Int))).setCell ⟨G, 4, none⟩ (.slice none 0 0)).setCell ⟨G, 5, none⟩ (.slice (some ⟨wc.heap.size, 0, none⟩) 2 2)) = w32 at *
        clear C32 H31 V_G31
        go_wp2_with fail
        refine (op_eq E_p2.out H32.out.p).mono ?_
        rintro e w33 ⟨rfl, b33⟩
        have H33 := Lib.hid (H32.out.read b33)
        have V_G33 := Lib.hid (V_G32.out.later b33 (Nat.le_refl _))
        clear b33 H32 V_G32
        go_wp2_with fail
        go_roundg m
        case measure => exact Nat.lt_succ_self _
        case rel => exact ⟨p2, _, s5, _, rfl, E_p2.out, by have := HI2.out; omega, HPL3.out, V_G33.out, H33.out, G_s5.out⟩
  case rest =>
    obtain ⟨z, s3, f3, hq, h5, b5⟩ := hcut
    subst hq
    have H5 := Lib.hid h5
    have V5 := Lib.hid b5
    clear HQ2 h5 b5 E_op V_G4 H4
    have t0 : wc.cell? ⟨G, 0, none⟩ = some (.int .i64 z.kd) := V5.out.X.cell 0
    have t1 : wc.cell? ⟨G, 1, none⟩ = some (.string ⟨z.tx.toArray⟩) := V5.out.X.cell 1
    have t2 : wc.cell? ⟨G, 2, none⟩ = some (.int .i64 z.nm) := V5.out.X.cell 2
    have t3 : wc.cell? ⟨G, 3, none⟩ = some (.int .i64 (z.at_ : Int)) := V5.out.X.cell 3
    have t4 : wc.cell? ⟨G, 4, none⟩ = some (.slice f3.na z.ns.length f3.nc) := V5.out.X.cell 4
    have t5 : wc.cell? ⟨G, 5, none⟩ = some (.slice f3.ka z.ks.length f3.kc) := V5.out.X.cell 5
    zzero wc (w.heap.size) (H5.out.z)
    zfree (H5.out.z)
    go_wp2_with fail
    have HZF : Hid (Whole (zP(wc, w.heap.size, z, f3)) w.heap.size 25 zN(z, f3)) := put6 H5.out.z _ _ _ _ _ _
    have HBF : Hid (But w.heap.size wc.heap.size wc (zP(wc, w.heap.size, z, f3))) := but6 _ _ _ _ _ _ _ _
    generalize (zP(wc, w.heap.size, z, f3)) = wf at *
    gcells
    exact bodyPost_ret (v := ndV z f3) (by simp [results, Try.results78, go_sem, ndV, Nd.kd, Nd.tx, Nd.nm, Nd.at_, Nd.ns, Nd.ks, leafN, fr0, nd0, g0, g1, g2, g3, g4, g5]) rfl (H5.out.done V5.out.node HBF.out)
set_option maxRecDepth 100000 in
set_option maxHeartbeats 8000000 in
theorem sum_any (w : World) (R g c : Nat) (T : List Tok) (r : Rec) (n : Nat) (s : PS) (E : Ends T) (F : Fine T r) (CA : ∀ (w : World) (s : PS), PAt w R g c T s → 41 ≤ s.deep + n → Calls Try.prog 78 #[.pointer (some ⟨R, 0, none⟩)] w (Gives w R g c T (prodF T r s))) (hp : PAt w R g c T s) (hd : 41 ≤ s.deep + n) :
    Calls Try.prog 75 #[.pointer (some ⟨R, 0, none⟩)] w (Gives w R g c T (sumF T r s)) := by
  have H0 := Lib.hid (St.start hp)
  have HD := Lib.hid hd
  have HL := Lib.hid hp.lt
  have G_s := Lib.hid (Goes.refl hp.lt)
  clear hp hd
  obtain ⟨q, hq⟩ : ∃ q, sumF T r s = q := ⟨_, rfl⟩
  rw [hq]
  have HQ := Lib.hid hq
  clear hq
  obtain ⟨x, s2, h_s2⟩ : ∃ x s2, prodF T r s = (x, s2) := ⟨_, _, rfl⟩
  have E_s2 := Lib.hid h_s2
  clear h_s2
  have G_s2 := Lib.hid (show Goes T s s2 from by have q := (goes_prod E F HL.out); rw [E_s2.out] at q; exact q)
  obtain ⟨op, h_op⟩ : ∃ op, opF T s2 [43] [45] [94] = op := ⟨_, rfl⟩
  have E_op := Lib.hid h_op
  clear h_op
  have HQ2 : Hid (sumL T r (T.length + 1) x s2 = q) := by
    show _ = _
    rw [← HQ.out]; unfold sumF; rw [E_s2.out]
  clear HQ
  go_enter Try.func75, Try.ntmps75
  go_upto_region 1 with (fail)
  generalize w.alloc (.cells zZ 25) = w1 at *
  go_wp2_with fail
  refine (gives_eq E_s2.out (CA w1 s H0.out.p HD.out)).mono ?_
  rintro e w2 ⟨f, rfl, h2, n2, b2⟩
  have N_x2 := Lib.hid (n2.gt H0.out)
  have H2 := Lib.hid (H0.out.call h2 b2)
  clear h2 b2 H0 n2
  unfold ndV
  have S_G : Hid (w.heap.size < w2.heap.size) := H2.out.size
  have H3 := Lib.hid (H2.out.alloc (.cells zN(x, f) 25))
  have N_x3 := Lib.hid (N_x2.out.alloc (.cells zN(x, f) 25))
  have V_G3 : Hid (Var w (w2.alloc (.cells zN(x, f) 25)) w2.heap.size x f) := Var.made H2.out N_x2.out
  go_upto_region 2 with (fail)
  generalize w2.alloc (.cells zN(x, f) 25) = w3 at *
  generalize w2.heap.size = G at *
  clear H2 N_x2
  go_wp2_with fail
  refine (op_eq E_op.out H3.out.p).mono ?_
  rintro e w4 ⟨rfl, b4⟩
  have H4 := Lib.hid (H3.out.read b4)
  have V_G4 := Lib.hid (V_G3.out.later b4 (Nat.le_refl _))
  clear b4 H3 V_G3
  go_upto_block 0 with (fail)
  go_cut [4] (fun _ wx => ∃ z s3 f3, q = (z, s3) ∧ St w wx R g c T s3 ∧ Var w wx G z f3)
  case first =>
    go_wp2_with fail
    go_loopg [4] (T.length + 1) (fun gk mo wr => ∃ o z s3 f3, mo = .string ⟨o.toArray⟩ ∧ opF T s3 [43] [45] [94] = o ∧ T.length + 1 ≤ gk + s3.i ∧ sumL T r gk z s3 = q ∧ Var w wr G z f3 ∧ St w wr R g c T s3 ∧ Goes T s s3)
    case atStart => exact ⟨op, x, s2, f, rfl, E_op.out, by omega, HQ2.out, V_G4.out, H4.out, G_s2.out⟩
    case round =>
      obtain ⟨o, z, s3, f3, rfl, ho, hz, hpl, hbx, hst, hgo⟩ := hrel
      obtain ⟨m, rfl⟩ : ∃ m, gk = m + 1 := ⟨gk - 1, by have := hgo.lt; omega⟩
      have VX := Lib.hid hbx
      have HS := Lib.hid hst
      have G_s3 := Lib.hid hgo
      have HO := Lib.hid ho
      have HPL := Lib.hid (show (if opF T s3 [43] [45] [94] = [] then (z, s3) else sumL T r m (binN (opF T s3 [43] [45] [94]) z (prodF T r (stepF T s3)).1) (prodF T r (stepF T s3)).2) = q from hpl)
      clear hbx hst hgo hpl ho HQ2 E_op V_G4 H4
      rcases o with _ | ⟨o1, o2⟩
      · have hr := (if_pos HO.out).symm.trans HPL.out
        subst hr
        clear HPL
        go_wp2_with fail
        go_meet
        exact ⟨z, s3, f3, rfl, HS.out, VX.out⟩
      · have HN : Hid (opF T s3 [43] [45] [94] ≠ []) := fun h => by rw [HO.out] at h; cases h
        have HK := Lib.hid (op_kd HN.out)
        have HPL2 := Lib.hid ((if_neg HN.out).symm.trans HPL.out)
        clear HPL
        obtain ⟨t, h_t⟩ : ∃ t, stepT T s3 = t := ⟨_, rfl⟩
        have E_t := Lib.hid h_t
        clear h_t
        obtain ⟨s4, h_s4⟩ : ∃ s4, stepF T s3 = s4 := ⟨_, rfl⟩
        have E_s4 := Lib.hid h_s4
        clear h_s4
        have HI : Hid (s4.i = s3.i + 1) := by
          show _ = _
          rw [← E_s4.out]; unfold stepF; rw [if_neg HK.out]
        have G_s4 := Lib.hid (show Goes T s s4 from by have q := (G_s3.out.step E); rw [E_s4.out] at q; exact q)
        obtain ⟨y, s5, h_s5⟩ : ∃ y s5, prodF T r s4 = (y, s5) := ⟨_, _, rfl⟩
        have E_s5 := Lib.hid h_s5
        clear h_s5
        have G_s5 := Lib.hid (show Goes T s s5 from by have q := G_s4.out.prod E F; rw [E_s5.out] at q; exact q)
        obtain ⟨p2, h_p2⟩ : ∃ p2, opF T s5 [43] [45] [94] = p2 := ⟨_, rfl⟩
        have E_p2 := Lib.hid h_p2
        clear h_p2
        have HPL3 : Hid (sumL T r m (.mk 13 (o1 :: o2) 0 z.at_ [] [z, y]) s5 = q) := by
          show _ = _
          have q1 := HPL2.out
          rw [HO.out, E_s4.out, E_s5.out] at q1; exact q1
        have HI2 : Hid (s3.i + 1 ≤ s5.i) := by
          show _ ≤ _
          have h1 : Goes T s4 s5 := by have q := goes_prod E F (r := r) G_s4.out.lt; rw [E_s5.out] at q; exact q
          have := h1.i; have := HI.out; omega
        clear HPL2 HN HO
        go_upto_region 4 with (fail)
        go_wp2_with fail
        refine (step_eq E E_t.out E_s4.out HS.out.p).mono ?_
        rintro e w31 ⟨rfl, h31, b31⟩
        have H31 := Lib.hid (HS.out.call h31 b31)
        have V_G31 := Lib.hid (VX.out.call HS.out b31)
        clear h31 b31 HS VX
        go_upto_region 5 with (fail)
        have C32 := Lib.hid (fun wx (h : PAt wx R g c T s4) => gives_eq E_s5.out (CA wx s4 h (by rw [G_s4.out.deep]; exact HD.out)))
        refine region_Z (fun W => Whole W G 25 (ndL z f3).toArray) (fun i => i == 8) (by kernel_rfl) V_G31.out.drew.X (fun hHeld => ?_)
        ztk 0 9
        · zcells
        zput
        ztk 1 9
        · zcells
        zput
        ztk 2 9
        · zcells
        zput
        ztk 3 9
        · zcells
        zput
        ztk 4 9
        · zcells
        zput
        zstep 5
        go_simp
        go_at_call 78
        refine (C32.out _ H31.out.drew.p).mono ?_
        rintro e wc ⟨fy, rfl, hpc, ny, bc⟩
        have HC := Lib.hid (H31.out.drew.call hpc bc)
        have VC := Lib.hid (V_G31.out.drew.call H31.out.drew bc)
        have NY := Lib.hid (ny.new H31.out.drew V_G31.out.drew)
        clear hpc ny bc
        unfold ndV
        refine hK.out _ _ (fun _ => VC.out.X) (fun hHeld2 => ?_)
        replace hHeld2 := hHeld2 (by decide)
        clear hK K hHeld
        zput
        zstep 6
        go_simp
        refine hK.out _ _ (fun _ => (VC.out.alloc (.cells #[.int .i64 z.kd, .string ⟨z.tx.toArray⟩, .int .i64 z.nm, .int .i64 (z.at_ : Int), .slice f3.na z.ns.length f3.nc, .slice f3.ka z.ks.length f3.kc, .int .i64 y.kd, .string ⟨y.tx.toArray⟩, .int .i64 y.nm, .int .i64 (y.at_ : Int), .slice fy.na y.ns.length fy.nc, .slice fy.ka y.ks.length fy.kc] 25)).X) (fun hHeld3 => ?_)
        replace hHeld3 := hHeld3 (by decide)
        clear hK K hHeld2
        zput
        ztk 7 9
        · zcells
        zput
        have VP : Var w (((((((wc.alloc (.cells #[.int .i64 z.kd, .string ⟨z.tx.toArray⟩, .int .i64 z.nm, .int .i64 (z.at_ : Int), .slice f3.na z.ns.length f3.nc, .slice f3.ka z.ks.length f3.kc, .int .i64 y.kd, .string ⟨y.tx.toArray⟩, .int .i64 y.nm, .int .i64 (y.at_ : Int), .slice fy.na y.ns.length fy.nc, .slice fy.ka y.ks.length fy.kc] 25)).setCell ⟨G, 0, none⟩ (.int .i64 13)).setCell ⟨G, 1, none⟩ (.string ⟨(o1 :: o2).toArray⟩)).setCell ⟨G, 2, none⟩ (.int .i64 0)).setCell ⟨G, 3, none⟩ (.int .i64 (z.at_ : Int))).setCell ⟨G, 4, none⟩ (.slice none 0 0)).setCell ⟨G, 5, none⟩ (.slice (some ⟨wc.heap.size, 0, none⟩) 2 2)) G (.mk 13 (o1 :: o2) 0 z.at_ [] [z, y]) ⟨none, 0, some ⟨wc.heap.size, 0, none⟩, 2⟩ := (VC.out.pair HC.out NY.out 13 (o1 :: o2) z.at_).1
        have V_G32 := Lib.hid VP
        have HP1 : St w (((((((wc.alloc (.cells #[.int .i64 z.kd, .string ⟨z.tx.toArray⟩, .int .i64 z.nm, .int .i64 (z.at_ : Int), .slice f3.na z.ns.length f3.nc, .slice f3.ka z.ks.length f3.kc, .int .i64 y.kd, .string ⟨y.tx.toArray⟩, .int .i64 y.nm, .int .i64 (y.at_ : Int), .slice fy.na y.ns.length fy.nc, .slice fy.ka y.ks.length fy.kc] 25)).setCell ⟨G, 0, none⟩ (.int .i64 13)).setCell ⟨G, 1, none⟩ (.string ⟨(o1 :: o2).toArray⟩)).setCell ⟨G, 2, none⟩ (.int .i64 0)).setCell ⟨G, 3, none⟩ (.int .i64 (z.at_ : Int))).setCell ⟨G, 4, none⟩ (.slice none 0 0)).setCell ⟨G, 5, none⟩ (.slice (some ⟨wc.heap.size, 0, none⟩) 2 2)) R g c T _ := (VC.out.pair HC.out NY.out 13 (o1 :: o2) z.at_).2
        have H32 := Lib.hid HP1
        have VA : Var w (wc.alloc (.cells #[.int .i64 z.kd, .string ⟨z.tx.toArray⟩, .int .i64 z.nm, .int .i64 (z.at_ : Int), .slice f3.na z.ns.length f3.nc, .slice f3.ka z.ks.length f3.kc, .int .i64 y.kd, .string ⟨y.tx.toArray⟩, .int .i64 y.nm, .int .i64 (y.at_ : Int), .slice fy.na y.ns.length fy.nc, .slice fy.ka y.ks.length fy.kc] 25)) G z f3 := VC.out.alloc _
        clear VP HP1 VC HC NY hHeld3
        generalize wc.alloc (.cells #[.int .i64 z.kd, .string ⟨z.tx.toArray⟩, .int .i64 z.nm, .int .i64 (z.at_ : Int), .slice f3.na z.ns.length f3.nc, .slice f3.ka z.ks.length f3.kc, .int .i64 y.kd, .string ⟨y.tx.toArray⟩, .int .i64 y.nm, .int .i64 (y.at_ : Int), .slice fy.na y.ns.length fy.nc, .slice fy.ka y.ks.length fy.kc] 25) = wq at *
        have u0 := VA.X.cell 0
        have u1 := VA.X.cell 1
        have u2 := VA.X.cell 2
        have u3 := VA.X.cell 3
        have u4 := VA.X.cell 4
        have u5 := VA.X.cell 5
        have v0 := VA.X.free 0
        have v1 := VA.X.free 1
        have v2 := VA.X.free 2
        have v3 := VA.X.free 3
        have v4 := VA.X.free 4
        have v5 := VA.X.free 5
        simp only [ndL, List.getElem?_toArray, List.getElem?_cons_zero, List.getElem?_cons_succ] at u0 u1 u2 u3 u4 u5
        clear VA
        zstep 8
        go_simp
        zgoz
        zdone
        clear hK K v0 v1 v2 v3 v4 v5 u0 u1 u2 u3 u4 u5
        obtain ⟨fw32, qf⟩ : ∃ f, (⟨none, 0, some ⟨wc.heap.size, 0, none⟩, 2⟩ : Fr) = f := ⟨_, rfl⟩
        rw [qf] at V_G32
        clear qf
        generalize ((((((wq.setCell ⟨G, 0, none⟩ (.int .i64 13)).setCell ⟨G, 1, none⟩ (.string ⟨(o1 :: o2).toArray⟩)).setCell ⟨G, 2, none⟩ (.int .i64 0)).setCell ⟨G, 3, none⟩ (.int .i64 (z.at_ : Int))).setCell ⟨G, 4, none⟩ (.slice none 0 0)).setCell ⟨G, 5, none⟩ (.slice (some ⟨wc.heap.size, 0, none⟩) 2 2)) = w32 at *
        clear C32 H31 V_G31
        go_wp2_with fail
        refine (op_eq E_p2.out H32.out.p).mono ?_
        rintro e w33 ⟨rfl, b33⟩
        have H33 := Lib.hid (H32.out.read b33)
        have V_G33 := Lib.hid (V_G32.out.later b33 (Nat.le_refl _))
        clear b33 H32 V_G32
        go_wp2_with fail
        go_roundg m
        case measure => exact Nat.lt_succ_self _
        case rel => exact ⟨p2, _, s5, _, rfl, E_p2.out, by have := HI2.out; omega, HPL3.out, V_G33.out, H33.out, G_s5.out⟩
  case rest =>
    obtain ⟨z, s3, f3, hq, h5, b5⟩ := hcut
    subst hq
    have H5 := Lib.hid h5
    have V5 := Lib.hid b5
    clear HQ2 h5 b5 E_op V_G4 H4
    have t0 : wc.cell? ⟨G, 0, none⟩ = some (.int .i64 z.kd) := V5.out.X.cell 0
    have t1 : wc.cell? ⟨G, 1, none⟩ = some (.string ⟨z.tx.toArray⟩) := V5.out.X.cell 1
    have t2 : wc.cell? ⟨G, 2, none⟩ = some (.int .i64 z.nm) := V5.out.X.cell 2
    have t3 : wc.cell? ⟨G, 3, none⟩ = some (.int .i64 (z.at_ : Int)) := V5.out.X.cell 3
    have t4 : wc.cell? ⟨G, 4, none⟩ = some (.slice f3.na z.ns.length f3.nc) := V5.out.X.cell 4
    have t5 : wc.cell? ⟨G, 5, none⟩ = some (.slice f3.ka z.ks.length f3.kc) := V5.out.X.cell 5
    zzero wc (w.heap.size) (H5.out.z)
    zfree (H5.out.z)
    go_wp2_with fail
    have HZF : Hid (Whole (zP(wc, w.heap.size, z, f3)) w.heap.size 25 zN(z, f3)) := put6 H5.out.z _ _ _ _ _ _
    have HBF : Hid (But w.heap.size wc.heap.size wc (zP(wc, w.heap.size, z, f3))) := but6 _ _ _ _ _ _ _ _
    generalize (zP(wc, w.heap.size, z, f3)) = wf at *
    gcells
    exact bodyPost_ret (v := ndV z f3) (by simp [results, Try.results75, go_sem, ndV, Nd.kd, Nd.tx, Nd.nm, Nd.at_, Nd.ns, Nd.ks, leafN, fr0, nd0, g0, g1, g2, g3, g4, g5]) rfl (H5.out.done V5.out.node HBF.out)
set_option maxRecDepth 100000 in
set_option maxHeartbeats 8000000 in
theorem cmp_any (w : World) (R g c : Nat) (T : List Tok) (r : Rec) (n : Nat) (s : PS) (E : Ends T) (F : Fine T r) (CA : ∀ (w : World) (s : PS), PAt w R g c T s → 41 ≤ s.deep + n → Calls Try.prog 75 #[.pointer (some ⟨R, 0, none⟩)] w (Gives w R g c T (sumF T r s))) (hp : PAt w R g c T s) (hd : 41 ≤ s.deep + n) :
    Calls Try.prog 68 #[.pointer (some ⟨R, 0, none⟩)] w (Gives w R g c T (cmpF T r s)) := by
  have H0 := Lib.hid (St.start hp)
  have HD := Lib.hid hd
  have HL := Lib.hid hp.lt
  have G_s := Lib.hid (Goes.refl hp.lt)
  clear hp hd
  obtain ⟨q, hq⟩ : ∃ q, cmpF T r s = q := ⟨_, rfl⟩
  rw [hq]
  have HQ := Lib.hid hq
  clear hq
  obtain ⟨x, s2, h_s2⟩ : ∃ x s2, sumF T r s = (x, s2) := ⟨_, _, rfl⟩
  have E_s2 := Lib.hid h_s2
  clear h_s2
  have G_s2 := Lib.hid (show Goes T s s2 from by have q := (goes_sum E F HL.out); rw [E_s2.out] at q; exact q)
  obtain ⟨op, h_op⟩ : ∃ op, opF T s2 [61] [60] [61] = op := ⟨_, rfl⟩
  have E_op := Lib.hid h_op
  clear h_op
  have HQ2 : Hid ((if op = [] then (x, s2) else (binN op x (sumF T r (stepF T s2)).1, (sumF T r (stepF T s2)).2)) = q) := by
    show _ = _
    rw [← HQ.out]; unfold cmpF; rw [E_s2.out, ← E_op.out]
  clear HQ
  go_enter Try.func68, Try.ntmps68
  go_upto_region 1 with (fail)
  generalize w.alloc (.cells zZ 25) = w1 at *
  go_wp2_with fail
  refine (gives_eq E_s2.out (CA w1 s H0.out.p HD.out)).mono ?_
  rintro e w2 ⟨f, rfl, h2, n2, b2⟩
  have N_x2 := Lib.hid (n2.gt H0.out)
  have H2 := Lib.hid (H0.out.call h2 b2)
  clear h2 b2 H0 n2
  unfold ndV
  have S_G : Hid (w.heap.size < w2.heap.size) := H2.out.size
  have H3 := Lib.hid (H2.out.alloc (.cells zN(x, f) 25))
  have N_x3 := Lib.hid (N_x2.out.alloc (.cells zN(x, f) 25))
  have V_G3 : Hid (Var w (w2.alloc (.cells zN(x, f) 25)) w2.heap.size x f) := Var.made H2.out N_x2.out
  go_upto_region 2 with (fail)
  generalize w2.alloc (.cells zN(x, f) 25) = w3 at *
  generalize w2.heap.size = G at *
  clear H2 N_x2
  go_wp2_with fail
  refine (op_eq E_op.out H3.out.p).mono ?_
  rintro e w4 ⟨rfl, b4⟩
  have H4 := Lib.hid (H3.out.read b4)
  have V_G4 := Lib.hid (V_G3.out.later b4 (Nat.le_refl _))
  clear b4 H3 V_G3
  rcases op with _ | ⟨o1, o2⟩
  · have hr := (if_pos rfl).symm.trans HQ2.out
    subst hr
    clear HQ2
    have t0 : w4.cell? ⟨G, 0, none⟩ = some (.int .i64 x.kd) := V_G4.out.X.cell 0
    have t1 : w4.cell? ⟨G, 1, none⟩ = some (.string ⟨x.tx.toArray⟩) := V_G4.out.X.cell 1
    have t2 : w4.cell? ⟨G, 2, none⟩ = some (.int .i64 x.nm) := V_G4.out.X.cell 2
    have t3 : w4.cell? ⟨G, 3, none⟩ = some (.int .i64 (x.at_ : Int)) := V_G4.out.X.cell 3
    have t4 : w4.cell? ⟨G, 4, none⟩ = some (.slice f.na x.ns.length f.nc) := V_G4.out.X.cell 4
    have t5 : w4.cell? ⟨G, 5, none⟩ = some (.slice f.ka x.ks.length f.kc) := V_G4.out.X.cell 5
    zzero w4 (w.heap.size) (H4.out.z)
    zfree (H4.out.z)
    go_wp2_with fail
    have HZF : Hid (Whole (zP(w4, w.heap.size, x, f)) w.heap.size 25 zN(x, f)) := put6 H4.out.z _ _ _ _ _ _
    have HBF : Hid (But w.heap.size w4.heap.size w4 (zP(w4, w.heap.size, x, f))) := but6 _ _ _ _ _ _ _ _
    generalize (zP(w4, w.heap.size, x, f)) = wf at *
    gcells
    exact bodyPost_ret (v := ndV x f) (by simp [results, Try.results68, go_sem, ndV, Nd.kd, Nd.tx, Nd.nm, Nd.at_, Nd.ns, Nd.ks, leafN, fr0, nd0, g0, g1, g2, g3, g4, g5]) rfl (H4.out.done V_G4.out.node HBF.out)
  · have HN : Hid (opF T s2 [61] [60] [61] ≠ []) := fun h => by rw [E_op.out] at h; cases h
    obtain ⟨t, h_t⟩ : ∃ t, stepT T s2 = t := ⟨_, rfl⟩
    have E_t := Lib.hid h_t
    clear h_t
    obtain ⟨s4, h_s4⟩ : ∃ s4, stepF T s2 = s4 := ⟨_, rfl⟩
    have E_s4 := Lib.hid h_s4
    clear h_s4
    have G_s4 := Lib.hid (show Goes T s s4 from by have q := (G_s2.out.step E); rw [E_s4.out] at q; exact q)
    obtain ⟨y, s5, h_s5⟩ : ∃ y s5, sumF T r s4 = (y, s5) := ⟨_, _, rfl⟩
    have E_s5 := Lib.hid h_s5
    clear h_s5
    have hr : (Nd.mk 13 (o1 :: o2) 0 x.at_ [] [x, y], s5) = q := by
      have q1 := (if_neg (by simp)).symm.trans HQ2.out
      rw [E_s4.out, E_s5.out] at q1; exact q1
    subst hr
    clear HQ2 HN
    go_wp2_with fail
    refine (step_eq E E_t.out E_s4.out H4.out.p).mono ?_
    rintro e w5 ⟨rfl, h5, b5⟩
    have H5 := Lib.hid (H4.out.call h5 b5)
    have V_G5 := Lib.hid (V_G4.out.call H4.out b5)
    clear h5 b5 H4 V_G4
    go_upto_region 5 with (fail)
    have C6 := Lib.hid (fun wx (h : PAt wx R g c T s4) => gives_eq E_s5.out (CA wx s4 h (by rw [G_s4.out.deep]; exact HD.out)))
    refine region_Z (fun W => Whole W G 25 (ndL x f).toArray) (fun i => i == 8) (by kernel_rfl) V_G5.out.drew.X (fun hHeld => ?_)
    ztk 0 9
    · zcells
    zput
    ztk 1 9
    · zcells
    zput
    ztk 2 9
    · zcells
    zput
    ztk 3 9
    · zcells
    zput
    ztk 4 9
    · zcells
    zput
    zstep 5
    go_simp
    go_at_call 75
    refine (C6.out _ H5.out.drew.p).mono ?_
    rintro e wc ⟨fy, rfl, hpc, ny, bc⟩
    have HC := Lib.hid (H5.out.drew.call hpc bc)
    have VC := Lib.hid (V_G5.out.drew.call H5.out.drew bc)
    have NY := Lib.hid (ny.new H5.out.drew V_G5.out.drew)
    clear hpc ny bc
    unfold ndV
    refine hK.out _ _ (fun _ => VC.out.X) (fun hHeld2 => ?_)
    replace hHeld2 := hHeld2 (by decide)
    clear hK K hHeld
    zput
    zstep 6
    go_simp
    refine hK.out _ _ (fun _ => (VC.out.alloc (.cells #[.int .i64 x.kd, .string ⟨x.tx.toArray⟩, .int .i64 x.nm, .int .i64 (x.at_ : Int), .slice f.na x.ns.length f.nc, .slice f.ka x.ks.length f.kc, .int .i64 y.kd, .string ⟨y.tx.toArray⟩, .int .i64 y.nm, .int .i64 (y.at_ : Int), .slice fy.na y.ns.length fy.nc, .slice fy.ka y.ks.length fy.kc] 25)).X) (fun hHeld3 => ?_)
    replace hHeld3 := hHeld3 (by decide)
    clear hK K hHeld2
    zput
    ztk 7 9
    · zcells
    zput
    have VP : Var w (((((((wc.alloc (.cells #[.int .i64 x.kd, .string ⟨x.tx.toArray⟩, .int .i64 x.nm, .int .i64 (x.at_ : Int), .slice f.na x.ns.length f.nc, .slice f.ka x.ks.length f.kc, .int .i64 y.kd, .string ⟨y.tx.toArray⟩, .int .i64 y.nm, .int .i64 (y.at_ : Int), .slice fy.na y.ns.length fy.nc, .slice fy.ka y.ks.length fy.kc] 25)).setCell ⟨G, 0, none⟩ (.int .i64 13)).setCell ⟨G, 1, none⟩ (.string ⟨(o1 :: o2).toArray⟩)).setCell ⟨G, 2, none⟩ (.int .i64 0)).setCell ⟨G, 3, none⟩ (.int .i64 (x.at_ : Int))).setCell ⟨G, 4, none⟩ (.slice none 0 0)).setCell ⟨G, 5, none⟩ (.slice (some ⟨wc.heap.size, 0, none⟩) 2 2)) G (.mk 13 (o1 :: o2) 0 x.at_ [] [x, y]) ⟨none, 0, some ⟨wc.heap.size, 0, none⟩, 2⟩ := (VC.out.pair HC.out NY.out 13 (o1 :: o2) x.at_).1
    have V_G6 := Lib.hid VP
    have HP1 : St w (((((((wc.alloc (.cells #[.int .i64 x.kd, .string ⟨x.tx.toArray⟩, .int .i64 x.nm, .int .i64 (x.at_ : Int), .slice f.na x.ns.length f.nc, .slice f.ka x.ks.length f.kc, .int .i64 y.kd, .string ⟨y.tx.toArray⟩, .int .i64 y.nm, .int .i64 (y.at_ : Int), .slice fy.na y.ns.length fy.nc, .slice fy.ka y.ks.length fy.kc] 25)).setCell ⟨G, 0, none⟩ (.int .i64 13)).setCell ⟨G, 1, none⟩ (.string ⟨(o1 :: o2).toArray⟩)).setCell ⟨G, 2, none⟩ (.int .i64 0)).setCell ⟨G, 3, none⟩ (.int .i64 (x.at_ : Int))).setCell ⟨G, 4, none⟩ (.slice none 0 0)).setCell ⟨G, 5, none⟩ (.slice (some ⟨wc.heap.size, 0, none⟩) 2 2)) R g c T _ := (VC.out.pair HC.out NY.out 13 (o1 :: o2) x.at_).2
    have H6 := Lib.hid HP1
    have VA : Var w (wc.alloc (.cells #[.int .i64 x.kd, .string ⟨x.tx.toArray⟩, .int .i64 x.nm, .int .i64 (x.at_ : Int), .slice f.na x.ns.length f.nc, .slice f.ka x.ks.length f.kc, .int .i64 y.kd, .string ⟨y.tx.toArray⟩, .int .i64 y.nm, .int .i64 (y.at_ : Int), .slice fy.na y.ns.length fy.nc, .slice fy.ka y.ks.length fy.kc] 25)) G x f := VC.out.alloc _
    clear VP HP1 VC HC NY hHeld3
    generalize wc.alloc (.cells #[.int .i64 x.kd, .string ⟨x.tx.toArray⟩, .int .i64 x.nm, .int .i64 (x.at_ : Int), .slice f.na x.ns.length f.nc, .slice f.ka x.ks.length f.kc, .int .i64 y.kd, .string ⟨y.tx.toArray⟩, .int .i64 y.nm, .int .i64 (y.at_ : Int), .slice fy.na y.ns.length fy.nc, .slice fy.ka y.ks.length fy.kc] 25) = wq at *
    have u0 := VA.X.cell 0
    have u1 := VA.X.cell 1
    have u2 := VA.X.cell 2
    have u3 := VA.X.cell 3
    have u4 := VA.X.cell 4
    have u5 := VA.X.cell 5
    have v0 := VA.X.free 0
    have v1 := VA.X.free 1
    have v2 := VA.X.free 2
    have v3 := VA.X.free 3
    have v4 := VA.X.free 4
    have v5 := VA.X.free 5
    simp only [ndL, List.getElem?_toArray, List.getElem?_cons_zero, List.getElem?_cons_succ] at u0 u1 u2 u3 u4 u5
    clear VA
    zstep 8
    go_simp
    zgoz
    zdone
    clear hK K v0 v1 v2 v3 v4 v5 u0 u1 u2 u3 u4 u5
    obtain ⟨fw6, qf⟩ : ∃ f, (⟨none, 0, some ⟨wc.heap.size, 0, none⟩, 2⟩ : Fr) = f := ⟨_, rfl⟩
    rw [qf] at V_G6
    clear qf
    generalize ((((((wq.setCell ⟨G, 0, none⟩ (.int .i64 13)).setCell ⟨G, 1, none⟩ (.string ⟨(o1 :: o2).toArray⟩)).setCell ⟨G, 2, none⟩ (.int .i64 0)).setCell ⟨G, 3, none⟩ (.int .i64 (x.at_ : Int))).setCell ⟨G, 4, none⟩ (.slice none 0 0)).setCell ⟨G, 5, none⟩ (.slice (some ⟨wc.heap.size, 0, none⟩) 2 2)) = w6 at *
    clear C6 H5 V_G5
    have t0 : w6.cell? ⟨G, 0, none⟩ = some (.int .i64 13) := V_G6.out.X.cell 0
    have t1 : w6.cell? ⟨G, 1, none⟩ = some (.string ⟨(o1 :: o2).toArray⟩) := V_G6.out.X.cell 1
    have t2 : w6.cell? ⟨G, 2, none⟩ = some (.int .i64 0) := V_G6.out.X.cell 2
    have t3 : w6.cell? ⟨G, 3, none⟩ = some (.int .i64 (x.at_ : Int)) := V_G6.out.X.cell 3
    have t4 : w6.cell? ⟨G, 4, none⟩ = some (.slice fw6.na 0 fw6.nc) := V_G6.out.X.cell 4
    have t5 : w6.cell? ⟨G, 5, none⟩ = some (.slice fw6.ka 2 fw6.kc) := V_G6.out.X.cell 5
    zzero w6 (w.heap.size) (H6.out.z)
    zfree (H6.out.z)
    go_wp2_with fail
    have HZF : Hid (Whole ((((((w6.setCell ⟨w.heap.size, 0, none⟩ (.int .i64 13)).setCell ⟨w.heap.size, 1, none⟩ (.string ⟨(o1 :: o2).toArray⟩)).setCell ⟨w.heap.size, 2, none⟩ (.int .i64 0)).setCell ⟨w.heap.size, 3, none⟩ (.int .i64 (x.at_ : Int))).setCell ⟨w.heap.size, 4, none⟩ (.slice fw6.na 0 fw6.nc)).setCell ⟨w.heap.size, 5, none⟩ (.slice fw6.ka 2 fw6.kc)) w.heap.size 25 #[.int .i64 13, .string ⟨(o1 :: o2).toArray⟩, .int .i64 0, .int .i64 (x.at_ : Int), .slice fw6.na 0 fw6.nc, .slice fw6.ka 2 fw6.kc]) := put6 H6.out.z _ _ _ _ _ _
    have HBF : Hid (But w.heap.size w6.heap.size w6 ((((((w6.setCell ⟨w.heap.size, 0, none⟩ (.int .i64 13)).setCell ⟨w.heap.size, 1, none⟩ (.string ⟨(o1 :: o2).toArray⟩)).setCell ⟨w.heap.size, 2, none⟩ (.int .i64 0)).setCell ⟨w.heap.size, 3, none⟩ (.int .i64 (x.at_ : Int))).setCell ⟨w.heap.size, 4, none⟩ (.slice fw6.na 0 fw6.nc)).setCell ⟨w.heap.size, 5, none⟩ (.slice fw6.ka 2 fw6.kc))) := but6 _ _ _ _ _ _ _ _
    generalize ((((((w6.setCell ⟨w.heap.size, 0, none⟩ (.int .i64 13)).setCell ⟨w.heap.size, 1, none⟩ (.string ⟨(o1 :: o2).toArray⟩)).setCell ⟨w.heap.size, 2, none⟩ (.int .i64 0)).setCell ⟨w.heap.size, 3, none⟩ (.int .i64 (x.at_ : Int))).setCell ⟨w.heap.size, 4, none⟩ (.slice fw6.na 0 fw6.nc)).setCell ⟨w.heap.size, 5, none⟩ (.slice fw6.ka 2 fw6.kc)) = wf at *
    gcells
    exact bodyPost_ret (v := ndV (Nd.mk 13 (o1 :: o2) 0 x.at_ [] [x, y]) fw6) (by simp [results, Try.results68, go_sem, ndV, Nd.kd, Nd.tx, Nd.nm, Nd.at_, Nd.ns, Nd.ks, leafN, fr0, nd0, g0, g1, g2, g3, g4, g5]) rfl (H6.out.done (x := (Nd.mk 13 (o1 :: o2) 0 x.at_ [] [x, y])) (f := fw6) V_G6.out.node HBF.out)
end Go.Proofs.Ytgjchgmlogbmmaa
/- Fields of a node that is being made; rules where an error stands. -/
namespace Go.Proofs.Ytgjchgmlogbmmaa
open Go.RowKit
set_option linter.unusedVariables false
set_option linter.unusedSimpArgs false

theorem setKd_ns (x : Nd) (k : Int) : (x.setKd k).ns = x.ns := by cases x; rfl
theorem setKd_ks (x : Nd) (k : Int) : (x.setKd k).ks = x.ks := by cases x; rfl
theorem setTx_ns (x : Nd) (k : List UInt8) : (x.setTx k).ns = x.ns := by cases x; rfl
theorem setTx_ks (x : Nd) (k : List UInt8) : (x.setTx k).ks = x.ks := by cases x; rfl
theorem Box.putKd {w : World} {N base : Nat} {x : Nd} {f : Fr} {fs : List Fr} (h : Box w N base x f fs) (k : Int) : Box (w.setCell ⟨N, 0, none⟩ (.int .i64 k)) N base (x.setKd k) f fs :=
  h.put 0 _ (by cases x; rfl) (setKd_ns x k) (setKd_ks x k)
theorem Box.putTx {w : World} {N base : Nat} {x : Nd} {f : Fr} {fs : List Fr} (h : Box w N base x f fs) (k : List UInt8) : Box (w.setCell ⟨N, 1, none⟩ (.string ⟨k.toArray⟩)) N base (x.setTx k) f fs :=
  h.put 1 _ (by cases x; rfl) (setTx_ns x k) (setTx_ks x k)
section
variable {T : List Tok} {s : PS}
theorem sad_kd (h : s.e ≠ 0) : kdF T s = 0 := by unfold kdF; rw [if_neg h]
theorem sad_is (h : s.e ≠ 0) (x : List UInt8) : isF T s x = false := by unfold isF; rw [sad_kd h]; rfl
theorem sad_fail (h : s.e ≠ 0) (c : Int) : failF T s c = s := by unfold failF; rw [if_neg h]
theorem sad_want (h : s.e ≠ 0) (x : List UInt8) : wantF T s x = s := by unfold wantF; rw [sad_is h, if_neg (by decide), sad_fail h]
theorem sad_deep (h : s.e ≠ 0) : deepF T s = s := by unfold deepF; rw [sad_fail h]; split <;> rfl
theorem sad_enter (h : s.e ≠ 0) : enterB T s = false ∧ enterF T s = s := by
  unfold enterB enterF; rw [sad_deep h]; exact ⟨decide_eq_false h, if_neg h⟩
theorem fail_sad (s : PS) {c : Int} (hc : c ≠ 0) : (failF T s c).e ≠ 0 := by
  unfold failF; split
  · exact hc
  · assumption
/-- Where an error stands a rule that goes deeper gives nothing. -/
structure Calm (r : Rec) : Prop where
  exp : ∀ s : PS, s.e ≠ 0 → r.exp s = (nd0, s)
  pat : ∀ s : PS, s.e ≠ 0 → r.pat s = (nd0, s)
  ty : ∀ s : PS, s.e ≠ 0 → r.ty s = (nd0, s)
theorem calm_rules : ∀ n, Calm (rules T n)
  | 0 => ⟨fun _ _ => rfl, fun _ _ => rfl, fun _ _ => rfl⟩
  | n + 1 => ⟨fun s h => by show expF T _ s = _; unfold expF; rw [(sad_enter h).1, (sad_enter h).2]; rfl, fun s h => by show patF T _ s = _; unfold patF; rw [(sad_enter h).1, (sad_enter h).2]; rfl, fun s h => by show tyF T _ s = _; unfold tyF; rw [(sad_enter h).1, (sad_enter h).2]; rfl⟩
theorem calm_whole {r : Rec} (C : Calm r) (h : s.e ≠ 0) : wholeF r s = (nd0, s) := by
  unfold wholeF; rw [C.exp { s with flat := false } h]
theorem matL_stop {r : Rec} : ∀ (f : Nat) (n : Nd) (s : PS), matL T r f false n s = (n, s)
  | 0, _, _ => rfl
  | f + 1, n, s => by show (if _ then _ else _) = _; rw [if_neg (by decide)]
end
end Go.Proofs.Ytgjchgmlogbmmaa
/- A kid is laid into a place that was made for it, ahead of or behind the store of the row. -/
namespace Go.Proofs.Ytgjchgmlogbmmaa
open Go.RowKit
set_option linter.unusedVariables false
set_option linter.unusedSimpArgs false

section
variable {w0 w wd : World} {R g c G N : Nat} {T : List Tok} {s : PS} {x y : Nd} {f fy : Fr} {fs : List Fr} {gv cv B : Nat}
theorem zero_cells {base m : Nat} {v : Value} {L : List Value} (h : Appended w base 25 6 v m (L ++ [.int .i64 0, .string ⟨#[]⟩, .int .i64 0, .int .i64 0, .slice none 0 0, .slice none 0 0]) (.slice (some ⟨gv, 0, none⟩) m cv) wd) (hm : m * 6 = L.length + 6) :
    ∀ j : Nat, j < 6 → wd.cell? ⟨gv, L.length + j, none⟩ = ([.int .i64 0, .string ⟨#[]⟩, .int .i64 0, .int .i64 0, .slice none 0 0, .slice none 0 0] : List Value)[j]? ∧ wd.frozen? ⟨gv, L.length + j, none⟩ = false := fun j hj => by
  obtain ⟨g', c', e, _, _, hc, hf⟩ := own_cell h.1 (k := L.length + j) (by omega)
  simp only [Value.slice.injEq] at e
  have eg : gv = g' := by have := e.1; simpa using this
  subst eg
  refine ⟨?_, hf⟩
  rw [hc, List.getElem?_append_right (by omega), Nat.add_sub_cancel_left]
def kidW (w : World) (gv N : Nat) (y : Nd) (fy : Fr) : World := ((((((w.setCell ⟨gv, N, none⟩ (.int .i64 y.kd)).setCell ⟨gv, N + 1, none⟩ (.string ⟨y.tx.toArray⟩)).setCell ⟨gv, N + 2, none⟩ (.int .i64 y.nm)).setCell ⟨gv, N + 3, none⟩ (.int .i64 (y.at_ : Int))).setCell ⟨gv, N + 4, none⟩ (.slice fy.na y.ns.length fy.nc)).setCell ⟨gv, N + 5, none⟩ (.slice fy.ka y.ks.length fy.kc))
theorem kid_comm (w : World) {gv G : Nat} (h : gv ≠ G) (N k : Nat) (u : Value) (y : Nd) (fy : Fr) : kidW (w.setCell ⟨G, k, none⟩ u) gv N y fy = (kidW w gv N y fy).setCell ⟨G, k, none⟩ u := by
  unfold kidW
  rw [set_comm w (p := ⟨G, k, none⟩) (q := ⟨gv, N, none⟩) (Ne.symm h), set_comm _ (p := ⟨G, k, none⟩) (q := ⟨gv, N + 1, none⟩) (Ne.symm h), set_comm _ (p := ⟨G, k, none⟩) (q := ⟨gv, N + 2, none⟩) (Ne.symm h), set_comm _ (p := ⟨G, k, none⟩) (q := ⟨gv, N + 3, none⟩) (Ne.symm h), set_comm _ (p := ⟨G, k, none⟩) (q := ⟨gv, N + 4, none⟩) (Ne.symm h), set_comm _ (p := ⟨G, k, none⟩) (q := ⟨gv, N + 5, none⟩) (Ne.symm h)]
/-- What stands behind such a region. -/
theorem kid_done {base : Nat} (hb2 : w0.heap.size + 1 = base) (H : St w0 w R g c T s) (BX : Box w G base x f fs) (hN : G < B) (hnB : ∀ a, f.na = some ⟨a, 0, none⟩ → a < B) (hkB : ∀ a, f.ka = some ⟨a, 0, none⟩ → a < B) (ny : NodeIn w (fun a => B ≤ a) y fy)
    (hap : Appended w base 25 6 (.slice f.ka x.ks.length f.kc) (x.ks.length + 1) (flatL x.ks fs ++ [.int .i64 0, .string ⟨#[]⟩, .int .i64 0, .int .i64 0, .slice none 0 0, .slice none 0 0]) (.slice (some ⟨gv, 0, none⟩) (x.ks.length + 1) cv) wd) :
    Box ((kidW wd gv (x.ks.length * 6) y fy).setCell ⟨G, 5, none⟩ (.slice (some ⟨gv, 0, none⟩) (x.ks.length + 1) cv)) G base (x.add y) ⟨f.na, f.nc, some ⟨gv, 0, none⟩, cv⟩ (fs ++ [fy]) ∧
    St w0 ((kidW wd gv (x.ks.length * 6) y fy).setCell ⟨G, 5, none⟩ (.slice (some ⟨gv, 0, none⟩) (x.ks.length + 1) cv)) R g c T s ∧ gv ≠ G := by
  subst hb2
  have hl : (flatL x.ks fs).length = x.ks.length * 6 := flatL_len _ _ BX.len
  have hk := hap.kid (y := y) (fy := fy) hl
  have hlo := BX.lo
  have hHD := H.low (hap.below BX.kid (Below.refl _ _) (Nat.le_refl _) (by have := H.size; omega))
  have hgb : w0.heap.size + 1 ≤ gv := (hap.1.lt gv rfl).1
  have hne : gv ≠ G := fun e => by
    rcases hap.2.2 gv rfl with h | h
    · exact row_ne BX.kid BX.kN (by rw [h, e])
    · have := BX.lt; omega
  refine ⟨BX.app hN hnB hkB ny hk, ?_, hne⟩
  exact ((((((hHD.own (p := ⟨gv, _, none⟩) hgb _).own (p := ⟨gv, _, none⟩) hgb _).own (p := ⟨gv, _, none⟩) hgb _).own (p := ⟨gv, _, none⟩) hgb _).own (p := ⟨gv, _, none⟩) hgb _).own (p := ⟨gv, _, none⟩) hgb _).own (p := ⟨G, 5, none⟩) hlo _
theorem kid_whole {t : TypeId} {cs : Array Value} (h : Whole w G t cs) (hne : G ≠ gv) (N : Nat) (y : Nd) (fy : Fr) : Whole (kidW w gv N y fy) G t cs :=
  (((((h.far (p := ⟨gv, N, none⟩) hne _).far (p := ⟨gv, N + 1, none⟩) hne _).far (p := ⟨gv, N + 2, none⟩) hne _).far (p := ⟨gv, N + 3, none⟩) hne _).far (p := ⟨gv, N + 4, none⟩) hne _).far (p := ⟨gv, N + 5, none⟩) hne _
end
/-- Where a rule stands that has no result's block of its own: what lies below base is as it was, but the record. -/
structure Lo (base : Nat) (w0 w : World) (R g c : Nat) (T : List Tok) (s : PS) : Prop where
  p : PAt w R g c T s
  b : But R base w0 w
  r : R < base
  l : g < base
  size : base ≤ w.heap.size
section
variable {base : Nat} {w0 w w' : World} {R g c : Nat} {T : List Tok} {s s' : PS}
theorem Lo.call (h : Lo base w0 w R g c T s) (p : PAt w' R g c T s') (b : But R w.heap.size w w') : Lo base w0 w' R g c T s' :=
  ⟨p, h.b.trans (b.mono h.size), h.r, h.l, Nat.le_trans h.size b.size⟩
theorem Lo.read (h : Lo base w0 w R g c T s) (b : Below w.heap.size w w') : Lo base w0 w' R g c T s := h.call (h.p.below b (Nat.le_refl _)) (.of_below b)
theorem Lo.alloc (h : Lo base w0 w R g c T s) (o : Obj) : Lo base w0 (w.alloc o) R g c T s := h.read ((Below.refl _ _).alloc (Nat.le_refl _) o)
theorem Lo.drew (h : Lo base w0 w R g c T s) : Lo base w0 w.drew R g c T s := h.read (Below.refl _ _).drew
theorem Lo.own (h : Lo base w0 w R g c T s) {p : Addr} (hp : base ≤ p.block) (u : Value) : Lo base w0 (w.setCell p u) R g c T s :=
  ⟨h.p.setCell (by have := h.r; omega) (by have := h.l; omega) u, h.b.setCell hp u, h.r, h.l, by simp [World.setCell]; exact h.size⟩
theorem Lo.low (h : Lo base w0 w R g c T s) (b : Below base w w') : Lo base w0 w' R g c T s :=
  ⟨⟨(b.block R h.r).trans h.p.box, h.p.ne, h.p.tk.block b.size (b.block g h.l), h.p.lt, h.p.len, h.p.deep⟩, h.b.trans (.of_below b), h.r, h.l, Nat.le_trans h.size b.size⟩
/-- What lies low is as it was, but the record, which is told. -/
theorem St.lowR (h : St w0 w R g c T s) (b : But R (w0.heap.size + 1) w w') (p : PAt w' R g c T s') : St w0 w' R g c T s' :=
  ⟨p, (b.block _ (Nat.lt_succ_self _) (Nat.ne_of_gt h.r)).trans h.z, h.b.trans (b.mono (Nat.le_succ _)), h.r, h.l⟩
variable {x y : Nd} {f fy : Fr} {fs : List Fr} {G B gv cv : Nat} {wd : World}
theorem kid_done2 (H : Lo base w0 w R g c T s) (BX : Box w G base x f fs) (hN : G < B) (hnB : ∀ a, f.na = some ⟨a, 0, none⟩ → a < B) (hkB : ∀ a, f.ka = some ⟨a, 0, none⟩ → a < B) (ny : NodeIn w (fun a => B ≤ a) y fy)
    (hap : Appended w base 25 6 (.slice f.ka x.ks.length f.kc) (x.ks.length + 1) (flatL x.ks fs ++ [.int .i64 0, .string ⟨#[]⟩, .int .i64 0, .int .i64 0, .slice none 0 0, .slice none 0 0]) (.slice (some ⟨gv, 0, none⟩) (x.ks.length + 1) cv) wd) :
    Box ((kidW wd gv (x.ks.length * 6) y fy).setCell ⟨G, 5, none⟩ (.slice (some ⟨gv, 0, none⟩) (x.ks.length + 1) cv)) G base (x.add y) ⟨f.na, f.nc, some ⟨gv, 0, none⟩, cv⟩ (fs ++ [fy]) ∧
    Lo base w0 ((kidW wd gv (x.ks.length * 6) y fy).setCell ⟨G, 5, none⟩ (.slice (some ⟨gv, 0, none⟩) (x.ks.length + 1) cv)) R g c T s ∧ gv ≠ G := by
  have hl : (flatL x.ks fs).length = x.ks.length * 6 := flatL_len _ _ BX.len
  have hk := hap.kid (y := y) (fy := fy) hl
  have hlo := BX.lo
  have hHD := H.low (hap.below BX.kid (Below.refl _ _) (Nat.le_refl _) H.size)
  have hgb : base ≤ gv := (hap.1.lt gv rfl).1
  have hne : gv ≠ G := fun e => by
    rcases hap.2.2 gv rfl with h | h
    · exact row_ne BX.kid BX.kN (by rw [h, e])
    · have := BX.lt; omega
  refine ⟨BX.app hN hnB hkB ny hk, ?_, hne⟩
  exact ((((((hHD.own (p := ⟨gv, _, none⟩) hgb _).own (p := ⟨gv, _, none⟩) hgb _).own (p := ⟨gv, _, none⟩) hgb _).own (p := ⟨gv, _, none⟩) hgb _).own (p := ⟨gv, _, none⟩) hgb _).own (p := ⟨gv, _, none⟩) hgb _).own (p := ⟨G, 5, none⟩) hlo _
end
end Go.Proofs.Ytgjchgmlogbmmaa
/- The walks of layer 5, the document's: what a name is to mean. -/
namespace Go.Proofs.Ytgjchgmlogbmmaa
open Go.RowKit
set_option linter.unusedVariables false
set_option linter.unusedSimpArgs false
attribute [local go_sem ↓] Go.wp_at_zero Go.wp_at_succ

theorem frozen_far {w : World} {p q : Addr} {u : Value} (hne : q.block ≠ p.block) : (w.setCell p u).frozen? q = w.frozen? q := by
  unfold World.frozen?; rw [Below.heap_setCell w p u q.block hne]
set_option maxRecDepth 100000 in
set_option maxHeartbeats 16000000 in
theorem value_any (w : World) (R g c base N : Nat) (T : List Tok) (r : Rec) (n : Nat) (s : PS) (x : Nd) (f : Fr) (fs : List Fr) (E : Ends T) (F : Fine T r) (D : Deep R g c T r n) (hp : PAt w R g c T s) (hr : R < base) (hg : g < base) (hbx : Box w N base x f fs) (hks : x.ks.length ≤ 100000) (hd : 41 ≤ s.deep + n) :
    Calls Try.prog 53 #[.pointer (some ⟨R, 0, none⟩), .pointer (some ⟨N, 0, none⟩)] w (fun e w' => e = .returned (.bool (valueB T s)) ∧ (∃ f2 fs2, Box w' N base (valueF T r x s).1 f2 fs2) ∧ PAt w' R g c T (valueF T r x s).2 ∧ But R base w w') := by
  have H0 := Lib.hid (show Lo base w w R g c T s from ⟨hp, .refl _ _ _, hr, hg, by have := hbx.lt; have := hbx.lo; omega⟩)
  have HD := Lib.hid hd
  have HL := Lib.hid hp.lt
  have G_s := Lib.hid (Goes.refl hp.lt)
  have BX := Lib.hid hbx
  clear hp hd hbx hr hg
  obtain ⟨b, hb⟩ : ∃ b, valueB T s = b := ⟨_, rfl⟩
  obtain ⟨q, hq⟩ : ∃ q, valueF T r x s = q := ⟨_, rfl⟩
  rw [hb, hq]
  have HQ := Lib.hid hq
  have E_b := Lib.hid (show isF T s [114, 101, 99] = b from hb)
  clear hq hb
  go_enter Try.func53, Try.ntmps53
  go_wp2_with fail
  refine (is_eq E_b.out H0.out.p).mono ?_
  rintro e w1 ⟨rfl, b1⟩
  have H1 := Lib.hid (H0.out.read b1)
  have B_N1 := Lib.hid (BX.out.below b1 (Nat.le_refl _))
  clear b1 H0 BX
  rcases b with _ | _
  · obtain ⟨tx, h_tx⟩ : ∃ tx, textT T s 3 = tx := ⟨_, rfl⟩
    have E_tx := Lib.hid h_tx
    clear h_tx
    obtain ⟨s2, h_s2⟩ : ∃ s2, textF T s 3 = s2 := ⟨_, rfl⟩
    have E_s2 := Lib.hid h_s2
    clear h_s2
    have G_s2 := Lib.hid (show Goes T s s2 from by have q := (G_s.out.text E 3); rw [E_s2.out] at q; exact q)
    obtain ⟨s3, h_s3⟩ : ∃ s3, wantF T s2 [61] = s3 := ⟨_, rfl⟩
    have E_s3 := Lib.hid h_s3
    clear h_s3
    have G_s3 := Lib.hid (show Goes T s s3 from by have q := (G_s2.out.want E [61]); rw [E_s3.out] at q; exact q)
    obtain ⟨bf, h_bf⟩ : ∃ bf, isF T s3 [102, 117, 110] = bf := ⟨_, rfl⟩
    have E_bf := Lib.hid h_bf
    clear h_bf
    go_upto_region 4 with (fail)
    go_wp2_with fail
    refine (text_eq E E_tx.out E_s2.out H1.out.p).mono ?_
    rintro e w2 ⟨rfl, h2, b2⟩
    have H2 := Lib.hid (H1.out.call h2 b2)
    have B_N2 := Lib.hid (B_N1.out.but b2 (Nat.le_refl _) (by have := H1.out.r; omega))
    clear h2 b2 H1 B_N1
    have c1 := B_N2.out.c1
    have f1 := B_N2.out.free 1
    go_upto_region 5 with (fail)
    have B_N3 := Lib.hid (B_N2.out.putTx tx)
    have H3 := Lib.hid (H2.out.own (p := ⟨N, 1, none⟩) B_N2.out.lo (.string ⟨tx.toArray⟩))
    clear c1 f1 B_N2 H2
    generalize w2.setCell ⟨N, 1, none⟩ (.string ⟨tx.toArray⟩) = w3 at *
    obtain ⟨zz1, h_zz1⟩ : ∃ z9, (x.setTx tx) = z9 := ⟨_, rfl⟩
    rw [h_zz1] at B_N3
    have Z_zz1 := Lib.hid h_zz1
    clear h_zz1
    go_wp2_with fail
    refine (want_eq E E_s3.out H3.out.p).mono ?_
    rintro e w4 ⟨rfl, h4, b4⟩
    have H4 := Lib.hid (H3.out.call h4 b4)
    have B_N4 := Lib.hid (B_N3.out.but b4 (Nat.le_refl _) (by have := H3.out.r; omega))
    clear h4 b4 H3 B_N3
    go_wp2_with fail
    refine (is_eq E_bf.out H4.out.p).mono ?_
    rintro e w5 ⟨rfl, b5⟩
    have H5 := Lib.hid (H4.out.read b5)
    have B_N5 := Lib.hid (B_N4.out.below b5 (Nat.le_refl _))
    clear b5 H4 B_N4
    obtain ⟨y, s5, h_s5⟩ : ∃ y s5, r.exp s3 = (y, s5) := ⟨_, _, rfl⟩
    have E_s5 := Lib.hid h_s5
    clear h_s5
    have l1 : zz1.ks.length ≤ 100000 := by rw [← Z_zz1.out, setTx_ks]; exact hks
    have hq : (zz1.add y, s5) = q := by
      rw [← HQ.out, ← Z_zz1.out]; unfold valueF; dsimp only; rw [E_b.out, if_neg (by decide), E_tx.out, E_s2.out, E_s3.out, E_bf.out, if_neg (fun h => absurd h.1 (by decide)), E_s5.out]
    have HQ2 := Lib.hid hq
    clear hq HQ
    go_upto_region 9 with (fail)
    have C9 := Lib.hid (fun wx (h : PAt wx R g c T s3) => gives_eq E_s5.out (D.exp wx s3 h (by rw [G_s3.out.deep]; exact HD.out)))
    go_cut [38] (fun _ wx => ∃ f2 fs2, Box wx N base (zz1.add y) f2 fs2 ∧ Lo base w wx R g c T s5)
    case first =>
      refine region_Z (fun W => W.cell? ⟨N, 5, none⟩ = some (.slice f.ka zz1.ks.length f.kc)) (fun i => decide (8 ≤ i ∧ i < 14)) (by kernel_rfl) B_N5.out.drew.c5 (fun hHeld => ?_)
      ztake 0 14
      ztake 1 14
      ztake 2 14
      ztake 3 14
      ztake 4 14
      ztake 6 14
      refine anyZ_split (i := 5) (j := 7) (by kernel_rfl) rfl rfl (fun K hK => ?_) (fun K hK => ?_)
      · go_simp
        go_at_call 39
        refine (C9.out _ H5.out.drew.p).mono ?_
        rintro e wc ⟨fy, rfl, hpc, ny, bc⟩
        have HC := Lib.hid (H5.out.drew.call hpc bc)
        have BC := Lib.hid (B_N5.out.drew.but bc (Nat.le_refl _) (by have := H5.out.r; omega))
        have NY : Hid (NodeIn wc (fun a => w5.heap.size ≤ a) y fy) := ny
        clear hpc ny bc
        unfold ndV
        refine hK.out _ _ (fun _ => BC.out.c5) (fun hHeld2 => ?_)
        replace hHeld2 := hHeld2 (by decide)
        clear hK K hHeld
        zput
        zstep 7
        go_simp
        refine hK.out _ _ (fun _ => (BC.out.alloc _).c5) (fun hHeld3 => ?_)
        clear hK K hHeld2 hHeld3
        zput
        have HA := Lib.hid (HC.out.alloc (.cells zZ 25))
        have BA := Lib.hid (BC.out.alloc (.cells zZ 25))
        have NA := Lib.hid (NY.out.alloc (.cells zZ 25))
        have ZA : Hid (Whole (wc.alloc (.cells zZ 25)) wc.heap.size 25 zZ) := Whole.made _ _ _
        clear HC BC NY
        generalize wc.alloc (.cells zZ 25) = wa at *
        generalize wc.heap.size = Zb at *
        zstep 8
        refine step_app ty_nd (v := .slice f.ka zz1.ks.length f.kc) (by rfl) _ _ (by rfl) (by rfl) BA.out.kid Zb 1 [.int .i64 0, .string ⟨#[]⟩, .int .i64 0, .int .i64 0, .slice none 0 0, .slice none 0 0] (by rfl) ZA.out (by rfl) (by simp [Value.oneCell']) (by decide) (by omega) (by decide) (by have := HA.out.size; omega) ?_
        intro gv cv wd hap
        have KD := Lib.hid (kid_done2 HA.out BA.out B_N5.out.lt B_N5.out.nlt B_N5.out.klt NA.out hap)
        have hln := flatL_len _ _ BA.out.len
        have ZC := Lib.hid (zero_cells hap (by rw [hln]; omega))
        rw [hln] at ZC
        have XD := Lib.hid (hap.far BA.out.box (row_ne BA.out.kid BA.out.kN))
        have hgn : gv ≠ N := KD.out.2.2
        have hgn2 : N ≠ gv := Ne.symm hgn
        have HGN := Lib.hid hgn
        have HGN2 := Lib.hid hgn2
        clear hln hgn hgn2 hap HA BA NA ZA
        zgoz
        clear hK K
        zput
        refine anyZ_free _ _ _ _ (by decide) ?_
        have hT : True := trivial
        have hix : (zz1.ks.length : Int) < (zz1.ks.length : Int) + 1 := by omega
        ztaki 9 14
        ztaki 11 14
        ztaki 12 14
        refine anyZ_split (i := 10) (j := 13) (by kernel_rfl) rfl rfl (fun K hK => ?_) (fun K hK => ?_)
        · have u0 : wd.cell? ⟨gv, zz1.ks.length * 6, none⟩ = some (.int .i64 0) := (ZC.out 0 (by decide)).1
          have v0 : wd.frozen? ⟨gv, zz1.ks.length * 6, none⟩ = false := (ZC.out 0 (by decide)).2
          have u1 : wd.cell? ⟨gv, zz1.ks.length * 6 + 1, none⟩ = some (.string ⟨#[]⟩) := (ZC.out 1 (by decide)).1
          zv v1 1 (wd) (zz1)
          have u2 : wd.cell? ⟨gv, zz1.ks.length * 6 + 2, none⟩ = some (.int .i64 0) := (ZC.out 2 (by decide)).1
          zv v2 2 (wd) (zz1)
          have u3 : wd.cell? ⟨gv, zz1.ks.length * 6 + 3, none⟩ = some (.int .i64 0) := (ZC.out 3 (by decide)).1
          zv v3 3 (wd) (zz1)
          have u4 : wd.cell? ⟨gv, zz1.ks.length * 6 + 4, none⟩ = some (.slice none 0 0) := (ZC.out 4 (by decide)).1
          zv v4 4 (wd) (zz1)
          have u5 : wd.cell? ⟨gv, zz1.ks.length * 6 + 5, none⟩ = some (.slice none 0 0) := (ZC.out 5 (by decide)).1
          zv v5 5 (wd) (zz1)
          go_simp
          zgo
          clear hK K u0 u1 u2 u3 u4 u5 v0 v1 v2 v3 v4 v5
          have XK := Lib.hid (kid_whole XD.out HGN2.out (zz1.ks.length * 6) y fy)
          have c5 : (kidW wd gv (zz1.ks.length * 6) y fy).cell? ⟨N, 5, none⟩ = some (.slice f.ka zz1.ks.length f.kc) := XK.out.cell 5
          have v5 := XK.out.free 5
          change anyZ _ _ _ _ _ _ _ _ _ (kidW wd gv (zz1.ks.length * 6) y fy)
          generalize kidW wd gv (zz1.ks.length * 6) y fy = wk at *
          clear XK
          zput
          zstep 13
          go_simp
          zgo
          zdone
          clear hK K c5 v5
          go_wp2_with fail
          go_meet
          exact ⟨_, _, KD.out.1, KD.out.2.1⟩
        · have c5 : wd.cell? ⟨N, 5, none⟩ = some (.slice f.ka zz1.ks.length f.kc) := XD.out.cell 5
          have v5 := XD.out.free 5
          go_simp
          zgo
          clear hK K c5 v5
          have u0 : (wd.setCell ⟨N, 5, none⟩ (.slice (some ⟨gv, 0, none⟩) (zz1.ks.length + 1) cv)).cell? ⟨gv, zz1.ks.length * 6, none⟩ = some (.int .i64 0) := cell_far (ZC.out 0 (by decide)).1 HGN.out
          have v0 : (wd.setCell ⟨N, 5, none⟩ (.slice (some ⟨gv, 0, none⟩) (zz1.ks.length + 1) cv)).frozen? ⟨gv, zz1.ks.length * 6, none⟩ = false := (frozen_far HGN.out).trans (ZC.out 0 (by decide)).2
          have u1 : (wd.setCell ⟨N, 5, none⟩ (.slice (some ⟨gv, 0, none⟩) (zz1.ks.length + 1) cv)).cell? ⟨gv, zz1.ks.length * 6 + 1, none⟩ = some (.string ⟨#[]⟩) := cell_far (ZC.out 1 (by decide)).1 HGN.out
          zvf v1 1 (wd.setCell ⟨N, 5, none⟩ (.slice (some ⟨gv, 0, none⟩) (zz1.ks.length + 1) cv)) (zz1)
          have u2 : (wd.setCell ⟨N, 5, none⟩ (.slice (some ⟨gv, 0, none⟩) (zz1.ks.length + 1) cv)).cell? ⟨gv, zz1.ks.length * 6 + 2, none⟩ = some (.int .i64 0) := cell_far (ZC.out 2 (by decide)).1 HGN.out
          zvf v2 2 (wd.setCell ⟨N, 5, none⟩ (.slice (some ⟨gv, 0, none⟩) (zz1.ks.length + 1) cv)) (zz1)
          have u3 : (wd.setCell ⟨N, 5, none⟩ (.slice (some ⟨gv, 0, none⟩) (zz1.ks.length + 1) cv)).cell? ⟨gv, zz1.ks.length * 6 + 3, none⟩ = some (.int .i64 0) := cell_far (ZC.out 3 (by decide)).1 HGN.out
          zvf v3 3 (wd.setCell ⟨N, 5, none⟩ (.slice (some ⟨gv, 0, none⟩) (zz1.ks.length + 1) cv)) (zz1)
          have u4 : (wd.setCell ⟨N, 5, none⟩ (.slice (some ⟨gv, 0, none⟩) (zz1.ks.length + 1) cv)).cell? ⟨gv, zz1.ks.length * 6 + 4, none⟩ = some (.slice none 0 0) := cell_far (ZC.out 4 (by decide)).1 HGN.out
          zvf v4 4 (wd.setCell ⟨N, 5, none⟩ (.slice (some ⟨gv, 0, none⟩) (zz1.ks.length + 1) cv)) (zz1)
          have u5 : (wd.setCell ⟨N, 5, none⟩ (.slice (some ⟨gv, 0, none⟩) (zz1.ks.length + 1) cv)).cell? ⟨gv, zz1.ks.length * 6 + 5, none⟩ = some (.slice none 0 0) := cell_far (ZC.out 5 (by decide)).1 HGN.out
          zvf v5 5 (wd.setCell ⟨N, 5, none⟩ (.slice (some ⟨gv, 0, none⟩) (zz1.ks.length + 1) cv)) (zz1)
          have KD2 := Lib.hid (show Box (kidW (wd.setCell ⟨N, 5, none⟩ (.slice (some ⟨gv, 0, none⟩) (zz1.ks.length + 1) cv)) gv (zz1.ks.length * 6) y fy) N base (zz1.add y) _ _ ∧ Lo base w (kidW (wd.setCell ⟨N, 5, none⟩ (.slice (some ⟨gv, 0, none⟩) (zz1.ks.length + 1) cv)) gv (zz1.ks.length * 6) y fy) R g c T s5 from by rw [kid_comm _ HGN.out]; exact ⟨KD.out.1, KD.out.2.1⟩)
          clear KD
          generalize wd.setCell ⟨N, 5, none⟩ (.slice (some ⟨gv, 0, none⟩) (zz1.ks.length + 1) cv) = wk at *
          zput
          zstep 10
          go_simp
          zgo
          zdone
          clear hK K u0 u1 u2 u3 u4 u5 v0 v1 v2 v3 v4 v5
          go_wp2_with fail
          go_meet
          exact ⟨_, _, KD2.out.1, KD2.out.2⟩
      · go_simp
        refine hK.out _ _ (fun _ => (B_N5.out.drew.alloc _).c5) (fun hHeld2 => ?_)
        replace hHeld2 := hHeld2 (by decide)
        clear hK K hHeld
        zput
        zstep 5
        go_simp
        go_at_call 39
        refine (C9.out _ (H5.out.drew.alloc (.cells zZ 25)).p).mono ?_
        rintro e wc ⟨fy, rfl, hpc, ny, bc⟩
        have HA := Lib.hid ((H5.out.drew.alloc (.cells zZ 25)).call hpc bc)
        have BA := Lib.hid ((B_N5.out.drew.alloc (.cells zZ 25)).but bc (Nat.le_refl _) (by have := H5.out.r; omega))
        have NA : Hid (NodeIn wc (fun a => w5.heap.size ≤ a) y fy) := ny.mono fun a ha _ => by simp at ha; omega
        have ZA : Hid (Whole wc w5.heap.size 25 zZ) := bc.whole (Whole.made w5.drew 25 zZ) (by simp) (by have := H5.out.r; have := H5.out.size; simp; omega)
        clear hpc ny bc
        unfold ndV
        refine hK.out _ _ (fun _ => BA.out.c5) (fun hHeld3 => ?_)
        clear hK K hHeld2 hHeld3
        zput
        zstep 8
        refine step_app ty_nd (v := .slice f.ka zz1.ks.length f.kc) (by rfl) _ _ (by rfl) (by rfl) BA.out.kid w5.heap.size 1 [.int .i64 0, .string ⟨#[]⟩, .int .i64 0, .int .i64 0, .slice none 0 0, .slice none 0 0] (by rfl) ZA.out (by rfl) (by simp [Value.oneCell']) (by decide) (by omega) (by decide) (by have := HA.out.size; omega) ?_
        intro gv cv wd hap
        have KD := Lib.hid (kid_done2 HA.out BA.out B_N5.out.lt B_N5.out.nlt B_N5.out.klt NA.out hap)
        have hln := flatL_len _ _ BA.out.len
        have ZC := Lib.hid (zero_cells hap (by rw [hln]; omega))
        rw [hln] at ZC
        have XD := Lib.hid (hap.far BA.out.box (row_ne BA.out.kid BA.out.kN))
        have hgn : gv ≠ N := KD.out.2.2
        have hgn2 : N ≠ gv := Ne.symm hgn
        have HGN := Lib.hid hgn
        have HGN2 := Lib.hid hgn2
        clear hln hgn hgn2 hap HA BA NA ZA
        zgoz
        clear hK K
        zput
        refine anyZ_free _ _ _ _ (by decide) ?_
        have hT : True := trivial
        have hix : (zz1.ks.length : Int) < (zz1.ks.length : Int) + 1 := by omega
        ztaki 9 14
        ztaki 11 14
        ztaki 12 14
        refine anyZ_split (i := 10) (j := 13) (by kernel_rfl) rfl rfl (fun K hK => ?_) (fun K hK => ?_)
        · have u0 : wd.cell? ⟨gv, zz1.ks.length * 6, none⟩ = some (.int .i64 0) := (ZC.out 0 (by decide)).1
          have v0 : wd.frozen? ⟨gv, zz1.ks.length * 6, none⟩ = false := (ZC.out 0 (by decide)).2
          have u1 : wd.cell? ⟨gv, zz1.ks.length * 6 + 1, none⟩ = some (.string ⟨#[]⟩) := (ZC.out 1 (by decide)).1
          zv v1 1 (wd) (zz1)
          have u2 : wd.cell? ⟨gv, zz1.ks.length * 6 + 2, none⟩ = some (.int .i64 0) := (ZC.out 2 (by decide)).1
          zv v2 2 (wd) (zz1)
          have u3 : wd.cell? ⟨gv, zz1.ks.length * 6 + 3, none⟩ = some (.int .i64 0) := (ZC.out 3 (by decide)).1
          zv v3 3 (wd) (zz1)
          have u4 : wd.cell? ⟨gv, zz1.ks.length * 6 + 4, none⟩ = some (.slice none 0 0) := (ZC.out 4 (by decide)).1
          zv v4 4 (wd) (zz1)
          have u5 : wd.cell? ⟨gv, zz1.ks.length * 6 + 5, none⟩ = some (.slice none 0 0) := (ZC.out 5 (by decide)).1
          zv v5 5 (wd) (zz1)
          go_simp
          zgo
          clear hK K u0 u1 u2 u3 u4 u5 v0 v1 v2 v3 v4 v5
          have XK := Lib.hid (kid_whole XD.out HGN2.out (zz1.ks.length * 6) y fy)
          have c5 : (kidW wd gv (zz1.ks.length * 6) y fy).cell? ⟨N, 5, none⟩ = some (.slice f.ka zz1.ks.length f.kc) := XK.out.cell 5
          have v5 := XK.out.free 5
          change anyZ _ _ _ _ _ _ _ _ _ (kidW wd gv (zz1.ks.length * 6) y fy)
          generalize kidW wd gv (zz1.ks.length * 6) y fy = wk at *
          clear XK
          zput
          zstep 13
          go_simp
          zgo
          zdone
          clear hK K c5 v5
          go_wp2_with fail
          go_meet
          exact ⟨_, _, KD.out.1, KD.out.2.1⟩
        · have c5 : wd.cell? ⟨N, 5, none⟩ = some (.slice f.ka zz1.ks.length f.kc) := XD.out.cell 5
          have v5 := XD.out.free 5
          go_simp
          zgo
          clear hK K c5 v5
          have u0 : (wd.setCell ⟨N, 5, none⟩ (.slice (some ⟨gv, 0, none⟩) (zz1.ks.length + 1) cv)).cell? ⟨gv, zz1.ks.length * 6, none⟩ = some (.int .i64 0) := cell_far (ZC.out 0 (by decide)).1 HGN.out
          have v0 : (wd.setCell ⟨N, 5, none⟩ (.slice (some ⟨gv, 0, none⟩) (zz1.ks.length + 1) cv)).frozen? ⟨gv, zz1.ks.length * 6, none⟩ = false := (frozen_far HGN.out).trans (ZC.out 0 (by decide)).2
          have u1 : (wd.setCell ⟨N, 5, none⟩ (.slice (some ⟨gv, 0, none⟩) (zz1.ks.length + 1) cv)).cell? ⟨gv, zz1.ks.length * 6 + 1, none⟩ = some (.string ⟨#[]⟩) := cell_far (ZC.out 1 (by decide)).1 HGN.out
          zvf v1 1 (wd.setCell ⟨N, 5, none⟩ (.slice (some ⟨gv, 0, none⟩) (zz1.ks.length + 1) cv)) (zz1)
          have u2 : (wd.setCell ⟨N, 5, none⟩ (.slice (some ⟨gv, 0, none⟩) (zz1.ks.length + 1) cv)).cell? ⟨gv, zz1.ks.length * 6 + 2, none⟩ = some (.int .i64 0) := cell_far (ZC.out 2 (by decide)).1 HGN.out
          zvf v2 2 (wd.setCell ⟨N, 5, none⟩ (.slice (some ⟨gv, 0, none⟩) (zz1.ks.length + 1) cv)) (zz1)
          have u3 : (wd.setCell ⟨N, 5, none⟩ (.slice (some ⟨gv, 0, none⟩) (zz1.ks.length + 1) cv)).cell? ⟨gv, zz1.ks.length * 6 + 3, none⟩ = some (.int .i64 0) := cell_far (ZC.out 3 (by decide)).1 HGN.out
          zvf v3 3 (wd.setCell ⟨N, 5, none⟩ (.slice (some ⟨gv, 0, none⟩) (zz1.ks.length + 1) cv)) (zz1)
          have u4 : (wd.setCell ⟨N, 5, none⟩ (.slice (some ⟨gv, 0, none⟩) (zz1.ks.length + 1) cv)).cell? ⟨gv, zz1.ks.length * 6 + 4, none⟩ = some (.slice none 0 0) := cell_far (ZC.out 4 (by decide)).1 HGN.out
          zvf v4 4 (wd.setCell ⟨N, 5, none⟩ (.slice (some ⟨gv, 0, none⟩) (zz1.ks.length + 1) cv)) (zz1)
          have u5 : (wd.setCell ⟨N, 5, none⟩ (.slice (some ⟨gv, 0, none⟩) (zz1.ks.length + 1) cv)).cell? ⟨gv, zz1.ks.length * 6 + 5, none⟩ = some (.slice none 0 0) := cell_far (ZC.out 5 (by decide)).1 HGN.out
          zvf v5 5 (wd.setCell ⟨N, 5, none⟩ (.slice (some ⟨gv, 0, none⟩) (zz1.ks.length + 1) cv)) (zz1)
          have KD2 := Lib.hid (show Box (kidW (wd.setCell ⟨N, 5, none⟩ (.slice (some ⟨gv, 0, none⟩) (zz1.ks.length + 1) cv)) gv (zz1.ks.length * 6) y fy) N base (zz1.add y) _ _ ∧ Lo base w (kidW (wd.setCell ⟨N, 5, none⟩ (.slice (some ⟨gv, 0, none⟩) (zz1.ks.length + 1) cv)) gv (zz1.ks.length * 6) y fy) R g c T s5 from by rw [kid_comm _ HGN.out]; exact ⟨KD.out.1, KD.out.2.1⟩)
          clear KD
          generalize wd.setCell ⟨N, 5, none⟩ (.slice (some ⟨gv, 0, none⟩) (zz1.ks.length + 1) cv) = wk at *
          zput
          zstep 10
          go_simp
          zgo
          zdone
          clear hK K u0 u1 u2 u3 u4 u5 v0 v1 v2 v3 v4 v5
          go_wp2_with fail
          go_meet
          exact ⟨_, _, KD2.out.1, KD2.out.2⟩
    case rest =>
      obtain ⟨f2, fs2, hbx, hlo⟩ := hcut
      have BXE := Lib.hid hbx
      have HE := Lib.hid hlo
      have hq := HQ2.out
      subst hq
      clear hbx hlo HQ2 C9 l1 B_N5 H5
      go_wp2_with fail
      exact bodyPost_ret (v := .bool false) (by simp [results, Try.results53, go_sem]) rfl ⟨rfl, ⟨f2, fs2, BXE.out⟩, HE.out.p, HE.out.b⟩
  · obtain ⟨t, h_t⟩ : ∃ t, stepT T s = t := ⟨_, rfl⟩
    have E_t := Lib.hid h_t
    clear h_t
    obtain ⟨s1, h_s1⟩ : ∃ s1, stepF T s = s1 := ⟨_, rfl⟩
    have E_s1 := Lib.hid h_s1
    clear h_s1
    have G_s1 := Lib.hid (show Goes T s s1 from by have q := (goes_step E HL.out); rw [E_s1.out] at q; exact q)
    go_upto_region 3 with (fail)
    go_wp2_with fail
    refine (step_eq E E_t.out E_s1.out H1.out.p).mono ?_
    rintro e w6 ⟨rfl, h6, b6⟩
    have H6 := Lib.hid (H1.out.call h6 b6)
    have B_N6 := Lib.hid (B_N1.out.but b6 (Nat.le_refl _) (by have := H1.out.r; omega))
    clear h6 b6 H1 B_N1
    obtain ⟨tx, h_tx⟩ : ∃ tx, textT T s1 3 = tx := ⟨_, rfl⟩
    have E_tx := Lib.hid h_tx
    clear h_tx
    obtain ⟨s2, h_s2⟩ : ∃ s2, textF T s1 3 = s2 := ⟨_, rfl⟩
    have E_s2 := Lib.hid h_s2
    clear h_s2
    have G_s2 := Lib.hid (show Goes T s s2 from by have q := (G_s1.out.text E 3); rw [E_s2.out] at q; exact q)
    obtain ⟨s3, h_s3⟩ : ∃ s3, wantF T s2 [61] = s3 := ⟨_, rfl⟩
    have E_s3 := Lib.hid h_s3
    clear h_s3
    have G_s3 := Lib.hid (show Goes T s s3 from by have q := (G_s2.out.want E [61]); rw [E_s3.out] at q; exact q)
    obtain ⟨bf, h_bf⟩ : ∃ bf, isF T s3 [102, 117, 110] = bf := ⟨_, rfl⟩
    have E_bf := Lib.hid h_bf
    clear h_bf
    go_upto_region 4 with (fail)
    go_wp2_with fail
    refine (text_eq E E_tx.out E_s2.out H6.out.p).mono ?_
    rintro e w7 ⟨rfl, h7, b7⟩
    have H7 := Lib.hid (H6.out.call h7 b7)
    have B_N7 := Lib.hid (B_N6.out.but b7 (Nat.le_refl _) (by have := H6.out.r; omega))
    clear h7 b7 H6 B_N6
    have c1 := B_N7.out.c1
    have f1 := B_N7.out.free 1
    go_upto_region 5 with (fail)
    have B_N8 := Lib.hid (B_N7.out.putTx tx)
    have H8 := Lib.hid (H7.out.own (p := ⟨N, 1, none⟩) B_N7.out.lo (.string ⟨tx.toArray⟩))
    clear c1 f1 B_N7 H7
    generalize w7.setCell ⟨N, 1, none⟩ (.string ⟨tx.toArray⟩) = w8 at *
    obtain ⟨zz1, h_zz1⟩ : ∃ z9, (x.setTx tx) = z9 := ⟨_, rfl⟩
    rw [h_zz1] at B_N8
    have Z_zz1 := Lib.hid h_zz1
    clear h_zz1
    go_wp2_with fail
    refine (want_eq E E_s3.out H8.out.p).mono ?_
    rintro e w9 ⟨rfl, h9, b9⟩
    have H9 := Lib.hid (H8.out.call h9 b9)
    have B_N9 := Lib.hid (B_N8.out.but b9 (Nat.le_refl _) (by have := H8.out.r; omega))
    clear h9 b9 H8 B_N8
    go_wp2_with fail
    refine (is_eq E_bf.out H9.out.p).mono ?_
    rintro e w10 ⟨rfl, b10⟩
    have H10 := Lib.hid (H9.out.read b10)
    have B_N10 := Lib.hid (B_N9.out.below b10 (Nat.le_refl _))
    clear b10 H9 B_N9
    rcases bf with _ | _
    · have c2 := H10.out.p.c2
      have ff := H10.out.p.free 2
      rcases Nat.lt_or_ge s3.deep 40 with hdp | hdp
      · obtain ⟨s4, h_s4⟩ : ∃ s4, failF T s3 14 = s4 := ⟨_, rfl⟩
        have E_s4 := Lib.hid h_s4
        clear h_s4
        have G_s4 := Lib.hid (show Goes T s s4 from by have q := (G_s3.out.fail 14); rw [E_s4.out] at q; exact q)
        have hdp2 : (s3.deep : Int) < 40 := by omega
        go_upto_region 8 with (fail)
        clear c2 ff
        go_wp2_with fail
        refine (fail_eq E_s4.out H10.out.p).mono ?_
        rintro e w11 ⟨rfl, h11, b11⟩
        have H11 := Lib.hid (H10.out.call h11 b11)
        have B_N11 := Lib.hid (B_N10.out.but b11 (Nat.le_refl _) (by have := H10.out.r; omega))
        clear h11 b11 H10 B_N10
        obtain ⟨y, s5, h_s5⟩ : ∃ y s5, r.exp s4 = (y, s5) := ⟨_, _, rfl⟩
        have E_s5 := Lib.hid h_s5
        clear h_s5
        have l1 : zz1.ks.length ≤ 100000 := by rw [← Z_zz1.out, setTx_ks]; exact hks
        have hq : (zz1.add y, s5) = q := by
          rw [← HQ.out, ← Z_zz1.out]; unfold valueF; dsimp only; rw [E_b.out, if_pos rfl, E_s1.out, E_tx.out, E_s2.out, E_s3.out, E_bf.out, if_pos ⟨rfl, rfl, hdp⟩, E_s4.out, E_s5.out]
        have HQ2 := Lib.hid hq
        clear hq HQ
        go_upto_region 9 with (fail)
        have C9 := Lib.hid (fun wx (h : PAt wx R g c T s4) => gives_eq E_s5.out (D.exp wx s4 h (by rw [G_s4.out.deep]; exact HD.out)))
        go_cut [38] (fun _ wx => ∃ f2 fs2, Box wx N base (zz1.add y) f2 fs2 ∧ Lo base w wx R g c T s5)
        case first =>
          refine region_Z (fun W => W.cell? ⟨N, 5, none⟩ = some (.slice f.ka zz1.ks.length f.kc)) (fun i => decide (8 ≤ i ∧ i < 14)) (by kernel_rfl) B_N11.out.drew.c5 (fun hHeld => ?_)
          ztake 0 14
          ztake 1 14
          ztake 2 14
          ztake 3 14
          ztake 4 14
          ztake 6 14
          refine anyZ_split (i := 5) (j := 7) (by kernel_rfl) rfl rfl (fun K hK => ?_) (fun K hK => ?_)
          · go_simp
            go_at_call 39
            refine (C9.out _ H11.out.drew.p).mono ?_
            rintro e wc ⟨fy, rfl, hpc, ny, bc⟩
            have HC := Lib.hid (H11.out.drew.call hpc bc)
            have BC := Lib.hid (B_N11.out.drew.but bc (Nat.le_refl _) (by have := H11.out.r; omega))
            have NY : Hid (NodeIn wc (fun a => w11.heap.size ≤ a) y fy) := ny
            clear hpc ny bc
            unfold ndV
            refine hK.out _ _ (fun _ => BC.out.c5) (fun hHeld2 => ?_)
            replace hHeld2 := hHeld2 (by decide)
            clear hK K hHeld
            zput
            zstep 7
            go_simp
            refine hK.out _ _ (fun _ => (BC.out.alloc _).c5) (fun hHeld3 => ?_)
            clear hK K hHeld2 hHeld3
            zput
            have HA := Lib.hid (HC.out.alloc (.cells zZ 25))
            have BA := Lib.hid (BC.out.alloc (.cells zZ 25))
            have NA := Lib.hid (NY.out.alloc (.cells zZ 25))
            have ZA : Hid (Whole (wc.alloc (.cells zZ 25)) wc.heap.size 25 zZ) := Whole.made _ _ _
            clear HC BC NY
            generalize wc.alloc (.cells zZ 25) = wa at *
            generalize wc.heap.size = Zb at *
            zstep 8
            refine step_app ty_nd (v := .slice f.ka zz1.ks.length f.kc) (by rfl) _ _ (by rfl) (by rfl) BA.out.kid Zb 1 [.int .i64 0, .string ⟨#[]⟩, .int .i64 0, .int .i64 0, .slice none 0 0, .slice none 0 0] (by rfl) ZA.out (by rfl) (by simp [Value.oneCell']) (by decide) (by omega) (by decide) (by have := HA.out.size; omega) ?_
            intro gv cv wd hap
            have KD := Lib.hid (kid_done2 HA.out BA.out B_N11.out.lt B_N11.out.nlt B_N11.out.klt NA.out hap)
            have hln := flatL_len _ _ BA.out.len
            have ZC := Lib.hid (zero_cells hap (by rw [hln]; omega))
            rw [hln] at ZC
            have XD := Lib.hid (hap.far BA.out.box (row_ne BA.out.kid BA.out.kN))
            have hgn : gv ≠ N := KD.out.2.2
            have hgn2 : N ≠ gv := Ne.symm hgn
            have HGN := Lib.hid hgn
            have HGN2 := Lib.hid hgn2
            clear hln hgn hgn2 hap HA BA NA ZA
            zgoz
            clear hK K
            zput
            refine anyZ_free _ _ _ _ (by decide) ?_
            have hT : True := trivial
            have hix : (zz1.ks.length : Int) < (zz1.ks.length : Int) + 1 := by omega
            ztaki 9 14
            ztaki 11 14
            ztaki 12 14
            refine anyZ_split (i := 10) (j := 13) (by kernel_rfl) rfl rfl (fun K hK => ?_) (fun K hK => ?_)
            · have u0 : wd.cell? ⟨gv, zz1.ks.length * 6, none⟩ = some (.int .i64 0) := (ZC.out 0 (by decide)).1
              have v0 : wd.frozen? ⟨gv, zz1.ks.length * 6, none⟩ = false := (ZC.out 0 (by decide)).2
              have u1 : wd.cell? ⟨gv, zz1.ks.length * 6 + 1, none⟩ = some (.string ⟨#[]⟩) := (ZC.out 1 (by decide)).1
              zv v1 1 (wd) (zz1)
              have u2 : wd.cell? ⟨gv, zz1.ks.length * 6 + 2, none⟩ = some (.int .i64 0) := (ZC.out 2 (by decide)).1
              zv v2 2 (wd) (zz1)
              have u3 : wd.cell? ⟨gv, zz1.ks.length * 6 + 3, none⟩ = some (.int .i64 0) := (ZC.out 3 (by decide)).1
              zv v3 3 (wd) (zz1)
              have u4 : wd.cell? ⟨gv, zz1.ks.length * 6 + 4, none⟩ = some (.slice none 0 0) := (ZC.out 4 (by decide)).1
              zv v4 4 (wd) (zz1)
              have u5 : wd.cell? ⟨gv, zz1.ks.length * 6 + 5, none⟩ = some (.slice none 0 0) := (ZC.out 5 (by decide)).1
              zv v5 5 (wd) (zz1)
              go_simp
              zgo
              clear hK K u0 u1 u2 u3 u4 u5 v0 v1 v2 v3 v4 v5
              have XK := Lib.hid (kid_whole XD.out HGN2.out (zz1.ks.length * 6) y fy)
              have c5 : (kidW wd gv (zz1.ks.length * 6) y fy).cell? ⟨N, 5, none⟩ = some (.slice f.ka zz1.ks.length f.kc) := XK.out.cell 5
              have v5 := XK.out.free 5
              change anyZ _ _ _ _ _ _ _ _ _ (kidW wd gv (zz1.ks.length * 6) y fy)
              generalize kidW wd gv (zz1.ks.length * 6) y fy = wk at *
              clear XK
              zput
              zstep 13
              go_simp
              zgo
              zdone
              clear hK K c5 v5
              go_wp2_with fail
              go_meet
              exact ⟨_, _, KD.out.1, KD.out.2.1⟩
            · have c5 : wd.cell? ⟨N, 5, none⟩ = some (.slice f.ka zz1.ks.length f.kc) := XD.out.cell 5
              have v5 := XD.out.free 5
              go_simp
              zgo
              clear hK K c5 v5
              have u0 : (wd.setCell ⟨N, 5, none⟩ (.slice (some ⟨gv, 0, none⟩) (zz1.ks.length + 1) cv)).cell? ⟨gv, zz1.ks.length * 6, none⟩ = some (.int .i64 0) := cell_far (ZC.out 0 (by decide)).1 HGN.out
              have v0 : (wd.setCell ⟨N, 5, none⟩ (.slice (some ⟨gv, 0, none⟩) (zz1.ks.length + 1) cv)).frozen? ⟨gv, zz1.ks.length * 6, none⟩ = false := (frozen_far HGN.out).trans (ZC.out 0 (by decide)).2
              have u1 : (wd.setCell ⟨N, 5, none⟩ (.slice (some ⟨gv, 0, none⟩) (zz1.ks.length + 1) cv)).cell? ⟨gv, zz1.ks.length * 6 + 1, none⟩ = some (.string ⟨#[]⟩) := cell_far (ZC.out 1 (by decide)).1 HGN.out
              zvf v1 1 (wd.setCell ⟨N, 5, none⟩ (.slice (some ⟨gv, 0, none⟩) (zz1.ks.length + 1) cv)) (zz1)
              have u2 : (wd.setCell ⟨N, 5, none⟩ (.slice (some ⟨gv, 0, none⟩) (zz1.ks.length + 1) cv)).cell? ⟨gv, zz1.ks.length * 6 + 2, none⟩ = some (.int .i64 0) := cell_far (ZC.out 2 (by decide)).1 HGN.out
              zvf v2 2 (wd.setCell ⟨N, 5, none⟩ (.slice (some ⟨gv, 0, none⟩) (zz1.ks.length + 1) cv)) (zz1)
              have u3 : (wd.setCell ⟨N, 5, none⟩ (.slice (some ⟨gv, 0, none⟩) (zz1.ks.length + 1) cv)).cell? ⟨gv, zz1.ks.length * 6 + 3, none⟩ = some (.int .i64 0) := cell_far (ZC.out 3 (by decide)).1 HGN.out
              zvf v3 3 (wd.setCell ⟨N, 5, none⟩ (.slice (some ⟨gv, 0, none⟩) (zz1.ks.length + 1) cv)) (zz1)
              have u4 : (wd.setCell ⟨N, 5, none⟩ (.slice (some ⟨gv, 0, none⟩) (zz1.ks.length + 1) cv)).cell? ⟨gv, zz1.ks.length * 6 + 4, none⟩ = some (.slice none 0 0) := cell_far (ZC.out 4 (by decide)).1 HGN.out
              zvf v4 4 (wd.setCell ⟨N, 5, none⟩ (.slice (some ⟨gv, 0, none⟩) (zz1.ks.length + 1) cv)) (zz1)
              have u5 : (wd.setCell ⟨N, 5, none⟩ (.slice (some ⟨gv, 0, none⟩) (zz1.ks.length + 1) cv)).cell? ⟨gv, zz1.ks.length * 6 + 5, none⟩ = some (.slice none 0 0) := cell_far (ZC.out 5 (by decide)).1 HGN.out
              zvf v5 5 (wd.setCell ⟨N, 5, none⟩ (.slice (some ⟨gv, 0, none⟩) (zz1.ks.length + 1) cv)) (zz1)
              have KD2 := Lib.hid (show Box (kidW (wd.setCell ⟨N, 5, none⟩ (.slice (some ⟨gv, 0, none⟩) (zz1.ks.length + 1) cv)) gv (zz1.ks.length * 6) y fy) N base (zz1.add y) _ _ ∧ Lo base w (kidW (wd.setCell ⟨N, 5, none⟩ (.slice (some ⟨gv, 0, none⟩) (zz1.ks.length + 1) cv)) gv (zz1.ks.length * 6) y fy) R g c T s5 from by rw [kid_comm _ HGN.out]; exact ⟨KD.out.1, KD.out.2.1⟩)
              clear KD
              generalize wd.setCell ⟨N, 5, none⟩ (.slice (some ⟨gv, 0, none⟩) (zz1.ks.length + 1) cv) = wk at *
              zput
              zstep 10
              go_simp
              zgo
              zdone
              clear hK K u0 u1 u2 u3 u4 u5 v0 v1 v2 v3 v4 v5
              go_wp2_with fail
              go_meet
              exact ⟨_, _, KD2.out.1, KD2.out.2⟩
          · go_simp
            refine hK.out _ _ (fun _ => (B_N11.out.drew.alloc _).c5) (fun hHeld2 => ?_)
            replace hHeld2 := hHeld2 (by decide)
            clear hK K hHeld
            zput
            zstep 5
            go_simp
            go_at_call 39
            refine (C9.out _ (H11.out.drew.alloc (.cells zZ 25)).p).mono ?_
            rintro e wc ⟨fy, rfl, hpc, ny, bc⟩
            have HA := Lib.hid ((H11.out.drew.alloc (.cells zZ 25)).call hpc bc)
            have BA := Lib.hid ((B_N11.out.drew.alloc (.cells zZ 25)).but bc (Nat.le_refl _) (by have := H11.out.r; omega))
            have NA : Hid (NodeIn wc (fun a => w11.heap.size ≤ a) y fy) := ny.mono fun a ha _ => by simp at ha; omega
            have ZA : Hid (Whole wc w11.heap.size 25 zZ) := bc.whole (Whole.made w11.drew 25 zZ) (by simp) (by have := H11.out.r; have := H11.out.size; simp; omega)
            clear hpc ny bc
            unfold ndV
            refine hK.out _ _ (fun _ => BA.out.c5) (fun hHeld3 => ?_)
            clear hK K hHeld2 hHeld3
            zput
            zstep 8
            refine step_app ty_nd (v := .slice f.ka zz1.ks.length f.kc) (by rfl) _ _ (by rfl) (by rfl) BA.out.kid w11.heap.size 1 [.int .i64 0, .string ⟨#[]⟩, .int .i64 0, .int .i64 0, .slice none 0 0, .slice none 0 0] (by rfl) ZA.out (by rfl) (by simp [Value.oneCell']) (by decide) (by omega) (by decide) (by have := HA.out.size; omega) ?_
            intro gv cv wd hap
            have KD := Lib.hid (kid_done2 HA.out BA.out B_N11.out.lt B_N11.out.nlt B_N11.out.klt NA.out hap)
            have hln := flatL_len _ _ BA.out.len
            have ZC := Lib.hid (zero_cells hap (by rw [hln]; omega))
            rw [hln] at ZC
            have XD := Lib.hid (hap.far BA.out.box (row_ne BA.out.kid BA.out.kN))
            have hgn : gv ≠ N := KD.out.2.2
            have hgn2 : N ≠ gv := Ne.symm hgn
            have HGN := Lib.hid hgn
            have HGN2 := Lib.hid hgn2
            clear hln hgn hgn2 hap HA BA NA ZA
            zgoz
            clear hK K
            zput
            refine anyZ_free _ _ _ _ (by decide) ?_
            have hT : True := trivial
            have hix : (zz1.ks.length : Int) < (zz1.ks.length : Int) + 1 := by omega
            ztaki 9 14
            ztaki 11 14
            ztaki 12 14
            refine anyZ_split (i := 10) (j := 13) (by kernel_rfl) rfl rfl (fun K hK => ?_) (fun K hK => ?_)
            · have u0 : wd.cell? ⟨gv, zz1.ks.length * 6, none⟩ = some (.int .i64 0) := (ZC.out 0 (by decide)).1
              have v0 : wd.frozen? ⟨gv, zz1.ks.length * 6, none⟩ = false := (ZC.out 0 (by decide)).2
              have u1 : wd.cell? ⟨gv, zz1.ks.length * 6 + 1, none⟩ = some (.string ⟨#[]⟩) := (ZC.out 1 (by decide)).1
              zv v1 1 (wd) (zz1)
              have u2 : wd.cell? ⟨gv, zz1.ks.length * 6 + 2, none⟩ = some (.int .i64 0) := (ZC.out 2 (by decide)).1
              zv v2 2 (wd) (zz1)
              have u3 : wd.cell? ⟨gv, zz1.ks.length * 6 + 3, none⟩ = some (.int .i64 0) := (ZC.out 3 (by decide)).1
              zv v3 3 (wd) (zz1)
              have u4 : wd.cell? ⟨gv, zz1.ks.length * 6 + 4, none⟩ = some (.slice none 0 0) := (ZC.out 4 (by decide)).1
              zv v4 4 (wd) (zz1)
              have u5 : wd.cell? ⟨gv, zz1.ks.length * 6 + 5, none⟩ = some (.slice none 0 0) := (ZC.out 5 (by decide)).1
              zv v5 5 (wd) (zz1)
              go_simp
              zgo
              clear hK K u0 u1 u2 u3 u4 u5 v0 v1 v2 v3 v4 v5
              have XK := Lib.hid (kid_whole XD.out HGN2.out (zz1.ks.length * 6) y fy)
              have c5 : (kidW wd gv (zz1.ks.length * 6) y fy).cell? ⟨N, 5, none⟩ = some (.slice f.ka zz1.ks.length f.kc) := XK.out.cell 5
              have v5 := XK.out.free 5
              change anyZ _ _ _ _ _ _ _ _ _ (kidW wd gv (zz1.ks.length * 6) y fy)
              generalize kidW wd gv (zz1.ks.length * 6) y fy = wk at *
              clear XK
              zput
              zstep 13
              go_simp
              zgo
              zdone
              clear hK K c5 v5
              go_wp2_with fail
              go_meet
              exact ⟨_, _, KD.out.1, KD.out.2.1⟩
            · have c5 : wd.cell? ⟨N, 5, none⟩ = some (.slice f.ka zz1.ks.length f.kc) := XD.out.cell 5
              have v5 := XD.out.free 5
              go_simp
              zgo
              clear hK K c5 v5
              have u0 : (wd.setCell ⟨N, 5, none⟩ (.slice (some ⟨gv, 0, none⟩) (zz1.ks.length + 1) cv)).cell? ⟨gv, zz1.ks.length * 6, none⟩ = some (.int .i64 0) := cell_far (ZC.out 0 (by decide)).1 HGN.out
              have v0 : (wd.setCell ⟨N, 5, none⟩ (.slice (some ⟨gv, 0, none⟩) (zz1.ks.length + 1) cv)).frozen? ⟨gv, zz1.ks.length * 6, none⟩ = false := (frozen_far HGN.out).trans (ZC.out 0 (by decide)).2
              have u1 : (wd.setCell ⟨N, 5, none⟩ (.slice (some ⟨gv, 0, none⟩) (zz1.ks.length + 1) cv)).cell? ⟨gv, zz1.ks.length * 6 + 1, none⟩ = some (.string ⟨#[]⟩) := cell_far (ZC.out 1 (by decide)).1 HGN.out
              zvf v1 1 (wd.setCell ⟨N, 5, none⟩ (.slice (some ⟨gv, 0, none⟩) (zz1.ks.length + 1) cv)) (zz1)
              have u2 : (wd.setCell ⟨N, 5, none⟩ (.slice (some ⟨gv, 0, none⟩) (zz1.ks.length + 1) cv)).cell? ⟨gv, zz1.ks.length * 6 + 2, none⟩ = some (.int .i64 0) := cell_far (ZC.out 2 (by decide)).1 HGN.out
              zvf v2 2 (wd.setCell ⟨N, 5, none⟩ (.slice (some ⟨gv, 0, none⟩) (zz1.ks.length + 1) cv)) (zz1)
              have u3 : (wd.setCell ⟨N, 5, none⟩ (.slice (some ⟨gv, 0, none⟩) (zz1.ks.length + 1) cv)).cell? ⟨gv, zz1.ks.length * 6 + 3, none⟩ = some (.int .i64 0) := cell_far (ZC.out 3 (by decide)).1 HGN.out
              zvf v3 3 (wd.setCell ⟨N, 5, none⟩ (.slice (some ⟨gv, 0, none⟩) (zz1.ks.length + 1) cv)) (zz1)
              have u4 : (wd.setCell ⟨N, 5, none⟩ (.slice (some ⟨gv, 0, none⟩) (zz1.ks.length + 1) cv)).cell? ⟨gv, zz1.ks.length * 6 + 4, none⟩ = some (.slice none 0 0) := cell_far (ZC.out 4 (by decide)).1 HGN.out
              zvf v4 4 (wd.setCell ⟨N, 5, none⟩ (.slice (some ⟨gv, 0, none⟩) (zz1.ks.length + 1) cv)) (zz1)
              have u5 : (wd.setCell ⟨N, 5, none⟩ (.slice (some ⟨gv, 0, none⟩) (zz1.ks.length + 1) cv)).cell? ⟨gv, zz1.ks.length * 6 + 5, none⟩ = some (.slice none 0 0) := cell_far (ZC.out 5 (by decide)).1 HGN.out
              zvf v5 5 (wd.setCell ⟨N, 5, none⟩ (.slice (some ⟨gv, 0, none⟩) (zz1.ks.length + 1) cv)) (zz1)
              have KD2 := Lib.hid (show Box (kidW (wd.setCell ⟨N, 5, none⟩ (.slice (some ⟨gv, 0, none⟩) (zz1.ks.length + 1) cv)) gv (zz1.ks.length * 6) y fy) N base (zz1.add y) _ _ ∧ Lo base w (kidW (wd.setCell ⟨N, 5, none⟩ (.slice (some ⟨gv, 0, none⟩) (zz1.ks.length + 1) cv)) gv (zz1.ks.length * 6) y fy) R g c T s5 from by rw [kid_comm _ HGN.out]; exact ⟨KD.out.1, KD.out.2.1⟩)
              clear KD
              generalize wd.setCell ⟨N, 5, none⟩ (.slice (some ⟨gv, 0, none⟩) (zz1.ks.length + 1) cv) = wk at *
              zput
              zstep 10
              go_simp
              zgo
              zdone
              clear hK K u0 u1 u2 u3 u4 u5 v0 v1 v2 v3 v4 v5
              go_wp2_with fail
              go_meet
              exact ⟨_, _, KD2.out.1, KD2.out.2⟩
        case rest =>
          obtain ⟨f2, fs2, hbx, hlo⟩ := hcut
          have BXE := Lib.hid hbx
          have HE := Lib.hid hlo
          have hq := HQ2.out
          subst hq
          clear hbx hlo HQ2 C9 l1 B_N11 H11
          go_wp2_with fail
          exact bodyPost_ret (v := .bool true) (by simp [results, Try.results53, go_sem]) rfl ⟨rfl, ⟨f2, fs2, BXE.out⟩, HE.out.p, HE.out.b⟩
      · have hdp2 : (40 : Int) ≤ s3.deep := by omega
        go_upto_region 9 with (fail)
        clear c2 ff
        obtain ⟨y, s5, h_s5⟩ : ∃ y s5, r.exp s3 = (y, s5) := ⟨_, _, rfl⟩
        have E_s5 := Lib.hid h_s5
        clear h_s5
        have l1 : zz1.ks.length ≤ 100000 := by rw [← Z_zz1.out, setTx_ks]; exact hks
        have hq : (zz1.add y, s5) = q := by
          rw [← HQ.out, ← Z_zz1.out]; unfold valueF; dsimp only; rw [E_b.out, if_pos rfl, E_s1.out, E_tx.out, E_s2.out, E_s3.out, E_bf.out, if_neg (fun h => absurd h.2.2 (by omega)), E_s5.out]
        have HQ2 := Lib.hid hq
        clear hq HQ
        go_upto_region 9 with (fail)
        have C9 := Lib.hid (fun wx (h : PAt wx R g c T s3) => gives_eq E_s5.out (D.exp wx s3 h (by rw [G_s3.out.deep]; exact HD.out)))
        go_cut [38] (fun _ wx => ∃ f2 fs2, Box wx N base (zz1.add y) f2 fs2 ∧ Lo base w wx R g c T s5)
        case first =>
          refine region_Z (fun W => W.cell? ⟨N, 5, none⟩ = some (.slice f.ka zz1.ks.length f.kc)) (fun i => decide (8 ≤ i ∧ i < 14)) (by kernel_rfl) B_N10.out.drew.c5 (fun hHeld => ?_)
          ztake 0 14
          ztake 1 14
          ztake 2 14
          ztake 3 14
          ztake 4 14
          ztake 6 14
          refine anyZ_split (i := 5) (j := 7) (by kernel_rfl) rfl rfl (fun K hK => ?_) (fun K hK => ?_)
          · go_simp
            go_at_call 39
            refine (C9.out _ H10.out.drew.p).mono ?_
            rintro e wc ⟨fy, rfl, hpc, ny, bc⟩
            have HC := Lib.hid (H10.out.drew.call hpc bc)
            have BC := Lib.hid (B_N10.out.drew.but bc (Nat.le_refl _) (by have := H10.out.r; omega))
            have NY : Hid (NodeIn wc (fun a => w10.heap.size ≤ a) y fy) := ny
            clear hpc ny bc
            unfold ndV
            refine hK.out _ _ (fun _ => BC.out.c5) (fun hHeld2 => ?_)
            replace hHeld2 := hHeld2 (by decide)
            clear hK K hHeld
            zput
            zstep 7
            go_simp
            refine hK.out _ _ (fun _ => (BC.out.alloc _).c5) (fun hHeld3 => ?_)
            clear hK K hHeld2 hHeld3
            zput
            have HA := Lib.hid (HC.out.alloc (.cells zZ 25))
            have BA := Lib.hid (BC.out.alloc (.cells zZ 25))
            have NA := Lib.hid (NY.out.alloc (.cells zZ 25))
            have ZA : Hid (Whole (wc.alloc (.cells zZ 25)) wc.heap.size 25 zZ) := Whole.made _ _ _
            clear HC BC NY
            generalize wc.alloc (.cells zZ 25) = wa at *
            generalize wc.heap.size = Zb at *
            zstep 8
            refine step_app ty_nd (v := .slice f.ka zz1.ks.length f.kc) (by rfl) _ _ (by rfl) (by rfl) BA.out.kid Zb 1 [.int .i64 0, .string ⟨#[]⟩, .int .i64 0, .int .i64 0, .slice none 0 0, .slice none 0 0] (by rfl) ZA.out (by rfl) (by simp [Value.oneCell']) (by decide) (by omega) (by decide) (by have := HA.out.size; omega) ?_
            intro gv cv wd hap
            have KD := Lib.hid (kid_done2 HA.out BA.out B_N10.out.lt B_N10.out.nlt B_N10.out.klt NA.out hap)
            have hln := flatL_len _ _ BA.out.len
            have ZC := Lib.hid (zero_cells hap (by rw [hln]; omega))
            rw [hln] at ZC
            have XD := Lib.hid (hap.far BA.out.box (row_ne BA.out.kid BA.out.kN))
            have hgn : gv ≠ N := KD.out.2.2
            have hgn2 : N ≠ gv := Ne.symm hgn
            have HGN := Lib.hid hgn
            have HGN2 := Lib.hid hgn2
            clear hln hgn hgn2 hap HA BA NA ZA
            zgoz
            clear hK K
            zput
            refine anyZ_free _ _ _ _ (by decide) ?_
            have hT : True := trivial
            have hix : (zz1.ks.length : Int) < (zz1.ks.length : Int) + 1 := by omega
            ztaki 9 14
            ztaki 11 14
            ztaki 12 14
            refine anyZ_split (i := 10) (j := 13) (by kernel_rfl) rfl rfl (fun K hK => ?_) (fun K hK => ?_)
            · have u0 : wd.cell? ⟨gv, zz1.ks.length * 6, none⟩ = some (.int .i64 0) := (ZC.out 0 (by decide)).1
              have v0 : wd.frozen? ⟨gv, zz1.ks.length * 6, none⟩ = false := (ZC.out 0 (by decide)).2
              have u1 : wd.cell? ⟨gv, zz1.ks.length * 6 + 1, none⟩ = some (.string ⟨#[]⟩) := (ZC.out 1 (by decide)).1
              zv v1 1 (wd) (zz1)
              have u2 : wd.cell? ⟨gv, zz1.ks.length * 6 + 2, none⟩ = some (.int .i64 0) := (ZC.out 2 (by decide)).1
              zv v2 2 (wd) (zz1)
              have u3 : wd.cell? ⟨gv, zz1.ks.length * 6 + 3, none⟩ = some (.int .i64 0) := (ZC.out 3 (by decide)).1
              zv v3 3 (wd) (zz1)
              have u4 : wd.cell? ⟨gv, zz1.ks.length * 6 + 4, none⟩ = some (.slice none 0 0) := (ZC.out 4 (by decide)).1
              zv v4 4 (wd) (zz1)
              have u5 : wd.cell? ⟨gv, zz1.ks.length * 6 + 5, none⟩ = some (.slice none 0 0) := (ZC.out 5 (by decide)).1
              zv v5 5 (wd) (zz1)
              go_simp
              zgo
              clear hK K u0 u1 u2 u3 u4 u5 v0 v1 v2 v3 v4 v5
              have XK := Lib.hid (kid_whole XD.out HGN2.out (zz1.ks.length * 6) y fy)
              have c5 : (kidW wd gv (zz1.ks.length * 6) y fy).cell? ⟨N, 5, none⟩ = some (.slice f.ka zz1.ks.length f.kc) := XK.out.cell 5
              have v5 := XK.out.free 5
              change anyZ _ _ _ _ _ _ _ _ _ (kidW wd gv (zz1.ks.length * 6) y fy)
              generalize kidW wd gv (zz1.ks.length * 6) y fy = wk at *
              clear XK
              zput
              zstep 13
              go_simp
              zgo
              zdone
              clear hK K c5 v5
              go_wp2_with fail
              go_meet
              exact ⟨_, _, KD.out.1, KD.out.2.1⟩
            · have c5 : wd.cell? ⟨N, 5, none⟩ = some (.slice f.ka zz1.ks.length f.kc) := XD.out.cell 5
              have v5 := XD.out.free 5
              go_simp
              zgo
              clear hK K c5 v5
              have u0 : (wd.setCell ⟨N, 5, none⟩ (.slice (some ⟨gv, 0, none⟩) (zz1.ks.length + 1) cv)).cell? ⟨gv, zz1.ks.length * 6, none⟩ = some (.int .i64 0) := cell_far (ZC.out 0 (by decide)).1 HGN.out
              have v0 : (wd.setCell ⟨N, 5, none⟩ (.slice (some ⟨gv, 0, none⟩) (zz1.ks.length + 1) cv)).frozen? ⟨gv, zz1.ks.length * 6, none⟩ = false := (frozen_far HGN.out).trans (ZC.out 0 (by decide)).2
              have u1 : (wd.setCell ⟨N, 5, none⟩ (.slice (some ⟨gv, 0, none⟩) (zz1.ks.length + 1) cv)).cell? ⟨gv, zz1.ks.length * 6 + 1, none⟩ = some (.string ⟨#[]⟩) := cell_far (ZC.out 1 (by decide)).1 HGN.out
              zvf v1 1 (wd.setCell ⟨N, 5, none⟩ (.slice (some ⟨gv, 0, none⟩) (zz1.ks.length + 1) cv)) (zz1)
              have u2 : (wd.setCell ⟨N, 5, none⟩ (.slice (some ⟨gv, 0, none⟩) (zz1.ks.length + 1) cv)).cell? ⟨gv, zz1.ks.length * 6 + 2, none⟩ = some (.int .i64 0) := cell_far (ZC.out 2 (by decide)).1 HGN.out
              zvf v2 2 (wd.setCell ⟨N, 5, none⟩ (.slice (some ⟨gv, 0, none⟩) (zz1.ks.length + 1) cv)) (zz1)
              have u3 : (wd.setCell ⟨N, 5, none⟩ (.slice (some ⟨gv, 0, none⟩) (zz1.ks.length + 1) cv)).cell? ⟨gv, zz1.ks.length * 6 + 3, none⟩ = some (.int .i64 0) := cell_far (ZC.out 3 (by decide)).1 HGN.out
              zvf v3 3 (wd.setCell ⟨N, 5, none⟩ (.slice (some ⟨gv, 0, none⟩) (zz1.ks.length + 1) cv)) (zz1)
              have u4 : (wd.setCell ⟨N, 5, none⟩ (.slice (some ⟨gv, 0, none⟩) (zz1.ks.length + 1) cv)).cell? ⟨gv, zz1.ks.length * 6 + 4, none⟩ = some (.slice none 0 0) := cell_far (ZC.out 4 (by decide)).1 HGN.out
              zvf v4 4 (wd.setCell ⟨N, 5, none⟩ (.slice (some ⟨gv, 0, none⟩) (zz1.ks.length + 1) cv)) (zz1)
              have u5 : (wd.setCell ⟨N, 5, none⟩ (.slice (some ⟨gv, 0, none⟩) (zz1.ks.length + 1) cv)).cell? ⟨gv, zz1.ks.length * 6 + 5, none⟩ = some (.slice none 0 0) := cell_far (ZC.out 5 (by decide)).1 HGN.out
              zvf v5 5 (wd.setCell ⟨N, 5, none⟩ (.slice (some ⟨gv, 0, none⟩) (zz1.ks.length + 1) cv)) (zz1)
              have KD2 := Lib.hid (show Box (kidW (wd.setCell ⟨N, 5, none⟩ (.slice (some ⟨gv, 0, none⟩) (zz1.ks.length + 1) cv)) gv (zz1.ks.length * 6) y fy) N base (zz1.add y) _ _ ∧ Lo base w (kidW (wd.setCell ⟨N, 5, none⟩ (.slice (some ⟨gv, 0, none⟩) (zz1.ks.length + 1) cv)) gv (zz1.ks.length * 6) y fy) R g c T s5 from by rw [kid_comm _ HGN.out]; exact ⟨KD.out.1, KD.out.2.1⟩)
              clear KD
              generalize wd.setCell ⟨N, 5, none⟩ (.slice (some ⟨gv, 0, none⟩) (zz1.ks.length + 1) cv) = wk at *
              zput
              zstep 10
              go_simp
              zgo
              zdone
              clear hK K u0 u1 u2 u3 u4 u5 v0 v1 v2 v3 v4 v5
              go_wp2_with fail
              go_meet
              exact ⟨_, _, KD2.out.1, KD2.out.2⟩
          · go_simp
            refine hK.out _ _ (fun _ => (B_N10.out.drew.alloc _).c5) (fun hHeld2 => ?_)
            replace hHeld2 := hHeld2 (by decide)
            clear hK K hHeld
            zput
            zstep 5
            go_simp
            go_at_call 39
            refine (C9.out _ (H10.out.drew.alloc (.cells zZ 25)).p).mono ?_
            rintro e wc ⟨fy, rfl, hpc, ny, bc⟩
            have HA := Lib.hid ((H10.out.drew.alloc (.cells zZ 25)).call hpc bc)
            have BA := Lib.hid ((B_N10.out.drew.alloc (.cells zZ 25)).but bc (Nat.le_refl _) (by have := H10.out.r; omega))
            have NA : Hid (NodeIn wc (fun a => w10.heap.size ≤ a) y fy) := ny.mono fun a ha _ => by simp at ha; omega
            have ZA : Hid (Whole wc w10.heap.size 25 zZ) := bc.whole (Whole.made w10.drew 25 zZ) (by simp) (by have := H10.out.r; have := H10.out.size; simp; omega)
            clear hpc ny bc
            unfold ndV
            refine hK.out _ _ (fun _ => BA.out.c5) (fun hHeld3 => ?_)
            clear hK K hHeld2 hHeld3
            zput
            zstep 8
            refine step_app ty_nd (v := .slice f.ka zz1.ks.length f.kc) (by rfl) _ _ (by rfl) (by rfl) BA.out.kid w10.heap.size 1 [.int .i64 0, .string ⟨#[]⟩, .int .i64 0, .int .i64 0, .slice none 0 0, .slice none 0 0] (by rfl) ZA.out (by rfl) (by simp [Value.oneCell']) (by decide) (by omega) (by decide) (by have := HA.out.size; omega) ?_
            intro gv cv wd hap
            have KD := Lib.hid (kid_done2 HA.out BA.out B_N10.out.lt B_N10.out.nlt B_N10.out.klt NA.out hap)
            have hln := flatL_len _ _ BA.out.len
            have ZC := Lib.hid (zero_cells hap (by rw [hln]; omega))
            rw [hln] at ZC
            have XD := Lib.hid (hap.far BA.out.box (row_ne BA.out.kid BA.out.kN))
            have hgn : gv ≠ N := KD.out.2.2
            have hgn2 : N ≠ gv := Ne.symm hgn
            have HGN := Lib.hid hgn
            have HGN2 := Lib.hid hgn2
            clear hln hgn hgn2 hap HA BA NA ZA
            zgoz
            clear hK K
            zput
            refine anyZ_free _ _ _ _ (by decide) ?_
            have hT : True := trivial
            have hix : (zz1.ks.length : Int) < (zz1.ks.length : Int) + 1 := by omega
            ztaki 9 14
            ztaki 11 14
            ztaki 12 14
            refine anyZ_split (i := 10) (j := 13) (by kernel_rfl) rfl rfl (fun K hK => ?_) (fun K hK => ?_)
            · have u0 : wd.cell? ⟨gv, zz1.ks.length * 6, none⟩ = some (.int .i64 0) := (ZC.out 0 (by decide)).1
              have v0 : wd.frozen? ⟨gv, zz1.ks.length * 6, none⟩ = false := (ZC.out 0 (by decide)).2
              have u1 : wd.cell? ⟨gv, zz1.ks.length * 6 + 1, none⟩ = some (.string ⟨#[]⟩) := (ZC.out 1 (by decide)).1
              zv v1 1 (wd) (zz1)
              have u2 : wd.cell? ⟨gv, zz1.ks.length * 6 + 2, none⟩ = some (.int .i64 0) := (ZC.out 2 (by decide)).1
              zv v2 2 (wd) (zz1)
              have u3 : wd.cell? ⟨gv, zz1.ks.length * 6 + 3, none⟩ = some (.int .i64 0) := (ZC.out 3 (by decide)).1
              zv v3 3 (wd) (zz1)
              have u4 : wd.cell? ⟨gv, zz1.ks.length * 6 + 4, none⟩ = some (.slice none 0 0) := (ZC.out 4 (by decide)).1
              zv v4 4 (wd) (zz1)
              have u5 : wd.cell? ⟨gv, zz1.ks.length * 6 + 5, none⟩ = some (.slice none 0 0) := (ZC.out 5 (by decide)).1
              zv v5 5 (wd) (zz1)
              go_simp
              zgo
              clear hK K u0 u1 u2 u3 u4 u5 v0 v1 v2 v3 v4 v5
              have XK := Lib.hid (kid_whole XD.out HGN2.out (zz1.ks.length * 6) y fy)
              have c5 : (kidW wd gv (zz1.ks.length * 6) y fy).cell? ⟨N, 5, none⟩ = some (.slice f.ka zz1.ks.length f.kc) := XK.out.cell 5
              have v5 := XK.out.free 5
              change anyZ _ _ _ _ _ _ _ _ _ (kidW wd gv (zz1.ks.length * 6) y fy)
              generalize kidW wd gv (zz1.ks.length * 6) y fy = wk at *
              clear XK
              zput
              zstep 13
              go_simp
              zgo
              zdone
              clear hK K c5 v5
              go_wp2_with fail
              go_meet
              exact ⟨_, _, KD.out.1, KD.out.2.1⟩
            · have c5 : wd.cell? ⟨N, 5, none⟩ = some (.slice f.ka zz1.ks.length f.kc) := XD.out.cell 5
              have v5 := XD.out.free 5
              go_simp
              zgo
              clear hK K c5 v5
              have u0 : (wd.setCell ⟨N, 5, none⟩ (.slice (some ⟨gv, 0, none⟩) (zz1.ks.length + 1) cv)).cell? ⟨gv, zz1.ks.length * 6, none⟩ = some (.int .i64 0) := cell_far (ZC.out 0 (by decide)).1 HGN.out
              have v0 : (wd.setCell ⟨N, 5, none⟩ (.slice (some ⟨gv, 0, none⟩) (zz1.ks.length + 1) cv)).frozen? ⟨gv, zz1.ks.length * 6, none⟩ = false := (frozen_far HGN.out).trans (ZC.out 0 (by decide)).2
              have u1 : (wd.setCell ⟨N, 5, none⟩ (.slice (some ⟨gv, 0, none⟩) (zz1.ks.length + 1) cv)).cell? ⟨gv, zz1.ks.length * 6 + 1, none⟩ = some (.string ⟨#[]⟩) := cell_far (ZC.out 1 (by decide)).1 HGN.out
              zvf v1 1 (wd.setCell ⟨N, 5, none⟩ (.slice (some ⟨gv, 0, none⟩) (zz1.ks.length + 1) cv)) (zz1)
              have u2 : (wd.setCell ⟨N, 5, none⟩ (.slice (some ⟨gv, 0, none⟩) (zz1.ks.length + 1) cv)).cell? ⟨gv, zz1.ks.length * 6 + 2, none⟩ = some (.int .i64 0) := cell_far (ZC.out 2 (by decide)).1 HGN.out
              zvf v2 2 (wd.setCell ⟨N, 5, none⟩ (.slice (some ⟨gv, 0, none⟩) (zz1.ks.length + 1) cv)) (zz1)
              have u3 : (wd.setCell ⟨N, 5, none⟩ (.slice (some ⟨gv, 0, none⟩) (zz1.ks.length + 1) cv)).cell? ⟨gv, zz1.ks.length * 6 + 3, none⟩ = some (.int .i64 0) := cell_far (ZC.out 3 (by decide)).1 HGN.out
              zvf v3 3 (wd.setCell ⟨N, 5, none⟩ (.slice (some ⟨gv, 0, none⟩) (zz1.ks.length + 1) cv)) (zz1)
              have u4 : (wd.setCell ⟨N, 5, none⟩ (.slice (some ⟨gv, 0, none⟩) (zz1.ks.length + 1) cv)).cell? ⟨gv, zz1.ks.length * 6 + 4, none⟩ = some (.slice none 0 0) := cell_far (ZC.out 4 (by decide)).1 HGN.out
              zvf v4 4 (wd.setCell ⟨N, 5, none⟩ (.slice (some ⟨gv, 0, none⟩) (zz1.ks.length + 1) cv)) (zz1)
              have u5 : (wd.setCell ⟨N, 5, none⟩ (.slice (some ⟨gv, 0, none⟩) (zz1.ks.length + 1) cv)).cell? ⟨gv, zz1.ks.length * 6 + 5, none⟩ = some (.slice none 0 0) := cell_far (ZC.out 5 (by decide)).1 HGN.out
              zvf v5 5 (wd.setCell ⟨N, 5, none⟩ (.slice (some ⟨gv, 0, none⟩) (zz1.ks.length + 1) cv)) (zz1)
              have KD2 := Lib.hid (show Box (kidW (wd.setCell ⟨N, 5, none⟩ (.slice (some ⟨gv, 0, none⟩) (zz1.ks.length + 1) cv)) gv (zz1.ks.length * 6) y fy) N base (zz1.add y) _ _ ∧ Lo base w (kidW (wd.setCell ⟨N, 5, none⟩ (.slice (some ⟨gv, 0, none⟩) (zz1.ks.length + 1) cv)) gv (zz1.ks.length * 6) y fy) R g c T s5 from by rw [kid_comm _ HGN.out]; exact ⟨KD.out.1, KD.out.2.1⟩)
              clear KD
              generalize wd.setCell ⟨N, 5, none⟩ (.slice (some ⟨gv, 0, none⟩) (zz1.ks.length + 1) cv) = wk at *
              zput
              zstep 10
              go_simp
              zgo
              zdone
              clear hK K u0 u1 u2 u3 u4 u5 v0 v1 v2 v3 v4 v5
              go_wp2_with fail
              go_meet
              exact ⟨_, _, KD2.out.1, KD2.out.2⟩
        case rest =>
          obtain ⟨f2, fs2, hbx, hlo⟩ := hcut
          have BXE := Lib.hid hbx
          have HE := Lib.hid hlo
          have hq := HQ2.out
          subst hq
          clear hbx hlo HQ2 C9 l1 B_N10 H10
          go_wp2_with fail
          exact bodyPost_ret (v := .bool true) (by simp [results, Try.results53, go_sem]) rfl ⟨rfl, ⟨f2, fs2, BXE.out⟩, HE.out.p, HE.out.b⟩
    · obtain ⟨y, s5, h_s5⟩ : ∃ y s5, r.exp s3 = (y, s5) := ⟨_, _, rfl⟩
      have E_s5 := Lib.hid h_s5
      clear h_s5
      have l1 : zz1.ks.length ≤ 100000 := by rw [← Z_zz1.out, setTx_ks]; exact hks
      have hq : (zz1.add y, s5) = q := by
        rw [← HQ.out, ← Z_zz1.out]; unfold valueF; dsimp only; rw [E_b.out, if_pos rfl, E_s1.out, E_tx.out, E_s2.out, E_s3.out, E_bf.out, if_neg (fun h => absurd h.2.1 (by decide)), E_s5.out]
      have HQ2 := Lib.hid hq
      clear hq HQ
      go_upto_region 9 with (fail)
      have C9 := Lib.hid (fun wx (h : PAt wx R g c T s3) => gives_eq E_s5.out (D.exp wx s3 h (by rw [G_s3.out.deep]; exact HD.out)))
      go_cut [38] (fun _ wx => ∃ f2 fs2, Box wx N base (zz1.add y) f2 fs2 ∧ Lo base w wx R g c T s5)
      case first =>
        refine region_Z (fun W => W.cell? ⟨N, 5, none⟩ = some (.slice f.ka zz1.ks.length f.kc)) (fun i => decide (8 ≤ i ∧ i < 14)) (by kernel_rfl) B_N10.out.drew.c5 (fun hHeld => ?_)
        ztake 0 14
        ztake 1 14
        ztake 2 14
        ztake 3 14
        ztake 4 14
        ztake 6 14
        refine anyZ_split (i := 5) (j := 7) (by kernel_rfl) rfl rfl (fun K hK => ?_) (fun K hK => ?_)
        · go_simp
          go_at_call 39
          refine (C9.out _ H10.out.drew.p).mono ?_
          rintro e wc ⟨fy, rfl, hpc, ny, bc⟩
          have HC := Lib.hid (H10.out.drew.call hpc bc)
          have BC := Lib.hid (B_N10.out.drew.but bc (Nat.le_refl _) (by have := H10.out.r; omega))
          have NY : Hid (NodeIn wc (fun a => w10.heap.size ≤ a) y fy) := ny
          clear hpc ny bc
          unfold ndV
          refine hK.out _ _ (fun _ => BC.out.c5) (fun hHeld2 => ?_)
          replace hHeld2 := hHeld2 (by decide)
          clear hK K hHeld
          zput
          zstep 7
          go_simp
          refine hK.out _ _ (fun _ => (BC.out.alloc _).c5) (fun hHeld3 => ?_)
          clear hK K hHeld2 hHeld3
          zput
          have HA := Lib.hid (HC.out.alloc (.cells zZ 25))
          have BA := Lib.hid (BC.out.alloc (.cells zZ 25))
          have NA := Lib.hid (NY.out.alloc (.cells zZ 25))
          have ZA : Hid (Whole (wc.alloc (.cells zZ 25)) wc.heap.size 25 zZ) := Whole.made _ _ _
          clear HC BC NY
          generalize wc.alloc (.cells zZ 25) = wa at *
          generalize wc.heap.size = Zb at *
          zstep 8
          refine step_app ty_nd (v := .slice f.ka zz1.ks.length f.kc) (by rfl) _ _ (by rfl) (by rfl) BA.out.kid Zb 1 [.int .i64 0, .string ⟨#[]⟩, .int .i64 0, .int .i64 0, .slice none 0 0, .slice none 0 0] (by rfl) ZA.out (by rfl) (by simp [Value.oneCell']) (by decide) (by omega) (by decide) (by have := HA.out.size; omega) ?_
          intro gv cv wd hap
          have KD := Lib.hid (kid_done2 HA.out BA.out B_N10.out.lt B_N10.out.nlt B_N10.out.klt NA.out hap)
          have hln := flatL_len _ _ BA.out.len
          have ZC := Lib.hid (zero_cells hap (by rw [hln]; omega))
          rw [hln] at ZC
          have XD := Lib.hid (hap.far BA.out.box (row_ne BA.out.kid BA.out.kN))
          have hgn : gv ≠ N := KD.out.2.2
          have hgn2 : N ≠ gv := Ne.symm hgn
          have HGN := Lib.hid hgn
          have HGN2 := Lib.hid hgn2
          clear hln hgn hgn2 hap HA BA NA ZA
          zgoz
          clear hK K
          zput
          refine anyZ_free _ _ _ _ (by decide) ?_
          have hT : True := trivial
          have hix : (zz1.ks.length : Int) < (zz1.ks.length : Int) + 1 := by omega
          ztaki 9 14
          ztaki 11 14
          ztaki 12 14
          refine anyZ_split (i := 10) (j := 13) (by kernel_rfl) rfl rfl (fun K hK => ?_) (fun K hK => ?_)
          · have u0 : wd.cell? ⟨gv, zz1.ks.length * 6, none⟩ = some (.int .i64 0) := (ZC.out 0 (by decide)).1
            have v0 : wd.frozen? ⟨gv, zz1.ks.length * 6, none⟩ = false := (ZC.out 0 (by decide)).2
            have u1 : wd.cell? ⟨gv, zz1.ks.length * 6 + 1, none⟩ = some (.string ⟨#[]⟩) := (ZC.out 1 (by decide)).1
            zv v1 1 (wd) (zz1)
            have u2 : wd.cell? ⟨gv, zz1.ks.length * 6 + 2, none⟩ = some (.int .i64 0) := (ZC.out 2 (by decide)).1
            zv v2 2 (wd) (zz1)
            have u3 : wd.cell? ⟨gv, zz1.ks.length * 6 + 3, none⟩ = some (.int .i64 0) := (ZC.out 3 (by decide)).1
            zv v3 3 (wd) (zz1)
            have u4 : wd.cell? ⟨gv, zz1.ks.length * 6 + 4, none⟩ = some (.slice none 0 0) := (ZC.out 4 (by decide)).1
            zv v4 4 (wd) (zz1)
            have u5 : wd.cell? ⟨gv, zz1.ks.length * 6 + 5, none⟩ = some (.slice none 0 0) := (ZC.out 5 (by decide)).1
            zv v5 5 (wd) (zz1)
            go_simp
            zgo
            clear hK K u0 u1 u2 u3 u4 u5 v0 v1 v2 v3 v4 v5
            have XK := Lib.hid (kid_whole XD.out HGN2.out (zz1.ks.length * 6) y fy)
            have c5 : (kidW wd gv (zz1.ks.length * 6) y fy).cell? ⟨N, 5, none⟩ = some (.slice f.ka zz1.ks.length f.kc) := XK.out.cell 5
            have v5 := XK.out.free 5
            change anyZ _ _ _ _ _ _ _ _ _ (kidW wd gv (zz1.ks.length * 6) y fy)
            generalize kidW wd gv (zz1.ks.length * 6) y fy = wk at *
            clear XK
            zput
            zstep 13
            go_simp
            zgo
            zdone
            clear hK K c5 v5
            go_wp2_with fail
            go_meet
            exact ⟨_, _, KD.out.1, KD.out.2.1⟩
          · have c5 : wd.cell? ⟨N, 5, none⟩ = some (.slice f.ka zz1.ks.length f.kc) := XD.out.cell 5
            have v5 := XD.out.free 5
            go_simp
            zgo
            clear hK K c5 v5
            have u0 : (wd.setCell ⟨N, 5, none⟩ (.slice (some ⟨gv, 0, none⟩) (zz1.ks.length + 1) cv)).cell? ⟨gv, zz1.ks.length * 6, none⟩ = some (.int .i64 0) := cell_far (ZC.out 0 (by decide)).1 HGN.out
            have v0 : (wd.setCell ⟨N, 5, none⟩ (.slice (some ⟨gv, 0, none⟩) (zz1.ks.length + 1) cv)).frozen? ⟨gv, zz1.ks.length * 6, none⟩ = false := (frozen_far HGN.out).trans (ZC.out 0 (by decide)).2
            have u1 : (wd.setCell ⟨N, 5, none⟩ (.slice (some ⟨gv, 0, none⟩) (zz1.ks.length + 1) cv)).cell? ⟨gv, zz1.ks.length * 6 + 1, none⟩ = some (.string ⟨#[]⟩) := cell_far (ZC.out 1 (by decide)).1 HGN.out
            zvf v1 1 (wd.setCell ⟨N, 5, none⟩ (.slice (some ⟨gv, 0, none⟩) (zz1.ks.length + 1) cv)) (zz1)
            have u2 : (wd.setCell ⟨N, 5, none⟩ (.slice (some ⟨gv, 0, none⟩) (zz1.ks.length + 1) cv)).cell? ⟨gv, zz1.ks.length * 6 + 2, none⟩ = some (.int .i64 0) := cell_far (ZC.out 2 (by decide)).1 HGN.out
            zvf v2 2 (wd.setCell ⟨N, 5, none⟩ (.slice (some ⟨gv, 0, none⟩) (zz1.ks.length + 1) cv)) (zz1)
            have u3 : (wd.setCell ⟨N, 5, none⟩ (.slice (some ⟨gv, 0, none⟩) (zz1.ks.length + 1) cv)).cell? ⟨gv, zz1.ks.length * 6 + 3, none⟩ = some (.int .i64 0) := cell_far (ZC.out 3 (by decide)).1 HGN.out
            zvf v3 3 (wd.setCell ⟨N, 5, none⟩ (.slice (some ⟨gv, 0, none⟩) (zz1.ks.length + 1) cv)) (zz1)
            have u4 : (wd.setCell ⟨N, 5, none⟩ (.slice (some ⟨gv, 0, none⟩) (zz1.ks.length + 1) cv)).cell? ⟨gv, zz1.ks.length * 6 + 4, none⟩ = some (.slice none 0 0) := cell_far (ZC.out 4 (by decide)).1 HGN.out
            zvf v4 4 (wd.setCell ⟨N, 5, none⟩ (.slice (some ⟨gv, 0, none⟩) (zz1.ks.length + 1) cv)) (zz1)
            have u5 : (wd.setCell ⟨N, 5, none⟩ (.slice (some ⟨gv, 0, none⟩) (zz1.ks.length + 1) cv)).cell? ⟨gv, zz1.ks.length * 6 + 5, none⟩ = some (.slice none 0 0) := cell_far (ZC.out 5 (by decide)).1 HGN.out
            zvf v5 5 (wd.setCell ⟨N, 5, none⟩ (.slice (some ⟨gv, 0, none⟩) (zz1.ks.length + 1) cv)) (zz1)
            have KD2 := Lib.hid (show Box (kidW (wd.setCell ⟨N, 5, none⟩ (.slice (some ⟨gv, 0, none⟩) (zz1.ks.length + 1) cv)) gv (zz1.ks.length * 6) y fy) N base (zz1.add y) _ _ ∧ Lo base w (kidW (wd.setCell ⟨N, 5, none⟩ (.slice (some ⟨gv, 0, none⟩) (zz1.ks.length + 1) cv)) gv (zz1.ks.length * 6) y fy) R g c T s5 from by rw [kid_comm _ HGN.out]; exact ⟨KD.out.1, KD.out.2.1⟩)
            clear KD
            generalize wd.setCell ⟨N, 5, none⟩ (.slice (some ⟨gv, 0, none⟩) (zz1.ks.length + 1) cv) = wk at *
            zput
            zstep 10
            go_simp
            zgo
            zdone
            clear hK K u0 u1 u2 u3 u4 u5 v0 v1 v2 v3 v4 v5
            go_wp2_with fail
            go_meet
            exact ⟨_, _, KD2.out.1, KD2.out.2⟩
        · go_simp
          refine hK.out _ _ (fun _ => (B_N10.out.drew.alloc _).c5) (fun hHeld2 => ?_)
          replace hHeld2 := hHeld2 (by decide)
          clear hK K hHeld
          zput
          zstep 5
          go_simp
          go_at_call 39
          refine (C9.out _ (H10.out.drew.alloc (.cells zZ 25)).p).mono ?_
          rintro e wc ⟨fy, rfl, hpc, ny, bc⟩
          have HA := Lib.hid ((H10.out.drew.alloc (.cells zZ 25)).call hpc bc)
          have BA := Lib.hid ((B_N10.out.drew.alloc (.cells zZ 25)).but bc (Nat.le_refl _) (by have := H10.out.r; omega))
          have NA : Hid (NodeIn wc (fun a => w10.heap.size ≤ a) y fy) := ny.mono fun a ha _ => by simp at ha; omega
          have ZA : Hid (Whole wc w10.heap.size 25 zZ) := bc.whole (Whole.made w10.drew 25 zZ) (by simp) (by have := H10.out.r; have := H10.out.size; simp; omega)
          clear hpc ny bc
          unfold ndV
          refine hK.out _ _ (fun _ => BA.out.c5) (fun hHeld3 => ?_)
          clear hK K hHeld2 hHeld3
          zput
          zstep 8
          refine step_app ty_nd (v := .slice f.ka zz1.ks.length f.kc) (by rfl) _ _ (by rfl) (by rfl) BA.out.kid w10.heap.size 1 [.int .i64 0, .string ⟨#[]⟩, .int .i64 0, .int .i64 0, .slice none 0 0, .slice none 0 0] (by rfl) ZA.out (by rfl) (by simp [Value.oneCell']) (by decide) (by omega) (by decide) (by have := HA.out.size; omega) ?_
          intro gv cv wd hap
          have KD := Lib.hid (kid_done2 HA.out BA.out B_N10.out.lt B_N10.out.nlt B_N10.out.klt NA.out hap)
          have hln := flatL_len _ _ BA.out.len
          have ZC := Lib.hid (zero_cells hap (by rw [hln]; omega))
          rw [hln] at ZC
          have XD := Lib.hid (hap.far BA.out.box (row_ne BA.out.kid BA.out.kN))
          have hgn : gv ≠ N := KD.out.2.2
          have hgn2 : N ≠ gv := Ne.symm hgn
          have HGN := Lib.hid hgn
          have HGN2 := Lib.hid hgn2
          clear hln hgn hgn2 hap HA BA NA ZA
          zgoz
          clear hK K
          zput
          refine anyZ_free _ _ _ _ (by decide) ?_
          have hT : True := trivial
          have hix : (zz1.ks.length : Int) < (zz1.ks.length : Int) + 1 := by omega
          ztaki 9 14
          ztaki 11 14
          ztaki 12 14
          refine anyZ_split (i := 10) (j := 13) (by kernel_rfl) rfl rfl (fun K hK => ?_) (fun K hK => ?_)
          · have u0 : wd.cell? ⟨gv, zz1.ks.length * 6, none⟩ = some (.int .i64 0) := (ZC.out 0 (by decide)).1
            have v0 : wd.frozen? ⟨gv, zz1.ks.length * 6, none⟩ = false := (ZC.out 0 (by decide)).2
            have u1 : wd.cell? ⟨gv, zz1.ks.length * 6 + 1, none⟩ = some (.string ⟨#[]⟩) := (ZC.out 1 (by decide)).1
            zv v1 1 (wd) (zz1)
            have u2 : wd.cell? ⟨gv, zz1.ks.length * 6 + 2, none⟩ = some (.int .i64 0) := (ZC.out 2 (by decide)).1
            zv v2 2 (wd) (zz1)
            have u3 : wd.cell? ⟨gv, zz1.ks.length * 6 + 3, none⟩ = some (.int .i64 0) := (ZC.out 3 (by decide)).1
            zv v3 3 (wd) (zz1)
            have u4 : wd.cell? ⟨gv, zz1.ks.length * 6 + 4, none⟩ = some (.slice none 0 0) := (ZC.out 4 (by decide)).1
            zv v4 4 (wd) (zz1)
            have u5 : wd.cell? ⟨gv, zz1.ks.length * 6 + 5, none⟩ = some (.slice none 0 0) := (ZC.out 5 (by decide)).1
            zv v5 5 (wd) (zz1)
            go_simp
            zgo
            clear hK K u0 u1 u2 u3 u4 u5 v0 v1 v2 v3 v4 v5
            have XK := Lib.hid (kid_whole XD.out HGN2.out (zz1.ks.length * 6) y fy)
            have c5 : (kidW wd gv (zz1.ks.length * 6) y fy).cell? ⟨N, 5, none⟩ = some (.slice f.ka zz1.ks.length f.kc) := XK.out.cell 5
            have v5 := XK.out.free 5
            change anyZ _ _ _ _ _ _ _ _ _ (kidW wd gv (zz1.ks.length * 6) y fy)
            generalize kidW wd gv (zz1.ks.length * 6) y fy = wk at *
            clear XK
            zput
            zstep 13
            go_simp
            zgo
            zdone
            clear hK K c5 v5
            go_wp2_with fail
            go_meet
            exact ⟨_, _, KD.out.1, KD.out.2.1⟩
          · have c5 : wd.cell? ⟨N, 5, none⟩ = some (.slice f.ka zz1.ks.length f.kc) := XD.out.cell 5
            have v5 := XD.out.free 5
            go_simp
            zgo
            clear hK K c5 v5
            have u0 : (wd.setCell ⟨N, 5, none⟩ (.slice (some ⟨gv, 0, none⟩) (zz1.ks.length + 1) cv)).cell? ⟨gv, zz1.ks.length * 6, none⟩ = some (.int .i64 0) := cell_far (ZC.out 0 (by decide)).1 HGN.out
            have v0 : (wd.setCell ⟨N, 5, none⟩ (.slice (some ⟨gv, 0, none⟩) (zz1.ks.length + 1) cv)).frozen? ⟨gv, zz1.ks.length * 6, none⟩ = false := (frozen_far HGN.out).trans (ZC.out 0 (by decide)).2
            have u1 : (wd.setCell ⟨N, 5, none⟩ (.slice (some ⟨gv, 0, none⟩) (zz1.ks.length + 1) cv)).cell? ⟨gv, zz1.ks.length * 6 + 1, none⟩ = some (.string ⟨#[]⟩) := cell_far (ZC.out 1 (by decide)).1 HGN.out
            zvf v1 1 (wd.setCell ⟨N, 5, none⟩ (.slice (some ⟨gv, 0, none⟩) (zz1.ks.length + 1) cv)) (zz1)
            have u2 : (wd.setCell ⟨N, 5, none⟩ (.slice (some ⟨gv, 0, none⟩) (zz1.ks.length + 1) cv)).cell? ⟨gv, zz1.ks.length * 6 + 2, none⟩ = some (.int .i64 0) := cell_far (ZC.out 2 (by decide)).1 HGN.out
            zvf v2 2 (wd.setCell ⟨N, 5, none⟩ (.slice (some ⟨gv, 0, none⟩) (zz1.ks.length + 1) cv)) (zz1)
            have u3 : (wd.setCell ⟨N, 5, none⟩ (.slice (some ⟨gv, 0, none⟩) (zz1.ks.length + 1) cv)).cell? ⟨gv, zz1.ks.length * 6 + 3, none⟩ = some (.int .i64 0) := cell_far (ZC.out 3 (by decide)).1 HGN.out
            zvf v3 3 (wd.setCell ⟨N, 5, none⟩ (.slice (some ⟨gv, 0, none⟩) (zz1.ks.length + 1) cv)) (zz1)
            have u4 : (wd.setCell ⟨N, 5, none⟩ (.slice (some ⟨gv, 0, none⟩) (zz1.ks.length + 1) cv)).cell? ⟨gv, zz1.ks.length * 6 + 4, none⟩ = some (.slice none 0 0) := cell_far (ZC.out 4 (by decide)).1 HGN.out
            zvf v4 4 (wd.setCell ⟨N, 5, none⟩ (.slice (some ⟨gv, 0, none⟩) (zz1.ks.length + 1) cv)) (zz1)
            have u5 : (wd.setCell ⟨N, 5, none⟩ (.slice (some ⟨gv, 0, none⟩) (zz1.ks.length + 1) cv)).cell? ⟨gv, zz1.ks.length * 6 + 5, none⟩ = some (.slice none 0 0) := cell_far (ZC.out 5 (by decide)).1 HGN.out
            zvf v5 5 (wd.setCell ⟨N, 5, none⟩ (.slice (some ⟨gv, 0, none⟩) (zz1.ks.length + 1) cv)) (zz1)
            have KD2 := Lib.hid (show Box (kidW (wd.setCell ⟨N, 5, none⟩ (.slice (some ⟨gv, 0, none⟩) (zz1.ks.length + 1) cv)) gv (zz1.ks.length * 6) y fy) N base (zz1.add y) _ _ ∧ Lo base w (kidW (wd.setCell ⟨N, 5, none⟩ (.slice (some ⟨gv, 0, none⟩) (zz1.ks.length + 1) cv)) gv (zz1.ks.length * 6) y fy) R g c T s5 from by rw [kid_comm _ HGN.out]; exact ⟨KD.out.1, KD.out.2.1⟩)
            clear KD
            generalize wd.setCell ⟨N, 5, none⟩ (.slice (some ⟨gv, 0, none⟩) (zz1.ks.length + 1) cv) = wk at *
            zput
            zstep 10
            go_simp
            zgo
            zdone
            clear hK K u0 u1 u2 u3 u4 u5 v0 v1 v2 v3 v4 v5
            go_wp2_with fail
            go_meet
            exact ⟨_, _, KD2.out.1, KD2.out.2⟩
      case rest =>
        obtain ⟨f2, fs2, hbx, hlo⟩ := hcut
        have BXE := Lib.hid hbx
        have HE := Lib.hid hlo
        have hq := HQ2.out
        subst hq
        clear hbx hlo HQ2 C9 l1 B_N10 H10
        go_wp2_with fail
        exact bodyPost_ret (v := .bool true) (by simp [results, Try.results53, go_sem]) rfl ⟨rfl, ⟨f2, fs2, BXE.out⟩, HE.out.p, HE.out.b⟩
end Go.Proofs.Ytgjchgmlogbmmaa
