/- A part of the proofs of chapter 11, squeezed, merged and shrunk by group.py: GWalkP GNam. -/
import Derived.Test.YtgjchgmlogbmmaaR1
import Derived.KernelRfl
import Derived.Test.YtgjchgmlogbmmaaR8
/- The walks of layer 5, the document's: an exp without its depth. -/
namespace Go.Proofs.Ytgjchgmlogbmmaa
open Go.RowKit
set_option linter.unusedVariables false
set_option linter.unusedSimpArgs false
attribute [local go_sem ↓] Go.wp_at_zero Go.wp_at_succ

theorem Var.pairN {w0 w : World} {R g c G : Nat} {T : List Tok} {s : PS} {x y : Nd} {f fy : Fr} (v : Var w0 w G x f) (H : St w0 w R g c T s) (ny : NodeIn w (fun a => w0.heap.size < a ∧ a ≠ G) y fy) (kd : Int) (o : List UInt8) (at_ : Nat) :
  NodeIn (w.alloc (.cells (ndL x f ++ ndL y fy).toArray 25)) (fun a => w0.heap.size < a) (.mk kd o 0 at_ [] [x, y]) ⟨none, 0, some ⟨w.heap.size, 0, none⟩, 2⟩ :=
 .pair kd o at_ (Whole.made _ _ _) H.size ((v.n.mono (b' := fun a => w0.heap.size < a ∧ a ≠ w.heap.size) fun a ha hl => ⟨ha.1, Nat.ne_of_lt hl⟩).alloc _) ((ny.mono (b' := fun a => w0.heap.size < a ∧ a ≠ w.heap.size) fun a ha hl => ⟨ha.1, Nat.ne_of_lt hl⟩).alloc _)
set_option maxRecDepth 100000 in
set_option maxHeartbeats 32000000 in
theorem inner_any (w : World) (R g c : Nat) (T : List Tok) (r : Rec) (n : Nat) (s : PS) (E : Ends T) (F : Fine T r) (D : Deep R g c T r n) (CM : ∀ (w : World) (s : PS), PAt w R g c T s → 41 ≤ s.deep + n → Calls Try.prog 68 #[.pointer (some ⟨R, 0, none⟩)] w (Gives w R g c T (cmpF T r s))) (hp : PAt w R g c T s) (hd : 41 ≤ s.deep + n) :
  Calls Try.prog 55 #[.pointer (some ⟨R, 0, none⟩)] w (Gives w R g c T (innerF T r s)) := by
 have H0 := Lib.hid (St.start hp)
 have HD := Lib.hid hd
 have HL := Lib.hid hp.lt
 have G_s := Lib.hid (Goes.refl hp.lt)
 clear hp hd
 obtain ⟨q, hq⟩ : ∃ q, innerF T r s = q := ⟨_, rfl⟩
 rw [hq]
 have HQ := Lib.hid hq
 clear hq
 obtain ⟨a, h_a⟩ : ∃ a, atF T s = a := ⟨_, rfl⟩
 have E_a := Lib.hid h_a
 clear h_a
 obtain ⟨bl, h_bl⟩ : ∃ bl, isF T s [108, 101, 116] = bl := ⟨_, rfl⟩
 have E_bl := Lib.hid h_bl
 clear h_bl
 obtain ⟨bf, h_bf⟩ : ∃ bf, isF T s [102, 117, 110] = bf := ⟨_, rfl⟩
 have E_bf := Lib.hid h_bf
 clear h_bf
 obtain ⟨bi, h_bi⟩ : ∃ bi, isF T s [105, 102] = bi := ⟨_, rfl⟩
 have E_bi := Lib.hid h_bi
 clear h_bi
 have HQ2 : Hid ((if bl = true then
   ((if valueB T (stepF T s) = true then (valueF T r ((Nd.mk 0 [] 0 a [] []).setKd 8) (stepF T s)).1.setKd 9 else (valueF T r ((Nd.mk 0 [] 0 a [] []).setKd 8) (stepF T s)).1).add (r.exp (wantF T (valueF T r ((Nd.mk 0 [] 0 a [] []).setKd 8) (stepF T s)).2 [105, 110])).1, (r.exp (wantF T (valueF T r ((Nd.mk 0 [] 0 a [] []).setKd 8) (stepF T s)).2 [105, 110])).2)
  else if bf = true then
   ((((Nd.mk 0 [] 0 a [] []).setKd 6).setTx (textT T (stepF T s) 3)).add (r.exp (wantF T (textF T (stepF T s) 3) [45, 62])).1, (r.exp (wantF T (textF T (stepF T s) 3) [45, 62])).2)
  else if bi = true then
   (((((Nd.mk 0 [] 0 a [] []).setKd 10).add (r.exp (stepF T s)).1).add (r.exp (wantF T (r.exp (stepF T s)).2 [116, 104, 101, 110])).1).add (r.exp (wantF T (r.exp (wantF T (r.exp (stepF T s)).2 [116, 104, 101, 110])).2 [101, 108, 115, 101])).1, (r.exp (wantF T (r.exp (wantF T (r.exp (stepF T s)).2 [116, 104, 101, 110])).2 [101, 108, 115, 101])).2)
  else if isF T (cmpF T r s).2 [59] = true ∧ (cmpF T r s).2.flat = false then
   (.mk 14 [] 0 (cmpF T r s).1.at_ [] [(cmpF T r s).1, (r.exp (stepF T (cmpF T r s).2)).1], (r.exp (stepF T (cmpF T r s).2)).2)
  else cmpF T r s) = q) := by
  show _ = _
  rw [← HQ.out, ← E_bl.out, ← E_bf.out, ← E_bi.out, ← E_a.out]; rfl
 clear HQ
 go_enter Try.func55, Try.ntmps55
 go_upto_region 1 with (fail)
 generalize w.alloc (.cells #[.int .i64 0, .string ⟨#[]⟩, .int .i64 0, .int .i64 0, .slice none 0 0, .slice none 0 0] 25) = w1 at *
 go_wp2_with fail
 refine (at_eq E_a.out H0.out.p).mono ?_
 rintro e w2 ⟨rfl, b2⟩
 have H2 := Lib.hid (H0.out.read b2)
 clear b2 H0
 have S_G : Hid (w.heap.size < w2.heap.size) := H2.out.size
 have H3 := Lib.hid (H2.out.alloc (.cells #[.int .i64 0, .string ⟨#[]⟩, .int .i64 0, .int .i64 (a : Int), .slice none 0 0, .slice none 0 0] 25))
 have B_G3 : Hid (Box (w2.alloc (.cells #[.int .i64 0, .string ⟨#[]⟩, .int .i64 0, .int .i64 (a : Int), .slice none 0 0, .slice none 0 0] 25)) w2.heap.size (w.heap.size + 1) (Nd.mk 0 [] 0 a [] []) fr0 []) := Box.made w2 (base := w.heap.size + 1) (x := (Nd.mk 0 [] 0 a [] [])) H2.out.size rfl rfl
 go_upto_region 2 with (fail)
 generalize w2.alloc (.cells #[.int .i64 0, .string ⟨#[]⟩, .int .i64 0, .int .i64 (a : Int), .slice none 0 0, .slice none 0 0] 25) = w3 at *
 generalize w2.heap.size = G at *
 clear H2
 obtain ⟨zz0, h_zz0⟩ : ∃ z9, (Nd.mk 0 [] 0 a [] []) = z9 := ⟨_, rfl⟩
 rw [h_zz0] at B_G3
 have Z_zz0 := Lib.hid h_zz0
 clear h_zz0
 go_wp2_with fail
 refine (is_eq E_bl.out H3.out.p).mono ?_
 rintro e w4 ⟨rfl, b4⟩
 have H4 := Lib.hid (H3.out.read b4)
 have B_G4 := Lib.hid (B_G3.out.below b4 (Nat.le_refl _))
 clear b4 H3 B_G3
 go_wp2_with fail
 refine (is_eq E_bf.out H4.out.p).mono ?_
 rintro e w5 ⟨rfl, b5⟩
 have H5 := Lib.hid (H4.out.read b5)
 have B_G5 := Lib.hid (B_G4.out.below b5 (Nat.le_refl _))
 clear b5 H4 B_G4
 go_wp2_with fail
 refine (is_eq E_bi.out H5.out.p).mono ?_
 rintro e w6 ⟨rfl, b6⟩
 have H6 := Lib.hid (H5.out.read b6)
 have B_G6 := Lib.hid (B_G5.out.below b6 (Nat.le_refl _))
 clear b6 H5 B_G5
 rcases bl with _ | _
 ·rcases bf with _ | _
  ·rcases bi with _ | _
   ·obtain ⟨x, s2, h_s2⟩ : ∃ x s2, cmpF T r s = (x, s2) := ⟨_, _, rfl⟩
    have E_s2 := Lib.hid h_s2
    clear h_s2
    have G_s2 := Lib.hid (show Goes T s s2 from by have q := (goes_cmp E F HL.out); rw [E_s2.out] at q; exact q)
    obtain ⟨bs, h_bs⟩ : ∃ bs, isF T s2 [59] = bs := ⟨_, rfl⟩
    have E_bs := Lib.hid h_bs
    clear h_bs
    obtain ⟨fl, h_fl⟩ : ∃ fl, s2.flat = fl := ⟨_, rfl⟩
    have E_fl := Lib.hid h_fl
    clear h_fl
    have hq := HQ2.out
    rw [if_neg (by decide), if_neg (by decide), if_neg (by decide), E_s2.out] at hq
    have HQ3 := Lib.hid hq
    clear hq HQ2 B_G6
    go_upto_region 30 with (fail)
    go_wp2_with fail
    refine (gives_eq E_s2.out (CM w6 s H6.out.p HD.out)).mono ?_
    rintro e w7 ⟨f, rfl, h7, n7, b7⟩
    have N_x7 := Lib.hid (n7.gt H6.out)
    have H7 := Lib.hid (H6.out.call h7 b7)
    clear h7 b7 H6 n7
    unfold ndV
    have S_K : Hid (w.heap.size < w7.heap.size) := H7.out.size
    have H8 := Lib.hid (H7.out.alloc (.cells #[.int .i64 x.kd, .string ⟨x.tx.toArray⟩, .int .i64 x.nm, .int .i64 (x.at_ : Int), .slice f.na x.ns.length f.nc, .slice f.ka x.ks.length f.kc] 25))
    have N_x8 := Lib.hid (N_x7.out.alloc (.cells #[.int .i64 x.kd, .string ⟨x.tx.toArray⟩, .int .i64 x.nm, .int .i64 (x.at_ : Int), .slice f.na x.ns.length f.nc, .slice f.ka x.ks.length f.kc] 25))
    have V_K8 : Hid (Var w (w7.alloc (.cells #[.int .i64 x.kd, .string ⟨x.tx.toArray⟩, .int .i64 x.nm, .int .i64 (x.at_ : Int), .slice f.na x.ns.length f.nc, .slice f.ka x.ks.length f.kc] 25)) w7.heap.size x f) := Var.made H7.out N_x7.out
    go_upto_region 31 with (fail)
    generalize w7.alloc (.cells #[.int .i64 x.kd, .string ⟨x.tx.toArray⟩, .int .i64 x.nm, .int .i64 (x.at_ : Int), .slice f.na x.ns.length f.nc, .slice f.ka x.ks.length f.kc] 25) = w8 at *
    generalize w7.heap.size = K at *
    clear H7 N_x7
    go_wp2_with fail
    refine (is_eq E_bs.out H8.out.p).mono ?_
    rintro e w9 ⟨rfl, b9⟩
    have H9 := Lib.hid (H8.out.read b9)
    have V_K9 := Lib.hid (V_K8.out.later b9 (Nat.le_refl _))
    clear b9 H8 V_K8
    have c4 := H9.out.p.c4
    have f4 := H9.out.p.free 4
    rw [E_fl.out] at c4
    rcases bs with _ | _
    ·have hq := HQ3.out
     (try dsimp only at hq)
     rw [if_neg (by rw [E_bs.out]; exact fun h => absurd h.1 (by decide))] at hq
     subst hq
     clear HQ3
     go_upto_region 35 with (fail)
     clear c4 f4
     obtain ⟨t0, t1, t2, t3, t4, t5⟩ := nodeC (V_K9.out.X)
     obtain ⟨z0, z1, z2, z3, z4, z5⟩ := zeroC (H9.out.z)
     obtain ⟨y0, y1, y2, y3, y4, y5⟩ := freeC (H9.out.z)
     go_wp2_with fail
     obtain ⟨wf, HZF, HBF, hwf⟩ := endsN (H9.out.z) x f
     rw [hwf]
     clear hwf
     obtain ⟨g0, g1, g2, g3, g4, g5⟩ := cells6 HZF.out
     exact bodyPost_ret (v := ndV x f) (by simp [results, Try.results55, go_sem, ndV, Nd.kd, Nd.tx, Nd.nm, Nd.at_, Nd.ns, Nd.ks, leafN, fr0, nd0, g0, g1, g2, g3, g4, g5]) rfl (H9.out.done V_K9.out.node HBF.out)
    ·rcases fl with _ | _
     ·obtain ⟨t, h_t⟩ : ∃ t, stepT T s2 = t := ⟨_, rfl⟩
      have E_t := Lib.hid h_t
      clear h_t
      obtain ⟨s3, h_s3⟩ : ∃ s3, stepF T s2 = s3 := ⟨_, rfl⟩
      have E_s3 := Lib.hid h_s3
      clear h_s3
      have G_s3 := Lib.hid (show Goes T s s3 from by have q := (G_s2.out.step E); rw [E_s3.out] at q; exact q)
      obtain ⟨y, s4, h_s4⟩ : ∃ y s4, r.exp s3 = (y, s4) := ⟨_, _, rfl⟩
      have E_s4 := Lib.hid h_s4
      clear h_s4
      have hq := HQ3.out
      (try dsimp only at hq)
      rw [if_pos ⟨E_bs.out, E_fl.out⟩, E_s3.out, E_s4.out] at hq
      subst hq
      clear HQ3
      go_upto_region 33 with (fail)
      clear c4 f4
      go_wp2_with fail
      refine (step_eq E E_t.out E_s3.out H9.out.p).mono ?_
      rintro e w10 ⟨rfl, h10, b10⟩
      have H10 := Lib.hid (H9.out.call h10 b10)
      have V_K10 := Lib.hid (V_K9.out.call H9.out b10)
      clear h10 b10 H9 V_K9
      go_upto_region 34 with (fail)
      have C11 := Lib.hid (fun wx (h : PAt wx R g c T s3) => gives_eq E_s4.out (D.exp wx s3 h (by rw [G_s3.out.deep]; exact HD.out)))
      refine region_Z (fun W => Whole W K 25 (ndL x f).toArray) (fun i => i == 7) (by kernel_rfl) V_K10.out.drew.X (fun hHeld => ?_)
      refine tke 0 rfl (v := ?_) ?_ ?_; rotate_left
      ·(intro w hSw; (try dsimp only at hSw); have u0 := hSw.cell 0; have u1 := hSw.cell 1; have u2 := hSw.cell 2; have u3 := hSw.cell 3; have u4 := hSw.cell 4; have u5 := hSw.cell 5; simp only [ndL, List.getElem?_toArray, List.getElem?_cons_zero, List.getElem?_cons_succ] at u0 u1 u2 u3 u4 u5; clear hSw; go_simp; try with_reducible rfl)
      (try simp only [Act.put, sZ])
      refine tke 1 rfl (v := ?_) ?_ ?_; rotate_left
      ·(intro w hSw; (try dsimp only at hSw); have u0 := hSw.cell 0; have u1 := hSw.cell 1; have u2 := hSw.cell 2; have u3 := hSw.cell 3; have u4 := hSw.cell 4; have u5 := hSw.cell 5; simp only [ndL, List.getElem?_toArray, List.getElem?_cons_zero, List.getElem?_cons_succ] at u0 u1 u2 u3 u4 u5; clear hSw; go_simp; try with_reducible rfl)
      (try simp only [Act.put, sZ])
      refine tke 2 rfl (v := ?_) ?_ ?_; rotate_left
      ·(intro w hSw; (try dsimp only at hSw); have u0 := hSw.cell 0; have u1 := hSw.cell 1; have u2 := hSw.cell 2; have u3 := hSw.cell 3; have u4 := hSw.cell 4; have u5 := hSw.cell 5; simp only [ndL, List.getElem?_toArray, List.getElem?_cons_zero, List.getElem?_cons_succ] at u0 u1 u2 u3 u4 u5; clear hSw; go_simp; try with_reducible rfl)
      (try simp only [Act.put, sZ])
      refine tke 3 rfl (v := ?_) ?_ ?_; rotate_left
      ·(intro w hSw; (try dsimp only at hSw); have u0 := hSw.cell 0; have u1 := hSw.cell 1; have u2 := hSw.cell 2; have u3 := hSw.cell 3; have u4 := hSw.cell 4; have u5 := hSw.cell 5; simp only [ndL, List.getElem?_toArray, List.getElem?_cons_zero, List.getElem?_cons_succ] at u0 u1 u2 u3 u4 u5; clear hSw; go_simp; try with_reducible rfl)
      (try simp only [Act.put, sZ])
      refine stp 4 rfl (fun K hK => ?_)
      go_simp
      go_at_call 39
      refine (C11.out _ H10.out.drew.p).mono ?_
      rintro e wc ⟨fy, rfl, hpc, ny, bc⟩
      have HC := Lib.hid (H10.out.drew.call hpc bc)
      have VC := Lib.hid (V_K10.out.drew.call H10.out.drew bc)
      have NY := Lib.hid (ny.new H10.out.drew V_K10.out.drew)
      clear hpc ny bc
      unfold ndV
      refine hK.out _ _ (fun _ => VC.out.X) (fun hHeld2 => ?_)
      replace hHeld2 := hHeld2 (by decide)
      clear hK K hHeld
      (try simp only [Act.put, sZ])
      refine stp 5 rfl (fun K hK => ?_)
      go_simp
      refine hK.out _ _ (fun _ => (VC.out.alloc (.cells #[.int .i64 x.kd, .string ⟨x.tx.toArray⟩, .int .i64 x.nm, .int .i64 (x.at_ : Int), .slice f.na x.ns.length f.nc, .slice f.ka x.ks.length f.kc, .int .i64 y.kd, .string ⟨y.tx.toArray⟩, .int .i64 y.nm, .int .i64 (y.at_ : Int), .slice fy.na y.ns.length fy.nc, .slice fy.ka y.ks.length fy.kc] 25)).X) (fun hHeld3 => ?_)
      replace hHeld3 := hHeld3 (by decide)
      clear hK K hHeld2
      (try simp only [Act.put, sZ])
      refine tke 6 rfl (v := ?_) ?_ ?_; rotate_left
      ·(intro w hSw; (try dsimp only at hSw); have u0 := hSw.cell 0; have u1 := hSw.cell 1; have u2 := hSw.cell 2; have u3 := hSw.cell 3; have u4 := hSw.cell 4; have u5 := hSw.cell 5; simp only [ndL, List.getElem?_toArray, List.getElem?_cons_zero, List.getElem?_cons_succ] at u0 u1 u2 u3 u4 u5; clear hSw; go_simp; try with_reducible rfl)
      (try simp only [Act.put, sZ])
      have NP : NodeIn (wc.alloc (.cells #[.int .i64 x.kd, .string ⟨x.tx.toArray⟩, .int .i64 x.nm, .int .i64 (x.at_ : Int), .slice f.na x.ns.length f.nc, .slice f.ka x.ks.length f.kc, .int .i64 y.kd, .string ⟨y.tx.toArray⟩, .int .i64 y.nm, .int .i64 (y.at_ : Int), .slice fy.na y.ns.length fy.nc, .slice fy.ka y.ks.length fy.kc] 25)) (fun a => w.heap.size < a) (Nd.mk 14 [] 0 x.at_ [] [x, y]) ⟨none, 0, some ⟨wc.heap.size, 0, none⟩, 2⟩ := VC.out.pairN HC.out NY.out 14 [] x.at_
      have HNP := Lib.hid NP
      have HS := Lib.hid (HC.out.alloc (.cells #[.int .i64 x.kd, .string ⟨x.tx.toArray⟩, .int .i64 x.nm, .int .i64 (x.at_ : Int), .slice f.na x.ns.length f.nc, .slice f.ka x.ks.length f.kc, .int .i64 y.kd, .string ⟨y.tx.toArray⟩, .int .i64 y.nm, .int .i64 (y.at_ : Int), .slice fy.na y.ns.length fy.nc, .slice fy.ka y.ks.length fy.kc] 25))
      clear NP VC HC NY hHeld3
      generalize wc.alloc (.cells #[.int .i64 x.kd, .string ⟨x.tx.toArray⟩, .int .i64 x.nm, .int .i64 (x.at_ : Int), .slice f.na x.ns.length f.nc, .slice f.ka x.ks.length f.kc, .int .i64 y.kd, .string ⟨y.tx.toArray⟩, .int .i64 y.nm, .int .i64 (y.at_ : Int), .slice fy.na y.ns.length fy.nc, .slice fy.ka y.ks.length fy.kc] 25) = wq at *
      obtain ⟨z0, z1, z2, z3, z4, z5⟩ := zeroC (HS.out.z)
      obtain ⟨y0, y1, y2, y3, y4, y5⟩ := freeC (HS.out.z)
      refine stp 7 rfl (fun K hK => ?_)
      go_simp
      refine hK.out _ _ (fun h => absurd h (by decide)) (fun _ => ?_)
      refine anyZ_done (by kernel_rfl) ?_ _
      clear hK K
      go_wp2_with fail
      obtain ⟨wf, HZF, HBF, hwf⟩ := ends6 (HS.out.z) (.int .i64 14) (.string ⟨#[]⟩) (.int .i64 0) (.int .i64 (x.at_ : Int)) (.slice none 0 0) (.slice (some ⟨wc.heap.size, 0, none⟩) 2 2)
      rw [hwf]
      clear hwf
      obtain ⟨g0, g1, g2, g3, g4, g5⟩ := cells6 HZF.out
      exact bodyPost_ret (v := ndV (Nd.mk 14 [] 0 x.at_ [] [x, y]) ⟨none, 0, some ⟨wc.heap.size, 0, none⟩, 2⟩) (by simp [results, Try.results55, go_sem, ndV, Nd.kd, Nd.tx, Nd.nm, Nd.at_, Nd.ns, Nd.ks, leafN, fr0, nd0, g0, g1, g2, g3, g4, g5]) rfl (HS.out.done (x := (Nd.mk 14 [] 0 x.at_ [] [x, y])) (f := ⟨none, 0, some ⟨wc.heap.size, 0, none⟩, 2⟩) HNP.out HBF.out)
     ·have hq := HQ3.out
      (try dsimp only at hq)
      rw [if_neg (by rw [E_fl.out]; exact fun h => absurd h.2 (by decide))] at hq
      subst hq
      clear HQ3
      go_upto_region 35 with (fail)
      clear c4 f4
      obtain ⟨t0, t1, t2, t3, t4, t5⟩ := nodeC (V_K9.out.X)
      obtain ⟨z0, z1, z2, z3, z4, z5⟩ := zeroC (H9.out.z)
      obtain ⟨y0, y1, y2, y3, y4, y5⟩ := freeC (H9.out.z)
      go_wp2_with fail
      obtain ⟨wf, HZF, HBF, hwf⟩ := endsN (H9.out.z) x f
      rw [hwf]
      clear hwf
      obtain ⟨g0, g1, g2, g3, g4, g5⟩ := cells6 HZF.out
      exact bodyPost_ret (v := ndV x f) (by simp [results, Try.results55, go_sem, ndV, Nd.kd, Nd.tx, Nd.nm, Nd.at_, Nd.ns, Nd.ks, leafN, fr0, nd0, g0, g1, g2, g3, g4, g5]) rfl (H9.out.done V_K9.out.node HBF.out)
   ·obtain ⟨t, h_t⟩ : ∃ t, stepT T s = t := ⟨_, rfl⟩
    have E_t := Lib.hid h_t
    clear h_t
    obtain ⟨s1, h_s1⟩ : ∃ s1, stepF T s = s1 := ⟨_, rfl⟩
    have E_s1 := Lib.hid h_s1
    clear h_s1
    have G_s1 := Lib.hid (show Goes T s s1 from by have q := (goes_step E HL.out); rw [E_s1.out] at q; exact q)
    obtain ⟨x1, s2, h_s2⟩ : ∃ x1 s2, r.exp s1 = (x1, s2) := ⟨_, _, rfl⟩
    have E_s2 := Lib.hid h_s2
    clear h_s2
    have G_s2 := Lib.hid (show Goes T s s2 from by have q := (G_s1.out.exp F); rw [E_s2.out] at q; exact q)
    obtain ⟨s3, h_s3⟩ : ∃ s3, wantF T s2 [116, 104, 101, 110] = s3 := ⟨_, rfl⟩
    have E_s3 := Lib.hid h_s3
    clear h_s3
    have G_s3 := Lib.hid (show Goes T s s3 from by have q := (G_s2.out.want E [116, 104, 101, 110]); rw [E_s3.out] at q; exact q)
    obtain ⟨x2, s4, h_s4⟩ : ∃ x2 s4, r.exp s3 = (x2, s4) := ⟨_, _, rfl⟩
    have E_s4 := Lib.hid h_s4
    clear h_s4
    have G_s4 := Lib.hid (show Goes T s s4 from by have q := (G_s3.out.exp F); rw [E_s4.out] at q; exact q)
    obtain ⟨s5, h_s5⟩ : ∃ s5, wantF T s4 [101, 108, 115, 101] = s5 := ⟨_, rfl⟩
    have E_s5 := Lib.hid h_s5
    clear h_s5
    have G_s5 := Lib.hid (show Goes T s s5 from by have q := (G_s4.out.want E [101, 108, 115, 101]); rw [E_s5.out] at q; exact q)
    obtain ⟨x3, s6, h_s6⟩ : ∃ x3 s6, r.exp s5 = (x3, s6) := ⟨_, _, rfl⟩
    have E_s6 := Lib.hid h_s6
    clear h_s6
    have hq := HQ2.out
    rw [if_neg (by decide), if_neg (by decide), if_pos rfl, E_s1.out, E_s2.out, E_s3.out, E_s4.out, E_s5.out, E_s6.out] at hq
    have HQ3 := Lib.hid hq
    clear hq HQ2
    go_upto_region 22 with (fail)
    go_wp2_with fail
    refine (step_eq E E_t.out E_s1.out H6.out.p).mono ?_
    rintro e w12 ⟨rfl, h12, b12⟩
    have H12 := Lib.hid (H6.out.call h12 b12)
    have B_G12 := Lib.hid (B_G6.out.but b12 (Nat.le_refl _) (by have := H6.out.r; omega))
    clear h12 b12 H6 B_G6
    go_upto_region 23 with (fail)
    have c0 := B_G12.out.c0
    have f0 := B_G12.out.free 0
    go_upto_region 24 with (fail)
    have B_G13 := Lib.hid (B_G12.out.putKd 10)
    have H13 := Lib.hid (H12.out.own (p := ⟨G, 0, none⟩) B_G12.out.lo (.int .i64 10))
    clear c0 f0 B_G12 H12
    generalize w12.setCell ⟨G, 0, none⟩ (.int .i64 10) = w13 at *
    obtain ⟨zz1, h_zz1⟩ : ∃ z9, (zz0.setKd 10) = z9 := ⟨_, rfl⟩
    rw [h_zz1] at B_G13
    have Z_zz1 := Lib.hid h_zz1
    clear h_zz1
    have l1 : zz1.ks.length = 0 := by rw [← Z_zz1.out, setKd_ks, ← Z_zz0.out]; rfl
    have L1 := Lib.hid l1
    have l9 : zz1.ks.length ≤ 5 := by omega
    clear l1
    have C14 := Lib.hid (fun wx (h : PAt wx R g c T s1) => gives_eq E_s2.out (D.exp wx s1 h (by rw [G_s1.out.deep]; exact HD.out)))
    go_cut [63] (fun _ wx => ∃ f2 fs2, Box wx G (w.heap.size + 1) (zz1.add x1) f2 fs2 ∧ St w wx R g c T s2)
    case first =>
     refine region_Z (fun W => W.cell? ⟨G, 5, none⟩ = some (.slice fr0.ka zz1.ks.length fr0.kc)) (fun i => decide (6 ≤ i ∧ i < 11)) (by kernel_rfl) B_G13.out.drew.c5 (fun hHeld => ?_)
     refine tkg 0 rfl (fun k hk => by have hk2 : 11 ≤ k := hk; simp; omega) (v := ?_) ?_ ?_; rotate_left
     ·(intro w hSw; (try dsimp only at hSw); go_simp; try with_reducible rfl)
     (try simp only [Act.put, sZ])
     refine tkg 1 rfl (fun k hk => by have hk2 : 11 ≤ k := hk; simp; omega) (v := ?_) ?_ ?_; rotate_left
     ·(intro w hSw; (try dsimp only at hSw); go_simp; try with_reducible rfl)
     (try simp only [Act.put, sZ])
     refine tkg 2 rfl (fun k hk => by have hk2 : 11 ≤ k := hk; simp; omega) (v := ?_) ?_ ?_; rotate_left
     ·(intro w hSw; (try dsimp only at hSw); go_simp; try with_reducible rfl)
     (try simp only [Act.put, sZ])
     refine tkg 4 rfl (fun k hk => by have hk2 : 11 ≤ k := hk; simp; omega) (v := ?_) ?_ ?_; rotate_left
     ·(intro w hSw; (try dsimp only at hSw); go_simp; try with_reducible rfl)
     (try simp only [Act.put, sZ])
     refine anyZ_split (i := 3) (j := 5) (by kernel_rfl) rfl rfl (fun K hK => ?_) (fun K hK => ?_)
     ·go_simp
      go_at_call 39
      refine (C14.out _ H13.out.drew.p).mono ?_
      rintro e wc ⟨fy, rfl, hpc, ny, bc⟩
      have HC := Lib.hid (H13.out.drew.call hpc bc)
      have BC := Lib.hid (B_G13.out.drew.but bc (Nat.le_refl _) (by have := H13.out.r; omega))
      have NY : Hid (NodeIn wc (fun a => w13.heap.size ≤ a) x1 fy) := ny
      clear hpc ny bc
      unfold ndV
      refine hK.out _ _ (fun _ => BC.out.c5) (fun hHeld2 => ?_)
      replace hHeld2 := hHeld2 (by decide)
      clear hK K hHeld
      (try simp only [Act.put, sZ])
      refine stp 5 rfl (fun K hK => ?_)
      go_simp
      refine hK.out _ _ (fun _ => (BC.out.alloc _).c5) (fun hHeld3 => ?_)
      clear hK K hHeld2 hHeld3
      (try simp only [Act.put, sZ])
      have HA := Lib.hid (HC.out.alloc (.cells #[.int .i64 0, .string ⟨#[]⟩, .int .i64 0, .int .i64 0, .slice none 0 0, .slice none 0 0] 25))
      have BA := Lib.hid (BC.out.alloc (.cells #[.int .i64 0, .string ⟨#[]⟩, .int .i64 0, .int .i64 0, .slice none 0 0, .slice none 0 0] 25))
      have NA := Lib.hid (NY.out.alloc (.cells #[.int .i64 0, .string ⟨#[]⟩, .int .i64 0, .int .i64 0, .slice none 0 0, .slice none 0 0] 25))
      have ZA : Hid (Whole (wc.alloc (.cells #[.int .i64 0, .string ⟨#[]⟩, .int .i64 0, .int .i64 0, .slice none 0 0, .slice none 0 0] 25)) wc.heap.size 25 #[.int .i64 0, .string ⟨#[]⟩, .int .i64 0, .int .i64 0, .slice none 0 0, .slice none 0 0]) := Whole.made _ _ _
      clear HC BC NY
      generalize wc.alloc (.cells #[.int .i64 0, .string ⟨#[]⟩, .int .i64 0, .int .i64 0, .slice none 0 0, .slice none 0 0] 25) = wa at *
      generalize wc.heap.size = Zb at *
      refine stp 6 rfl (fun K hK => ?_)
      refine step_app ty_nd (v := .slice fr0.ka zz1.ks.length fr0.kc) (by rfl) _ _ (by rfl) (by rfl) BA.out.kid Zb 1 [.int .i64 0, .string ⟨#[]⟩, .int .i64 0, .int .i64 0, .slice none 0 0, .slice none 0 0] (by rfl) ZA.out (by rfl) (by simp [Value.oneCell']) (by decide) (by omega) (by decide) (by have := HA.out.size; omega) ?_
      intro gv cv wd hap
      have KD := Lib.hid (kid_done rfl HA.out BA.out B_G13.out.lt B_G13.out.nlt B_G13.out.klt NA.out hap)
      have hln := flatL_len _ _ BA.out.len
      have ZC := Lib.hid (zero_cells hap (by rw [hln]; omega))
      rw [hln] at ZC
      have XD := Lib.hid (hap.far BA.out.box (row_ne BA.out.kid BA.out.kN))
      have hgn : gv ≠ G := KD.out.2.2
      have hgn2 : G ≠ gv := Ne.symm hgn
      have HGN := Lib.hid hgn
      have HGN2 := Lib.hid hgn2
      clear hln hgn hgn2 hap HA BA NA ZA
      refine hK.out _ _ (fun h => absurd h (by decide)) (fun _ => ?_)
      clear hK K
      (try simp only [Act.put, sZ])
      refine anyZ_free _ _ _ _ (by decide) ?_
      have hT : True := trivial
      have hix : (zz1.ks.length : Int) < (zz1.ks.length : Int) + 1 := by omega
      refine tkf 7 rfl (v := ?_) ?_ ?_; rotate_left
      ·(intro w hSw; (try dsimp only at hSw); go_simp; try with_reducible rfl)
      (try simp only [Act.put, sZ])
      refine tkf 9 rfl (v := ?_) ?_ ?_; rotate_left
      ·(intro w hSw; (try dsimp only at hSw); go_simp; try with_reducible rfl)
      (try simp only [Act.put, sZ])
      refine anyZ_split (i := 8) (j := 10) (by kernel_rfl) rfl rfl (fun K hK => ?_) (fun K hK => ?_)
      ·obtain ⟨u0, v0, u1, v1, u2, v2, u3, v3, u4, v4, u5, v5⟩ := zcA ZC.out
       go_simp
       refine hK.out _ _ (fun _ => trivial) (fun _ => ?_)
       clear hK K u0 u1 u2 u3 u4 u5 v0 v1 v2 v3 v4 v5
       have XK := Lib.hid (kid_whole XD.out HGN2.out (zz1.ks.length * 6) x1 fy)
       have c5 : (kidW wd gv (zz1.ks.length * 6) x1 fy).cell? ⟨G, 5, none⟩ = some (.slice fr0.ka zz1.ks.length fr0.kc) := XK.out.cell 5
       have v5 := XK.out.free 5
       change anyZ _ _ _ _ _ _ _ _ _ (kidW wd gv (zz1.ks.length * 6) x1 fy)
       generalize kidW wd gv (zz1.ks.length * 6) x1 fy = wk at *
       clear XK
       (try simp only [Act.put, sZ])
       refine stp 10 rfl (fun K hK => ?_)
       go_simp
       refine hK.out _ _ (fun _ => trivial) (fun _ => ?_)
       refine anyZ_done (by kernel_rfl) ?_ _
       clear hK K c5 v5
       go_wp2_with fail
       go_meet
       exact ⟨_, _, KD.out.1, KD.out.2.1⟩
      ·have c5 : wd.cell? ⟨G, 5, none⟩ = some (.slice fr0.ka zz1.ks.length fr0.kc) := XD.out.cell 5
       have v5 := XD.out.free 5
       go_simp
       refine hK.out _ _ (fun _ => trivial) (fun _ => ?_)
       clear hK K c5 v5
       obtain ⟨u0, v0, u1, v1, u2, v2, u3, v3, u4, v4, u5, v5⟩ := zcB (p := ⟨G, 5, none⟩) ZC.out HGN.out (.slice (some ⟨gv, 0, none⟩) (zz1.ks.length + 1) cv)
       have KD2 := Lib.hid (show Box (kidW (wd.setCell ⟨G, 5, none⟩ (.slice (some ⟨gv, 0, none⟩) (zz1.ks.length + 1) cv)) gv (zz1.ks.length * 6) x1 fy) G (w.heap.size + 1) (zz1.add x1) _ _ ∧ St w (kidW (wd.setCell ⟨G, 5, none⟩ (.slice (some ⟨gv, 0, none⟩) (zz1.ks.length + 1) cv)) gv (zz1.ks.length * 6) x1 fy) R g c T s2 from by rw [kid_comm _ HGN.out]; exact ⟨KD.out.1, KD.out.2.1⟩)
       clear KD
       generalize wd.setCell ⟨G, 5, none⟩ (.slice (some ⟨gv, 0, none⟩) (zz1.ks.length + 1) cv) = wk at *
       (try simp only [Act.put, sZ])
       refine stp 8 rfl (fun K hK => ?_)
       go_simp
       refine hK.out _ _ (fun _ => trivial) (fun _ => ?_)
       refine anyZ_done (by kernel_rfl) ?_ _
       clear hK K u0 u1 u2 u3 u4 u5 v0 v1 v2 v3 v4 v5
       go_wp2_with fail
       go_meet
       exact ⟨_, _, KD2.out.1, KD2.out.2⟩
     ·go_simp
      refine hK.out _ _ (fun _ => (B_G13.out.drew.alloc _).c5) (fun hHeld2 => ?_)
      replace hHeld2 := hHeld2 (by decide)
      clear hK K hHeld
      (try simp only [Act.put, sZ])
      refine stp 3 rfl (fun K hK => ?_)
      go_simp
      go_at_call 39
      refine (C14.out _ (H13.out.drew.alloc (.cells #[.int .i64 0, .string ⟨#[]⟩, .int .i64 0, .int .i64 0, .slice none 0 0, .slice none 0 0] 25)).p).mono ?_
      rintro e wc ⟨fy, rfl, hpc, ny, bc⟩
      have HA := Lib.hid ((H13.out.drew.alloc (.cells #[.int .i64 0, .string ⟨#[]⟩, .int .i64 0, .int .i64 0, .slice none 0 0, .slice none 0 0] 25)).call hpc bc)
      have BA := Lib.hid ((B_G13.out.drew.alloc (.cells #[.int .i64 0, .string ⟨#[]⟩, .int .i64 0, .int .i64 0, .slice none 0 0, .slice none 0 0] 25)).but bc (Nat.le_refl _) (by have := H13.out.r; omega))
      have NA : Hid (NodeIn wc (fun a => w13.heap.size ≤ a) x1 fy) := ny.mono fun a ha _ => by simp at ha; omega
      have ZA : Hid (Whole wc w13.heap.size 25 #[.int .i64 0, .string ⟨#[]⟩, .int .i64 0, .int .i64 0, .slice none 0 0, .slice none 0 0]) := bc.whole (Whole.made w13.drew 25 #[.int .i64 0, .string ⟨#[]⟩, .int .i64 0, .int .i64 0, .slice none 0 0, .slice none 0 0]) (by simp) (by have := H13.out.r; have := H13.out.size; simp; omega)
      clear hpc ny bc
      unfold ndV
      refine hK.out _ _ (fun _ => BA.out.c5) (fun hHeld3 => ?_)
      clear hK K hHeld2 hHeld3
      (try simp only [Act.put, sZ])
      refine stp 6 rfl (fun K hK => ?_)
      refine step_app ty_nd (v := .slice fr0.ka zz1.ks.length fr0.kc) (by rfl) _ _ (by rfl) (by rfl) BA.out.kid w13.heap.size 1 [.int .i64 0, .string ⟨#[]⟩, .int .i64 0, .int .i64 0, .slice none 0 0, .slice none 0 0] (by rfl) ZA.out (by rfl) (by simp [Value.oneCell']) (by decide) (by omega) (by decide) (by have := HA.out.size; omega) ?_
      intro gv cv wd hap
      have KD := Lib.hid (kid_done rfl HA.out BA.out B_G13.out.lt B_G13.out.nlt B_G13.out.klt NA.out hap)
      have hln := flatL_len _ _ BA.out.len
      have ZC := Lib.hid (zero_cells hap (by rw [hln]; omega))
      rw [hln] at ZC
      have XD := Lib.hid (hap.far BA.out.box (row_ne BA.out.kid BA.out.kN))
      have hgn : gv ≠ G := KD.out.2.2
      have hgn2 : G ≠ gv := Ne.symm hgn
      have HGN := Lib.hid hgn
      have HGN2 := Lib.hid hgn2
      clear hln hgn hgn2 hap HA BA NA ZA
      refine hK.out _ _ (fun h => absurd h (by decide)) (fun _ => ?_)
      clear hK K
      (try simp only [Act.put, sZ])
      refine anyZ_free _ _ _ _ (by decide) ?_
      have hT : True := trivial
      have hix : (zz1.ks.length : Int) < (zz1.ks.length : Int) + 1 := by omega
      refine tkf 7 rfl (v := ?_) ?_ ?_; rotate_left
      ·(intro w hSw; (try dsimp only at hSw); go_simp; try with_reducible rfl)
      (try simp only [Act.put, sZ])
      refine tkf 9 rfl (v := ?_) ?_ ?_; rotate_left
      ·(intro w hSw; (try dsimp only at hSw); go_simp; try with_reducible rfl)
      (try simp only [Act.put, sZ])
      refine anyZ_split (i := 8) (j := 10) (by kernel_rfl) rfl rfl (fun K hK => ?_) (fun K hK => ?_)
      ·obtain ⟨u0, v0, u1, v1, u2, v2, u3, v3, u4, v4, u5, v5⟩ := zcA ZC.out
       go_simp
       refine hK.out _ _ (fun _ => trivial) (fun _ => ?_)
       clear hK K u0 u1 u2 u3 u4 u5 v0 v1 v2 v3 v4 v5
       have XK := Lib.hid (kid_whole XD.out HGN2.out (zz1.ks.length * 6) x1 fy)
       have c5 : (kidW wd gv (zz1.ks.length * 6) x1 fy).cell? ⟨G, 5, none⟩ = some (.slice fr0.ka zz1.ks.length fr0.kc) := XK.out.cell 5
       have v5 := XK.out.free 5
       change anyZ _ _ _ _ _ _ _ _ _ (kidW wd gv (zz1.ks.length * 6) x1 fy)
       generalize kidW wd gv (zz1.ks.length * 6) x1 fy = wk at *
       clear XK
       (try simp only [Act.put, sZ])
       refine stp 10 rfl (fun K hK => ?_)
       go_simp
       refine hK.out _ _ (fun _ => trivial) (fun _ => ?_)
       refine anyZ_done (by kernel_rfl) ?_ _
       clear hK K c5 v5
       go_wp2_with fail
       go_meet
       exact ⟨_, _, KD.out.1, KD.out.2.1⟩
      ·have c5 : wd.cell? ⟨G, 5, none⟩ = some (.slice fr0.ka zz1.ks.length fr0.kc) := XD.out.cell 5
       have v5 := XD.out.free 5
       go_simp
       refine hK.out _ _ (fun _ => trivial) (fun _ => ?_)
       clear hK K c5 v5
       obtain ⟨u0, v0, u1, v1, u2, v2, u3, v3, u4, v4, u5, v5⟩ := zcB (p := ⟨G, 5, none⟩) ZC.out HGN.out (.slice (some ⟨gv, 0, none⟩) (zz1.ks.length + 1) cv)
       have KD2 := Lib.hid (show Box (kidW (wd.setCell ⟨G, 5, none⟩ (.slice (some ⟨gv, 0, none⟩) (zz1.ks.length + 1) cv)) gv (zz1.ks.length * 6) x1 fy) G (w.heap.size + 1) (zz1.add x1) _ _ ∧ St w (kidW (wd.setCell ⟨G, 5, none⟩ (.slice (some ⟨gv, 0, none⟩) (zz1.ks.length + 1) cv)) gv (zz1.ks.length * 6) x1 fy) R g c T s2 from by rw [kid_comm _ HGN.out]; exact ⟨KD.out.1, KD.out.2.1⟩)
       clear KD
       generalize wd.setCell ⟨G, 5, none⟩ (.slice (some ⟨gv, 0, none⟩) (zz1.ks.length + 1) cv) = wk at *
       (try simp only [Act.put, sZ])
       refine stp 8 rfl (fun K hK => ?_)
       go_simp
       refine hK.out _ _ (fun _ => trivial) (fun _ => ?_)
       refine anyZ_done (by kernel_rfl) ?_ _
       clear hK K u0 u1 u2 u3 u4 u5 v0 v1 v2 v3 v4 v5
       go_wp2_with fail
       go_meet
       exact ⟨_, _, KD2.out.1, KD2.out.2⟩
    case rest =>
     obtain ⟨f14, fs14, hbx, hlo⟩ := hcut
     have B_G14 := Lib.hid hbx
     have H14 := Lib.hid hlo
     clear hbx hlo C14 B_G13 H13
     obtain ⟨zz2, h_zz2⟩ : ∃ z9, (zz1.add x1) = z9 := ⟨_, rfl⟩
     rw [h_zz2] at B_G14
     have Z_zz2 := Lib.hid h_zz2
     clear h_zz2
     have l2 : zz2.ks.length = 1 := by rw [← Z_zz2.out, add_ks, List.length_append, L1.out]; rfl
     have L2 := Lib.hid l2
     clear l9
     have l9 : zz2.ks.length ≤ 5 := by omega
     clear l2
     go_wp2_with fail
     refine (want_eq E E_s3.out H14.out.p).mono ?_
     rintro e w15 ⟨rfl, h15, b15⟩
     have H15 := Lib.hid (H14.out.call h15 b15)
     have B_G15 := Lib.hid (B_G14.out.but b15 (Nat.le_refl _) (by have := H14.out.r; omega))
     clear h15 b15 H14 B_G14
     go_upto_region 26 with (fail)
     have C16 := Lib.hid (fun wx (h : PAt wx R g c T s3) => gives_eq E_s4.out (D.exp wx s3 h (by rw [G_s3.out.deep]; exact HD.out)))
     go_cut [74] (fun _ wx => ∃ f2 fs2, Box wx G (w.heap.size + 1) (zz2.add x2) f2 fs2 ∧ St w wx R g c T s4)
     case first =>
      refine region_Z (fun W => W.cell? ⟨G, 5, none⟩ = some (.slice f14.ka zz2.ks.length f14.kc)) (fun i => decide (6 ≤ i ∧ i < 11)) (by kernel_rfl) B_G15.out.drew.c5 (fun hHeld => ?_)
      refine tkg 0 rfl (fun k hk => by have hk2 : 11 ≤ k := hk; simp; omega) (v := ?_) ?_ ?_; rotate_left
      ·(intro w hSw; (try dsimp only at hSw); go_simp; try with_reducible rfl)
      (try simp only [Act.put, sZ])
      refine tkg 1 rfl (fun k hk => by have hk2 : 11 ≤ k := hk; simp; omega) (v := ?_) ?_ ?_; rotate_left
      ·(intro w hSw; (try dsimp only at hSw); go_simp; try with_reducible rfl)
      (try simp only [Act.put, sZ])
      refine tkg 2 rfl (fun k hk => by have hk2 : 11 ≤ k := hk; simp; omega) (v := ?_) ?_ ?_; rotate_left
      ·(intro w hSw; (try dsimp only at hSw); go_simp; try with_reducible rfl)
      (try simp only [Act.put, sZ])
      refine tkg 4 rfl (fun k hk => by have hk2 : 11 ≤ k := hk; simp; omega) (v := ?_) ?_ ?_; rotate_left
      ·(intro w hSw; (try dsimp only at hSw); go_simp; try with_reducible rfl)
      (try simp only [Act.put, sZ])
      refine anyZ_split (i := 3) (j := 5) (by kernel_rfl) rfl rfl (fun K hK => ?_) (fun K hK => ?_)
      ·go_simp
       go_at_call 39
       refine (C16.out _ H15.out.drew.p).mono ?_
       rintro e wc ⟨fy, rfl, hpc, ny, bc⟩
       have HC := Lib.hid (H15.out.drew.call hpc bc)
       have BC := Lib.hid (B_G15.out.drew.but bc (Nat.le_refl _) (by have := H15.out.r; omega))
       have NY : Hid (NodeIn wc (fun a => w15.heap.size ≤ a) x2 fy) := ny
       clear hpc ny bc
       unfold ndV
       refine hK.out _ _ (fun _ => BC.out.c5) (fun hHeld2 => ?_)
       replace hHeld2 := hHeld2 (by decide)
       clear hK K hHeld
       (try simp only [Act.put, sZ])
       refine stp 5 rfl (fun K hK => ?_)
       go_simp
       refine hK.out _ _ (fun _ => (BC.out.alloc _).c5) (fun hHeld3 => ?_)
       clear hK K hHeld2 hHeld3
       (try simp only [Act.put, sZ])
       have HA := Lib.hid (HC.out.alloc (.cells #[.int .i64 0, .string ⟨#[]⟩, .int .i64 0, .int .i64 0, .slice none 0 0, .slice none 0 0] 25))
       have BA := Lib.hid (BC.out.alloc (.cells #[.int .i64 0, .string ⟨#[]⟩, .int .i64 0, .int .i64 0, .slice none 0 0, .slice none 0 0] 25))
       have NA := Lib.hid (NY.out.alloc (.cells #[.int .i64 0, .string ⟨#[]⟩, .int .i64 0, .int .i64 0, .slice none 0 0, .slice none 0 0] 25))
       have ZA : Hid (Whole (wc.alloc (.cells #[.int .i64 0, .string ⟨#[]⟩, .int .i64 0, .int .i64 0, .slice none 0 0, .slice none 0 0] 25)) wc.heap.size 25 #[.int .i64 0, .string ⟨#[]⟩, .int .i64 0, .int .i64 0, .slice none 0 0, .slice none 0 0]) := Whole.made _ _ _
       clear HC BC NY
       generalize wc.alloc (.cells #[.int .i64 0, .string ⟨#[]⟩, .int .i64 0, .int .i64 0, .slice none 0 0, .slice none 0 0] 25) = wa at *
       generalize wc.heap.size = Zb at *
       refine stp 6 rfl (fun K hK => ?_)
       refine step_app ty_nd (v := .slice f14.ka zz2.ks.length f14.kc) (by rfl) _ _ (by rfl) (by rfl) BA.out.kid Zb 1 [.int .i64 0, .string ⟨#[]⟩, .int .i64 0, .int .i64 0, .slice none 0 0, .slice none 0 0] (by rfl) ZA.out (by rfl) (by simp [Value.oneCell']) (by decide) (by omega) (by decide) (by have := HA.out.size; omega) ?_
       intro gv cv wd hap
       have KD := Lib.hid (kid_done rfl HA.out BA.out B_G15.out.lt B_G15.out.nlt B_G15.out.klt NA.out hap)
       have hln := flatL_len _ _ BA.out.len
       have ZC := Lib.hid (zero_cells hap (by rw [hln]; omega))
       rw [hln] at ZC
       have XD := Lib.hid (hap.far BA.out.box (row_ne BA.out.kid BA.out.kN))
       have hgn : gv ≠ G := KD.out.2.2
       have hgn2 : G ≠ gv := Ne.symm hgn
       have HGN := Lib.hid hgn
       have HGN2 := Lib.hid hgn2
       clear hln hgn hgn2 hap HA BA NA ZA
       refine hK.out _ _ (fun h => absurd h (by decide)) (fun _ => ?_)
       clear hK K
       (try simp only [Act.put, sZ])
       refine anyZ_free _ _ _ _ (by decide) ?_
       have hT : True := trivial
       have hix : (zz2.ks.length : Int) < (zz2.ks.length : Int) + 1 := by omega
       refine tkf 7 rfl (v := ?_) ?_ ?_; rotate_left
       ·(intro w hSw; (try dsimp only at hSw); go_simp; try with_reducible rfl)
       (try simp only [Act.put, sZ])
       refine tkf 9 rfl (v := ?_) ?_ ?_; rotate_left
       ·(intro w hSw; (try dsimp only at hSw); go_simp; try with_reducible rfl)
       (try simp only [Act.put, sZ])
       refine anyZ_split (i := 8) (j := 10) (by kernel_rfl) rfl rfl (fun K hK => ?_) (fun K hK => ?_)
       ·obtain ⟨u0, v0, u1, v1, u2, v2, u3, v3, u4, v4, u5, v5⟩ := zcA ZC.out
        go_simp
        refine hK.out _ _ (fun _ => trivial) (fun _ => ?_)
        clear hK K u0 u1 u2 u3 u4 u5 v0 v1 v2 v3 v4 v5
        have XK := Lib.hid (kid_whole XD.out HGN2.out (zz2.ks.length * 6) x2 fy)
        have c5 : (kidW wd gv (zz2.ks.length * 6) x2 fy).cell? ⟨G, 5, none⟩ = some (.slice f14.ka zz2.ks.length f14.kc) := XK.out.cell 5
        have v5 := XK.out.free 5
        change anyZ _ _ _ _ _ _ _ _ _ (kidW wd gv (zz2.ks.length * 6) x2 fy)
        generalize kidW wd gv (zz2.ks.length * 6) x2 fy = wk at *
        clear XK
        (try simp only [Act.put, sZ])
        refine stp 10 rfl (fun K hK => ?_)
        go_simp
        refine hK.out _ _ (fun _ => trivial) (fun _ => ?_)
        refine anyZ_done (by kernel_rfl) ?_ _
        clear hK K c5 v5
        go_wp2_with fail
        go_meet
        exact ⟨_, _, KD.out.1, KD.out.2.1⟩
       ·have c5 : wd.cell? ⟨G, 5, none⟩ = some (.slice f14.ka zz2.ks.length f14.kc) := XD.out.cell 5
        have v5 := XD.out.free 5
        go_simp
        refine hK.out _ _ (fun _ => trivial) (fun _ => ?_)
        clear hK K c5 v5
        obtain ⟨u0, v0, u1, v1, u2, v2, u3, v3, u4, v4, u5, v5⟩ := zcB (p := ⟨G, 5, none⟩) ZC.out HGN.out (.slice (some ⟨gv, 0, none⟩) (zz2.ks.length + 1) cv)
        have KD2 := Lib.hid (show Box (kidW (wd.setCell ⟨G, 5, none⟩ (.slice (some ⟨gv, 0, none⟩) (zz2.ks.length + 1) cv)) gv (zz2.ks.length * 6) x2 fy) G (w.heap.size + 1) (zz2.add x2) _ _ ∧ St w (kidW (wd.setCell ⟨G, 5, none⟩ (.slice (some ⟨gv, 0, none⟩) (zz2.ks.length + 1) cv)) gv (zz2.ks.length * 6) x2 fy) R g c T s4 from by rw [kid_comm _ HGN.out]; exact ⟨KD.out.1, KD.out.2.1⟩)
        clear KD
        generalize wd.setCell ⟨G, 5, none⟩ (.slice (some ⟨gv, 0, none⟩) (zz2.ks.length + 1) cv) = wk at *
        (try simp only [Act.put, sZ])
        refine stp 8 rfl (fun K hK => ?_)
        go_simp
        refine hK.out _ _ (fun _ => trivial) (fun _ => ?_)
        refine anyZ_done (by kernel_rfl) ?_ _
        clear hK K u0 u1 u2 u3 u4 u5 v0 v1 v2 v3 v4 v5
        go_wp2_with fail
        go_meet
        exact ⟨_, _, KD2.out.1, KD2.out.2⟩
      ·go_simp
       refine hK.out _ _ (fun _ => (B_G15.out.drew.alloc _).c5) (fun hHeld2 => ?_)
       replace hHeld2 := hHeld2 (by decide)
       clear hK K hHeld
       (try simp only [Act.put, sZ])
       refine stp 3 rfl (fun K hK => ?_)
       go_simp
       go_at_call 39
       refine (C16.out _ (H15.out.drew.alloc (.cells #[.int .i64 0, .string ⟨#[]⟩, .int .i64 0, .int .i64 0, .slice none 0 0, .slice none 0 0] 25)).p).mono ?_
       rintro e wc ⟨fy, rfl, hpc, ny, bc⟩
       have HA := Lib.hid ((H15.out.drew.alloc (.cells #[.int .i64 0, .string ⟨#[]⟩, .int .i64 0, .int .i64 0, .slice none 0 0, .slice none 0 0] 25)).call hpc bc)
       have BA := Lib.hid ((B_G15.out.drew.alloc (.cells #[.int .i64 0, .string ⟨#[]⟩, .int .i64 0, .int .i64 0, .slice none 0 0, .slice none 0 0] 25)).but bc (Nat.le_refl _) (by have := H15.out.r; omega))
       have NA : Hid (NodeIn wc (fun a => w15.heap.size ≤ a) x2 fy) := ny.mono fun a ha _ => by simp at ha; omega
       have ZA : Hid (Whole wc w15.heap.size 25 #[.int .i64 0, .string ⟨#[]⟩, .int .i64 0, .int .i64 0, .slice none 0 0, .slice none 0 0]) := bc.whole (Whole.made w15.drew 25 #[.int .i64 0, .string ⟨#[]⟩, .int .i64 0, .int .i64 0, .slice none 0 0, .slice none 0 0]) (by simp) (by have := H15.out.r; have := H15.out.size; simp; omega)
       clear hpc ny bc
       unfold ndV
       refine hK.out _ _ (fun _ => BA.out.c5) (fun hHeld3 => ?_)
       clear hK K hHeld2 hHeld3
       (try simp only [Act.put, sZ])
       refine stp 6 rfl (fun K hK => ?_)
       refine step_app ty_nd (v := .slice f14.ka zz2.ks.length f14.kc) (by rfl) _ _ (by rfl) (by rfl) BA.out.kid w15.heap.size 1 [.int .i64 0, .string ⟨#[]⟩, .int .i64 0, .int .i64 0, .slice none 0 0, .slice none 0 0] (by rfl) ZA.out (by rfl) (by simp [Value.oneCell']) (by decide) (by omega) (by decide) (by have := HA.out.size; omega) ?_
       intro gv cv wd hap
       have KD := Lib.hid (kid_done rfl HA.out BA.out B_G15.out.lt B_G15.out.nlt B_G15.out.klt NA.out hap)
       have hln := flatL_len _ _ BA.out.len
       have ZC := Lib.hid (zero_cells hap (by rw [hln]; omega))
       rw [hln] at ZC
       have XD := Lib.hid (hap.far BA.out.box (row_ne BA.out.kid BA.out.kN))
       have hgn : gv ≠ G := KD.out.2.2
       have hgn2 : G ≠ gv := Ne.symm hgn
       have HGN := Lib.hid hgn
       have HGN2 := Lib.hid hgn2
       clear hln hgn hgn2 hap HA BA NA ZA
       refine hK.out _ _ (fun h => absurd h (by decide)) (fun _ => ?_)
       clear hK K
       (try simp only [Act.put, sZ])
       refine anyZ_free _ _ _ _ (by decide) ?_
       have hT : True := trivial
       have hix : (zz2.ks.length : Int) < (zz2.ks.length : Int) + 1 := by omega
       refine tkf 7 rfl (v := ?_) ?_ ?_; rotate_left
       ·(intro w hSw; (try dsimp only at hSw); go_simp; try with_reducible rfl)
       (try simp only [Act.put, sZ])
       refine tkf 9 rfl (v := ?_) ?_ ?_; rotate_left
       ·(intro w hSw; (try dsimp only at hSw); go_simp; try with_reducible rfl)
       (try simp only [Act.put, sZ])
       refine anyZ_split (i := 8) (j := 10) (by kernel_rfl) rfl rfl (fun K hK => ?_) (fun K hK => ?_)
       ·obtain ⟨u0, v0, u1, v1, u2, v2, u3, v3, u4, v4, u5, v5⟩ := zcA ZC.out
        go_simp
        refine hK.out _ _ (fun _ => trivial) (fun _ => ?_)
        clear hK K u0 u1 u2 u3 u4 u5 v0 v1 v2 v3 v4 v5
        have XK := Lib.hid (kid_whole XD.out HGN2.out (zz2.ks.length * 6) x2 fy)
        have c5 : (kidW wd gv (zz2.ks.length * 6) x2 fy).cell? ⟨G, 5, none⟩ = some (.slice f14.ka zz2.ks.length f14.kc) := XK.out.cell 5
        have v5 := XK.out.free 5
        change anyZ _ _ _ _ _ _ _ _ _ (kidW wd gv (zz2.ks.length * 6) x2 fy)
        generalize kidW wd gv (zz2.ks.length * 6) x2 fy = wk at *
        clear XK
        (try simp only [Act.put, sZ])
        refine stp 10 rfl (fun K hK => ?_)
        go_simp
        refine hK.out _ _ (fun _ => trivial) (fun _ => ?_)
        refine anyZ_done (by kernel_rfl) ?_ _
        clear hK K c5 v5
        go_wp2_with fail
        go_meet
        exact ⟨_, _, KD.out.1, KD.out.2.1⟩
       ·have c5 : wd.cell? ⟨G, 5, none⟩ = some (.slice f14.ka zz2.ks.length f14.kc) := XD.out.cell 5
        have v5 := XD.out.free 5
        go_simp
        refine hK.out _ _ (fun _ => trivial) (fun _ => ?_)
        clear hK K c5 v5
        obtain ⟨u0, v0, u1, v1, u2, v2, u3, v3, u4, v4, u5, v5⟩ := zcB (p := ⟨G, 5, none⟩) ZC.out HGN.out (.slice (some ⟨gv, 0, none⟩) (zz2.ks.length + 1) cv)
        have KD2 := Lib.hid (show Box (kidW (wd.setCell ⟨G, 5, none⟩ (.slice (some ⟨gv, 0, none⟩) (zz2.ks.length + 1) cv)) gv (zz2.ks.length * 6) x2 fy) G (w.heap.size + 1) (zz2.add x2) _ _ ∧ St w (kidW (wd.setCell ⟨G, 5, none⟩ (.slice (some ⟨gv, 0, none⟩) (zz2.ks.length + 1) cv)) gv (zz2.ks.length * 6) x2 fy) R g c T s4 from by rw [kid_comm _ HGN.out]; exact ⟨KD.out.1, KD.out.2.1⟩)
        clear KD
        generalize wd.setCell ⟨G, 5, none⟩ (.slice (some ⟨gv, 0, none⟩) (zz2.ks.length + 1) cv) = wk at *
        (try simp only [Act.put, sZ])
        refine stp 8 rfl (fun K hK => ?_)
        go_simp
        refine hK.out _ _ (fun _ => trivial) (fun _ => ?_)
        refine anyZ_done (by kernel_rfl) ?_ _
        clear hK K u0 u1 u2 u3 u4 u5 v0 v1 v2 v3 v4 v5
        go_wp2_with fail
        go_meet
        exact ⟨_, _, KD2.out.1, KD2.out.2⟩
     case rest =>
      obtain ⟨f16, fs16, hbx, hlo⟩ := hcut
      have B_G16 := Lib.hid hbx
      have H16 := Lib.hid hlo
      clear hbx hlo C16 B_G15 H15
      obtain ⟨zz3, h_zz3⟩ : ∃ z9, (zz2.add x2) = z9 := ⟨_, rfl⟩
      rw [h_zz3] at B_G16
      have Z_zz3 := Lib.hid h_zz3
      clear h_zz3
      have l2 : zz3.ks.length = 2 := by rw [← Z_zz3.out, add_ks, List.length_append, L2.out]; rfl
      clear l9
      have l9 : zz3.ks.length ≤ 5 := by omega
      clear l2
      go_wp2_with fail
      refine (want_eq E E_s5.out H16.out.p).mono ?_
      rintro e w17 ⟨rfl, h17, b17⟩
      have H17 := Lib.hid (H16.out.call h17 b17)
      have B_G17 := Lib.hid (B_G16.out.but b17 (Nat.le_refl _) (by have := H16.out.r; omega))
      clear h17 b17 H16 B_G16
      go_upto_region 28 with (fail)
      have C18 := Lib.hid (fun wx (h : PAt wx R g c T s5) => gives_eq E_s6.out (D.exp wx s5 h (by rw [G_s5.out.deep]; exact HD.out)))
      go_cut [85] (fun _ wx => ∃ f2 fs2, Box wx G (w.heap.size + 1) (zz3.add x3) f2 fs2 ∧ St w wx R g c T s6)
      case first =>
       refine region_Z (fun W => W.cell? ⟨G, 5, none⟩ = some (.slice f16.ka zz3.ks.length f16.kc)) (fun i => decide (6 ≤ i ∧ i < 11)) (by kernel_rfl) B_G17.out.drew.c5 (fun hHeld => ?_)
       refine tkg 0 rfl (fun k hk => by have hk2 : 11 ≤ k := hk; simp; omega) (v := ?_) ?_ ?_; rotate_left
       ·(intro w hSw; (try dsimp only at hSw); go_simp; try with_reducible rfl)
       (try simp only [Act.put, sZ])
       refine tkg 1 rfl (fun k hk => by have hk2 : 11 ≤ k := hk; simp; omega) (v := ?_) ?_ ?_; rotate_left
       ·(intro w hSw; (try dsimp only at hSw); go_simp; try with_reducible rfl)
       (try simp only [Act.put, sZ])
       refine tkg 2 rfl (fun k hk => by have hk2 : 11 ≤ k := hk; simp; omega) (v := ?_) ?_ ?_; rotate_left
       ·(intro w hSw; (try dsimp only at hSw); go_simp; try with_reducible rfl)
       (try simp only [Act.put, sZ])
       refine tkg 4 rfl (fun k hk => by have hk2 : 11 ≤ k := hk; simp; omega) (v := ?_) ?_ ?_; rotate_left
       ·(intro w hSw; (try dsimp only at hSw); go_simp; try with_reducible rfl)
       (try simp only [Act.put, sZ])
       refine anyZ_split (i := 3) (j := 5) (by kernel_rfl) rfl rfl (fun K hK => ?_) (fun K hK => ?_)
       ·go_simp
        go_at_call 39
        refine (C18.out _ H17.out.drew.p).mono ?_
        rintro e wc ⟨fy, rfl, hpc, ny, bc⟩
        have HC := Lib.hid (H17.out.drew.call hpc bc)
        have BC := Lib.hid (B_G17.out.drew.but bc (Nat.le_refl _) (by have := H17.out.r; omega))
        have NY : Hid (NodeIn wc (fun a => w17.heap.size ≤ a) x3 fy) := ny
        clear hpc ny bc
        unfold ndV
        refine hK.out _ _ (fun _ => BC.out.c5) (fun hHeld2 => ?_)
        replace hHeld2 := hHeld2 (by decide)
        clear hK K hHeld
        (try simp only [Act.put, sZ])
        refine stp 5 rfl (fun K hK => ?_)
        go_simp
        refine hK.out _ _ (fun _ => (BC.out.alloc _).c5) (fun hHeld3 => ?_)
        clear hK K hHeld2 hHeld3
        (try simp only [Act.put, sZ])
        have HA := Lib.hid (HC.out.alloc (.cells #[.int .i64 0, .string ⟨#[]⟩, .int .i64 0, .int .i64 0, .slice none 0 0, .slice none 0 0] 25))
        have BA := Lib.hid (BC.out.alloc (.cells #[.int .i64 0, .string ⟨#[]⟩, .int .i64 0, .int .i64 0, .slice none 0 0, .slice none 0 0] 25))
        have NA := Lib.hid (NY.out.alloc (.cells #[.int .i64 0, .string ⟨#[]⟩, .int .i64 0, .int .i64 0, .slice none 0 0, .slice none 0 0] 25))
        have ZA : Hid (Whole (wc.alloc (.cells #[.int .i64 0, .string ⟨#[]⟩, .int .i64 0, .int .i64 0, .slice none 0 0, .slice none 0 0] 25)) wc.heap.size 25 #[.int .i64 0, .string ⟨#[]⟩, .int .i64 0, .int .i64 0, .slice none 0 0, .slice none 0 0]) := Whole.made _ _ _
        clear HC BC NY
        generalize wc.alloc (.cells #[.int .i64 0, .string ⟨#[]⟩, .int .i64 0, .int .i64 0, .slice none 0 0, .slice none 0 0] 25) = wa at *
        generalize wc.heap.size = Zb at *
        refine stp 6 rfl (fun K hK => ?_)
        refine step_app ty_nd (v := .slice f16.ka zz3.ks.length f16.kc) (by rfl) _ _ (by rfl) (by rfl) BA.out.kid Zb 1 [.int .i64 0, .string ⟨#[]⟩, .int .i64 0, .int .i64 0, .slice none 0 0, .slice none 0 0] (by rfl) ZA.out (by rfl) (by simp [Value.oneCell']) (by decide) (by omega) (by decide) (by have := HA.out.size; omega) ?_
        intro gv cv wd hap
        have KD := Lib.hid (kid_done rfl HA.out BA.out B_G17.out.lt B_G17.out.nlt B_G17.out.klt NA.out hap)
        have hln := flatL_len _ _ BA.out.len
        have ZC := Lib.hid (zero_cells hap (by rw [hln]; omega))
        rw [hln] at ZC
        have XD := Lib.hid (hap.far BA.out.box (row_ne BA.out.kid BA.out.kN))
        have hgn : gv ≠ G := KD.out.2.2
        have hgn2 : G ≠ gv := Ne.symm hgn
        have HGN := Lib.hid hgn
        have HGN2 := Lib.hid hgn2
        clear hln hgn hgn2 hap HA BA NA ZA
        refine hK.out _ _ (fun h => absurd h (by decide)) (fun _ => ?_)
        clear hK K
        (try simp only [Act.put, sZ])
        refine anyZ_free _ _ _ _ (by decide) ?_
        have hT : True := trivial
        have hix : (zz3.ks.length : Int) < (zz3.ks.length : Int) + 1 := by omega
        refine tkf 7 rfl (v := ?_) ?_ ?_; rotate_left
        ·(intro w hSw; (try dsimp only at hSw); go_simp; try with_reducible rfl)
        (try simp only [Act.put, sZ])
        refine tkf 9 rfl (v := ?_) ?_ ?_; rotate_left
        ·(intro w hSw; (try dsimp only at hSw); go_simp; try with_reducible rfl)
        (try simp only [Act.put, sZ])
        refine anyZ_split (i := 8) (j := 10) (by kernel_rfl) rfl rfl (fun K hK => ?_) (fun K hK => ?_)
        ·obtain ⟨u0, v0, u1, v1, u2, v2, u3, v3, u4, v4, u5, v5⟩ := zcA ZC.out
         go_simp
         refine hK.out _ _ (fun _ => trivial) (fun _ => ?_)
         clear hK K u0 u1 u2 u3 u4 u5 v0 v1 v2 v3 v4 v5
         have XK := Lib.hid (kid_whole XD.out HGN2.out (zz3.ks.length * 6) x3 fy)
         have c5 : (kidW wd gv (zz3.ks.length * 6) x3 fy).cell? ⟨G, 5, none⟩ = some (.slice f16.ka zz3.ks.length f16.kc) := XK.out.cell 5
         have v5 := XK.out.free 5
         change anyZ _ _ _ _ _ _ _ _ _ (kidW wd gv (zz3.ks.length * 6) x3 fy)
         generalize kidW wd gv (zz3.ks.length * 6) x3 fy = wk at *
         clear XK
         (try simp only [Act.put, sZ])
         refine stp 10 rfl (fun K hK => ?_)
         go_simp
         refine hK.out _ _ (fun _ => trivial) (fun _ => ?_)
         refine anyZ_done (by kernel_rfl) ?_ _
         clear hK K c5 v5
         go_wp2_with fail
         go_meet
         exact ⟨_, _, KD.out.1, KD.out.2.1⟩
        ·have c5 : wd.cell? ⟨G, 5, none⟩ = some (.slice f16.ka zz3.ks.length f16.kc) := XD.out.cell 5
         have v5 := XD.out.free 5
         go_simp
         refine hK.out _ _ (fun _ => trivial) (fun _ => ?_)
         clear hK K c5 v5
         obtain ⟨u0, v0, u1, v1, u2, v2, u3, v3, u4, v4, u5, v5⟩ := zcB (p := ⟨G, 5, none⟩) ZC.out HGN.out (.slice (some ⟨gv, 0, none⟩) (zz3.ks.length + 1) cv)
         have KD2 := Lib.hid (show Box (kidW (wd.setCell ⟨G, 5, none⟩ (.slice (some ⟨gv, 0, none⟩) (zz3.ks.length + 1) cv)) gv (zz3.ks.length * 6) x3 fy) G (w.heap.size + 1) (zz3.add x3) _ _ ∧ St w (kidW (wd.setCell ⟨G, 5, none⟩ (.slice (some ⟨gv, 0, none⟩) (zz3.ks.length + 1) cv)) gv (zz3.ks.length * 6) x3 fy) R g c T s6 from by rw [kid_comm _ HGN.out]; exact ⟨KD.out.1, KD.out.2.1⟩)
         clear KD
         generalize wd.setCell ⟨G, 5, none⟩ (.slice (some ⟨gv, 0, none⟩) (zz3.ks.length + 1) cv) = wk at *
         (try simp only [Act.put, sZ])
         refine stp 8 rfl (fun K hK => ?_)
         go_simp
         refine hK.out _ _ (fun _ => trivial) (fun _ => ?_)
         refine anyZ_done (by kernel_rfl) ?_ _
         clear hK K u0 u1 u2 u3 u4 u5 v0 v1 v2 v3 v4 v5
         go_wp2_with fail
         go_meet
         exact ⟨_, _, KD2.out.1, KD2.out.2⟩
       ·go_simp
        refine hK.out _ _ (fun _ => (B_G17.out.drew.alloc _).c5) (fun hHeld2 => ?_)
        replace hHeld2 := hHeld2 (by decide)
        clear hK K hHeld
        (try simp only [Act.put, sZ])
        refine stp 3 rfl (fun K hK => ?_)
        go_simp
        go_at_call 39
        refine (C18.out _ (H17.out.drew.alloc (.cells #[.int .i64 0, .string ⟨#[]⟩, .int .i64 0, .int .i64 0, .slice none 0 0, .slice none 0 0] 25)).p).mono ?_
        rintro e wc ⟨fy, rfl, hpc, ny, bc⟩
        have HA := Lib.hid ((H17.out.drew.alloc (.cells #[.int .i64 0, .string ⟨#[]⟩, .int .i64 0, .int .i64 0, .slice none 0 0, .slice none 0 0] 25)).call hpc bc)
        have BA := Lib.hid ((B_G17.out.drew.alloc (.cells #[.int .i64 0, .string ⟨#[]⟩, .int .i64 0, .int .i64 0, .slice none 0 0, .slice none 0 0] 25)).but bc (Nat.le_refl _) (by have := H17.out.r; omega))
        have NA : Hid (NodeIn wc (fun a => w17.heap.size ≤ a) x3 fy) := ny.mono fun a ha _ => by simp at ha; omega
        have ZA : Hid (Whole wc w17.heap.size 25 #[.int .i64 0, .string ⟨#[]⟩, .int .i64 0, .int .i64 0, .slice none 0 0, .slice none 0 0]) := bc.whole (Whole.made w17.drew 25 #[.int .i64 0, .string ⟨#[]⟩, .int .i64 0, .int .i64 0, .slice none 0 0, .slice none 0 0]) (by simp) (by have := H17.out.r; have := H17.out.size; simp; omega)
        clear hpc ny bc
        unfold ndV
        refine hK.out _ _ (fun _ => BA.out.c5) (fun hHeld3 => ?_)
        clear hK K hHeld2 hHeld3
        (try simp only [Act.put, sZ])
        refine stp 6 rfl (fun K hK => ?_)
        refine step_app ty_nd (v := .slice f16.ka zz3.ks.length f16.kc) (by rfl) _ _ (by rfl) (by rfl) BA.out.kid w17.heap.size 1 [.int .i64 0, .string ⟨#[]⟩, .int .i64 0, .int .i64 0, .slice none 0 0, .slice none 0 0] (by rfl) ZA.out (by rfl) (by simp [Value.oneCell']) (by decide) (by omega) (by decide) (by have := HA.out.size; omega) ?_
        intro gv cv wd hap
        have KD := Lib.hid (kid_done rfl HA.out BA.out B_G17.out.lt B_G17.out.nlt B_G17.out.klt NA.out hap)
        have hln := flatL_len _ _ BA.out.len
        have ZC := Lib.hid (zero_cells hap (by rw [hln]; omega))
        rw [hln] at ZC
        have XD := Lib.hid (hap.far BA.out.box (row_ne BA.out.kid BA.out.kN))
        have hgn : gv ≠ G := KD.out.2.2
        have hgn2 : G ≠ gv := Ne.symm hgn
        have HGN := Lib.hid hgn
        have HGN2 := Lib.hid hgn2
        clear hln hgn hgn2 hap HA BA NA ZA
        refine hK.out _ _ (fun h => absurd h (by decide)) (fun _ => ?_)
        clear hK K
        (try simp only [Act.put, sZ])
        refine anyZ_free _ _ _ _ (by decide) ?_
        have hT : True := trivial
        have hix : (zz3.ks.length : Int) < (zz3.ks.length : Int) + 1 := by omega
        refine tkf 7 rfl (v := ?_) ?_ ?_; rotate_left
        ·(intro w hSw; (try dsimp only at hSw); go_simp; try with_reducible rfl)
        (try simp only [Act.put, sZ])
        refine tkf 9 rfl (v := ?_) ?_ ?_; rotate_left
        ·(intro w hSw; (try dsimp only at hSw); go_simp; try with_reducible rfl)
        (try simp only [Act.put, sZ])
        refine anyZ_split (i := 8) (j := 10) (by kernel_rfl) rfl rfl (fun K hK => ?_) (fun K hK => ?_)
        ·obtain ⟨u0, v0, u1, v1, u2, v2, u3, v3, u4, v4, u5, v5⟩ := zcA ZC.out
         go_simp
         refine hK.out _ _ (fun _ => trivial) (fun _ => ?_)
         clear hK K u0 u1 u2 u3 u4 u5 v0 v1 v2 v3 v4 v5
         have XK := Lib.hid (kid_whole XD.out HGN2.out (zz3.ks.length * 6) x3 fy)
         have c5 : (kidW wd gv (zz3.ks.length * 6) x3 fy).cell? ⟨G, 5, none⟩ = some (.slice f16.ka zz3.ks.length f16.kc) := XK.out.cell 5
         have v5 := XK.out.free 5
         change anyZ _ _ _ _ _ _ _ _ _ (kidW wd gv (zz3.ks.length * 6) x3 fy)
         generalize kidW wd gv (zz3.ks.length * 6) x3 fy = wk at *
         clear XK
         (try simp only [Act.put, sZ])
         refine stp 10 rfl (fun K hK => ?_)
         go_simp
         refine hK.out _ _ (fun _ => trivial) (fun _ => ?_)
         refine anyZ_done (by kernel_rfl) ?_ _
         clear hK K c5 v5
         go_wp2_with fail
         go_meet
         exact ⟨_, _, KD.out.1, KD.out.2.1⟩
        ·have c5 : wd.cell? ⟨G, 5, none⟩ = some (.slice f16.ka zz3.ks.length f16.kc) := XD.out.cell 5
         have v5 := XD.out.free 5
         go_simp
         refine hK.out _ _ (fun _ => trivial) (fun _ => ?_)
         clear hK K c5 v5
         obtain ⟨u0, v0, u1, v1, u2, v2, u3, v3, u4, v4, u5, v5⟩ := zcB (p := ⟨G, 5, none⟩) ZC.out HGN.out (.slice (some ⟨gv, 0, none⟩) (zz3.ks.length + 1) cv)
         have KD2 := Lib.hid (show Box (kidW (wd.setCell ⟨G, 5, none⟩ (.slice (some ⟨gv, 0, none⟩) (zz3.ks.length + 1) cv)) gv (zz3.ks.length * 6) x3 fy) G (w.heap.size + 1) (zz3.add x3) _ _ ∧ St w (kidW (wd.setCell ⟨G, 5, none⟩ (.slice (some ⟨gv, 0, none⟩) (zz3.ks.length + 1) cv)) gv (zz3.ks.length * 6) x3 fy) R g c T s6 from by rw [kid_comm _ HGN.out]; exact ⟨KD.out.1, KD.out.2.1⟩)
         clear KD
         generalize wd.setCell ⟨G, 5, none⟩ (.slice (some ⟨gv, 0, none⟩) (zz3.ks.length + 1) cv) = wk at *
         (try simp only [Act.put, sZ])
         refine stp 8 rfl (fun K hK => ?_)
         go_simp
         refine hK.out _ _ (fun _ => trivial) (fun _ => ?_)
         refine anyZ_done (by kernel_rfl) ?_ _
         clear hK K u0 u1 u2 u3 u4 u5 v0 v1 v2 v3 v4 v5
         go_wp2_with fail
         go_meet
         exact ⟨_, _, KD2.out.1, KD2.out.2⟩
      case rest =>
       obtain ⟨f18, fs18, hbx, hlo⟩ := hcut
       have B_G18 := Lib.hid hbx
       have H18 := Lib.hid hlo
       clear hbx hlo C18 B_G17 H17
       obtain ⟨zz4, h_zz4⟩ : ∃ z9, (zz3.add x3) = z9 := ⟨_, rfl⟩
       rw [h_zz4] at B_G18
       have Z_zz4 := Lib.hid h_zz4
       clear h_zz4
       have hq : (zz4, s6) = q := by rw [← Z_zz4.out, ← Z_zz3.out, ← Z_zz2.out, ← Z_zz1.out, ← Z_zz0.out]; exact HQ3.out
       subst hq
       clear HQ3 l9
       obtain ⟨t0, t1, t2, t3, t4, t5⟩ := nodeC (B_G18.out.box)
       obtain ⟨z0, z1, z2, z3, z4, z5⟩ := zeroC (H18.out.z)
       obtain ⟨y0, y1, y2, y3, y4, y5⟩ := freeC (H18.out.z)
       go_wp2_with fail
       obtain ⟨wf, HZF, HBF, hwf⟩ := endsN (H18.out.z) zz4 f18
       rw [hwf]
       clear hwf
       obtain ⟨g0, g1, g2, g3, g4, g5⟩ := cells6 HZF.out
       exact bodyPost_ret (v := ndV zz4 f18) (by simp [results, Try.results55, go_sem, ndV, Nd.kd, Nd.tx, Nd.nm, Nd.at_, Nd.ns, Nd.ks, leafN, fr0, nd0, g0, g1, g2, g3, g4, g5]) rfl (H18.out.done B_G18.out.var.node HBF.out)
  ·obtain ⟨t, h_t⟩ : ∃ t, stepT T s = t := ⟨_, rfl⟩
   have E_t := Lib.hid h_t
   clear h_t
   obtain ⟨s1, h_s1⟩ : ∃ s1, stepF T s = s1 := ⟨_, rfl⟩
   have E_s1 := Lib.hid h_s1
   clear h_s1
   have G_s1 := Lib.hid (show Goes T s s1 from by have q := (goes_step E HL.out); rw [E_s1.out] at q; exact q)
   obtain ⟨tx, h_tx⟩ : ∃ tx, textT T s1 3 = tx := ⟨_, rfl⟩
   have E_tx := Lib.hid h_tx
   clear h_tx
   obtain ⟨s2, h_s2⟩ : ∃ s2, textF T s1 3 = s2 := ⟨_, rfl⟩
   have E_s2 := Lib.hid h_s2
   clear h_s2
   have G_s2 := Lib.hid (show Goes T s s2 from by have q := (G_s1.out.text E 3); rw [E_s2.out] at q; exact q)
   obtain ⟨s3, h_s3⟩ : ∃ s3, wantF T s2 [45, 62] = s3 := ⟨_, rfl⟩
   have E_s3 := Lib.hid h_s3
   clear h_s3
   have G_s3 := Lib.hid (show Goes T s s3 from by have q := (G_s2.out.want E [45, 62]); rw [E_s3.out] at q; exact q)
   obtain ⟨y, s4, h_s4⟩ : ∃ y s4, r.exp s3 = (y, s4) := ⟨_, _, rfl⟩
   have E_s4 := Lib.hid h_s4
   clear h_s4
   have hq := HQ2.out
   rw [if_neg (by decide), if_pos rfl, E_s1.out, E_tx.out, E_s2.out, E_s3.out, E_s4.out] at hq
   have HQ3 := Lib.hid hq
   clear hq HQ2
   go_upto_region 15 with (fail)
   go_wp2_with fail
   refine (step_eq E E_t.out E_s1.out H6.out.p).mono ?_
   rintro e w19 ⟨rfl, h19, b19⟩
   have H19 := Lib.hid (H6.out.call h19 b19)
   have B_G19 := Lib.hid (B_G6.out.but b19 (Nat.le_refl _) (by have := H6.out.r; omega))
   clear h19 b19 H6 B_G6
   go_upto_region 16 with (fail)
   have c0 := B_G19.out.c0
   have f0 := B_G19.out.free 0
   go_upto_region 17 with (fail)
   have B_G20 := Lib.hid (B_G19.out.putKd 6)
   have H20 := Lib.hid (H19.out.own (p := ⟨G, 0, none⟩) B_G19.out.lo (.int .i64 6))
   clear c0 f0 B_G19 H19
   generalize w19.setCell ⟨G, 0, none⟩ (.int .i64 6) = w20 at *
   obtain ⟨zz1, h_zz1⟩ : ∃ z9, (zz0.setKd 6) = z9 := ⟨_, rfl⟩
   rw [h_zz1] at B_G20
   have Z_zz1 := Lib.hid h_zz1
   clear h_zz1
   go_wp2_with fail
   refine (text_eq E E_tx.out E_s2.out H20.out.p).mono ?_
   rintro e w21 ⟨rfl, h21, b21⟩
   have H21 := Lib.hid (H20.out.call h21 b21)
   have B_G21 := Lib.hid (B_G20.out.but b21 (Nat.le_refl _) (by have := H20.out.r; omega))
   clear h21 b21 H20 B_G20
   have c1 := B_G21.out.c1
   have f1 := B_G21.out.free 1
   go_upto_region 18 with (fail)
   have B_G22 := Lib.hid (B_G21.out.putTx tx)
   have H22 := Lib.hid (H21.out.own (p := ⟨G, 1, none⟩) B_G21.out.lo (.string ⟨tx.toArray⟩))
   clear c1 f1 B_G21 H21
   generalize w21.setCell ⟨G, 1, none⟩ (.string ⟨tx.toArray⟩) = w22 at *
   obtain ⟨zz2, h_zz2⟩ : ∃ z9, (zz1.setTx tx) = z9 := ⟨_, rfl⟩
   rw [h_zz2] at B_G22
   have Z_zz2 := Lib.hid h_zz2
   clear h_zz2
   go_wp2_with fail
   refine (want_eq E E_s3.out H22.out.p).mono ?_
   rintro e w23 ⟨rfl, h23, b23⟩
   have H23 := Lib.hid (H22.out.call h23 b23)
   have B_G23 := Lib.hid (B_G22.out.but b23 (Nat.le_refl _) (by have := H22.out.r; omega))
   clear h23 b23 H22 B_G22
   have l1 : zz2.ks.length ≤ 5 := by rw [← Z_zz2.out, setTx_ks, ← Z_zz1.out, setKd_ks, ← Z_zz0.out]; exact Nat.zero_le _
   go_upto_region 19 with (fail)
   have C24 := Lib.hid (fun wx (h : PAt wx R g c T s3) => gives_eq E_s4.out (D.exp wx s3 h (by rw [G_s3.out.deep]; exact HD.out)))
   go_cut [49] (fun _ wx => ∃ f2 fs2, Box wx G (w.heap.size + 1) (zz2.add y) f2 fs2 ∧ St w wx R g c T s4)
   case first =>
    refine region_Z (fun W => W.cell? ⟨G, 5, none⟩ = some (.slice fr0.ka zz2.ks.length fr0.kc)) (fun i => decide (6 ≤ i ∧ i < 11)) (by kernel_rfl) B_G23.out.drew.c5 (fun hHeld => ?_)
    refine tkg 0 rfl (fun k hk => by have hk2 : 11 ≤ k := hk; simp; omega) (v := ?_) ?_ ?_; rotate_left
    ·(intro w hSw; (try dsimp only at hSw); go_simp; try with_reducible rfl)
    (try simp only [Act.put, sZ])
    refine tkg 1 rfl (fun k hk => by have hk2 : 11 ≤ k := hk; simp; omega) (v := ?_) ?_ ?_; rotate_left
    ·(intro w hSw; (try dsimp only at hSw); go_simp; try with_reducible rfl)
    (try simp only [Act.put, sZ])
    refine tkg 2 rfl (fun k hk => by have hk2 : 11 ≤ k := hk; simp; omega) (v := ?_) ?_ ?_; rotate_left
    ·(intro w hSw; (try dsimp only at hSw); go_simp; try with_reducible rfl)
    (try simp only [Act.put, sZ])
    refine tkg 4 rfl (fun k hk => by have hk2 : 11 ≤ k := hk; simp; omega) (v := ?_) ?_ ?_; rotate_left
    ·(intro w hSw; (try dsimp only at hSw); go_simp; try with_reducible rfl)
    (try simp only [Act.put, sZ])
    refine anyZ_split (i := 3) (j := 5) (by kernel_rfl) rfl rfl (fun K hK => ?_) (fun K hK => ?_)
    ·go_simp
     go_at_call 39
     refine (C24.out _ H23.out.drew.p).mono ?_
     rintro e wc ⟨fy, rfl, hpc, ny, bc⟩
     have HC := Lib.hid (H23.out.drew.call hpc bc)
     have BC := Lib.hid (B_G23.out.drew.but bc (Nat.le_refl _) (by have := H23.out.r; omega))
     have NY : Hid (NodeIn wc (fun a => w23.heap.size ≤ a) y fy) := ny
     clear hpc ny bc
     unfold ndV
     refine hK.out _ _ (fun _ => BC.out.c5) (fun hHeld2 => ?_)
     replace hHeld2 := hHeld2 (by decide)
     clear hK K hHeld
     (try simp only [Act.put, sZ])
     refine stp 5 rfl (fun K hK => ?_)
     go_simp
     refine hK.out _ _ (fun _ => (BC.out.alloc _).c5) (fun hHeld3 => ?_)
     clear hK K hHeld2 hHeld3
     (try simp only [Act.put, sZ])
     have HA := Lib.hid (HC.out.alloc (.cells #[.int .i64 0, .string ⟨#[]⟩, .int .i64 0, .int .i64 0, .slice none 0 0, .slice none 0 0] 25))
     have BA := Lib.hid (BC.out.alloc (.cells #[.int .i64 0, .string ⟨#[]⟩, .int .i64 0, .int .i64 0, .slice none 0 0, .slice none 0 0] 25))
     have NA := Lib.hid (NY.out.alloc (.cells #[.int .i64 0, .string ⟨#[]⟩, .int .i64 0, .int .i64 0, .slice none 0 0, .slice none 0 0] 25))
     have ZA : Hid (Whole (wc.alloc (.cells #[.int .i64 0, .string ⟨#[]⟩, .int .i64 0, .int .i64 0, .slice none 0 0, .slice none 0 0] 25)) wc.heap.size 25 #[.int .i64 0, .string ⟨#[]⟩, .int .i64 0, .int .i64 0, .slice none 0 0, .slice none 0 0]) := Whole.made _ _ _
     clear HC BC NY
     generalize wc.alloc (.cells #[.int .i64 0, .string ⟨#[]⟩, .int .i64 0, .int .i64 0, .slice none 0 0, .slice none 0 0] 25) = wa at *
     generalize wc.heap.size = Zb at *
     refine stp 6 rfl (fun K hK => ?_)
     refine step_app ty_nd (v := .slice fr0.ka zz2.ks.length fr0.kc) (by rfl) _ _ (by rfl) (by rfl) BA.out.kid Zb 1 [.int .i64 0, .string ⟨#[]⟩, .int .i64 0, .int .i64 0, .slice none 0 0, .slice none 0 0] (by rfl) ZA.out (by rfl) (by simp [Value.oneCell']) (by decide) (by omega) (by decide) (by have := HA.out.size; omega) ?_
     intro gv cv wd hap
     have KD := Lib.hid (kid_done rfl HA.out BA.out B_G23.out.lt B_G23.out.nlt B_G23.out.klt NA.out hap)
     have hln := flatL_len _ _ BA.out.len
     have ZC := Lib.hid (zero_cells hap (by rw [hln]; omega))
     rw [hln] at ZC
     have XD := Lib.hid (hap.far BA.out.box (row_ne BA.out.kid BA.out.kN))
     have hgn : gv ≠ G := KD.out.2.2
     have hgn2 : G ≠ gv := Ne.symm hgn
     have HGN := Lib.hid hgn
     have HGN2 := Lib.hid hgn2
     clear hln hgn hgn2 hap HA BA NA ZA
     refine hK.out _ _ (fun h => absurd h (by decide)) (fun _ => ?_)
     clear hK K
     (try simp only [Act.put, sZ])
     refine anyZ_free _ _ _ _ (by decide) ?_
     have hT : True := trivial
     have hix : (zz2.ks.length : Int) < (zz2.ks.length : Int) + 1 := by omega
     refine tkf 7 rfl (v := ?_) ?_ ?_; rotate_left
     ·(intro w hSw; (try dsimp only at hSw); go_simp; try with_reducible rfl)
     (try simp only [Act.put, sZ])
     refine tkf 9 rfl (v := ?_) ?_ ?_; rotate_left
     ·(intro w hSw; (try dsimp only at hSw); go_simp; try with_reducible rfl)
     (try simp only [Act.put, sZ])
     refine anyZ_split (i := 8) (j := 10) (by kernel_rfl) rfl rfl (fun K hK => ?_) (fun K hK => ?_)
     ·obtain ⟨u0, v0, u1, v1, u2, v2, u3, v3, u4, v4, u5, v5⟩ := zcA ZC.out
      go_simp
      refine hK.out _ _ (fun _ => trivial) (fun _ => ?_)
      clear hK K u0 u1 u2 u3 u4 u5 v0 v1 v2 v3 v4 v5
      have XK := Lib.hid (kid_whole XD.out HGN2.out (zz2.ks.length * 6) y fy)
      have c5 : (kidW wd gv (zz2.ks.length * 6) y fy).cell? ⟨G, 5, none⟩ = some (.slice fr0.ka zz2.ks.length fr0.kc) := XK.out.cell 5
      have v5 := XK.out.free 5
      change anyZ _ _ _ _ _ _ _ _ _ (kidW wd gv (zz2.ks.length * 6) y fy)
      generalize kidW wd gv (zz2.ks.length * 6) y fy = wk at *
      clear XK
      (try simp only [Act.put, sZ])
      refine stp 10 rfl (fun K hK => ?_)
      go_simp
      refine hK.out _ _ (fun _ => trivial) (fun _ => ?_)
      refine anyZ_done (by kernel_rfl) ?_ _
      clear hK K c5 v5
      go_wp2_with fail
      go_meet
      exact ⟨_, _, KD.out.1, KD.out.2.1⟩
     ·have c5 : wd.cell? ⟨G, 5, none⟩ = some (.slice fr0.ka zz2.ks.length fr0.kc) := XD.out.cell 5
      have v5 := XD.out.free 5
      go_simp
      refine hK.out _ _ (fun _ => trivial) (fun _ => ?_)
      clear hK K c5 v5
      obtain ⟨u0, v0, u1, v1, u2, v2, u3, v3, u4, v4, u5, v5⟩ := zcB (p := ⟨G, 5, none⟩) ZC.out HGN.out (.slice (some ⟨gv, 0, none⟩) (zz2.ks.length + 1) cv)
      have KD2 := Lib.hid (show Box (kidW (wd.setCell ⟨G, 5, none⟩ (.slice (some ⟨gv, 0, none⟩) (zz2.ks.length + 1) cv)) gv (zz2.ks.length * 6) y fy) G (w.heap.size + 1) (zz2.add y) _ _ ∧ St w (kidW (wd.setCell ⟨G, 5, none⟩ (.slice (some ⟨gv, 0, none⟩) (zz2.ks.length + 1) cv)) gv (zz2.ks.length * 6) y fy) R g c T s4 from by rw [kid_comm _ HGN.out]; exact ⟨KD.out.1, KD.out.2.1⟩)
      clear KD
      generalize wd.setCell ⟨G, 5, none⟩ (.slice (some ⟨gv, 0, none⟩) (zz2.ks.length + 1) cv) = wk at *
      (try simp only [Act.put, sZ])
      refine stp 8 rfl (fun K hK => ?_)
      go_simp
      refine hK.out _ _ (fun _ => trivial) (fun _ => ?_)
      refine anyZ_done (by kernel_rfl) ?_ _
      clear hK K u0 u1 u2 u3 u4 u5 v0 v1 v2 v3 v4 v5
      go_wp2_with fail
      go_meet
      exact ⟨_, _, KD2.out.1, KD2.out.2⟩
    ·go_simp
     refine hK.out _ _ (fun _ => (B_G23.out.drew.alloc _).c5) (fun hHeld2 => ?_)
     replace hHeld2 := hHeld2 (by decide)
     clear hK K hHeld
     (try simp only [Act.put, sZ])
     refine stp 3 rfl (fun K hK => ?_)
     go_simp
     go_at_call 39
     refine (C24.out _ (H23.out.drew.alloc (.cells #[.int .i64 0, .string ⟨#[]⟩, .int .i64 0, .int .i64 0, .slice none 0 0, .slice none 0 0] 25)).p).mono ?_
     rintro e wc ⟨fy, rfl, hpc, ny, bc⟩
     have HA := Lib.hid ((H23.out.drew.alloc (.cells #[.int .i64 0, .string ⟨#[]⟩, .int .i64 0, .int .i64 0, .slice none 0 0, .slice none 0 0] 25)).call hpc bc)
     have BA := Lib.hid ((B_G23.out.drew.alloc (.cells #[.int .i64 0, .string ⟨#[]⟩, .int .i64 0, .int .i64 0, .slice none 0 0, .slice none 0 0] 25)).but bc (Nat.le_refl _) (by have := H23.out.r; omega))
     have NA : Hid (NodeIn wc (fun a => w23.heap.size ≤ a) y fy) := ny.mono fun a ha _ => by simp at ha; omega
     have ZA : Hid (Whole wc w23.heap.size 25 #[.int .i64 0, .string ⟨#[]⟩, .int .i64 0, .int .i64 0, .slice none 0 0, .slice none 0 0]) := bc.whole (Whole.made w23.drew 25 #[.int .i64 0, .string ⟨#[]⟩, .int .i64 0, .int .i64 0, .slice none 0 0, .slice none 0 0]) (by simp) (by have := H23.out.r; have := H23.out.size; simp; omega)
     clear hpc ny bc
     unfold ndV
     refine hK.out _ _ (fun _ => BA.out.c5) (fun hHeld3 => ?_)
     clear hK K hHeld2 hHeld3
     (try simp only [Act.put, sZ])
     refine stp 6 rfl (fun K hK => ?_)
     refine step_app ty_nd (v := .slice fr0.ka zz2.ks.length fr0.kc) (by rfl) _ _ (by rfl) (by rfl) BA.out.kid w23.heap.size 1 [.int .i64 0, .string ⟨#[]⟩, .int .i64 0, .int .i64 0, .slice none 0 0, .slice none 0 0] (by rfl) ZA.out (by rfl) (by simp [Value.oneCell']) (by decide) (by omega) (by decide) (by have := HA.out.size; omega) ?_
     intro gv cv wd hap
     have KD := Lib.hid (kid_done rfl HA.out BA.out B_G23.out.lt B_G23.out.nlt B_G23.out.klt NA.out hap)
     have hln := flatL_len _ _ BA.out.len
     have ZC := Lib.hid (zero_cells hap (by rw [hln]; omega))
     rw [hln] at ZC
     have XD := Lib.hid (hap.far BA.out.box (row_ne BA.out.kid BA.out.kN))
     have hgn : gv ≠ G := KD.out.2.2
     have hgn2 : G ≠ gv := Ne.symm hgn
     have HGN := Lib.hid hgn
     have HGN2 := Lib.hid hgn2
     clear hln hgn hgn2 hap HA BA NA ZA
     refine hK.out _ _ (fun h => absurd h (by decide)) (fun _ => ?_)
     clear hK K
     (try simp only [Act.put, sZ])
     refine anyZ_free _ _ _ _ (by decide) ?_
     have hT : True := trivial
     have hix : (zz2.ks.length : Int) < (zz2.ks.length : Int) + 1 := by omega
     refine tkf 7 rfl (v := ?_) ?_ ?_; rotate_left
     ·(intro w hSw; (try dsimp only at hSw); go_simp; try with_reducible rfl)
     (try simp only [Act.put, sZ])
     refine tkf 9 rfl (v := ?_) ?_ ?_; rotate_left
     ·(intro w hSw; (try dsimp only at hSw); go_simp; try with_reducible rfl)
     (try simp only [Act.put, sZ])
     refine anyZ_split (i := 8) (j := 10) (by kernel_rfl) rfl rfl (fun K hK => ?_) (fun K hK => ?_)
     ·obtain ⟨u0, v0, u1, v1, u2, v2, u3, v3, u4, v4, u5, v5⟩ := zcA ZC.out
      go_simp
      refine hK.out _ _ (fun _ => trivial) (fun _ => ?_)
      clear hK K u0 u1 u2 u3 u4 u5 v0 v1 v2 v3 v4 v5
      have XK := Lib.hid (kid_whole XD.out HGN2.out (zz2.ks.length * 6) y fy)
      have c5 : (kidW wd gv (zz2.ks.length * 6) y fy).cell? ⟨G, 5, none⟩ = some (.slice fr0.ka zz2.ks.length fr0.kc) := XK.out.cell 5
      have v5 := XK.out.free 5
      change anyZ _ _ _ _ _ _ _ _ _ (kidW wd gv (zz2.ks.length * 6) y fy)
      generalize kidW wd gv (zz2.ks.length * 6) y fy = wk at *
      clear XK
      (try simp only [Act.put, sZ])
      refine stp 10 rfl (fun K hK => ?_)
      go_simp
      refine hK.out _ _ (fun _ => trivial) (fun _ => ?_)
      refine anyZ_done (by kernel_rfl) ?_ _
      clear hK K c5 v5
      go_wp2_with fail
      go_meet
      exact ⟨_, _, KD.out.1, KD.out.2.1⟩
     ·have c5 : wd.cell? ⟨G, 5, none⟩ = some (.slice fr0.ka zz2.ks.length fr0.kc) := XD.out.cell 5
      have v5 := XD.out.free 5
      go_simp
      refine hK.out _ _ (fun _ => trivial) (fun _ => ?_)
      clear hK K c5 v5
      obtain ⟨u0, v0, u1, v1, u2, v2, u3, v3, u4, v4, u5, v5⟩ := zcB (p := ⟨G, 5, none⟩) ZC.out HGN.out (.slice (some ⟨gv, 0, none⟩) (zz2.ks.length + 1) cv)
      have KD2 := Lib.hid (show Box (kidW (wd.setCell ⟨G, 5, none⟩ (.slice (some ⟨gv, 0, none⟩) (zz2.ks.length + 1) cv)) gv (zz2.ks.length * 6) y fy) G (w.heap.size + 1) (zz2.add y) _ _ ∧ St w (kidW (wd.setCell ⟨G, 5, none⟩ (.slice (some ⟨gv, 0, none⟩) (zz2.ks.length + 1) cv)) gv (zz2.ks.length * 6) y fy) R g c T s4 from by rw [kid_comm _ HGN.out]; exact ⟨KD.out.1, KD.out.2.1⟩)
      clear KD
      generalize wd.setCell ⟨G, 5, none⟩ (.slice (some ⟨gv, 0, none⟩) (zz2.ks.length + 1) cv) = wk at *
      (try simp only [Act.put, sZ])
      refine stp 8 rfl (fun K hK => ?_)
      go_simp
      refine hK.out _ _ (fun _ => trivial) (fun _ => ?_)
      refine anyZ_done (by kernel_rfl) ?_ _
      clear hK K u0 u1 u2 u3 u4 u5 v0 v1 v2 v3 v4 v5
      go_wp2_with fail
      go_meet
      exact ⟨_, _, KD2.out.1, KD2.out.2⟩
   case rest =>
    obtain ⟨f24, fs24, hbx, hlo⟩ := hcut
    have B_G24 := Lib.hid hbx
    have H24 := Lib.hid hlo
    clear hbx hlo C24 B_G23 H23
    obtain ⟨zz3, h_zz3⟩ : ∃ z9, (zz2.add y) = z9 := ⟨_, rfl⟩
    rw [h_zz3] at B_G24
    have Z_zz3 := Lib.hid h_zz3
    clear h_zz3
    have hq : (zz3, s4) = q := by rw [← Z_zz3.out, ← Z_zz2.out, ← Z_zz1.out, ← Z_zz0.out]; exact HQ3.out
    subst hq
    clear HQ3 l1
    obtain ⟨t0, t1, t2, t3, t4, t5⟩ := nodeC (B_G24.out.box)
    obtain ⟨z0, z1, z2, z3, z4, z5⟩ := zeroC (H24.out.z)
    obtain ⟨y0, y1, y2, y3, y4, y5⟩ := freeC (H24.out.z)
    go_wp2_with fail
    obtain ⟨wf, HZF, HBF, hwf⟩ := endsN (H24.out.z) zz3 f24
    rw [hwf]
    clear hwf
    obtain ⟨g0, g1, g2, g3, g4, g5⟩ := cells6 HZF.out
    exact bodyPost_ret (v := ndV zz3 f24) (by simp [results, Try.results55, go_sem, ndV, Nd.kd, Nd.tx, Nd.nm, Nd.at_, Nd.ns, Nd.ks, leafN, fr0, nd0, g0, g1, g2, g3, g4, g5]) rfl (H24.out.done B_G24.out.var.node HBF.out)
 ·obtain ⟨t, h_t⟩ : ∃ t, stepT T s = t := ⟨_, rfl⟩
  have E_t := Lib.hid h_t
  clear h_t
  obtain ⟨s1, h_s1⟩ : ∃ s1, stepF T s = s1 := ⟨_, rfl⟩
  have E_s1 := Lib.hid h_s1
  clear h_s1
  have G_s1 := Lib.hid (show Goes T s s1 from by have q := (goes_step E HL.out); rw [E_s1.out] at q; exact q)
  obtain ⟨vb, h_vb⟩ : ∃ vb, valueB T s1 = vb := ⟨_, rfl⟩
  have E_vb := Lib.hid h_vb
  clear h_vb
  obtain ⟨zz1, h_zz1⟩ : ∃ z9, zz0.setKd 8 = z9 := ⟨_, rfl⟩
  have Z_zz1 := Lib.hid h_zz1
  clear h_zz1
  obtain ⟨zz2, s2, h_s2⟩ : ∃ zz2 s2, valueF T r zz1 s1 = (zz2, s2) := ⟨_, _, rfl⟩
  have E_s2 := Lib.hid h_s2
  clear h_s2
  have G_s2 := Lib.hid (show Goes T s s2 from by have q := (G_s1.out.value E F zz1); rw [E_s2.out] at q; exact q)
  obtain ⟨s3, h_s3⟩ : ∃ s3, wantF T s2 [105, 110] = s3 := ⟨_, rfl⟩
  have E_s3 := Lib.hid h_s3
  clear h_s3
  have G_s3 := Lib.hid (show Goes T s s3 from by have q := (G_s2.out.want E [105, 110]); rw [E_s3.out] at q; exact q)
  obtain ⟨y, s4, h_s4⟩ : ∃ y s4, r.exp s3 = (y, s4) := ⟨_, _, rfl⟩
  have E_s4 := Lib.hid h_s4
  clear h_s4
  have hq := HQ2.out
  rw [if_pos rfl, E_s1.out, Z_zz0.out, Z_zz1.out, E_s2.out, E_s3.out, E_s4.out, E_vb.out] at hq
  have HQ3 := Lib.hid hq
  clear hq HQ2
  go_upto_region 6 with (fail)
  go_wp2_with fail
  refine (step_eq E E_t.out E_s1.out H6.out.p).mono ?_
  rintro e w25 ⟨rfl, h25, b25⟩
  have H25 := Lib.hid (H6.out.call h25 b25)
  have B_G25 := Lib.hid (B_G6.out.but b25 (Nat.le_refl _) (by have := H6.out.r; omega))
  clear h25 b25 H6 B_G6
  go_upto_region 7 with (fail)
  have c0 := B_G25.out.c0
  have f0 := B_G25.out.free 0
  go_upto_region 8 with (fail)
  have B_G26 := Lib.hid (B_G25.out.putKd 8)
  rw [Z_zz1.out] at B_G26
  have H26 := Lib.hid (H25.out.own (p := ⟨G, 0, none⟩) B_G25.out.lo (.int .i64 8))
  clear c0 f0 B_G25 H25
  generalize w25.setCell ⟨G, 0, none⟩ (.int .i64 8) = w26 at *
  have CV := Lib.hid (value_any w26 R g c (w.heap.size + 1) G T r n s1 zz1 fr0 [] E F D H26.out.p (by have := H26.out.r; omega) (by have := H26.out.l; omega) B_G26.out (by rw [← Z_zz1.out, setKd_ks, ← Z_zz0.out]; exact Nat.zero_le _) (by rw [G_s1.out.deep]; exact HD.out))
  rw [E_vb.out, E_s2.out] at CV
  go_wp2_with fail
  refine CV.out.mono ?_
  rintro e w27 ⟨rfl, ⟨f27, fs27, hbx⟩, hp27, hb27⟩
  have H27 := Lib.hid (H26.out.lowR hb27 hp27)
  have B_G27 := Lib.hid hbx
  clear hbx hp27 hb27 CV B_G26 H26
  (try dsimp only at B_G27 H27)
  rcases vb with _ | _
  ·go_upto_region 11 with (fail)
   go_wp2_with fail
   refine (want_eq E E_s3.out H27.out.p).mono ?_
   rintro e w28 ⟨rfl, h28, b28⟩
   have H28 := Lib.hid (H27.out.call h28 b28)
   have B_G28 := Lib.hid (B_G27.out.but b28 (Nat.le_refl _) (by have := H27.out.r; omega))
   clear h28 b28 H27 B_G27
   have l1 : zz2.ks.length ≤ 100000 := by
    skip
    have e2 : zz2 = (valueF T r zz1 s1).1 := by rw [E_s2.out]
    rw [e2]; unfold valueF; dsimp only; rw [add_ks, setTx_ks, ← Z_zz1.out, setKd_ks, ← Z_zz0.out]; simp [Nd.ks]
   go_upto_region 12 with (fail)
   have C29 := Lib.hid (fun wx (h : PAt wx R g c T s3) => gives_eq E_s4.out (D.exp wx s3 h (by rw [G_s3.out.deep]; exact HD.out)))
   go_cut [30] (fun _ wx => ∃ f2 fs2, Box wx G (w.heap.size + 1) (zz2.add y) f2 fs2 ∧ St w wx R g c T s4)
   case first =>
    refine region_Z (fun W => W.cell? ⟨G, 5, none⟩ = some (.slice f27.ka zz2.ks.length f27.kc)) (fun i => decide (6 ≤ i ∧ i < 11)) (by kernel_rfl) B_G28.out.drew.c5 (fun hHeld => ?_)
    refine tkg 0 rfl (fun k hk => by have hk2 : 11 ≤ k := hk; simp; omega) (v := ?_) ?_ ?_; rotate_left
    ·(intro w hSw; (try dsimp only at hSw); go_simp; try with_reducible rfl)
    (try simp only [Act.put, sZ])
    refine tkg 1 rfl (fun k hk => by have hk2 : 11 ≤ k := hk; simp; omega) (v := ?_) ?_ ?_; rotate_left
    ·(intro w hSw; (try dsimp only at hSw); go_simp; try with_reducible rfl)
    (try simp only [Act.put, sZ])
    refine tkg 2 rfl (fun k hk => by have hk2 : 11 ≤ k := hk; simp; omega) (v := ?_) ?_ ?_; rotate_left
    ·(intro w hSw; (try dsimp only at hSw); go_simp; try with_reducible rfl)
    (try simp only [Act.put, sZ])
    refine tkg 4 rfl (fun k hk => by have hk2 : 11 ≤ k := hk; simp; omega) (v := ?_) ?_ ?_; rotate_left
    ·(intro w hSw; (try dsimp only at hSw); go_simp; try with_reducible rfl)
    (try simp only [Act.put, sZ])
    refine anyZ_split (i := 3) (j := 5) (by kernel_rfl) rfl rfl (fun K hK => ?_) (fun K hK => ?_)
    ·go_simp
     go_at_call 39
     refine (C29.out _ H28.out.drew.p).mono ?_
     rintro e wc ⟨fy, rfl, hpc, ny, bc⟩
     have HC := Lib.hid (H28.out.drew.call hpc bc)
     have BC := Lib.hid (B_G28.out.drew.but bc (Nat.le_refl _) (by have := H28.out.r; omega))
     have NY : Hid (NodeIn wc (fun a => w28.heap.size ≤ a) y fy) := ny
     clear hpc ny bc
     unfold ndV
     refine hK.out _ _ (fun _ => BC.out.c5) (fun hHeld2 => ?_)
     replace hHeld2 := hHeld2 (by decide)
     clear hK K hHeld
     (try simp only [Act.put, sZ])
     refine stp 5 rfl (fun K hK => ?_)
     go_simp
     refine hK.out _ _ (fun _ => (BC.out.alloc _).c5) (fun hHeld3 => ?_)
     clear hK K hHeld2 hHeld3
     (try simp only [Act.put, sZ])
     have HA := Lib.hid (HC.out.alloc (.cells #[.int .i64 0, .string ⟨#[]⟩, .int .i64 0, .int .i64 0, .slice none 0 0, .slice none 0 0] 25))
     have BA := Lib.hid (BC.out.alloc (.cells #[.int .i64 0, .string ⟨#[]⟩, .int .i64 0, .int .i64 0, .slice none 0 0, .slice none 0 0] 25))
     have NA := Lib.hid (NY.out.alloc (.cells #[.int .i64 0, .string ⟨#[]⟩, .int .i64 0, .int .i64 0, .slice none 0 0, .slice none 0 0] 25))
     have ZA : Hid (Whole (wc.alloc (.cells #[.int .i64 0, .string ⟨#[]⟩, .int .i64 0, .int .i64 0, .slice none 0 0, .slice none 0 0] 25)) wc.heap.size 25 #[.int .i64 0, .string ⟨#[]⟩, .int .i64 0, .int .i64 0, .slice none 0 0, .slice none 0 0]) := Whole.made _ _ _
     clear HC BC NY
     generalize wc.alloc (.cells #[.int .i64 0, .string ⟨#[]⟩, .int .i64 0, .int .i64 0, .slice none 0 0, .slice none 0 0] 25) = wa at *
     generalize wc.heap.size = Zb at *
     refine stp 6 rfl (fun K hK => ?_)
     refine step_app ty_nd (v := .slice f27.ka zz2.ks.length f27.kc) (by rfl) _ _ (by rfl) (by rfl) BA.out.kid Zb 1 [.int .i64 0, .string ⟨#[]⟩, .int .i64 0, .int .i64 0, .slice none 0 0, .slice none 0 0] (by rfl) ZA.out (by rfl) (by simp [Value.oneCell']) (by decide) (by omega) (by decide) (by have := HA.out.size; omega) ?_
     intro gv cv wd hap
     have KD := Lib.hid (kid_done rfl HA.out BA.out B_G28.out.lt B_G28.out.nlt B_G28.out.klt NA.out hap)
     have hln := flatL_len _ _ BA.out.len
     have ZC := Lib.hid (zero_cells hap (by rw [hln]; omega))
     rw [hln] at ZC
     have XD := Lib.hid (hap.far BA.out.box (row_ne BA.out.kid BA.out.kN))
     have hgn : gv ≠ G := KD.out.2.2
     have hgn2 : G ≠ gv := Ne.symm hgn
     have HGN := Lib.hid hgn
     have HGN2 := Lib.hid hgn2
     clear hln hgn hgn2 hap HA BA NA ZA
     refine hK.out _ _ (fun h => absurd h (by decide)) (fun _ => ?_)
     clear hK K
     (try simp only [Act.put, sZ])
     refine anyZ_free _ _ _ _ (by decide) ?_
     have hT : True := trivial
     have hix : (zz2.ks.length : Int) < (zz2.ks.length : Int) + 1 := by omega
     refine tkf 7 rfl (v := ?_) ?_ ?_; rotate_left
     ·(intro w hSw; (try dsimp only at hSw); go_simp; try with_reducible rfl)
     (try simp only [Act.put, sZ])
     refine tkf 9 rfl (v := ?_) ?_ ?_; rotate_left
     ·(intro w hSw; (try dsimp only at hSw); go_simp; try with_reducible rfl)
     (try simp only [Act.put, sZ])
     refine anyZ_split (i := 8) (j := 10) (by kernel_rfl) rfl rfl (fun K hK => ?_) (fun K hK => ?_)
     ·obtain ⟨u0, v0, u1, v1, u2, v2, u3, v3, u4, v4, u5, v5⟩ := zcA ZC.out
      go_simp
      refine hK.out _ _ (fun _ => trivial) (fun _ => ?_)
      clear hK K u0 u1 u2 u3 u4 u5 v0 v1 v2 v3 v4 v5
      have XK := Lib.hid (kid_whole XD.out HGN2.out (zz2.ks.length * 6) y fy)
      have c5 : (kidW wd gv (zz2.ks.length * 6) y fy).cell? ⟨G, 5, none⟩ = some (.slice f27.ka zz2.ks.length f27.kc) := XK.out.cell 5
      have v5 := XK.out.free 5
      change anyZ _ _ _ _ _ _ _ _ _ (kidW wd gv (zz2.ks.length * 6) y fy)
      generalize kidW wd gv (zz2.ks.length * 6) y fy = wk at *
      clear XK
      (try simp only [Act.put, sZ])
      refine stp 10 rfl (fun K hK => ?_)
      go_simp
      refine hK.out _ _ (fun _ => trivial) (fun _ => ?_)
      refine anyZ_done (by kernel_rfl) ?_ _
      clear hK K c5 v5
      go_wp2_with fail
      go_meet
      exact ⟨_, _, KD.out.1, KD.out.2.1⟩
     ·have c5 : wd.cell? ⟨G, 5, none⟩ = some (.slice f27.ka zz2.ks.length f27.kc) := XD.out.cell 5
      have v5 := XD.out.free 5
      go_simp
      refine hK.out _ _ (fun _ => trivial) (fun _ => ?_)
      clear hK K c5 v5
      obtain ⟨u0, v0, u1, v1, u2, v2, u3, v3, u4, v4, u5, v5⟩ := zcB (p := ⟨G, 5, none⟩) ZC.out HGN.out (.slice (some ⟨gv, 0, none⟩) (zz2.ks.length + 1) cv)
      have KD2 := Lib.hid (show Box (kidW (wd.setCell ⟨G, 5, none⟩ (.slice (some ⟨gv, 0, none⟩) (zz2.ks.length + 1) cv)) gv (zz2.ks.length * 6) y fy) G (w.heap.size + 1) (zz2.add y) _ _ ∧ St w (kidW (wd.setCell ⟨G, 5, none⟩ (.slice (some ⟨gv, 0, none⟩) (zz2.ks.length + 1) cv)) gv (zz2.ks.length * 6) y fy) R g c T s4 from by rw [kid_comm _ HGN.out]; exact ⟨KD.out.1, KD.out.2.1⟩)
      clear KD
      generalize wd.setCell ⟨G, 5, none⟩ (.slice (some ⟨gv, 0, none⟩) (zz2.ks.length + 1) cv) = wk at *
      (try simp only [Act.put, sZ])
      refine stp 8 rfl (fun K hK => ?_)
      go_simp
      refine hK.out _ _ (fun _ => trivial) (fun _ => ?_)
      refine anyZ_done (by kernel_rfl) ?_ _
      clear hK K u0 u1 u2 u3 u4 u5 v0 v1 v2 v3 v4 v5
      go_wp2_with fail
      go_meet
      exact ⟨_, _, KD2.out.1, KD2.out.2⟩
    ·go_simp
     refine hK.out _ _ (fun _ => (B_G28.out.drew.alloc _).c5) (fun hHeld2 => ?_)
     replace hHeld2 := hHeld2 (by decide)
     clear hK K hHeld
     (try simp only [Act.put, sZ])
     refine stp 3 rfl (fun K hK => ?_)
     go_simp
     go_at_call 39
     refine (C29.out _ (H28.out.drew.alloc (.cells #[.int .i64 0, .string ⟨#[]⟩, .int .i64 0, .int .i64 0, .slice none 0 0, .slice none 0 0] 25)).p).mono ?_
     rintro e wc ⟨fy, rfl, hpc, ny, bc⟩
     have HA := Lib.hid ((H28.out.drew.alloc (.cells #[.int .i64 0, .string ⟨#[]⟩, .int .i64 0, .int .i64 0, .slice none 0 0, .slice none 0 0] 25)).call hpc bc)
     have BA := Lib.hid ((B_G28.out.drew.alloc (.cells #[.int .i64 0, .string ⟨#[]⟩, .int .i64 0, .int .i64 0, .slice none 0 0, .slice none 0 0] 25)).but bc (Nat.le_refl _) (by have := H28.out.r; omega))
     have NA : Hid (NodeIn wc (fun a => w28.heap.size ≤ a) y fy) := ny.mono fun a ha _ => by simp at ha; omega
     have ZA : Hid (Whole wc w28.heap.size 25 #[.int .i64 0, .string ⟨#[]⟩, .int .i64 0, .int .i64 0, .slice none 0 0, .slice none 0 0]) := bc.whole (Whole.made w28.drew 25 #[.int .i64 0, .string ⟨#[]⟩, .int .i64 0, .int .i64 0, .slice none 0 0, .slice none 0 0]) (by simp) (by have := H28.out.r; have := H28.out.size; simp; omega)
     clear hpc ny bc
     unfold ndV
     refine hK.out _ _ (fun _ => BA.out.c5) (fun hHeld3 => ?_)
     clear hK K hHeld2 hHeld3
     (try simp only [Act.put, sZ])
     refine stp 6 rfl (fun K hK => ?_)
     refine step_app ty_nd (v := .slice f27.ka zz2.ks.length f27.kc) (by rfl) _ _ (by rfl) (by rfl) BA.out.kid w28.heap.size 1 [.int .i64 0, .string ⟨#[]⟩, .int .i64 0, .int .i64 0, .slice none 0 0, .slice none 0 0] (by rfl) ZA.out (by rfl) (by simp [Value.oneCell']) (by decide) (by omega) (by decide) (by have := HA.out.size; omega) ?_
     intro gv cv wd hap
     have KD := Lib.hid (kid_done rfl HA.out BA.out B_G28.out.lt B_G28.out.nlt B_G28.out.klt NA.out hap)
     have hln := flatL_len _ _ BA.out.len
     have ZC := Lib.hid (zero_cells hap (by rw [hln]; omega))
     rw [hln] at ZC
     have XD := Lib.hid (hap.far BA.out.box (row_ne BA.out.kid BA.out.kN))
     have hgn : gv ≠ G := KD.out.2.2
     have hgn2 : G ≠ gv := Ne.symm hgn
     have HGN := Lib.hid hgn
     have HGN2 := Lib.hid hgn2
     clear hln hgn hgn2 hap HA BA NA ZA
     refine hK.out _ _ (fun h => absurd h (by decide)) (fun _ => ?_)
     clear hK K
     (try simp only [Act.put, sZ])
     refine anyZ_free _ _ _ _ (by decide) ?_
     have hT : True := trivial
     have hix : (zz2.ks.length : Int) < (zz2.ks.length : Int) + 1 := by omega
     refine tkf 7 rfl (v := ?_) ?_ ?_; rotate_left
     ·(intro w hSw; (try dsimp only at hSw); go_simp; try with_reducible rfl)
     (try simp only [Act.put, sZ])
     refine tkf 9 rfl (v := ?_) ?_ ?_; rotate_left
     ·(intro w hSw; (try dsimp only at hSw); go_simp; try with_reducible rfl)
     (try simp only [Act.put, sZ])
     refine anyZ_split (i := 8) (j := 10) (by kernel_rfl) rfl rfl (fun K hK => ?_) (fun K hK => ?_)
     ·obtain ⟨u0, v0, u1, v1, u2, v2, u3, v3, u4, v4, u5, v5⟩ := zcA ZC.out
      go_simp
      refine hK.out _ _ (fun _ => trivial) (fun _ => ?_)
      clear hK K u0 u1 u2 u3 u4 u5 v0 v1 v2 v3 v4 v5
      have XK := Lib.hid (kid_whole XD.out HGN2.out (zz2.ks.length * 6) y fy)
      have c5 : (kidW wd gv (zz2.ks.length * 6) y fy).cell? ⟨G, 5, none⟩ = some (.slice f27.ka zz2.ks.length f27.kc) := XK.out.cell 5
      have v5 := XK.out.free 5
      change anyZ _ _ _ _ _ _ _ _ _ (kidW wd gv (zz2.ks.length * 6) y fy)
      generalize kidW wd gv (zz2.ks.length * 6) y fy = wk at *
      clear XK
      (try simp only [Act.put, sZ])
      refine stp 10 rfl (fun K hK => ?_)
      go_simp
      refine hK.out _ _ (fun _ => trivial) (fun _ => ?_)
      refine anyZ_done (by kernel_rfl) ?_ _
      clear hK K c5 v5
      go_wp2_with fail
      go_meet
      exact ⟨_, _, KD.out.1, KD.out.2.1⟩
     ·have c5 : wd.cell? ⟨G, 5, none⟩ = some (.slice f27.ka zz2.ks.length f27.kc) := XD.out.cell 5
      have v5 := XD.out.free 5
      go_simp
      refine hK.out _ _ (fun _ => trivial) (fun _ => ?_)
      clear hK K c5 v5
      obtain ⟨u0, v0, u1, v1, u2, v2, u3, v3, u4, v4, u5, v5⟩ := zcB (p := ⟨G, 5, none⟩) ZC.out HGN.out (.slice (some ⟨gv, 0, none⟩) (zz2.ks.length + 1) cv)
      have KD2 := Lib.hid (show Box (kidW (wd.setCell ⟨G, 5, none⟩ (.slice (some ⟨gv, 0, none⟩) (zz2.ks.length + 1) cv)) gv (zz2.ks.length * 6) y fy) G (w.heap.size + 1) (zz2.add y) _ _ ∧ St w (kidW (wd.setCell ⟨G, 5, none⟩ (.slice (some ⟨gv, 0, none⟩) (zz2.ks.length + 1) cv)) gv (zz2.ks.length * 6) y fy) R g c T s4 from by rw [kid_comm _ HGN.out]; exact ⟨KD.out.1, KD.out.2.1⟩)
      clear KD
      generalize wd.setCell ⟨G, 5, none⟩ (.slice (some ⟨gv, 0, none⟩) (zz2.ks.length + 1) cv) = wk at *
      (try simp only [Act.put, sZ])
      refine stp 8 rfl (fun K hK => ?_)
      go_simp
      refine hK.out _ _ (fun _ => trivial) (fun _ => ?_)
      refine anyZ_done (by kernel_rfl) ?_ _
      clear hK K u0 u1 u2 u3 u4 u5 v0 v1 v2 v3 v4 v5
      go_wp2_with fail
      go_meet
      exact ⟨_, _, KD2.out.1, KD2.out.2⟩
   case rest =>
    obtain ⟨f29, fs29, hbx, hlo⟩ := hcut
    have B_G29 := Lib.hid hbx
    have H29 := Lib.hid hlo
    clear hbx hlo C29 B_G28 H28
    obtain ⟨zz4, h_zz4⟩ : ∃ z9, (zz2.add y) = z9 := ⟨_, rfl⟩
    rw [h_zz4] at B_G29
    have Z_zz4 := Lib.hid h_zz4
    clear h_zz4
    have hq : (zz4, s4) = q := by rw [← Z_zz4.out]; exact HQ3.out
    subst hq
    clear HQ3 l1
    obtain ⟨t0, t1, t2, t3, t4, t5⟩ := nodeC (B_G29.out.box)
    obtain ⟨z0, z1, z2, z3, z4, z5⟩ := zeroC (H29.out.z)
    obtain ⟨y0, y1, y2, y3, y4, y5⟩ := freeC (H29.out.z)
    go_wp2_with fail
    obtain ⟨wf, HZF, HBF, hwf⟩ := endsN (H29.out.z) zz4 f29
    rw [hwf]
    clear hwf
    obtain ⟨g0, g1, g2, g3, g4, g5⟩ := cells6 HZF.out
    exact bodyPost_ret (v := ndV zz4 f29) (by simp [results, Try.results55, go_sem, ndV, Nd.kd, Nd.tx, Nd.nm, Nd.at_, Nd.ns, Nd.ks, leafN, fr0, nd0, g0, g1, g2, g3, g4, g5]) rfl (H29.out.done B_G29.out.var.node HBF.out)
  ·go_upto_region 10 with (fail)
   have c0 := B_G27.out.c0
   have f0 := B_G27.out.free 0
   go_upto_region 11 with (fail)
   have B_G30 := Lib.hid (B_G27.out.putKd 9)
   have H30 := Lib.hid (H27.out.own (p := ⟨G, 0, none⟩) B_G27.out.lo (.int .i64 9))
   clear c0 f0 B_G27 H27
   generalize w27.setCell ⟨G, 0, none⟩ (.int .i64 9) = w30 at *
   obtain ⟨zz3, h_zz3⟩ : ∃ z9, (zz2.setKd 9) = z9 := ⟨_, rfl⟩
   rw [h_zz3] at B_G30
   have Z_zz3 := Lib.hid h_zz3
   clear h_zz3
   go_wp2_with fail
   refine (want_eq E E_s3.out H30.out.p).mono ?_
   rintro e w31 ⟨rfl, h31, b31⟩
   have H31 := Lib.hid (H30.out.call h31 b31)
   have B_G31 := Lib.hid (B_G30.out.but b31 (Nat.le_refl _) (by have := H30.out.r; omega))
   clear h31 b31 H30 B_G30
   have l1 : zz3.ks.length ≤ 100000 := by
    rw [← Z_zz3.out, setKd_ks]
    have e2 : zz2 = (valueF T r zz1 s1).1 := by rw [E_s2.out]
    rw [e2]; unfold valueF; dsimp only; rw [add_ks, setTx_ks, ← Z_zz1.out, setKd_ks, ← Z_zz0.out]; simp [Nd.ks]
   go_upto_region 12 with (fail)
   have C32 := Lib.hid (fun wx (h : PAt wx R g c T s3) => gives_eq E_s4.out (D.exp wx s3 h (by rw [G_s3.out.deep]; exact HD.out)))
   go_cut [30] (fun _ wx => ∃ f2 fs2, Box wx G (w.heap.size + 1) (zz3.add y) f2 fs2 ∧ St w wx R g c T s4)
   case first =>
    refine region_Z (fun W => W.cell? ⟨G, 5, none⟩ = some (.slice f27.ka zz3.ks.length f27.kc)) (fun i => decide (6 ≤ i ∧ i < 11)) (by kernel_rfl) B_G31.out.drew.c5 (fun hHeld => ?_)
    refine tkg 0 rfl (fun k hk => by have hk2 : 11 ≤ k := hk; simp; omega) (v := ?_) ?_ ?_; rotate_left
    ·(intro w hSw; (try dsimp only at hSw); go_simp; try with_reducible rfl)
    (try simp only [Act.put, sZ])
    refine tkg 1 rfl (fun k hk => by have hk2 : 11 ≤ k := hk; simp; omega) (v := ?_) ?_ ?_; rotate_left
    ·(intro w hSw; (try dsimp only at hSw); go_simp; try with_reducible rfl)
    (try simp only [Act.put, sZ])
    refine tkg 2 rfl (fun k hk => by have hk2 : 11 ≤ k := hk; simp; omega) (v := ?_) ?_ ?_; rotate_left
    ·(intro w hSw; (try dsimp only at hSw); go_simp; try with_reducible rfl)
    (try simp only [Act.put, sZ])
    refine tkg 4 rfl (fun k hk => by have hk2 : 11 ≤ k := hk; simp; omega) (v := ?_) ?_ ?_; rotate_left
    ·(intro w hSw; (try dsimp only at hSw); go_simp; try with_reducible rfl)
    (try simp only [Act.put, sZ])
    refine anyZ_split (i := 3) (j := 5) (by kernel_rfl) rfl rfl (fun K hK => ?_) (fun K hK => ?_)
    ·go_simp
     go_at_call 39
     refine (C32.out _ H31.out.drew.p).mono ?_
     rintro e wc ⟨fy, rfl, hpc, ny, bc⟩
     have HC := Lib.hid (H31.out.drew.call hpc bc)
     have BC := Lib.hid (B_G31.out.drew.but bc (Nat.le_refl _) (by have := H31.out.r; omega))
     have NY : Hid (NodeIn wc (fun a => w31.heap.size ≤ a) y fy) := ny
     clear hpc ny bc
     unfold ndV
     refine hK.out _ _ (fun _ => BC.out.c5) (fun hHeld2 => ?_)
     replace hHeld2 := hHeld2 (by decide)
     clear hK K hHeld
     (try simp only [Act.put, sZ])
     refine stp 5 rfl (fun K hK => ?_)
     go_simp
     refine hK.out _ _ (fun _ => (BC.out.alloc _).c5) (fun hHeld3 => ?_)
     clear hK K hHeld2 hHeld3
     (try simp only [Act.put, sZ])
     have HA := Lib.hid (HC.out.alloc (.cells #[.int .i64 0, .string ⟨#[]⟩, .int .i64 0, .int .i64 0, .slice none 0 0, .slice none 0 0] 25))
     have BA := Lib.hid (BC.out.alloc (.cells #[.int .i64 0, .string ⟨#[]⟩, .int .i64 0, .int .i64 0, .slice none 0 0, .slice none 0 0] 25))
     have NA := Lib.hid (NY.out.alloc (.cells #[.int .i64 0, .string ⟨#[]⟩, .int .i64 0, .int .i64 0, .slice none 0 0, .slice none 0 0] 25))
     have ZA : Hid (Whole (wc.alloc (.cells #[.int .i64 0, .string ⟨#[]⟩, .int .i64 0, .int .i64 0, .slice none 0 0, .slice none 0 0] 25)) wc.heap.size 25 #[.int .i64 0, .string ⟨#[]⟩, .int .i64 0, .int .i64 0, .slice none 0 0, .slice none 0 0]) := Whole.made _ _ _
     clear HC BC NY
     generalize wc.alloc (.cells #[.int .i64 0, .string ⟨#[]⟩, .int .i64 0, .int .i64 0, .slice none 0 0, .slice none 0 0] 25) = wa at *
     generalize wc.heap.size = Zb at *
     refine stp 6 rfl (fun K hK => ?_)
     refine step_app ty_nd (v := .slice f27.ka zz3.ks.length f27.kc) (by rfl) _ _ (by rfl) (by rfl) BA.out.kid Zb 1 [.int .i64 0, .string ⟨#[]⟩, .int .i64 0, .int .i64 0, .slice none 0 0, .slice none 0 0] (by rfl) ZA.out (by rfl) (by simp [Value.oneCell']) (by decide) (by omega) (by decide) (by have := HA.out.size; omega) ?_
     intro gv cv wd hap
     have KD := Lib.hid (kid_done rfl HA.out BA.out B_G31.out.lt B_G31.out.nlt B_G31.out.klt NA.out hap)
     have hln := flatL_len _ _ BA.out.len
     have ZC := Lib.hid (zero_cells hap (by rw [hln]; omega))
     rw [hln] at ZC
     have XD := Lib.hid (hap.far BA.out.box (row_ne BA.out.kid BA.out.kN))
     have hgn : gv ≠ G := KD.out.2.2
     have hgn2 : G ≠ gv := Ne.symm hgn
     have HGN := Lib.hid hgn
     have HGN2 := Lib.hid hgn2
     clear hln hgn hgn2 hap HA BA NA ZA
     refine hK.out _ _ (fun h => absurd h (by decide)) (fun _ => ?_)
     clear hK K
     (try simp only [Act.put, sZ])
     refine anyZ_free _ _ _ _ (by decide) ?_
     have hT : True := trivial
     have hix : (zz3.ks.length : Int) < (zz3.ks.length : Int) + 1 := by omega
     refine tkf 7 rfl (v := ?_) ?_ ?_; rotate_left
     ·(intro w hSw; (try dsimp only at hSw); go_simp; try with_reducible rfl)
     (try simp only [Act.put, sZ])
     refine tkf 9 rfl (v := ?_) ?_ ?_; rotate_left
     ·(intro w hSw; (try dsimp only at hSw); go_simp; try with_reducible rfl)
     (try simp only [Act.put, sZ])
     refine anyZ_split (i := 8) (j := 10) (by kernel_rfl) rfl rfl (fun K hK => ?_) (fun K hK => ?_)
     ·obtain ⟨u0, v0, u1, v1, u2, v2, u3, v3, u4, v4, u5, v5⟩ := zcA ZC.out
      go_simp
      refine hK.out _ _ (fun _ => trivial) (fun _ => ?_)
      clear hK K u0 u1 u2 u3 u4 u5 v0 v1 v2 v3 v4 v5
      have XK := Lib.hid (kid_whole XD.out HGN2.out (zz3.ks.length * 6) y fy)
      have c5 : (kidW wd gv (zz3.ks.length * 6) y fy).cell? ⟨G, 5, none⟩ = some (.slice f27.ka zz3.ks.length f27.kc) := XK.out.cell 5
      have v5 := XK.out.free 5
      change anyZ _ _ _ _ _ _ _ _ _ (kidW wd gv (zz3.ks.length * 6) y fy)
      generalize kidW wd gv (zz3.ks.length * 6) y fy = wk at *
      clear XK
      (try simp only [Act.put, sZ])
      refine stp 10 rfl (fun K hK => ?_)
      go_simp
      refine hK.out _ _ (fun _ => trivial) (fun _ => ?_)
      refine anyZ_done (by kernel_rfl) ?_ _
      clear hK K c5 v5
      go_wp2_with fail
      go_meet
      exact ⟨_, _, KD.out.1, KD.out.2.1⟩
     ·have c5 : wd.cell? ⟨G, 5, none⟩ = some (.slice f27.ka zz3.ks.length f27.kc) := XD.out.cell 5
      have v5 := XD.out.free 5
      go_simp
      refine hK.out _ _ (fun _ => trivial) (fun _ => ?_)
      clear hK K c5 v5
      obtain ⟨u0, v0, u1, v1, u2, v2, u3, v3, u4, v4, u5, v5⟩ := zcB (p := ⟨G, 5, none⟩) ZC.out HGN.out (.slice (some ⟨gv, 0, none⟩) (zz3.ks.length + 1) cv)
      have KD2 := Lib.hid (show Box (kidW (wd.setCell ⟨G, 5, none⟩ (.slice (some ⟨gv, 0, none⟩) (zz3.ks.length + 1) cv)) gv (zz3.ks.length * 6) y fy) G (w.heap.size + 1) (zz3.add y) _ _ ∧ St w (kidW (wd.setCell ⟨G, 5, none⟩ (.slice (some ⟨gv, 0, none⟩) (zz3.ks.length + 1) cv)) gv (zz3.ks.length * 6) y fy) R g c T s4 from by rw [kid_comm _ HGN.out]; exact ⟨KD.out.1, KD.out.2.1⟩)
      clear KD
      generalize wd.setCell ⟨G, 5, none⟩ (.slice (some ⟨gv, 0, none⟩) (zz3.ks.length + 1) cv) = wk at *
      (try simp only [Act.put, sZ])
      refine stp 8 rfl (fun K hK => ?_)
      go_simp
      refine hK.out _ _ (fun _ => trivial) (fun _ => ?_)
      refine anyZ_done (by kernel_rfl) ?_ _
      clear hK K u0 u1 u2 u3 u4 u5 v0 v1 v2 v3 v4 v5
      go_wp2_with fail
      go_meet
      exact ⟨_, _, KD2.out.1, KD2.out.2⟩
    ·go_simp
     refine hK.out _ _ (fun _ => (B_G31.out.drew.alloc _).c5) (fun hHeld2 => ?_)
     replace hHeld2 := hHeld2 (by decide)
     clear hK K hHeld
     (try simp only [Act.put, sZ])
     refine stp 3 rfl (fun K hK => ?_)
     go_simp
     go_at_call 39
     refine (C32.out _ (H31.out.drew.alloc (.cells #[.int .i64 0, .string ⟨#[]⟩, .int .i64 0, .int .i64 0, .slice none 0 0, .slice none 0 0] 25)).p).mono ?_
     rintro e wc ⟨fy, rfl, hpc, ny, bc⟩
     have HA := Lib.hid ((H31.out.drew.alloc (.cells #[.int .i64 0, .string ⟨#[]⟩, .int .i64 0, .int .i64 0, .slice none 0 0, .slice none 0 0] 25)).call hpc bc)
     have BA := Lib.hid ((B_G31.out.drew.alloc (.cells #[.int .i64 0, .string ⟨#[]⟩, .int .i64 0, .int .i64 0, .slice none 0 0, .slice none 0 0] 25)).but bc (Nat.le_refl _) (by have := H31.out.r; omega))
     have NA : Hid (NodeIn wc (fun a => w31.heap.size ≤ a) y fy) := ny.mono fun a ha _ => by simp at ha; omega
     have ZA : Hid (Whole wc w31.heap.size 25 #[.int .i64 0, .string ⟨#[]⟩, .int .i64 0, .int .i64 0, .slice none 0 0, .slice none 0 0]) := bc.whole (Whole.made w31.drew 25 #[.int .i64 0, .string ⟨#[]⟩, .int .i64 0, .int .i64 0, .slice none 0 0, .slice none 0 0]) (by simp) (by have := H31.out.r; have := H31.out.size; simp; omega)
     clear hpc ny bc
     unfold ndV
     refine hK.out _ _ (fun _ => BA.out.c5) (fun hHeld3 => ?_)
     clear hK K hHeld2 hHeld3
     (try simp only [Act.put, sZ])
     refine stp 6 rfl (fun K hK => ?_)
     refine step_app ty_nd (v := .slice f27.ka zz3.ks.length f27.kc) (by rfl) _ _ (by rfl) (by rfl) BA.out.kid w31.heap.size 1 [.int .i64 0, .string ⟨#[]⟩, .int .i64 0, .int .i64 0, .slice none 0 0, .slice none 0 0] (by rfl) ZA.out (by rfl) (by simp [Value.oneCell']) (by decide) (by omega) (by decide) (by have := HA.out.size; omega) ?_
     intro gv cv wd hap
     have KD := Lib.hid (kid_done rfl HA.out BA.out B_G31.out.lt B_G31.out.nlt B_G31.out.klt NA.out hap)
     have hln := flatL_len _ _ BA.out.len
     have ZC := Lib.hid (zero_cells hap (by rw [hln]; omega))
     rw [hln] at ZC
     have XD := Lib.hid (hap.far BA.out.box (row_ne BA.out.kid BA.out.kN))
     have hgn : gv ≠ G := KD.out.2.2
     have hgn2 : G ≠ gv := Ne.symm hgn
     have HGN := Lib.hid hgn
     have HGN2 := Lib.hid hgn2
     clear hln hgn hgn2 hap HA BA NA ZA
     refine hK.out _ _ (fun h => absurd h (by decide)) (fun _ => ?_)
     clear hK K
     (try simp only [Act.put, sZ])
     refine anyZ_free _ _ _ _ (by decide) ?_
     have hT : True := trivial
     have hix : (zz3.ks.length : Int) < (zz3.ks.length : Int) + 1 := by omega
     refine tkf 7 rfl (v := ?_) ?_ ?_; rotate_left
     ·(intro w hSw; (try dsimp only at hSw); go_simp; try with_reducible rfl)
     (try simp only [Act.put, sZ])
     refine tkf 9 rfl (v := ?_) ?_ ?_; rotate_left
     ·(intro w hSw; (try dsimp only at hSw); go_simp; try with_reducible rfl)
     (try simp only [Act.put, sZ])
     refine anyZ_split (i := 8) (j := 10) (by kernel_rfl) rfl rfl (fun K hK => ?_) (fun K hK => ?_)
     ·obtain ⟨u0, v0, u1, v1, u2, v2, u3, v3, u4, v4, u5, v5⟩ := zcA ZC.out
      go_simp
      refine hK.out _ _ (fun _ => trivial) (fun _ => ?_)
      clear hK K u0 u1 u2 u3 u4 u5 v0 v1 v2 v3 v4 v5
      have XK := Lib.hid (kid_whole XD.out HGN2.out (zz3.ks.length * 6) y fy)
      have c5 : (kidW wd gv (zz3.ks.length * 6) y fy).cell? ⟨G, 5, none⟩ = some (.slice f27.ka zz3.ks.length f27.kc) := XK.out.cell 5
      have v5 := XK.out.free 5
      change anyZ _ _ _ _ _ _ _ _ _ (kidW wd gv (zz3.ks.length * 6) y fy)
      generalize kidW wd gv (zz3.ks.length * 6) y fy = wk at *
      clear XK
      (try simp only [Act.put, sZ])
      refine stp 10 rfl (fun K hK => ?_)
      go_simp
      refine hK.out _ _ (fun _ => trivial) (fun _ => ?_)
      refine anyZ_done (by kernel_rfl) ?_ _
      clear hK K c5 v5
      go_wp2_with fail
      go_meet
      exact ⟨_, _, KD.out.1, KD.out.2.1⟩
     ·have c5 : wd.cell? ⟨G, 5, none⟩ = some (.slice f27.ka zz3.ks.length f27.kc) := XD.out.cell 5
      have v5 := XD.out.free 5
      go_simp
      refine hK.out _ _ (fun _ => trivial) (fun _ => ?_)
      clear hK K c5 v5
      obtain ⟨u0, v0, u1, v1, u2, v2, u3, v3, u4, v4, u5, v5⟩ := zcB (p := ⟨G, 5, none⟩) ZC.out HGN.out (.slice (some ⟨gv, 0, none⟩) (zz3.ks.length + 1) cv)
      have KD2 := Lib.hid (show Box (kidW (wd.setCell ⟨G, 5, none⟩ (.slice (some ⟨gv, 0, none⟩) (zz3.ks.length + 1) cv)) gv (zz3.ks.length * 6) y fy) G (w.heap.size + 1) (zz3.add y) _ _ ∧ St w (kidW (wd.setCell ⟨G, 5, none⟩ (.slice (some ⟨gv, 0, none⟩) (zz3.ks.length + 1) cv)) gv (zz3.ks.length * 6) y fy) R g c T s4 from by rw [kid_comm _ HGN.out]; exact ⟨KD.out.1, KD.out.2.1⟩)
      clear KD
      generalize wd.setCell ⟨G, 5, none⟩ (.slice (some ⟨gv, 0, none⟩) (zz3.ks.length + 1) cv) = wk at *
      (try simp only [Act.put, sZ])
      refine stp 8 rfl (fun K hK => ?_)
      go_simp
      refine hK.out _ _ (fun _ => trivial) (fun _ => ?_)
      refine anyZ_done (by kernel_rfl) ?_ _
      clear hK K u0 u1 u2 u3 u4 u5 v0 v1 v2 v3 v4 v5
      go_wp2_with fail
      go_meet
      exact ⟨_, _, KD2.out.1, KD2.out.2⟩
   case rest =>
    obtain ⟨f32, fs32, hbx, hlo⟩ := hcut
    have B_G32 := Lib.hid hbx
    have H32 := Lib.hid hlo
    clear hbx hlo C32 B_G31 H31
    obtain ⟨zz4, h_zz4⟩ : ∃ z9, (zz3.add y) = z9 := ⟨_, rfl⟩
    rw [h_zz4] at B_G32
    have Z_zz4 := Lib.hid h_zz4
    clear h_zz4
    have hq : (zz4, s4) = q := by rw [← Z_zz4.out, ← Z_zz3.out]; exact HQ3.out
    subst hq
    clear HQ3 l1
    obtain ⟨t0, t1, t2, t3, t4, t5⟩ := nodeC (B_G32.out.box)
    obtain ⟨z0, z1, z2, z3, z4, z5⟩ := zeroC (H32.out.z)
    obtain ⟨y0, y1, y2, y3, y4, y5⟩ := freeC (H32.out.z)
    go_wp2_with fail
    obtain ⟨wf, HZF, HBF, hwf⟩ := endsN (H32.out.z) zz4 f32
    rw [hwf]
    clear hwf
    obtain ⟨g0, g1, g2, g3, g4, g5⟩ := cells6 HZF.out
    exact bodyPost_ret (v := ndV zz4 f32) (by simp [results, Try.results55, go_sem, ndV, Nd.kd, Nd.tx, Nd.nm, Nd.at_, Nd.ns, Nd.ks, leafN, fr0, nd0, g0, g1, g2, g3, g4, g5]) rfl (H32.out.done B_G32.out.var.node HBF.out)
end Go.Proofs.Ytgjchgmlogbmmaa
/- A name more in a node that is being made; the record's flag. -/
namespace Go.Proofs.Ytgjchgmlogbmmaa
open Go.RowKit
set_option linter.unusedVariables false
set_option linter.unusedSimpArgs false

theorem addNs_ks (x : Nd) (t : List UInt8) : (x.addNs t).ks = x.ks := by cases x; rfl
theorem addNs_ns (x : Nd) (t : List UInt8) : (x.addNs t).ns = x.ns ++ [t] := by cases x; rfl
theorem ndL_addNs (x : Nd) (t : List UInt8) (f : Fr) (A : Option Addr) (cap : Nat) : (ndL x f).toArray.setIfInBounds 4 (.slice A (x.ns.length + 1) cap) = (ndL (x.addNs t) ⟨A, cap, f.ka, f.kc⟩).toArray := by
 cases x
 simp [ndL, Nd.addNs, Nd.ks, Nd.kd, Nd.tx, Nd.nm, Nd.at_, Nd.ns]
theorem Box.appN {w w' : World} {N base g cap : Nat} {x : Nd} {f : Fr} {fs : List Fr} {t : List UInt8} (h : Box w N base x f fs) (hks : x.ks = [])
  (ha : Appended w base 9 1 (.slice f.na x.ns.length f.nc) (x.ns.length + 1) (x.ns.map strV ++ [strV t]) (.slice (some ⟨g, 0, none⟩) (x.ns.length + 1) cap) w') :
  Box (w'.setCell ⟨N, 4, none⟩ (.slice (some ⟨g, 0, none⟩) (x.ns.length + 1) cap)) N base (x.addNs t) ⟨some ⟨g, 0, none⟩, cap, f.ka, f.kc⟩ fs := by
 have hg := ha.2.2 g rfl
 have hgN : g ≠ N := by
  rcases hg with hg | hg
  ·intro e; rw [e] at hg; exact row_ne h.nam h.nN hg
  ·have := h.lt; omega
 have hwN : Whole w' N 25 (ndL x f).toArray := ha.far h.box (row_ne h.nam h.nN)
 obtain ⟨k1, k2⟩ := h.kk hks
 refine ⟨?_, h.lo, ?_, fun e => by rw [addNs_ns] at e; simp at e, by rw [addNs_ks]; exact h.len, ?_, fun k hk hk2 => by rw [addNs_ks, hks] at hk; simp at hk, fun e => ⟨k1, k2⟩, by rw [k1]; simp, (fun e => hgN (congrArg Addr.block (Option.some.inj e))), fun a e => by rw [k1]; simp⟩
 ·have := hwN.put 4 (.slice (some ⟨g, 0, none⟩) (x.ns.length + 1) cap)
  rw [← ndL_addNs]; exact this
 ·rw [addNs_ns]
  have := own_setCell ha.1 (p := ⟨N, 4, none⟩) (by show some g ≠ some N; simpa using hgN) (.slice (some ⟨g, 0, none⟩) (x.ns.length + 1) cap)
  simpa using this
 ·rw [addNs_ks, hks, k1, k2]
  have hf : fs = [] := by have := h.len; rw [hks] at this; exact List.length_eq_zero_iff.1 this
  rw [hf]
  exact World.ownsRow_nil _ _ _ _
theorem cosL_stop {T : List Tok} {r : Rec} : ∀ (f : Nat) (n : Nd) (s : PS), cosL T r f false n s = (n, s)
 | 0, _, _ => rfl
 | f + 1, n, s => by show (if _ then _ else _) = _; rw [if_neg (fun h => by cases h.1)]
end Go.Proofs.Ytgjchgmlogbmmaa
