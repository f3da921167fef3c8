import Derived.Test.YtgjchgmlogbmmaaN6
/- The walks of layer 5, the document's: a pattern. -/
namespace Go.Proofs.Ytgjchgmlogbmmaa
open Go.RowKit
set_option linter.unusedVariables false
set_option linter.unusedSimpArgs false
attribute [local go_sem ↓] Go.wp_at_zero Go.wp_at_succ

theorem patL_ge {T : List Tok} {r : Rec} {n : Nd} {s : PS} {f : Nat} (h1 : ¬ (opF T s [95] [40] [95] = [] ∧ kdF T s ≠ 3 ∧ kdF T s ≠ 1 ∧ kdF T s ≠ 4)) (h2 : n.ks.length = 4) : patL T r (f + 1) n s = (n, failF T s 16) := by
  show (if _ then _ else if _ then _ else _) = _; rw [if_neg h1, if_pos h2]
theorem patL_out {T : List Tok} {r : Rec} {n : Nd} {s : PS} {f : Nat} (h1 : opF T s [95] [40] [95] = [] ∧ kdF T s ≠ 3 ∧ kdF T s ≠ 1 ∧ kdF T s ≠ 4) : patL T r (f + 1) n s = (n, s) := by
  show (if _ then _ else if _ then _ else _) = _; rw [if_pos h1]
theorem patL_in {T : List Tok} {r : Rec} {n : Nd} {s : PS} {f : Nat} (h1 : ¬ (opF T s [95] [40] [95] = [] ∧ kdF T s ≠ 3 ∧ kdF T s ≠ 1 ∧ kdF T s ≠ 4)) (h2 : n.ks.length ≠ 4) : patL T r (f + 1) n s = patL T r f (n.add (patomF T r s).1) (patomF T r s).2 := by
  show (if _ then _ else if _ then _ else _) = _; rw [if_neg h1, if_neg h2]
/-- A constructor's leaf has no names, no kids. -/
theorem patom_con {T : List Tok} {r : Rec} {s : PS} (h : kdF T s = 4) : (patomF T r s).1.ns = [] ∧ (patomF T r s).1.ks = [] := by
  unfold patomF; rw [if_neg (by rw [h]; decide), if_neg (by rw [h]; decide), if_pos h]; exact ⟨rfl, rfl⟩
set_option maxRecDepth 100000 in
set_option maxHeartbeats 8000000 in
theorem pat_any (w : World) (R g c : Nat) (T : List Tok) (r : Rec) (n : Nat) (s : PS) (E : Ends T) (F : Fine T r) (D : Deep R g c T r n) (hp : PAt w R g c T s) (hd : 41 ≤ s.deep + (n + 1)) :
    Calls Try.prog 84 #[.pointer (some ⟨R, 0, none⟩)] w (Gives w R g c T (patF T r s)) := by
  have H0 := Lib.hid (St.start hp)
  have CE := Lib.hid (fun wx (h : PAt wx R g c T s) => enter_any wx R g c T s h)
  have HEI := Lib.hid (fun (h : enterB T s = true) => enter_in hp.lt h)
  have HEL := Lib.hid (fun (h : enterB T s = true) => enter_lt hp.lt h)
  have HD := Lib.hid hd
  obtain ⟨q, hq⟩ : ∃ q, patF T r s = q := ⟨_, rfl⟩
  rw [hq]
  have HQ := Lib.hid hq
  clear hp hd hq
  go_enter Try.func84, Try.ntmps84
  go_upto_region 1 with (fail)
  generalize w.alloc (.cells zZ 25) = w1 at *
  go_wp2_with fail
  refine (CE.out w1 H0.out.p).mono ?_
  rintro e w2 ⟨rfl, h2, b2⟩
  have H2 := Lib.hid (H0.out.call h2 b2)
  clear h2 b2 H0 CE
  by_cases hb : enterB T s = true
  · have hq : ((if decide (kdF T (enterF T s) = 4) = true then patL T r 5 (patomF T r (enterF T s)).1 (patomF T r (enterF T s)).2 else patomF T r (enterF T s)).1, up (if decide (kdF T (enterF T s) = 4) = true then patL T r 5 (patomF T r (enterF T s)).1 (patomF T r (enterF T s)).2 else patomF T r (enterF T s)).2) = q := by rw [← HQ.out]; unfold patF; rw [if_pos hb]
    obtain ⟨a1, a2, a3, _⟩ := HEI.out hb
    have hl := HEL.out hb
    have hd1 : 41 ≤ (enterF T s).deep + n := by have := HD.out; omega
    have GP := Lib.hid (goes_patom (r := r) E F hl)
    have HA := Lib.hid a2
    have HQ2 := Lib.hid hq
    have hb2 : enterB T s = true := hb
    rw [hb2]
    clear HQ HEI HEL hq hb hb2 a1 a3 hl
    generalize enterF T s = s1 at *
    have CK := Lib.hid (kind_any w2 R g c T s1 H2.out.p)
    have CP := Lib.hid (fun wx (h : PAt wx R g c T s1) => patom_any wx R g c T r n s1 E F D h hd1)
    have HNC := Lib.hid (fun (h : kdF T s1 = 4) => patom_con (r := r) h)
    obtain ⟨k, hk⟩ : ∃ k, kdF T s1 = k := ⟨_, rfl⟩
    rw [hk] at CK HNC HQ2
    generalize hx : patomF T r s1 = q1 at *
    have HX := Lib.hid hx
    clear hk hx
    obtain ⟨x, s2⟩ := q1
    dsimp only at CP GP HNC HQ2
    obtain ⟨kb, q4⟩ : ∃ kb, (k == 4) = kb := ⟨_, rfl⟩
    go_wp2_with fail
    refine CK.out.mono ?_
    rintro e w3 ⟨rfl, b3⟩
    have H3 := Lib.hid (H2.out.read b3)
    clear b3 H2 CK
    go_wp2_with fail
    refine (CP.out w3 H3.out.p).mono ?_
    rintro e w4 ⟨f, rfl, h4, n4, b4⟩
    have H4 := Lib.hid ((H3.out.call h4 b4).alloc (.cells zN(x, f) 25))
    have N4 := Lib.hid ((n4.gt H3.out).alloc (.cells zN(x, f) 25))
    have X4 : Hid (Whole (w4.alloc (.cells zN(x, f) 25)) w4.heap.size 25 zN(x, f)) := Whole.made _ _ _
    have S4 : Hid (w.heap.size < w4.heap.size) := (H3.out.call h4 b4).size
    have BXM : Hid (f = fr0 → x.ns = [] → x.ks = [] → Box (w4.alloc (.cells zN(x, f) 25)) w4.heap.size (w.heap.size + 1) x fr0 []) := fun hf h1 h2 => by subst hf; exact Box.made w4 (base := w.heap.size + 1) (x := x) (H3.out.call h4 b4).size h1 h2
    clear h4 n4 b4 CP H3
    unfold ndV
    go_upto_block 0 with (fail)
    generalize w4.alloc (.cells zN(x, f) 25) = w5 at *
    generalize w4.heap.size = G at *
    go_cut [6] (fun _ wx => ∃ z s3 f3, q = (z, up s3) ∧ St w wx R g c T s3 ∧ NodeIn wx (fun a => w.heap.size < a) z f3 ∧ Whole wx G 25 zN(z, f3) ∧ Goes T s1 s3)
    case first =>
      rcases kb with _ | _
      rotate_left
      · have hk : k = 4 := beq_iff_eq.1 q4
        obtain ⟨x1, x2⟩ := HNC.out hk
        have hf : f = fr0 := N4.out.nil x1 x2
        subst hf
        have hq : ((patL T r 5 x s2).1, up (patL T r 5 x s2).2) = q := by rw [← HQ2.out, if_pos (decide_eq_true hk)]
        have BX4 := Lib.hid (BXM.out rfl x1 x2)
        generalize hres : patL T r 5 x s2 = res at *
        have HRES := Lib.hid hres
        have hx0 := Lib.hid (show x.ks.length = 0 by rw [x2]; rfl)
        subst hq
        clear HQ2 HNC hk BXM x1 x2 N4 X4 hres HX
        go_wp2_with fail
        go_loopg [6] 5 (fun gk ks wr => ∃ z s3 f3 fs3, z.ks.length + gk = 5 ∧ z.ks.length ≤ 4 ∧ patL T r gk z s3 = res ∧ Box wr G (w.heap.size + 1) z f3 fs3 ∧ St w wr R g c T s3 ∧ Goes T s1 s3)
        case atStart => exact ⟨x, s2, fr0, [], by have := hx0.out; omega, by have := hx0.out; omega, HRES.out, BX4.out, H4.out, GP.out⟩
        case round =>
          obtain ⟨z, s3, f3, fs3, hz, hz4, hpl, hbx, hst, hgo⟩ := hrel
          obtain ⟨m, rfl⟩ : ∃ m, gk = m + 1 := ⟨gk - 1, by omega⟩
          have BX := Lib.hid hbx
          have HS := Lib.hid hst
          have HGO := Lib.hid hgo
          have CK3 := Lib.hid (kind_any wr R g c T s3 hst.p)
          have CO := Lib.hid (fun wx (h : PAt wx R g c T s3) => op_any wx R g c T s3 [95] [40] [95] h)
          have CP3 := Lib.hid (fun wx (h : PAt wx R g c T s3) => patom_any wx R g c T r n s3 E F D h (by rw [hgo.deep]; exact hd1))
          have GP3 := Lib.hid (goes_patom (r := r) E F hgo.lt)
          have P1 := Lib.hid (fun h => patL_out (T := T) (r := r) (n := z) (s := s3) (f := m) h)
          have P2 := Lib.hid (fun h1 h2 => patL_ge (T := T) (r := r) (n := z) (s := s3) (f := m) h1 h2)
          have P3 := Lib.hid (fun h1 h2 => patL_in (T := T) (r := r) (n := z) (s := s3) (f := m) h1 h2)
          have HPL := Lib.hid hpl
          clear hbx hst hgo HRES hpl H4 BX4
          generalize kdF T s3 = k3 at *
          generalize opF T s3 [95] [40] [95] = o at *
          generalize patomF T r s3 = q3 at *
          obtain ⟨y, s4⟩ := q3
          dsimp only at CP3 GP3 P3
          go_wp2_with fail
          refine CK3.out.mono ?_
          rintro e w6 ⟨rfl, b6⟩
          have H6 := Lib.hid (HS.out.read b6)
          have BX6 := Lib.hid (BX.out.below b6 (Nat.le_refl _))
          clear b6 CK3 HS BX
          go_wp2_with fail
          refine (CO.out w6 H6.out.p).mono ?_
          rintro e w7 ⟨rfl, b7⟩
          have H7 := Lib.hid (H6.out.read b7)
          have BX7 := Lib.hid (BX6.out.below b7 (Nat.le_refl _))
          clear b7 CO H6 BX6
          obtain ⟨bo, hbo⟩ : ∃ bo, decide (o = [] ∧ k3 ≠ 3 ∧ k3 ≠ 1 ∧ k3 ≠ 4) = bo := ⟨_, rfl⟩
          have HBO := Lib.hid hbo
          clear hbo
          go_upto_region 9 with (fail)
          go_cut [36] (fun t wx => t = .bool bo ∧ w7 = wx)
          case first =>
            rcases o with _ | ⟨a, o⟩
            · by_cases h3 : k3 = 3
              · subst h3
                have hbb : false = bo := by rw [← HBO.out]; exact (decide_eq_false (fun h => h.2.1 rfl)).symm
                subst hbb
                go_wp2_with fail
                go_meet
                exact ⟨rfl, rfl⟩
              · have n3 : (k3 != 3) = true := bne_iff_ne.2 h3
                by_cases h1 : k3 = 1
                · subst h1
                  have hbb : false = bo := by rw [← HBO.out]; exact (decide_eq_false (fun h => h.2.2.1 rfl)).symm
                  subst hbb
                  go_wp2_with fail
                  go_meet
                  exact ⟨rfl, rfl⟩
                · have n1 : (k3 != 1) = true := bne_iff_ne.2 h1
                  by_cases h4 : k3 = 4
                  · subst h4
                    have hbb : false = bo := by rw [← HBO.out]; exact (decide_eq_false (fun h => h.2.2.2 rfl)).symm
                    subst hbb
                    go_wp2_with fail
                    go_meet
                    exact ⟨rfl, rfl⟩
                  · have n4 : (k3 != 4) = true := bne_iff_ne.2 h4
                    have hbb : true = bo := by rw [← HBO.out]; exact (decide_eq_true ⟨rfl, h3, h1, h4⟩).symm
                    subst hbb
                    clear h3 h1 h4 HBO
                    go_wp2_with fail
                    go_meet
                    exact ⟨rfl, rfl⟩
            · have hbb : false = bo := by rw [← HBO.out]; exact (decide_eq_false (fun h => by cases h.1)).symm
              subst hbb
              clear HBO
              go_wp2_with fail
              go_meet
              exact ⟨rfl, rfl⟩
          case rest =>
            obtain ⟨rfl, rfl⟩ := hcut
            by_cases hout : (o = [] ∧ k3 ≠ 3 ∧ k3 ≠ 1 ∧ k3 ≠ 4)
            · have hr := (P1.out hout).symm.trans HPL.out
              subst hr
              have hbb : true = bo := by rw [← HBO.out]; exact (decide_eq_true hout).symm
              subst hbb
              clear HBO hout P1 P2 P3 HPL
              go_wp2_with fail
              go_meet
              exact ⟨z, s3, f3, rfl, H7.out, BX7.out.node.mono (fun a ha _ => by omega), BX7.out.box, HGO.out⟩
            · have hbb : false = bo := by rw [← HBO.out]; exact (decide_eq_false hout).symm
              subst hbb
              clear HBO
              have c5 := BX7.out.c5
              by_cases h4 : z.ks.length = 4
              · have q5 : ((z.ks.length : Int) == 4) = true := beq_iff_eq.2 (by omega)
                have hr := (P2.out hout h4).symm.trans HPL.out
                subst hr
                clear hout P1 P2 P3 HPL h4
                go_wp2_with fail
                refine (fail_any w7 R g c T s3 16 H7.out.p).mono ?_
                rintro e w8 ⟨rfl, h8, b8⟩
                have H8 := Lib.hid (H7.out.call h8 b8)
                have BX8 := Lib.hid (BX7.out.but b8 (Nat.le_refl _) (by have := H7.out.r; omega))
                clear h8 b8
                go_wp2_with fail
                go_meet
                exact ⟨z, failF T s3 16, f3, rfl, H8.out, BX8.out.node.mono (fun a ha _ => by omega), BX8.out.box, HGO.out.fail 16⟩
              · have q5 : ((z.ks.length : Int) == 4) = false := beq_eq_false_iff_ne.2 (by omega)
                have HPN := Lib.hid ((P3.out hout h4).symm.trans HPL.out)
                have HG2 := Lib.hid (HGO.out.trans GP3.out)
                clear hout P1 P2 P3 HPL HGO
                go_upto_region 12 with (fail)
                clear c5
                refine region_Z (fun W => W.cell? ⟨G, 5, none⟩ = some (.slice f3.ka z.ks.length f3.kc)) (fun i => i == 7) (by kernel_rfl) BX7.out.drew.c5 (fun hHeld => ?_)
                ztake 0 8
                ztake 1 8
                ztake 2 8
                zstep 3
                go_simp
                go_at_call 85
                refine (CP3.out _ H7.out.drew.p).mono ?_
                rintro e wc ⟨fy, rfl, hpc, ny, bc⟩
                have HC := Lib.hid (H7.out.drew.call hpc bc)
                have BC := Lib.hid (BX7.out.drew.but bc (Nat.le_refl _) (by have := H7.out.r; omega))
                have NY : Hid (NodeIn wc (fun a => w7.heap.size ≤ a) y fy) := ny
                clear hpc ny bc
                unfold ndV
                refine hK.out _ _ (fun _ => BC.out.c5) (fun hHeld2 => ?_)
                clear hK K hHeld
                zput
                zstep 4
                go_simp
                refine hK.out _ _ (fun _ => (BC.out.alloc _).c5) (fun hHeld3 => ?_)
                clear hK K hHeld2
                zput
                zstep 5
                refine step_app ty_nd (v := .slice f3.ka z.ks.length f3.kc) (by rfl) _ _ (by rfl) (by rfl) (BC.out.alloc _).kid wc.heap.size 1 (ndL y fy) (by rfl) (Whole.made wc 25 _) (by rfl) (by simp [ndL, Value.oneCell']) (by decide) (by omega) (by decide) (by have := HC.out.size; simp; omega) ?_
                intro gv cv wd hap
                have HD := Lib.hid ((HC.out.alloc (.cells (ndL y fy).toArray 25)).low (hap.below (BC.out.alloc (.cells (ndL y fy).toArray 25)).kid (Below.refl _ _) (Nat.le_refl _) (by have := HC.out.size; simp; omega)))
                have BN0 := Lib.hid ((BC.out.alloc (.cells (ndL y fy).toArray 25)).app (B := w7.heap.size) BX7.out.lt BX7.out.nlt BX7.out.klt (NY.out.alloc _) hap)
                have XD := Lib.hid (hap.far (BC.out.alloc (.cells (ndL y fy).toArray 25)).box (row_ne (BC.out.alloc (.cells (ndL y fy).toArray 25)).kid BC.out.kN))
                have z5 : wd.cell? ⟨G, 5, none⟩ = some (.slice f3.ka z.ks.length f3.kc) := XD.out.cell 5
                have y5 := XD.out.free 5
                refine hK.out _ _ (fun _ => z5) (fun hHeld4 => ?_)
                replace hHeld4 := hHeld4 (by decide)
                clear hK K hHeld3 hap
                zput
                ztake 6 8
                zstep 7
                go_simp
                zgoz
                zdone
                have HN := Lib.hid (HD.out.own (p := ⟨G, 5, none⟩) (Nat.lt_of_succ_le BX7.out.lo) (.slice (some ⟨gv, 0, none⟩) (z.ks.length + 1) cv))
                obtain ⟨f2, fs2, BN1⟩ : ∃ f2 fs2, Box (wd.setCell ⟨G, 5, none⟩ (.slice (some ⟨gv, 0, none⟩) (z.ks.length + 1) cv)) G (w.heap.size + 1) (z.add y) f2 fs2 := ⟨_, _, BN0.out⟩
                have BN := Lib.hid BN1
                clear hK K hHeld4 z5 y5 XD BN0 BN1 HD BC HC NY
                generalize wd.setCell ⟨G, 5, none⟩ (.slice (some ⟨gv, 0, none⟩) (z.ks.length + 1) cv) = wf at *
                go_wp2_with fail
                go_roundg m
                case measure => exact Nat.lt_succ_self _
                case rel => exact ⟨z.add y, s4, f2, fs2, by rw [add_ks]; simp; omega, by rw [add_ks]; simp; omega, HPN.out, BN.out, HN.out, HG2.out⟩
      · have hk : k ≠ 4 := beq_eq_false_iff_ne.1 q4
        have hq : (x, up s2) = q := by rw [← HQ2.out, if_neg (by rw [decide_eq_true_eq]; exact hk)]
        subst hq
        clear HQ2 HNC hk BXM
        go_wp2_with fail
        go_loopg [6] 1 (fun gk ks wr => w5 = wr)
        case atStart => exact rfl
        case round =>
          have hw := hrel
          subst hw
          go_wp2_with fail
          go_meet
          exact ⟨x, s2, f, rfl, H4.out, N4.out, X4.out, GP.out⟩
    case rest =>
      obtain ⟨z, s3, f3, hq, h5, n5, x5, g5⟩ := hcut
      subst hq
      have H5 := Lib.hid h5
      have N5 := Lib.hid n5
      have X5 := Lib.hid x5
      have HGO := Lib.hid g5
      clear HQ2 HNC h5 n5 x5 g5 H4 N4 X4 BXM
      have c2 := H5.out.p.c2
      have f2 := H5.out.p.free 2
      have d3 : s3.deep = s.deep + 1 := by rw [HGO.out.deep]; exact HA.out
      have d4 : (s3.deep : Int) - 1 = (s.deep : Int) := by omega
      have d5 : s3.deep - 1 = s.deep := by omega
      have d6 : (s3.deep : Int) ≤ 40 := by have := H5.out.p.deep; omega
      have HU : Hid (up s3 = { s3 with deep := s.deep }) := by show _ = _; unfold up; rw [d5]
      clear d5 d3
      go_upto_region 14 with (fail)
      have H6 : Hid (St w (wc.setCell ⟨R, 2, none⟩ (.int .i64 (s.deep : Int))) R g c T (up s3)) := by
        show St _ _ _ _ _ _ _
        rw [HU.out]
        exact H5.out.upd (s' := { s3 with deep := s.deep }) 2 _ rfl H5.out.p.lt (by show s.deep ≤ 40; omega)
      have N6 := Lib.hid (N5.out.upd H5.out 2 (.int .i64 (s.deep : Int)))
      have X6 := Lib.hid (X5.out.updR H5.out S4.out 2 (.int .i64 (s.deep : Int)))
      clear c2 f2 H5 N5 X5
      generalize wc.setCell ⟨R, 2, none⟩ (.int .i64 (s.deep : Int)) = w6 at *
      have t0 : w6.cell? ⟨G, 0, none⟩ = some (.int .i64 z.kd) := X6.out.cell 0
      have t1 : w6.cell? ⟨G, 1, none⟩ = some (.string ⟨z.tx.toArray⟩) := X6.out.cell 1
      have t2 : w6.cell? ⟨G, 2, none⟩ = some (.int .i64 z.nm) := X6.out.cell 2
      have t3 : w6.cell? ⟨G, 3, none⟩ = some (.int .i64 (z.at_ : Int)) := X6.out.cell 3
      have t4 : w6.cell? ⟨G, 4, none⟩ = some (.slice f3.na z.ns.length f3.nc) := X6.out.cell 4
      have t5 : w6.cell? ⟨G, 5, none⟩ = some (.slice f3.ka z.ks.length f3.kc) := X6.out.cell 5
      zzero w6 (w.heap.size) (H6.out.z)
      zfree (H6.out.z)
      go_wp2_with fail
      have HZF : Hid (Whole (zP(w6, w.heap.size, z, f3)) w.heap.size 25 zN(z, f3)) := put6 H6.out.z _ _ _ _ _ _
      have HBF : Hid (But w.heap.size w6.heap.size w6 (zP(w6, w.heap.size, z, f3))) := but6 _ _ _ _ _ _ _ _
      generalize (zP(w6, w.heap.size, z, f3)) = wf at *
      gcells
      exact bodyPost_ret (v := ndV z f3) (by simp [results, Try.results84, go_sem, ndV, Nd.kd, Nd.tx, Nd.nm, Nd.at_, Nd.ns, Nd.ks, leafN, fr0, nd0, g0, g1, g2, g3, g4, g5]) rfl (H6.out.done N6.out HBF.out)

  · have hq : (nd0, enterF T s) = q := by rw [← HQ.out]; unfold patF; rw [if_neg hb]
    subst hq
    have hb2 : enterB T s = false := by cases h : enterB T s <;> simp_all
    rw [hb2]
    clear HQ HEI HEL hb hb2
    zzero w2 (w.heap.size) (H2.out.z)
    zfree (H2.out.z)
    go_wp2_with fail
    have HZF : Hid (Whole (zP0(w2, w.heap.size)) w.heap.size 25 zZ) := put6 H2.out.z _ _ _ _ _ _
    have HBF : Hid (But w.heap.size w2.heap.size w2 (zP0(w2, w.heap.size))) := but6 _ _ _ _ _ _ _ _
    generalize (zP0(w2, w.heap.size)) = wf at *
    gcells
    exact bodyPost_ret (v := ndV nd0 fr0) (by simp [results, Try.results84, go_sem, ndV, Nd.kd, Nd.tx, Nd.nm, Nd.at_, Nd.ns, Nd.ks, leafN, fr0, nd0, g0, g1, g2, g3, g4, g5]) rfl (H2.out.done (x := nd0) (f := fr0) (.leaf _ _ rfl rfl) HBF.out)
end Go.Proofs.Ytgjchgmlogbmmaa
/- Rows of nodes: a node that is laid into a place that was made for it; two kids; the contracts with their answers named. -/
namespace Go.Proofs.Ytgjchgmlogbmmaa
open Go.RowKit
set_option linter.unusedVariables false
set_option linter.unusedSimpArgs false

theorem set_comm (w : World) {p q : Addr} (h : p.block ≠ q.block) (u v : Value) : (w.setCell p u).setCell q v = (w.setCell q v).setCell p u := by
  simp only [World.setCell, World.mk.injEq, and_true]
  apply Array.ext
  · simp
  · intro i h1 h2
    simp only [Array.getElem_modify]
    split <;> split <;> simp_all
theorem own_set1 {w : World} {base : Nat} {e : TypeId} {size n c g : Nat} {xs : List Value} (ho : w.ownsRow base e size (.slice (some ⟨g, 0, none⟩) n c) n xs) (i : Nat) (u : Value) :
    (w.setCell ⟨g, i, none⟩ u).ownsRow base e size (.slice (some ⟨g, 0, none⟩) n c) n (xs.set i u) := by
  refine ⟨by rw [List.length_set]; exact ho.1, ?_⟩
  rcases ho.2 with ⟨e1, _⟩ | ⟨g', c', cur, e1, hb, hh, hn, hc, hs, ht⟩
  · cases e1
  · simp only [Value.slice.injEq] at e1
    have eg : g = g' := by have := e1.1; simpa using this
    subst eg
    have ec := e1.2.2
    subst ec
    refine .inr ⟨g, c, cur.setIfInBounds i u, rfl, hb, by simp [World.setCell, Array.getElem?_modify, hh], hn, hc, by simpa using hs, ?_⟩
    rw [← ht, Array.toList_setIfInBounds, List.take_set]
theorem Appended.put {w w' : World} {base : Nat} {e : TypeId} {size n c g : Nat} {v : Value} {xs : List Value} (h : Appended w base e size v n xs (.slice (some ⟨g, 0, none⟩) n c) w') (i : Nat) (u : Value) :
    Appended w base e size v n (xs.set i u) (.slice (some ⟨g, 0, none⟩) n c) (w'.setCell ⟨g, i, none⟩ u) := by
  refine ⟨own_set1 h.1 i u, ?_, h.2.2⟩
  have hg := h.2.2 g rfl
  refine ⟨h.2.1.os, h.2.1.tape, h.2.1.output, by simp [World.setCell]; exact h.2.1.size, fun k hk hn => ?_⟩
  rw [Below.heap_setCell w' ⟨g, i, none⟩ u k (by
    show k ≠ g
    rintro rfl
    rcases hg with hg | hg
    · exact hn hg.symm
    · omega)]
  exact h.2.1.block k hk hn
theorem set6 (L : List Value) (a0 a1 a2 a3 a4 a5 v0 v1 v2 v3 v4 v5 : Value) (n : Nat) (h : L.length = n) :
    ((((((L ++ [a0, a1, a2, a3, a4, a5]).set n v0).set (n + 1) v1).set (n + 2) v2).set (n + 3) v3).set (n + 4) v4).set (n + 5) v5 = L ++ [v0, v1, v2, v3, v4, v5] := by
  subst h
  simp
/-- The kid is laid into the place made for it. -/
theorem Appended.kid {w w' : World} {base : Nat} {v : Value} {m c g N : Nat} {L : List Value} {y : Nd} {fy : Fr} (h : Appended w base 25 6 v m (L ++ [.int .i64 0, .string ⟨#[]⟩, .int .i64 0, .int .i64 0, .slice none 0 0, .slice none 0 0]) (.slice (some ⟨g, 0, none⟩) m c) w') (hl : L.length = N) :
    Appended w base 25 6 v m (L ++ ndL y fy) (.slice (some ⟨g, 0, none⟩) m c)
      ((((((w'.setCell ⟨g, N, none⟩ (.int .i64 y.kd)).setCell ⟨g, N + 1, none⟩ (.string ⟨y.tx.toArray⟩)).setCell ⟨g, N + 2, none⟩ (.int .i64 y.nm)).setCell ⟨g, N + 3, none⟩ (.int .i64 (y.at_ : Int))).setCell ⟨g, N + 4, none⟩ (.slice fy.na y.ns.length fy.nc)).setCell ⟨g, N + 5, none⟩ (.slice fy.ka y.ks.length fy.kc)) := by
  have h2 := (((((h.put N (.int .i64 y.kd)).put (N + 1) (.string ⟨y.tx.toArray⟩)).put (N + 2) (.int .i64 y.nm)).put (N + 3) (.int .i64 (y.at_ : Int))).put (N + 4) (.slice fy.na y.ns.length fy.nc)).put (N + 5) (.slice fy.ka y.ks.length fy.kc)
  rw [set6 _ _ _ _ _ _ _ _ _ _ _ _ _ N hl] at h2
  exact h2
theorem NodeIn.pair {w : World} {b : Nat → Prop} {x y : Nd} {f fy : Fr} {B : Nat} (kd : Int) (o : List UInt8) (at_ : Nat) (hB : Whole w B 25 (ndL x f ++ ndL y fy).toArray) (hb : b B)
    (nx : NodeIn w (fun a => b a ∧ a ≠ B) x f) (ny : NodeIn w (fun a => b a ∧ a ≠ B) y fy) : NodeIn w b (.mk kd o 0 at_ [] [x, y]) ⟨none, 0, some ⟨B, 0, none⟩, 2⟩ := by
  refine .mk (fun _ => ⟨rfl, rfl⟩) (fun h => absurd rfl h) (fun h => by cases h) B (fun k => if k = 0 then f else fy) (fun _ => ⟨rfl, hb, hB.lt⟩) (fun k h j v hv => ?_) (fun k h => ?_)
  · have hk : k = 0 ∨ k = 1 := by
      have : k < 2 := h
      omega
    have hj : j < 6 := by
      have := (List.getElem?_eq_some_iff.1 hv).1
      rw [ndL_len] at this; exact this
    rw [hB.cell]
    rcases hk with rfl | rfl
    · rw [List.getElem?_toArray, List.getElem?_append_left (by rw [ndL_len]; omega)]
      simpa [Nd.ks] using hv
    · rw [List.getElem?_toArray, List.getElem?_append_right (by rw [ndL_len]; omega), ndL_len, show 1 * 6 + j - 6 = j by omega]
      simpa [Nd.ks] using hv
  · have hk : k = 0 ∨ k = 1 := by
      have : k < 2 := h
      omega
    rcases hk with rfl | rfl
    · exact nx
    · exact ny
section
variable {P : Program} {F : Nat} {ar : Array Value} {w : World} {R g c : Nat} {T : List Tok} {s s' : PS}
theorem gives_eq {q : Nd × PS} {x : Nd} (h : q = (x, s')) (C : Calls P F ar w (Gives w R g c T q)) : Calls P F ar w (Gives w R g c T (x, s')) := h ▸ C
theorem kind_eq {k : Int} (h : kdF T s = k) (hp : PAt w R g c T s) : Calls Try.prog 40 #[.pointer (some ⟨R, 0, none⟩)] w fun e w' => e = .returned (.int .i64 k) ∧ Below w.heap.size w w' := h ▸ kind_any w R g c T s hp
theorem at_eq {k : Nat} (h : atF T s = k) (hp : PAt w R g c T s) : Calls Try.prog 34 #[.pointer (some ⟨R, 0, none⟩)] w fun e w' => e = .returned (.int .i64 (k : Int)) ∧ Below w.heap.size w w' := h ▸ at_any w R g c T s hp
theorem is_eq {x : List UInt8} {b : Bool} (h : isF T s x = b) (hp : PAt w R g c T s) : Calls Try.prog 35 #[.pointer (some ⟨R, 0, none⟩), .string ⟨x.toArray⟩] w fun e w' => e = .returned (.bool b) ∧ Below w.heap.size w w' := h ▸ is_any w R g c T s x hp
theorem fail_eq {k : Int} (h : failF T s k = s') (hp : PAt w R g c T s) : Calls Try.prog 36 #[.pointer (some ⟨R, 0, none⟩), .int .i64 k] w fun e w' => e = .returned (.tuple #[]) ∧ PAt w' R g c T s' ∧ But R w.heap.size w w' := h ▸ fail_any w R g c T s k hp
theorem step_eq {t : Tok} (E : Ends T) (ht : stepT T s = t) (h : stepF T s = s') (hp : PAt w R g c T s) : Calls Try.prog 50 #[.pointer (some ⟨R, 0, none⟩)] w fun e w' => e = .returned (tokV t) ∧ PAt w' R g c T s' ∧ But R w.heap.size w w' := ht ▸ h ▸ step_any w R g c T s E hp
theorem want_eq {x : List UInt8} (E : Ends T) (h : wantF T s x = s') (hp : PAt w R g c T s) : Calls Try.prog 38 #[.pointer (some ⟨R, 0, none⟩), .string ⟨x.toArray⟩] w fun e w' => e = .returned (.tuple #[]) ∧ PAt w' R g c T s' ∧ But R w.heap.size w w' := h ▸ want_any w R g c T s x E hp
theorem text_eq {k : Int} {t : List UInt8} (E : Ends T) (ht : textT T s k = t) (h : textF T s k = s') (hp : PAt w R g c T s) : Calls Try.prog 51 #[.pointer (some ⟨R, 0, none⟩), .int .i64 k] w fun e w' => e = .returned (.string ⟨t.toArray⟩) ∧ PAt w' R g c T s' ∧ But R w.heap.size w w' := ht ▸ h ▸ text_any w R g c T s k E hp
theorem enter_eq {b : Bool} (hb : enterB T s = b) (h : enterF T s = s') (hp : PAt w R g c T s) : Calls Try.prog 54 #[.pointer (some ⟨R, 0, none⟩)] w fun e w' => e = .returned (.bool b) ∧ PAt w' R g c T s' ∧ But R w.heap.size w w' := hb ▸ h ▸ enter_any w R g c T s hp
theorem op_eq {x y z o : List UInt8} (h : opF T s x y z = o) (hp : PAt w R g c T s) : Calls Try.prog 76 #[.pointer (some ⟨R, 0, none⟩), .string ⟨x.toArray⟩, .string ⟨y.toArray⟩, .string ⟨z.toArray⟩] w fun e w' => e = .returned (.string ⟨o.toArray⟩) ∧ Below w.heap.size w w' := h ▸ op_any w R g c T s x y z hp
theorem begins_eq {b : Bool} (h : beginsF T s = b) (hp : PAt w R g c T s) : Calls Try.prog 81 #[.pointer (some ⟨R, 0, none⟩)] w fun e w' => e = .returned (.bool b) ∧ Below w.heap.size w w' := h ▸ begins_any w R g c T s hp
end
end Go.Proofs.Ytgjchgmlogbmmaa
/- Kids of the call's own: a copy of a row of nodes, whose places are filled anew. -/
namespace Go.Proofs.Ytgjchgmlogbmmaa
open Go.RowKit
set_option linter.unusedVariables false
set_option linter.unusedSimpArgs false
attribute [local go_sem ↓] Go.wp_at_zero Go.wp_at_succ

theorem flatL_inv : ∀ (xs : List Nd) (fs : List Fr) (j : Nat) (v : Value), (flatL xs fs)[j]? = some v → ∃ (h : j / 6 < xs.length) (h2 : j / 6 < fs.length), (ndL xs[j / 6] fs[j / 6])[j % 6]? = some v
  | [], fs, j, v, h => by simp [flatL] at h
  | x :: xs, [], j, v, h => by simp [flatL] at h
  | x :: xs, f :: fs, j, v, h => by
    rw [flatL] at h
    by_cases hj : j < 6
    · rw [List.getElem?_append_left (by rw [ndL_len]; exact hj)] at h
      have e1 : j / 6 = 0 := by omega
      have e2 : j % 6 = j := by omega
      refine ⟨by rw [e1]; simp, by rw [e1]; simp, ?_⟩
      simp only [e1, e2, List.getElem_cons_zero]; exact h
    · rw [List.getElem?_append_right (by rw [ndL_len]; omega), ndL_len] at h
      obtain ⟨h1, h2, h3⟩ := flatL_inv xs fs (j - 6) v h
      have e1 : j / 6 = (j - 6) / 6 + 1 := by omega
      have e2 : j % 6 = (j - 6) % 6 := by omega
      refine ⟨by rw [e1]; simpa using h1, by rw [e1]; simpa using h2, ?_⟩
      simp only [e1, e2, List.getElem_cons_succ]; exact h3
theorem flatL_set : ∀ (xs : List Nd) (fs : List Fr) (i : Nat) (y : Nd) (f : Fr), fs.length = xs.length → i < xs.length →
    ((((((flatL xs fs).set (i * 6) (.int .i64 y.kd)).set (i * 6 + 1) (.string ⟨y.tx.toArray⟩)).set (i * 6 + 2) (.int .i64 y.nm)).set (i * 6 + 3) (.int .i64 (y.at_ : Int))).set (i * 6 + 4) (.slice f.na y.ns.length f.nc)).set (i * 6 + 5) (.slice f.ka y.ks.length f.kc) = flatL (xs.set i y) (fs.set i f)
  | [], fs, i, y, f, _, h => by simp at h
  | x :: xs, [], i, y, f, h, _ => by simp at h
  | x :: xs, g :: fs, 0, y, f, _, _ => by
    simp [flatL, ndL]
  | x :: xs, g :: fs, i + 1, y, f, h, h2 => by
    have ih := flatL_set xs fs i y f (by simpa using h) (by simpa using h2)
    rw [flatL]
    have e : ∀ k, (i + 1) * 6 + k = 6 + (i * 6 + k) := fun k => by omega
    have e0 : (i + 1) * 6 = 6 + i * 6 := by omega
    have st : ∀ (L : List Value) (k : Nat) (v : Value), (ndL x g ++ L).set (6 + k) v = ndL x g ++ L.set k v := fun L k v => by
      rw [List.set_append_right _ _ (by rw [ndL_len]; omega), ndL_len]; congr 2; omega
    rw [e0]
    rw [show ∀ k, 6 + i * 6 + k = 6 + (i * 6 + k) from fun k => by omega] at *
    simp only [Nat.add_assoc]
    rw [st, st, st, st, st, st, ih]
    rfl
/-- Kids of the call's own, the blocks of what stands in them among B. -/
structure KRow (w : World) (base : Nat) (B : Nat → Prop) (ys : List Nd) (A : Option Addr) (c : Nat) : Prop where
  nil : ys = [] → A = none ∧ c = 0
  row : ys ≠ [] → ∃ g fs, A = some ⟨g, 0, none⟩ ∧ base ≤ g ∧ w.ownsRow base 25 6 (.slice (some ⟨g, 0, none⟩) ys.length c) ys.length (flatL ys fs) ∧ fs.length = ys.length ∧ ∀ k (h : k < ys.length) (h2 : k < fs.length), NodeIn w (fun a => B a ∧ a ≠ g) ys[k] fs[k]
section
variable {w w' : World} {base : Nat} {B : Nat → Prop} {ys : List Nd} {A : Option Addr} {c : Nat}
theorem KRow.frame (h : KRow w base B ys A c) (hs : w.heap.size ≤ w'.heap.size) (hb : ∀ a, a < w.heap.size → base ≤ a ∨ B a → w'.heap[a]? = w.heap[a]?) : KRow w' base B ys A c := by
  refine ⟨h.nil, fun hn => ?_⟩
  obtain ⟨g, fs, e, hg, ho, hl, hsb⟩ := h.row hn
  exact ⟨g, fs, e, hg, own_of_block ho fun a ha => hb a (ho.lt a ha).2 (.inl (ho.lt a ha).1), hl, fun k h1 h2 => (hsb k h1 h2).frame hs fun a ha hlt => hb a hlt (.inr ha.1)⟩
theorem KRow.below {H : Nat} (h : KRow w base B ys A c) (hb : Below H w w') (hH : w.heap.size ≤ H) : KRow w' base B ys A c := h.frame hb.size fun a hl _ => hb.block a (Nat.lt_of_lt_of_le hl hH)
/-- A kid of it. -/
theorem KRow.at_ (h : KRow w base B ys A c) {k : Nat} {y : Nd} (e : ys[k]? = some y) : ∃ g fy, A = some ⟨g, 0, none⟩ ∧ base ≤ g ∧ g < w.heap.size ∧ ndCells w g k y fy ∧ NodeIn w (fun a => B a ∧ a ≠ g) y fy ∧ ∀ j, j < 6 → w.frozen? ⟨g, k * 6 + j, none⟩ = false := by
  have hk := (List.getElem?_eq_some_iff.1 e).1
  have hy : ys[k] = y := (List.getElem?_eq_some_iff.1 e).2
  obtain ⟨g, fs, ea, hg, ho, hl, hsb⟩ := h.row (fun e => by rw [e] at hk; simp at hk)
  have hf : k < fs.length := by omega
  have hc : ∀ j, j < 6 → w.cell? ⟨g, k * 6 + j, none⟩ = (flatL ys fs)[k * 6 + j]? ∧ w.frozen? ⟨g, k * 6 + j, none⟩ = false := fun j hj => by
    obtain ⟨g', c', e', _, _, hcell, hfr⟩ := own_cell ho (k := k * 6 + j) (by omega)
    simp only [Value.slice.injEq] at e'
    have eg : g = g' := by have := e'.1; simpa using this
    subst eg
    exact ⟨hcell, hfr⟩
  have hv : ∀ j v, (ndL y fs[k])[j]? = some v → j < 6 → w.cell? ⟨g, k * 6 + j, none⟩ = some v := fun j v h1 hj => by
    rw [(hc j hj).1]
    exact flatL_get ys fs k hk hf j v (by rw [hy]; exact h1)
  have hn := hsb k hk hf
  rw [hy] at hn
  exact ⟨g, fs[k], ea, hg, (ho.lt g rfl).2, ⟨hv 0 _ rfl (by omega), hv 1 _ rfl (by omega), hv 2 _ rfl (by omega), hv 3 _ rfl (by omega), hv 4 _ rfl (by omega), hv 5 _ rfl (by omega)⟩, hn, fun j hj => (hc j hj).2⟩
/-- A place of it is filled anew. -/
theorem KRow.put {g : Nat} (h : KRow w base B ys (some ⟨g, 0, none⟩) c) {i : Nat} (hi : i < ys.length) {y : Nd} {f : Fr} (hn : NodeIn w (fun a => B a ∧ a ≠ g) y f) :
    KRow ((((((w.setCell ⟨g, i * 6, none⟩ (.int .i64 y.kd)).setCell ⟨g, i * 6 + 1, none⟩ (.string ⟨y.tx.toArray⟩)).setCell ⟨g, i * 6 + 2, none⟩ (.int .i64 y.nm)).setCell ⟨g, i * 6 + 3, none⟩ (.int .i64 (y.at_ : Int))).setCell ⟨g, i * 6 + 4, none⟩ (.slice f.na y.ns.length f.nc)).setCell ⟨g, i * 6 + 5, none⟩ (.slice f.ka y.ks.length f.kc)) base B (ys.set i y) (some ⟨g, 0, none⟩) c := by
  have hne : ys ≠ [] := fun e => by rw [e] at hi; simp at hi
  refine ⟨fun e => ?_, fun _ => ?_⟩
  · have := congrArg List.length e
    rw [List.length_set, List.length_nil] at this; omega
  obtain ⟨g', fs, e, hg, ho, hl, hsb⟩ := h.row hne
  have eg : g = g' := by simpa using e
  subst eg
  have hs6 := (own_set1 (own_set1 (own_set1 (own_set1 (own_set1 (own_set1 ho (i * 6) (.int .i64 y.kd)) (i * 6 + 1) (.string ⟨y.tx.toArray⟩)) (i * 6 + 2) (.int .i64 y.nm)) (i * 6 + 3) (.int .i64 (y.at_ : Int))) (i * 6 + 4) (.slice f.na y.ns.length f.nc)) (i * 6 + 5) (.slice f.ka y.ks.length f.kc))
  rw [flatL_set ys fs i y f hl hi] at hs6
  have hfr : ∀ a, a ≠ g → ((((((w.setCell ⟨g, i * 6, none⟩ (.int .i64 y.kd)).setCell ⟨g, i * 6 + 1, none⟩ (.string ⟨y.tx.toArray⟩)).setCell ⟨g, i * 6 + 2, none⟩ (.int .i64 y.nm)).setCell ⟨g, i * 6 + 3, none⟩ (.int .i64 (y.at_ : Int))).setCell ⟨g, i * 6 + 4, none⟩ (.slice f.na y.ns.length f.nc)).setCell ⟨g, i * 6 + 5, none⟩ (.slice f.ka y.ks.length f.kc)).heap[a]? = w.heap[a]? := fun a ha => by
    rw [Below.heap_setCell _ ⟨g, i * 6 + 5, none⟩ _ _ ha, Below.heap_setCell _ ⟨g, i * 6 + 4, none⟩ _ _ ha, Below.heap_setCell _ ⟨g, i * 6 + 3, none⟩ _ _ ha, Below.heap_setCell _ ⟨g, i * 6 + 2, none⟩ _ _ ha, Below.heap_setCell _ ⟨g, i * 6 + 1, none⟩ _ _ ha, Below.heap_setCell _ ⟨g, i * 6, none⟩ _ _ ha]
  refine ⟨g, fs.set i f, rfl, hg, by rw [List.length_set]; exact hs6, by rw [List.length_set, List.length_set]; exact hl, fun k h1 h2 => ?_⟩
  rw [List.length_set] at h1 h2
  rw [List.getElem_set, List.getElem_set]
  by_cases hk : i = k
  · rw [if_pos hk, if_pos hk]
    exact hn.frame (by simp [World.setCell]) fun a ha _ => hfr a ha.2
  · rw [if_neg hk, if_neg hk]
    exact (hsb k h1 h2).frame (by simp [World.setCell]) fun a ha _ => hfr a ha.2
/-- The node with these kids. -/
theorem KRow.node (h : KRow w base B ys A c) {b : Nat → Prop} {x : Nd} {f : Fr} (hn : NodeIn w b x f) (hb : ∀ a, b a → B a) (hB : ∀ a, base ≤ a → B a) : NodeIn w B (.mk x.kd x.tx x.nm x.at_ x.ns ys) ⟨f.na, f.nc, A, c⟩ := by
  cases hn with
  | mk hn0 hn1 hk0 g0 fs0 hk1 hc0 hs0 =>
    by_cases hy : ys = []
    · obtain ⟨rfl, rfl⟩ := h.nil hy
      subst hy
      refine .mk hn0 (fun h => ?_) (fun _ => ⟨rfl, rfl⟩) 0 (fun _ => fr0) (fun e => absurd rfl e) (fun k h => by simp [ks_mk] at h) (fun k h => by simp [ks_mk] at h)
      obtain ⟨g, e1, e2, e3, e4⟩ := hn1 h
      exact ⟨g, e1, hb g e2, e3, e4⟩
    · obtain ⟨g, fs, rfl, hg, ho, hl, hsb⟩ := h.row hy
      refine .mk hn0 (fun h => ?_) (fun e => absurd e hy) g (fun k => fs.getD k fr0) (fun _ => ⟨rfl, hB g hg, (ho.lt g rfl).2⟩) (fun k hk j v hv => ?_) (fun k hk => ?_)
      · obtain ⟨g, e1, e2, e3, e4⟩ := hn1 h
        exact ⟨g, e1, hb g e2, e3, e4⟩
      · have hk' : k < ys.length := hk
        have hf : k < fs.length := by omega
        have hgd : fs.getD k fr0 = fs[k] := by rw [List.getD_eq_getElem?_getD, List.getElem?_eq_getElem hf]; rfl
        rw [hgd] at hv
        have hj : j < 6 := by
          have := (List.getElem?_eq_some_iff.1 hv).1
          rw [ndL_len] at this; exact this
        obtain ⟨g', c', e', _, _, hcell, _⟩ := own_cell ho (k := k * 6 + j) (by omega)
        simp only [Value.slice.injEq] at e'
        have eg : g = g' := by have := e'.1; simpa using this
        subst eg
        rw [hcell]; exact flatL_get ys fs k hk' hf j v hv
      · have hk' : k < ys.length := hk
        have hf : k < fs.length := by omega
        have hgd : fs.getD k fr0 = fs[k] := by rw [List.getD_eq_getElem?_getD, List.getElem?_eq_getElem hf]; rfl
        rw [hgd]
        exact hsb k hk' hf
end
end Go.Proofs.Ytgjchgmlogbmmaa
/- The walks of layer 11: a row of nodes is copied. -/
namespace Go.Proofs.Ytgjchgmlogbmmaa
open Go.RowKit
set_option linter.unusedVariables false
set_option linter.unusedSimpArgs false
attribute [local go_sem ↓] Go.wp_at_zero Go.wp_at_succ

theorem list_copy {t e : TypeId} {size bytes : Nat} (T : ElemTy t e size bytes) {ops : Array Oper} {rest : List Oper} {o : Oper} {a : Act} {Q : Exit → Act → World → Prop} {w : World} (hgd : o.guard = none) (s x : Operand)
    (ho : o.op = .call { callee := .builtin .append, args := #[s, x], argTypes := #[t, t] }) (ad0 : Addr) (hs : a.eval s = .slice (some ad0) 0 0) (ad : Addr) (m c : Nat) (news : List Value) (hx : a.eval x = .slice (some ad) m c)
    (hl : news.length = m * size) (hc : ∀ j u, news[j]? = some u → w.cell? (ad.add j) = some u) (h1 : ∀ u ∈ news, u.oneCell' = true) (hm : 0 < m) (hn : m ≤ 1000000000) (hb : bytes ≤ 1000)
    (h : ∀ g' cap w', w'.ownsRow w.heap.size e size (.slice (some ⟨g', 0, none⟩) m cap) m news → w.grownBy w' none → wpList Try.prog ops Q rest (a.put o.dst (.slice (some ⟨g', 0, none⟩) m cap)) w') : wpList Try.prog ops Q (o :: rest) a w := by
  obtain ⟨i, z, hi, hz, hsz, hby, hzs⟩ := T.info
  refine wpList_append_grows w hgd s x t ho e i z size bytes T.under hi hz hsz hby hzs T.pos (some ad0) 0 0 [] hs (fun h => by cases h) (by simp) (fun b _ j u hj => by simp at hj) ad m c news hx hl hc h1 (by omega) (by unfold maxLen; omega) ?_ (fun v' w' hown hgrow => ?_)
  · rw [Nat.zero_add]; have := Nat.mul_le_mul hn hb; omega
  · rw [Nat.zero_add, List.nil_append] at hown
    rcases hown.2 with ⟨e1, e2⟩ | ⟨g, cap, cur, e1, _⟩
    · omega
    · subst e1
      exact h g cap w' hown hgrow
theorem flatL_one {xs : List Nd} {fs : List Fr} : ∀ u ∈ flatL xs fs, u.oneCell' = true := fun u hu => by
  obtain ⟨j, hj⟩ := List.mem_iff_getElem?.1 hu
  obtain ⟨h, h2, h3⟩ := flatL_inv xs fs j u hj
  have hm := List.mem_of_getElem? h3
  simp only [ndL, List.mem_cons, List.not_mem_nil, or_false] at hm
  rcases hm with rfl | rfl | rfl | rfl | rfl | rfl <;> simp [Value.oneCell']
set_option maxRecDepth 100000 in
set_option maxHeartbeats 8000000 in
theorem clone_any (xs : List Nd) (hl : xs.length ≤ 100000) (w : World) (b : Nat → Prop) (A : Option Addr) (c : Nat) (h0 : xs = [] → A = none ∧ c = 0) (hr : RowIn w b xs A) :
    Calls Try.prog 21 #[.slice A xs.length c] w fun e w' => ∃ A' c', e = .returned (.slice A' xs.length c') ∧ KRow w' w.heap.size b xs A' c' ∧ Below w.heap.size w w' := by
  by_cases hx : xs = []
  · subst hx
    obtain ⟨rfl, rfl⟩ := h0 rfl
    clear h0
    have hE : ∀ w : World, (binOp .eql 23 (.slice none 0 0) (.slice none 0 0)).run Try.prog w = .ok (.bool true) w := fun w => by kernel_rfl
    go_enter Try.func21, Try.ntmps21
    go_wp2_with fail
    refine bodyPost_ret (v := .slice none 0 0) (by simp [results, Try.results21, go_sem]) rfl ?_
    exact ⟨none, 0, rfl, ⟨fun _ => ⟨rfl, rfl⟩, fun h => absurd rfl h⟩, Below.refl _ _⟩
  · obtain ⟨_, g, fs, h1, h2, h3⟩ := hr
    obtain ⟨rfl, hbg, hgl⟩ := h1 hx
    obtain ⟨fl, hfl⟩ : ∃ fl : List Fr, fl = (List.range xs.length).map fs := ⟨_, rfl⟩
    have hlen : fl.length = xs.length := by rw [hfl]; simp
    have hget : ∀ k (h : k < fl.length), fl[k] = fs k := fun k h => by subst hfl; simp
    have HLN : Hid ((flatL xs fl).length = xs.length * 6) := flatL_len xs fl hlen
    have HW1 : Hid (Below w.heap.size w (w.alloc (.cells #[] 25))) := (Below.refl _ _).alloc (Nat.le_refl _) _
    have HC : Hid (∀ j u, (flatL xs fl)[j]? = some u → (w.alloc (.cells #[] 25)).cell? ((⟨g, 0, none⟩ : Addr).add j) = some u) := fun j u hj => by
      obtain ⟨k1, k2, k3⟩ := flatL_inv xs fl j u hj
      rw [hget] at k3
      have := h2 (j / 6) k1 (j % 6) u k3
      have ea : (⟨g, 0, none⟩ : Addr).add j = ⟨g, j, none⟩ := by unfold Addr.add; split <;> simp_all
      rw [ea, World.cell?_of_block (HW1.out.block g hgl), ← this]
      congr 2; omega
    have HSB : Hid (∀ k (h : k < xs.length) (h' : k < fl.length), NodeIn w (fun a => b a ∧ a < w.heap.size) xs[k] fl[k]) := fun k h h' => by
      rw [hget]
      exact (h3 k h).mono fun a ha hl => ⟨ha.1, hl⟩
    have HFL : Hid (fl.length = xs.length) := hlen
    have hne : 0 < xs.length := List.length_pos_iff.2 hx
    clear hfl hlen hget h0 h1 h2 h3 hx
    have hE : ∀ (a : Addr) (n c : Nat) (w : World), (binOp .eql 23 (.slice (some a) n c) (.slice none 0 0)).run Try.prog w = .ok (.bool false) w := fun a n c w => by kernel_rfl
    go_enter Try.func21, Try.ntmps21
    go_wp2_with (at_builtin; refine list_copy ty_nd rfl _ _ rfl ⟨w.heap.size, 0, none⟩ rfl ⟨g, 0, none⟩ xs.length c (flatL xs fl) rfl HLN.out HC.out flatL_one hne (by omega) (by decide) ?_; intro gv cv wd hown hgr; have HO := Lib.hid hown; have HG := Lib.hid hgr; clear hown hgr)
    refine bodyPost_ret (v := .slice (some ⟨gv, 0, none⟩) xs.length cv) (by simp [results, Try.results21, go_sem]) rfl ?_
    have hB : Below w.heap.size w wd := HW1.out.trans ⟨HG.out.os, HG.out.tape, HG.out.output, HG.out.size, fun k hk => HG.out.block k (by simp; omega) (by simp)⟩
    have hgv := (HO.out.lt gv rfl).1
    refine ⟨_, _, rfl, ⟨fun e => by rw [e] at hne; simp at hne, fun _ => ⟨gv, fl, rfl, by simp at hgv; omega, own_more HO.out (by simp), HFL.out, fun k h h' => ?_⟩⟩, hB⟩
    exact ((HSB.out k h h').later hB (Nat.le_refl _)).mono fun a ha _ => ⟨ha.1, fun e => by have := ha.2; simp at hgv; omega⟩
end Go.Proofs.Ytgjchgmlogbmmaa
/- The walks of layer 11: an exp is folded. -/
namespace Go.Proofs.Ytgjchgmlogbmmaa
open Go.RowKit
set_option linter.unusedVariables false
set_option linter.unusedSimpArgs false
attribute [local go_sem ↓] Go.wp_at_zero Go.wp_at_succ

/-- Kids, of which the first k are folded. -/
def ysF (ks : List Nd) (kd : Int) (k : Nat) : List Nd := expK (ks.take k) kd 0 ++ ks.drop k
theorem ys_len (ks : List Nd) (kd : Int) (k : Nat) : (ysF ks kd k).length = ks.length := by
  unfold ysF
  rw [List.length_append, expK_len, List.length_take, List.length_drop]; omega
theorem ys_get (ks : List Nd) (kd : Int) (k j : Nat) : (ysF ks kd k)[j]? = if j < k then ks[j]?.map (fun x => if bindsB kd j = true then expN x else x) else ks[j]? := by
  unfold ysF
  by_cases h : j < k
  · rw [if_pos h]
    by_cases hl : j < ks.length
    · rw [List.getElem?_append_left (by rw [expK_len, List.length_take]; omega), expK_get, List.getElem?_take, if_pos h, Nat.zero_add]
    · have e1 : ks[j]? = none := List.getElem?_eq_none (by omega)
      rw [e1]
      exact List.getElem?_eq_none (by rw [List.length_append, expK_len, List.length_take, List.length_drop]; omega)
  · rw [if_neg h]
    by_cases hl : k ≤ ks.length
    · rw [List.getElem?_append_right (by rw [expK_len, List.length_take]; omega), expK_len, List.length_take, List.getElem?_drop]
      congr 1; omega
    · rw [List.getElem?_eq_none (by rw [List.length_append, expK_len, List.length_take, List.length_drop]; omega), List.getElem?_eq_none (by omega)]
theorem ys_step (ks : List Nd) (kd : Int) (k : Nat) (h : k < ks.length) : ysF ks kd (k + 1) = if bindsB kd k = true then (ysF ks kd k).set k (expN (ks.getD k nd0)) else ysF ks kd k := by
  have hg : ks[k]? = some (ks.getD k nd0) := by rw [List.getD_eq_getElem?_getD, List.getElem?_eq_getElem h]; rfl
  apply List.ext_getElem?
  intro j
  rw [ys_get]
  by_cases hb : bindsB kd k = true
  · rw [if_pos hb, List.getElem?_set, ys_get, ys_len]
    by_cases hjk : k = j
    · subst hjk
      rw [if_pos (Nat.lt_succ_self _), if_pos rfl, if_pos h, hg, Option.map_some, if_pos hb]
    · rw [if_neg hjk]
      by_cases h1 : j < k
      · rw [if_pos h1, if_pos (by omega)]
      · rw [if_neg h1, if_neg (by omega)]
  · rw [if_neg hb, ys_get]
    by_cases h1 : j < k
    · rw [if_pos h1, if_pos (by omega)]
    · rw [if_neg h1]
      by_cases h2 : j < k + 1
      · have : j = k := by omega
        subst this
        rw [if_pos h2, hg, Option.map_some, if_neg hb]
      · rw [if_neg h2]
theorem ys_end (ks : List Nd) (kd : Int) : ysF ks kd ks.length = expK ks kd 0 := by unfold ysF; simp
theorem ys_zero (ks : List Nd) (kd : Int) : ysF ks kd 0 = ks := by simp [ysF, expK]
theorem Rg.low {w w5 w6 : World} {b : Nat → Prop} {G g : Nat} {x : Nd} {f : Fr} (h : Rg w w5 b G (G + 1) x f) (hG : w.heap.size ≤ G) (hg : G + 1 < g) (hb : Below g w5 w6) : Rg w w6 b G (G + 1) x f :=
  ⟨⟨(hb.block G (by omega)).trans h.a.X, h.a.n.frame hb.size (fun a ha _ => hb.block a (by have := h.hb a ha; omega)), h.a.bel.trans (hb.mono (by omega))⟩, (hb.block (G + 1) hg).trans h.z, h.hb⟩
theorem kid_below (w : World) (g o : Nat) (v0 v1 v2 v3 v4 v5 : Value) : Below g w ((((((w.setCell ⟨g, o, none⟩ v0).setCell ⟨g, o + 1, none⟩ v1).setCell ⟨g, o + 2, none⟩ v2).setCell ⟨g, o + 3, none⟩ v3).setCell ⟨g, o + 4, none⟩ v4).setCell ⟨g, o + 5, none⟩ v5) :=
  ((((((Below.refl g w).setCell (p := ⟨g, o, none⟩) (Nat.le_refl g) v0).setCell (p := ⟨g, o + 1, none⟩) (Nat.le_refl g) v1).setCell (p := ⟨g, o + 2, none⟩) (Nat.le_refl g) v2).setCell (p := ⟨g, o + 3, none⟩) (Nat.le_refl g) v3).setCell (p := ⟨g, o + 4, none⟩) (Nat.le_refl g) v4).setCell (p := ⟨g, o + 5, none⟩) (Nat.le_refl g) v5
def DoesC (n : Nat) (y : Nd) : Prop := ∀ (w : World) (b : Nat → Prop) (f : Fr), (∀ a, b a → a < w.heap.size) → NodeIn w b y f → Calls Try.prog n #[ndV y f] w (FoldPost w b y)
theorem calls_of : ∀ i ∈ insI, ∀ args w, (callFunc (insT i).2.2 args).run Try.prog w = .ok (.enter (insT i).2.2 args) w := by
  intro i hi
  simp only [insI, List.mem_cons, List.not_mem_nil, or_false] at hi
  rcases hi with rfl | rfl | rfl | rfl | rfl
  · exact Try.call42
  · exact Try.call43
  · exact Try.call44
  · exact Try.call44
  · exact Try.call45
theorem does_of {y : Nd} (hw : WfN y) (hwt : wtN y ≤ 100000) : ∀ i ∈ insI, (insT i).1 = y.kd ∧ (insT i).2.1 = (y.ks.length : Int) → DoesC (insT i).2.2 y := by
  intro i hi h
  simp only [insI, List.mem_cons, List.not_mem_nil, or_false] at hi
  rcases hi with rfl | rfl | rfl | rfl | rfl
  · exact fun w b f hb hn => op_any11 y hw h.1.symm w b f hb hn
  · exact fun w b f hb hn => branch_any y hw h.1.symm w b f hb hn
  · exact fun w b f hb hn => let_any y hw hwt (.inl h.1.symm) w b f hb hn
  · exact fun w b f hb hn => let_any y hw hwt (.inr h.1.symm) w b f hb hn
  · exact fun w b f hb hn => seq_any y hw h.1.symm w b f hb hn
theorem none_of {y : Nd} (hw : WfN y) (h : ∀ i ∈ insI, ¬ ((insT i).1 = y.kd ∧ (insT i).2.1 = (y.ks.length : Int))) : redF y = y := by
  have n13 : y.kd ≠ 13 := fun e => by
    obtain ⟨p, q, hk⟩ := hw.two (by omega)
    exact h 2 (by decide) ⟨e.symm, by rw [hk]; rfl⟩
  have n10 : y.kd ≠ 10 := fun e => by
    obtain ⟨p, q, r, hk⟩ := hw.three e
    exact h 4 (by decide) ⟨e.symm, by rw [hk]; rfl⟩
  have n8 : y.kd ≠ 8 := fun e => by
    obtain ⟨p, q, hk⟩ := hw.two (by omega)
    exact h 6 (by decide) ⟨e.symm, by rw [hk]; rfl⟩
  have n9 : y.kd ≠ 9 := fun e => by
    obtain ⟨p, q, hk⟩ := hw.two (by omega)
    exact h 8 (by decide) ⟨e.symm, by rw [hk]; rfl⟩
  have n14 : y.kd ≠ 14 := fun e => by
    obtain ⟨p, q, hk⟩ := hw.two (by omega)
    exact h 10 (by decide) ⟨e.symm, by rw [hk]; rfl⟩
  unfold redF
  rw [beq_eq_false_iff_ne.2 n13, beq_eq_false_iff_ne.2 n10, beq_eq_false_iff_ne.2 n8, beq_eq_false_iff_ne.2 n9, beq_eq_false_iff_ne.2 n14]
  rfl
theorem redF_kd_lens {y : Nd} (hw : WfN y) : WfN y ∧ (0 ≤ y.kd ∧ y.kd ≤ 1000000) ∧ (0 : Int) ≤ (y.ks.length : Int) ∧ (y.ks.length : Int) ≤ 1000000 := by
  have h1 := hw.range
  have h2 := hw.len
  exact ⟨hw, ⟨h1.1, by omega⟩, by omega, by omega⟩
theorem look_of {w : World} {r : Nat} {L : List (Int × Int × Nat)} {y : Nd} (hM : MapIs w r L) (hL : ∀ t, t ∈ L ↔ ∃ i ∈ insI, t = insT i) (hw : WfN y ∧ (0 ≤ y.kd ∧ y.kd ≤ 1000000) ∧ (0 : Int) ≤ (y.ks.length : Int) ∧ (y.ks.length : Int) ≤ 1000000) (ht : wtN y ≤ 100000) :
    ((Instr.lookup 46 (.map (some r)) (pairV y.kd y.ks.length) false).run Try.prog w = .ok .nilFunc w ∧ redF y = y) ∨ ∃ n, (Instr.lookup 46 (.map (some r)) (pairV y.kd y.ks.length) false).run Try.prog w = .ok (fnV n) w ∧ DoesC n y ∧ (∀ args w, (callFunc n args).run Try.prog w = .ok (.enter n args) w) := by
  rcases hM.look (fun t ht => by obtain ⟨i, hi, rfl⟩ := (hL t).1 ht; exact ins_small i hi) y.kd y.ks.length hw.2.1 hw.2.2 with ⟨h1, h2⟩ | ⟨t, ht2, h1, h2, h3⟩
  · exact .inl ⟨h1, none_of hw.1 fun i hi e => h2 (insT i) ((hL _).2 ⟨i, hi, rfl⟩) e⟩
  · obtain ⟨i, hi, rfl⟩ := (hL t).1 ht2
    exact .inr ⟨_, h3, does_of hw.1 ht i hi ⟨h1, h2⟩, calls_of i hi⟩
theorem exp_fin {w wr wf : World} {b B : Nat → Prop} {G S1 : Nat} {y : Nd} {f : Fr} (hBD : ∀ a, B a ↔ (b a ∨ S1 ≤ a)) (hGS : G + 1 < S1) (hG : w.heap.size = G) (hBW : ∀ a, b a → a < w.heap.size) (hbl : Below w.heap.size w wr) (n : NodeIn wr B y f) (hf : But (G + 1) wr.heap.size wr wf) :
    NodeIn wf (fun a => b a ∨ w.heap.size ≤ a) y f ∧ Below w.heap.size w wf :=
  ⟨(n.but hf (Nat.le_refl _) fun a ha e => by
      rcases (hBD a).1 ha with h | h
      · have := hBW a h; omega
      · omega).mono fun a ha _ => by
        rcases (hBD a).1 ha with h | h
        · exact .inl h
        · exact .inr (by omega), hbl.trans ⟨hf.os, hf.tape, hf.output, hf.size, fun k hk => hf.block k (Nat.lt_of_lt_of_le hk hbl.size) (by omega)⟩⟩
theorem fn_nil : ∀ w, (binOp .neq 45 .nilFunc .nilFunc).run Try.prog w = .ok (.bool false) w := fun w => rfl
theorem fn_one (n : Nat) : ∀ w, (binOp .neq 45 (.func (.func n) #[] #[]) .nilFunc).run Try.prog w = .ok (.bool true) w := fun w => rfl
def ExpC (y : Nd) : Prop := ∀ (w : World) (b : Nat → Prop) (f : Fr), (∀ a, b a → a < w.heap.size) → NodeIn w b y f →
  Calls Try.prog 11 #[ndV y f] w fun e w' => ∃ f', e = .returned (ndV (expN y) f') ∧ NodeIn w' (fun a => b a ∨ w.heap.size ≤ a) (expN y) f' ∧ Below w.heap.size w w'
set_option maxRecDepth 100000 in
set_option maxHeartbeats 16000000 in
theorem fexp_any (x : Nd) : WfN x → wtN x ≤ 100000 → ExpC x := by
  induction x using Nd.ind with
  | h x ih =>
    intro hw hwt w b f hb hn
    have HWT : Hid (wtN x ≤ 100000) := hwt
    have IH := Lib.hid (fun y hy => ih y hy (hw.ks y hy) (Nat.le_trans (wt_kid hy) hwt))
    have HEN := Lib.hid (expN_eq x)
    have HL : Hid (x.ks.length ≤ 100000) := hw.len
    have HKC := Lib.hid (fun (e : x.ks = []) => hn.kc0 e)
    clear ih hwt
    have HR : Hid (Rg w ((w.alloc (.cells zN(x, f) 25)).alloc (.cells zZ 25)) b w.heap.size (w.heap.size + 1) x f) := Rg.start hn hb
    have HW := Lib.hid hw
    unfold ndV
    go_enter Try.func11, Try.ntmps11
    go_upto_region 1 with (fail)
    generalize ((w.alloc (.cells zN(x, f) 25)).alloc (.cells zZ 25)) = w1 at *
    obtain ⟨G, hG⟩ : ∃ G, w.heap.size = G := ⟨_, rfl⟩
    have HG := Lib.hid hG
    rw [hG] at HR
    simp only [hG]
    clear hG hn hb hw
    obtain ⟨B, hB⟩ : ∃ B : Nat → Prop, B = fun a => b a ∨ w1.heap.size ≤ a := ⟨_, rfl⟩
    have HBD : Hid (∀ a, B a ↔ (b a ∨ w1.heap.size ≤ a)) := fun a => by rw [hB]
    have HGS : Hid (G + 1 < w1.heap.size) := HR.out.z.lt
    clear hB
    have CL := Lib.hid (clone_any x.ks HL.out w1 b f.ka f.kc HKC.out HR.out.a.n.row)
    have c5 := HR.out.a.c5
    go_wp2_with fail
    refine CL.out.mono ?_
    rintro e w2 ⟨A, c, rfl, hk, hbl⟩
    have HKR : Hid (KRow w2 w1.heap.size B x.ks A c) := ⟨hk.nil, fun h => by
      obtain ⟨g, fs, e, hg, ho, hl, hsb⟩ := hk.row h
      exact ⟨g, fs, e, hg, ho, hl, fun k h1 h2 => (hsb k h1 h2).mono fun a ha _ => ⟨(HBD.out a).2 (.inl ha.1), ha.2⟩⟩⟩
    have HR2 := Lib.hid (HR.out.later hbl)
    have HSZ : Hid (w1.heap.size ≤ w2.heap.size) := hbl.size
    clear hk hbl CL c5 HR HKC
    generalize w1.heap.size = S1 at *
    go_wp2_with fail
    go_loopw [15] (fun i wr => ∃ k : Nat, i = .int .i64 (k : Int) ∧ k ≤ x.ks.length ∧ KRow wr S1 B (ysF x.ks x.kd k) A c ∧ Rg w wr b G (G + 1) x f ∧ S1 ≤ wr.heap.size) (fun i _ => x.ks.length - (intOf i).toNat)
    case atStart => exact ⟨0, rfl, Nat.zero_le _, by rw [ys_zero]; exact HKR.out, HR2.out, HSZ.out⟩
    case round =>
      obtain ⟨k, rfl, hk, hkr, hrg, hsz⟩ := hrel
      have HK3 := Lib.hid hkr
      have HR3 := Lib.hid hrg
      have HS3 : Hid (S1 ≤ wr.heap.size) := hsz
      clear hkr hrg hsz HKR HR2 HSZ
      by_cases hlt : k < x.ks.length
      · have HYS := Lib.hid (ys_step x.ks x.kd k hlt)
        have i0 : (0 : Int) ≤ (k : Int) := by omega
        have i1 : (k : Int) < (x.ks.length : Int) := by omega
        have I2 : Hid ((k : Int) < 100000) := by show _ < _; have := HL.out; omega
        have CB := Lib.hid (binds_any x HW.out HWT.out wr b f k hlt (fun a ha => Nat.lt_of_lt_of_le (HR3.out.hb a ha) HR3.out.a.bel.size) HR3.out.a.n)
        generalize bindsF x.kd x.tx (x.ks.getD (k - 1) nd0) k = own at *
        unfold ndV at CB
        have n0 : wr.cell? ⟨G, 0, none⟩ = some (.int .i64 x.kd) := HR3.out.a.X.cell 0
        have n1 : wr.cell? ⟨G, 1, none⟩ = some (.string ⟨x.tx.toArray⟩) := HR3.out.a.X.cell 1
        have n2 : wr.cell? ⟨G, 2, none⟩ = some (.int .i64 x.nm) := HR3.out.a.X.cell 2
        have n3 : wr.cell? ⟨G, 3, none⟩ = some (.int .i64 (x.at_ : Int)) := HR3.out.a.X.cell 3
        have n4 : wr.cell? ⟨G, 4, none⟩ = some (.slice f.na x.ns.length f.nc) := HR3.out.a.X.cell 4
        have n5 : wr.cell? ⟨G, 5, none⟩ = some (.slice f.ka x.ks.length f.kc) := HR3.out.a.X.cell 5
        go_wp2_with fail
        refine CB.out.mono ?_
        rintro e w4 ⟨A9, k9, rfl, _, b4⟩
        have HK4 := Lib.hid (HK3.out.below b4 (Nat.le_refl _))
        have HR4 := Lib.hid (HR3.out.later b4)
        have HS4 : Hid (S1 ≤ w4.heap.size) := Nat.le_trans HS3.out b4.size
        clear b4 CB HK3 HR3 HS3 n0 n1 n2 n3 n4 n5
        have i2 : (k : Int) < 100000 := I2.out
        obtain ⟨tb, hTB⟩ : ∃ tb, bindsB x.kd k = tb := ⟨_, rfl⟩
        rw [hTB] at HYS ⊢
        clear hTB
        rcases tb with _ | _
        · have HY2 : Hid (ysF x.ks x.kd (k + 1) = ysF x.ks x.kd k) := HYS.out
          go_wp2_with fail
          go_roundw
          case rel => exact ⟨k + 1, by go_num, by omega, by rw [HY2.out]; exact HK4.out, HR4.out, HS4.out⟩
          case measure => simp [intOf]; omega
        · have HY2 : Hid (ysF x.ks x.kd (k + 1) = (ysF x.ks x.kd k).set k (expN (x.ks.getD k nd0))) := HYS.out
          have hyk : (ysF x.ks x.kd k)[k]? = some (x.ks.getD k nd0) := by
            rw [ys_get, if_neg (Nat.lt_irrefl _), List.getD_eq_getElem?_getD, List.getElem?_eq_getElem hlt]; rfl
          have HKL : Hid (k < (ysF x.ks x.kd k).length) := by show _ < _; rw [ys_len]; exact hlt
          obtain ⟨g, fy, rfl, hg1, hgl, ⟨x0, x1, x2, x3, x4, x5⟩, ny, _⟩ := HK4.out.at_ hyk
          have HYK := Lib.hid hyk
          have CE := Lib.hid (IH.out _ (getD_mem hlt) w4 (fun a => (B a ∧ a ≠ g) ∧ a < w4.heap.size) fy (fun a ha => ha.2) (ny.mono fun a ha hl => ⟨ha, hl⟩))
          clear HYS ny hyk
          generalize x.ks.getD k nd0 = y at *
          unfold ndV at CE
          go_wp2_with fail
          refine CE.out.mono ?_
          rintro e w5 ⟨f5, rfl, n5, b5⟩
          have HK5 := Lib.hid (HK4.out.below b5 (Nat.le_refl _))
          have HR5 := Lib.hid (HR4.out.later b5)
          have HS5 : Hid (S1 ≤ w5.heap.size) := Nat.le_trans HS4.out b5.size
          have HN5 : Hid (NodeIn w5 (fun a => B a ∧ a ≠ g) (expN y) f5) := n5.mono fun a ha _ => by
            rcases ha with ha | ha
            · exact ha.1
            · exact ⟨(HBD.out a).2 (.inr (Nat.le_trans HS4.out ha)), by omega⟩
          have HGL5 : Hid (g < w5.heap.size) := Nat.lt_of_lt_of_le hgl b5.size
          clear n5 b5 CE HK4 HR4 HS4 x0 x1 x2 x3 x4 x5
          obtain ⟨g', fy', eg, _, _, ⟨x0, x1, x2, x3, x4, x5⟩, _, hfr⟩ := HK5.out.at_ HYK.out
          have eg2 : g = g' := by simpa using eg
          subst eg2
          have y0 := hfr 0 (by omega)
          have y1 := hfr 1 (by omega)
          have y2 := hfr 2 (by omega)
          have y3 := hfr 3 (by omega)
          have y4 := hfr 4 (by omega)
          have y5 := hfr 5 (by omega)
          rw [Nat.add_zero] at y0
          have HGG : Hid (G + 1 < g) := Nat.lt_of_lt_of_le HGS.out hg1
          clear eg hfr hgl
          generalize expN y = ye at *
          go_wp2_with fail
          have HPT : Hid (KRow ((((((w5.setCell ⟨g, k * 6, none⟩ (.int .i64 ye.kd)).setCell ⟨g, k * 6 + 1, none⟩ (.string ⟨ye.tx.toArray⟩)).setCell ⟨g, k * 6 + 2, none⟩ (.int .i64 ye.nm)).setCell ⟨g, k * 6 + 3, none⟩ (.int .i64 (ye.at_ : Int))).setCell ⟨g, k * 6 + 4, none⟩ (.slice f5.na ye.ns.length f5.nc)).setCell ⟨g, k * 6 + 5, none⟩ (.slice f5.ka ye.ks.length f5.kc)) S1 B ((ysF x.ks x.kd k).set k ye) (some ⟨g, 0, none⟩) c) := HK5.out.put HKL.out HN5.out
          have HB6 : Hid (Below g w5 ((((((w5.setCell ⟨g, k * 6, none⟩ (.int .i64 ye.kd)).setCell ⟨g, k * 6 + 1, none⟩ (.string ⟨ye.tx.toArray⟩)).setCell ⟨g, k * 6 + 2, none⟩ (.int .i64 ye.nm)).setCell ⟨g, k * 6 + 3, none⟩ (.int .i64 (ye.at_ : Int))).setCell ⟨g, k * 6 + 4, none⟩ (.slice f5.na ye.ns.length f5.nc)).setCell ⟨g, k * 6 + 5, none⟩ (.slice f5.ka ye.ks.length f5.kc))) := kid_below _ _ _ _ _ _ _ _ _
          generalize ((((((w5.setCell ⟨g, k * 6, none⟩ (.int .i64 ye.kd)).setCell ⟨g, k * 6 + 1, none⟩ (.string ⟨ye.tx.toArray⟩)).setCell ⟨g, k * 6 + 2, none⟩ (.int .i64 ye.nm)).setCell ⟨g, k * 6 + 3, none⟩ (.int .i64 (ye.at_ : Int))).setCell ⟨g, k * 6 + 4, none⟩ (.slice f5.na ye.ns.length f5.nc)).setCell ⟨g, k * 6 + 5, none⟩ (.slice f5.ka ye.ks.length f5.kc)) = w6 at *
          have HR6 : Hid (Rg w w6 b G (G + 1) x f) := HR5.out.low (Nat.le_of_eq HG.out) HGG.out HB6.out
          have HS6 : Hid (S1 ≤ w6.heap.size) := Nat.le_trans HS5.out HB6.out.size
          go_roundw
          case rel => exact ⟨k + 1, by go_num, by omega, by rw [HY2.out]; exact HPT.out, HR6.out, HS6.out⟩
          case measure => simp [intOf]; omega
      · have i1 : ¬ (k : Int) < (x.ks.length : Int) := by omega
        obtain rfl : k = x.ks.length := by omega
        rw [ys_end] at HK3
        clear i1 hlt hk
        obtain ⟨ys, hys⟩ : ∃ ys, expK x.ks x.kd 0 = ys := ⟨_, rfl⟩
        have HYL : Hid (ys.length = x.ks.length) := by show _ = _; rw [← hys]; exact expK_len _ _ _
        rw [hys] at HK3 HEN
        have HWX : Hid (WfN (.mk x.kd x.tx x.nm x.at_ x.ns ys)) := by show WfN _; rw [← hys]; exact wf_kids HW.out
        have HTX : Hid (wtN (.mk x.kd x.tx x.nm x.at_ x.ns ys) ≤ 100000) := by
          have h1 := wt_expK x.kd x.ks (fun y _ => wt_exp y) 0
          have h2 := HWT.out
          rw [wtN_eq] at h2
          rw [hys] at h1
          show _ ≤ _
          rw [wtN_eq]
          simp only [kd_mk, ks_mk]; omega
        clear hys
        have n5 : wr.cell? ⟨G, 5, none⟩ = some (.slice f.ka x.ks.length f.kc) := HR3.out.a.X.cell 5
        have f5 := HR3.out.a.X.free 5
        go_upto_region 10 with (fail)
        clear n5 f5
        have HX4 : Hid (Whole (wr.setCell ⟨G, 5, none⟩ (.slice A x.ks.length c)) G 25 #[.int .i64 x.kd, .string ⟨x.tx.toArray⟩, .int .i64 x.nm, .int .i64 (x.at_ : Int), .slice f.na x.ns.length f.nc, .slice A x.ks.length c]) := HR3.out.a.X.put 5 _
        have HZ4 : Hid (Whole (wr.setCell ⟨G, 5, none⟩ (.slice A x.ks.length c)) (G + 1) 25 zZ) := HR3.out.z.far (by show G + 1 ≠ G; omega) _
        have HBL4 : Hid (Below w.heap.size w (wr.setCell ⟨G, 5, none⟩ (.slice A x.ks.length c))) := HR3.out.a.bel.setCell (by show w.heap.size ≤ G; rw [HG.out]; exact Nat.le_refl _) _
        have HN4 : Hid (NodeIn (wr.setCell ⟨G, 5, none⟩ (.slice A x.ks.length c)) B (.mk x.kd x.tx x.nm x.at_ x.ns ys) ⟨f.na, f.nc, A, c⟩) := by
          have hfr : ∀ a, a ≠ G → (wr.setCell ⟨G, 5, none⟩ (.slice A x.ks.length c)).heap[a]? = wr.heap[a]? := fun a ha => Below.heap_setCell wr ⟨G, 5, none⟩ _ a ha
          have hBG : ∀ a, B a → a ≠ G := fun a ha e => by
            rcases (HBD.out a).1 ha with h | h
            · have := HR3.out.hb a h; have := HG.out; omega
            · have := HGS.out; omega
          refine (HK3.out.frame (by simp [World.setCell]) (fun a hl h => hfr a ?_)).node (HR3.out.a.n.frame (by simp [World.setCell]) fun a ha _ => hfr a (hBG a ((HBD.out a).2 (.inl ha)))) (fun a ha => (HBD.out a).2 (.inl ha)) (fun a ha => (HBD.out a).2 (.inr ha))
          rcases h with h | h
          · have := HGS.out; omega
          · exact hBG a h
        have HS4 : Hid (S1 ≤ (wr.setCell ⟨G, 5, none⟩ (.slice A x.ks.length c)).heap.size) := by show _ ≤ _; simp [World.setCell]; exact HS3.out
        have HBW : Hid (∀ a, b a → a < w.heap.size) := HR3.out.hb
        clear HR3 HK3 HS3
        generalize wr.setCell ⟨G, 5, none⟩ (.slice A x.ks.length c) = w4 at *
        have X0 : Hid (w4.cell? ⟨G, 0, none⟩ = some (.int .i64 x.kd)) := HX4.out.cell 0
        rw [← HYL.out] at HX4 ⊢
        have HYW := Lib.hid (redF_kd_lens HWX.out)
        refine region_Z (fun W => W.cell? ⟨G, 0, none⟩ = some (.int .i64 x.kd)) (fun i => false) (by kernel_rfl) X0.out (fun hHeld => ?_)
        ztaki 1 8
        ztaki 2 8
        ztaki 3 8
        ztaki 4 8
        ztaki 5 8
        zstep 0
        go_simp
        go_at_call 23
        refine (folders_any _).mono ?_
        rintro e w5 ⟨r, rfl, ⟨L, hM, hL⟩, b0⟩
        have B5 := Lib.hid ((Below.refl w4.heap.size w4).drew.trans b0)
        have X05 : Hid (w5.cell? ⟨G, 0, none⟩ = some (.int .i64 x.kd)) := (World.cell?_of_block (B5.out.block G HX4.out.lt)).trans X0.out
        have HLK := Lib.hid (look_of hM hL HYW.out HTX.out)
        clear hM hL b0
        refine hK.out _ _ (fun _ => X05.out) (fun hHeld2 => ?_)
        clear hK K hHeld
        zput
        have HX5 := Lib.hid (HX4.out.below B5.out HX4.out.lt)
        have HZ5 := Lib.hid (HZ4.out.below B5.out HZ4.out.lt)
        have HBL5 := Lib.hid (HBL4.out.trans (B5.out.mono HBL4.out.size))
        have HN5 := Lib.hid (HN4.out.later B5.out (Nat.le_refl _))
        have HS5 : Hid (S1 ≤ w5.heap.size) := Nat.le_trans HS4.out B5.out.size
        clear HX4 HZ4 HBL4 HN4 HS4 X0 B5 HYW
        rcases HLK.out with ⟨hlk, hrd⟩ | ⟨n, hlk, hdo, hce⟩
        · have HLR := Lib.hid hlk
          have HEX : Hid (expN x = .mk x.kd x.tx x.nm x.at_ x.ns ys) := HEN.out.trans hrd
          clear hlk hrd HLK HEN
          zstep 6
          have h := HLR.out
          simp only [pairV, kd_mk, ks_mk] at h
          rw [if_pos (by rfl)]
          unfold Oper.wp
          simp [execOp, Act.eval, h, Result.andThen]
          refine hK.out _ _ (fun _ => X05.out) (fun hHeld3 => ?_)
          clear hK K hHeld2 HLR h
          zput
          zstep 7
          go_simp
          refine hK.out _ _ (fun _ => X05.out) (fun hHeld4 => ?_)
          clear hK K hHeld3
          zput
          zdone
          have hne := fn_nil
          have n0 : w5.cell? ⟨G, 0, none⟩ = some (.int .i64 x.kd) := HX5.out.cell 0
          have n1 : w5.cell? ⟨G, 1, none⟩ = some (.string ⟨x.tx.toArray⟩) := HX5.out.cell 1
          have n2 : w5.cell? ⟨G, 2, none⟩ = some (.int .i64 x.nm) := HX5.out.cell 2
          have n3 : w5.cell? ⟨G, 3, none⟩ = some (.int .i64 (x.at_ : Int)) := HX5.out.cell 3
          have n4 : w5.cell? ⟨G, 4, none⟩ = some (.slice f.na x.ns.length f.nc) := HX5.out.cell 4
          have n5 : w5.cell? ⟨G, 5, none⟩ = some (.slice A ys.length c) := HX5.out.cell 5
          zzero w5 (G + 1) (HZ5.out)
          zfree (HZ5.out)
          go_wp2_with fail
          have HZF : Hid (Whole ((((((w5.setCell ⟨(G + 1), 0, none⟩ (.int .i64 x.kd)).setCell ⟨(G + 1), 1, none⟩ (.string ⟨x.tx.toArray⟩)).setCell ⟨(G + 1), 2, none⟩ (.int .i64 x.nm)).setCell ⟨(G + 1), 3, none⟩ (.int .i64 (x.at_ : Int))).setCell ⟨(G + 1), 4, none⟩ (.slice f.na x.ns.length f.nc)).setCell ⟨(G + 1), 5, none⟩ (.slice A ys.length c)) (G + 1) 25 #[.int .i64 x.kd, .string ⟨x.tx.toArray⟩, .int .i64 x.nm, .int .i64 (x.at_ : Int), .slice f.na x.ns.length f.nc, .slice A ys.length c]) := put6 HZ5.out _ _ _ _ _ _
          have HBF : Hid (But (G + 1) w5.heap.size w5 ((((((w5.setCell ⟨(G + 1), 0, none⟩ (.int .i64 x.kd)).setCell ⟨(G + 1), 1, none⟩ (.string ⟨x.tx.toArray⟩)).setCell ⟨(G + 1), 2, none⟩ (.int .i64 x.nm)).setCell ⟨(G + 1), 3, none⟩ (.int .i64 (x.at_ : Int))).setCell ⟨(G + 1), 4, none⟩ (.slice f.na x.ns.length f.nc)).setCell ⟨(G + 1), 5, none⟩ (.slice A ys.length c))) := but6 _ _ _ _ _ _ _ _
          generalize ((((((w5.setCell ⟨(G + 1), 0, none⟩ (.int .i64 x.kd)).setCell ⟨(G + 1), 1, none⟩ (.string ⟨x.tx.toArray⟩)).setCell ⟨(G + 1), 2, none⟩ (.int .i64 x.nm)).setCell ⟨(G + 1), 3, none⟩ (.int .i64 (x.at_ : Int))).setCell ⟨(G + 1), 4, none⟩ (.slice f.na x.ns.length f.nc)).setCell ⟨(G + 1), 5, none⟩ (.slice A ys.length c)) = wf at *
          gcells
          have hfin := exp_fin HBD.out HGS.out HG.out HBW.out HBL5.out HN5.out HBF.out
          rw [← HEX.out] at hfin
          refine bodyPost_ret (v := ndV (expN x) ⟨f.na, f.nc, A, c⟩) (by rw [HEX.out]; simp [results, Try.results11, go_sem, ndV, Nd.kd, Nd.tx, Nd.nm, Nd.at_, Nd.ns, Nd.ks, g0, g1, g2, g3, g4, g5]) rfl ⟨⟨f.na, f.nc, A, c⟩, rfl, hfin⟩
        · have HLR := Lib.hid hlk
          have CD := Lib.hid (hdo w5 (fun a => B a ∧ a < w5.heap.size) ⟨f.na, f.nc, A, c⟩ (fun a ha => ha.2) (HN5.out.mono fun a ha hl => ⟨ha, hl⟩))
          clear hlk hdo HLK
          unfold ndV at CD
          simp only [kd_mk, tx_mk, nm_mk, at_mk, ns_mk, ks_mk] at CD
          zstep 6
          have h := HLR.out
          simp only [pairV, kd_mk, ks_mk] at h
          rw [if_pos (by rfl)]
          unfold Oper.wp
          simp [execOp, Act.eval, h, Result.andThen, fnV]
          refine hK.out _ _ (fun _ => X05.out) (fun hHeld3 => ?_)
          clear hK K hHeld2 HLR h
          zput
          zstep 7
          go_simp
          refine hK.out _ _ (fun _ => X05.out) (fun hHeld4 => ?_)
          clear hK K hHeld3
          zput
          zdone
          have hne := fn_one n
          have n0 : w5.cell? ⟨G, 0, none⟩ = some (.int .i64 x.kd) := HX5.out.cell 0
          have n1 : w5.cell? ⟨G, 1, none⟩ = some (.string ⟨x.tx.toArray⟩) := HX5.out.cell 1
          have n2 : w5.cell? ⟨G, 2, none⟩ = some (.int .i64 x.nm) := HX5.out.cell 2
          have n3 : w5.cell? ⟨G, 3, none⟩ = some (.int .i64 (x.at_ : Int)) := HX5.out.cell 3
          have n4 : w5.cell? ⟨G, 4, none⟩ = some (.slice f.na x.ns.length f.nc) := HX5.out.cell 4
          have n5 : w5.cell? ⟨G, 5, none⟩ = some (.slice A ys.length c) := HX5.out.cell 5
          go_wp2_with fail
          refine CD.out.mono ?_
          rintro e w6 ⟨y, tt, f6, rfl, n6, b6, hyt⟩
          have HYT := Lib.hid hyt
          have HX6 := Lib.hid (HX5.out.below b6 HX5.out.lt)
          have HZ6 := Lib.hid (HZ5.out.below b6 HZ5.out.lt)
          have HBL6 := Lib.hid (HBL5.out.trans (b6.mono HBL5.out.size))
          have HN6 : Hid (NodeIn w6 B y f6) := n6.mono fun a ha _ => by
            rcases ha with ha | ha
            · exact ha.1
            · exact (HBD.out a).2 (.inr (Nat.le_trans HS5.out ha))
          have HN65 := Lib.hid (HN5.out.later b6 (Nat.le_refl _))
          clear hyt n6 b6 CD HX5 HZ5 HBL5 HN5 hne n0 n1 n2 n3 n4 n5 X05
          unfold ndV
          go_upto_region 13 with (fail)
          have HM7 : Hid (Whole (w6.alloc (.cells zN(y, f6) 25)) w6.heap.size 25 zN(y, f6)) := Whole.made w6 25 _
          have B7 : Hid (Below w6.heap.size w6 (w6.alloc (.cells zN(y, f6) 25))) := (Below.refl _ _).alloc (Nat.le_refl _) _
          generalize w6.alloc (.cells zN(y, f6) 25) = w7 at *
          have HX7 := Lib.hid (HX6.out.below B7.out HX6.out.lt)
          have HZ7 := Lib.hid (HZ6.out.below B7.out HZ6.out.lt)
          have HBL7 := Lib.hid (HBL6.out.trans (B7.out.mono HBL6.out.size))
          have HN7 := Lib.hid (HN6.out.later B7.out (Nat.le_refl _))
          have HN75 := Lib.hid (HN65.out.later B7.out (Nat.le_refl _))
          clear HX6 HZ6 HBL6 HN6 HN65 B7
          generalize w6.heap.size = M7 at *
          rcases tt with _ | _
          · have HEX : Hid (expN x = .mk x.kd x.tx x.nm x.at_ x.ns ys) := HEN.out.trans (by have := HYT.out; simpa using this)
            clear HEN HYT
            have n0 : w7.cell? ⟨G, 0, none⟩ = some (.int .i64 x.kd) := HX7.out.cell 0
            have n1 : w7.cell? ⟨G, 1, none⟩ = some (.string ⟨x.tx.toArray⟩) := HX7.out.cell 1
            have n2 : w7.cell? ⟨G, 2, none⟩ = some (.int .i64 x.nm) := HX7.out.cell 2
            have n3 : w7.cell? ⟨G, 3, none⟩ = some (.int .i64 (x.at_ : Int)) := HX7.out.cell 3
            have n4 : w7.cell? ⟨G, 4, none⟩ = some (.slice f.na x.ns.length f.nc) := HX7.out.cell 4
            have n5 : w7.cell? ⟨G, 5, none⟩ = some (.slice A ys.length c) := HX7.out.cell 5
            zzero w7 (G + 1) (HZ7.out)
            zfree (HZ7.out)
            go_wp2_with fail
            have HZF : Hid (Whole ((((((w7.setCell ⟨(G + 1), 0, none⟩ (.int .i64 x.kd)).setCell ⟨(G + 1), 1, none⟩ (.string ⟨x.tx.toArray⟩)).setCell ⟨(G + 1), 2, none⟩ (.int .i64 x.nm)).setCell ⟨(G + 1), 3, none⟩ (.int .i64 (x.at_ : Int))).setCell ⟨(G + 1), 4, none⟩ (.slice f.na x.ns.length f.nc)).setCell ⟨(G + 1), 5, none⟩ (.slice A ys.length c)) (G + 1) 25 #[.int .i64 x.kd, .string ⟨x.tx.toArray⟩, .int .i64 x.nm, .int .i64 (x.at_ : Int), .slice f.na x.ns.length f.nc, .slice A ys.length c]) := put6 HZ7.out _ _ _ _ _ _
            have HBF : Hid (But (G + 1) w7.heap.size w7 ((((((w7.setCell ⟨(G + 1), 0, none⟩ (.int .i64 x.kd)).setCell ⟨(G + 1), 1, none⟩ (.string ⟨x.tx.toArray⟩)).setCell ⟨(G + 1), 2, none⟩ (.int .i64 x.nm)).setCell ⟨(G + 1), 3, none⟩ (.int .i64 (x.at_ : Int))).setCell ⟨(G + 1), 4, none⟩ (.slice f.na x.ns.length f.nc)).setCell ⟨(G + 1), 5, none⟩ (.slice A ys.length c))) := but6 _ _ _ _ _ _ _ _
            generalize ((((((w7.setCell ⟨(G + 1), 0, none⟩ (.int .i64 x.kd)).setCell ⟨(G + 1), 1, none⟩ (.string ⟨x.tx.toArray⟩)).setCell ⟨(G + 1), 2, none⟩ (.int .i64 x.nm)).setCell ⟨(G + 1), 3, none⟩ (.int .i64 (x.at_ : Int))).setCell ⟨(G + 1), 4, none⟩ (.slice f.na x.ns.length f.nc)).setCell ⟨(G + 1), 5, none⟩ (.slice A ys.length c)) = wf at *
            gcells
            have hfin := exp_fin HBD.out HGS.out HG.out HBW.out HBL7.out HN75.out HBF.out
            rw [← HEX.out] at hfin
            refine bodyPost_ret (v := ndV (expN x) ⟨f.na, f.nc, A, c⟩) (by rw [HEX.out]; simp [results, Try.results11, go_sem, ndV, Nd.kd, Nd.tx, Nd.nm, Nd.at_, Nd.ns, Nd.ks, g0, g1, g2, g3, g4, g5]) rfl ⟨⟨f.na, f.nc, A, c⟩, rfl, hfin⟩
          · have HEX : Hid (expN x = y) := HEN.out.trans (by have := HYT.out; simpa using this.symm)
            clear HEN HYT
            have n0 : w7.cell? ⟨M7, 0, none⟩ = some (.int .i64 y.kd) := HM7.out.cell 0
            have n1 : w7.cell? ⟨M7, 1, none⟩ = some (.string ⟨y.tx.toArray⟩) := HM7.out.cell 1
            have n2 : w7.cell? ⟨M7, 2, none⟩ = some (.int .i64 y.nm) := HM7.out.cell 2
            have n3 : w7.cell? ⟨M7, 3, none⟩ = some (.int .i64 (y.at_ : Int)) := HM7.out.cell 3
            have n4 : w7.cell? ⟨M7, 4, none⟩ = some (.slice f6.na y.ns.length f6.nc) := HM7.out.cell 4
            have n5 : w7.cell? ⟨M7, 5, none⟩ = some (.slice f6.ka y.ks.length f6.kc) := HM7.out.cell 5
            zzero w7 (G + 1) (HZ7.out)
            zfree (HZ7.out)
            go_wp2_with fail
            have HZF : Hid (Whole (zP(w7, (G + 1), y, f6)) (G + 1) 25 zN(y, f6)) := put6 HZ7.out _ _ _ _ _ _
            have HBF : Hid (But (G + 1) w7.heap.size w7 (zP(w7, (G + 1), y, f6))) := but6 _ _ _ _ _ _ _ _
            generalize (zP(w7, (G + 1), y, f6)) = wf at *
            gcells
            have hfin := exp_fin HBD.out HGS.out HG.out HBW.out HBL7.out HN7.out HBF.out
            rw [← HEX.out] at hfin
            refine bodyPost_ret (v := ndV (expN x) f6) (by rw [HEX.out]; simp [results, Try.results11, go_sem, ndV, Nd.kd, Nd.tx, Nd.nm, Nd.at_, Nd.ns, Nd.ks, g0, g1, g2, g3, g4, g5]) rfl ⟨f6, rfl, hfin⟩
end Go.Proofs.Ytgjchgmlogbmmaa
/- The walks of layer 5, the document's: a type with what it is applied to. -/
namespace Go.Proofs.Ytgjchgmlogbmmaa
open Go.RowKit
set_option linter.unusedVariables false
set_option linter.unusedSimpArgs false
attribute [local go_sem ↓] Go.wp_at_zero Go.wp_at_succ

set_option maxRecDepth 100000 in
set_option maxHeartbeats 8000000 in
theorem ty_any (w : World) (R g c : Nat) (T : List Tok) (r : Rec) (n : Nat) (s : PS) (E : Ends T) (F : Fine T r) (D : Deep R g c T r n) (hp : PAt w R g c T s) (hd : 41 ≤ s.deep + (n + 1)) :
    Calls Try.prog 67 #[.pointer (some ⟨R, 0, none⟩)] w (Gives w R g c T (tyF T r s)) := by
  have H0 := Lib.hid (St.start hp)
  have HD := Lib.hid hd
  have HL := Lib.hid hp.lt
  have HLen := Lib.hid hp.len
  clear hp hd
  obtain ⟨q, hq⟩ : ∃ q, tyF T r s = q := ⟨_, rfl⟩
  rw [hq]
  have HQ := Lib.hid hq
  clear hq
  go_enter Try.func67, Try.ntmps67
  go_upto_region 1 with (fail)
  generalize w.alloc (.cells zZ 25) = w1 at *
  obtain ⟨b, h_b⟩ : ∃ b, enterB T s = b := ⟨_, rfl⟩
  have E_b := Lib.hid h_b
  clear h_b
  obtain ⟨s1, h_s1⟩ : ∃ s1, enterF T s = s1 := ⟨_, rfl⟩
  have E_s1 := Lib.hid h_s1
  clear h_s1
  go_wp2_with fail
  refine (enter_eq E_b.out E_s1.out H0.out.p).mono ?_
  rintro e w2 ⟨rfl, h2, b2⟩
  have H2 := Lib.hid (H0.out.call h2 b2)
  clear h2 b2 H0
  rcases b with _ | _
  · have hq : (nd0, s1) = q := by rw [← HQ.out]; unfold tyF; rw [if_neg (by rw [E_b.out]; decide), E_s1.out]
    subst hq
    clear HQ E_b E_s1 HL
    zzero w2 (w.heap.size) (H2.out.z)
    zfree (H2.out.z)
    go_wp2_with fail
    have HZF : Hid (Whole (zP0(w2, w.heap.size)) w.heap.size 25 zZ) := put6 H2.out.z _ _ _ _ _ _
    have HBF : Hid (But w.heap.size w2.heap.size w2 (zP0(w2, w.heap.size))) := but6 _ _ _ _ _ _ _ _
    generalize (zP0(w2, w.heap.size)) = wf at *
    gcells
    exact bodyPost_ret (v := ndV nd0 fr0) (by simp [results, Try.results67, go_sem, ndV, Nd.kd, Nd.tx, Nd.nm, Nd.at_, Nd.ns, Nd.ks, leafN, fr0, nd0, g0, g1, g2, g3, g4, g5]) rfl (H2.out.done (x := nd0) (f := fr0) (.leaf _ _ rfl rfl) HBF.out)
  · obtain ⟨a, h_a⟩ : ∃ a, atF T s1 = a := ⟨_, rfl⟩
    have E_a := Lib.hid h_a
    clear h_a
    obtain ⟨tx, h_tx⟩ : ∃ tx, textT T s1 3 = tx := ⟨_, rfl⟩
    have E_tx := Lib.hid h_tx
    clear h_tx
    obtain ⟨s2, h_s2⟩ : ∃ s2, textF T s1 3 = s2 := ⟨_, rfl⟩
    have E_s2 := Lib.hid h_s2
    clear h_s2
    have HA : Hid (s1.i = s.i ∧ s1.deep = s.deep + 1) := by
      obtain ⟨a1, a2, _⟩ := enter_in HL.out E_b.out
      rw [E_s1.out] at a1 a2
      exact ⟨a1, a2⟩
    have hL1 : s1.i < T.length := by rw [HA.out.1]; exact HL.out
    have G_s2 := Lib.hid (show Goes T s1 s2 from by have q := goes_text E hL1 3; rw [E_s2.out] at q; exact q)
    have hd1 : 41 ≤ s1.deep + n := by rw [HA.out.2]; have := HD.out; omega
    clear hL1
    have HQ2 : Hid (((tyL T r T.length (.mk 27 tx 0 a [] []) s2).1, up (tyL T r T.length (.mk 27 tx 0 a [] []) s2).2) = q) := by
      show _ = _
      rw [← HQ.out, ← E_tx.out, ← E_s2.out, ← E_a.out, ← E_s1.out]; unfold tyF; rw [if_pos E_b.out]
    clear HQ
    generalize hres : tyL T r T.length (.mk 27 tx 0 a [] []) s2 = res at *
    have HRES := Lib.hid hres
    clear hres
    go_wp2_with fail
    refine (at_eq E_a.out H2.out.p).mono ?_
    rintro e w3 ⟨rfl, b3⟩
    have H3 := Lib.hid (H2.out.read b3)
    clear b3 H2
    have S_G : Hid (w.heap.size < w3.heap.size) := H3.out.size
    have H4 := Lib.hid (H3.out.alloc (.cells #[.int .i64 27, .string ⟨#[]⟩, .int .i64 0, .int .i64 (a : Int), .slice none 0 0, .slice none 0 0] 25))
    have B_G4 : Hid (Box (w3.alloc (.cells #[.int .i64 27, .string ⟨#[]⟩, .int .i64 0, .int .i64 (a : Int), .slice none 0 0, .slice none 0 0] 25)) w3.heap.size (w.heap.size + 1) (Nd.mk 27 [] 0 a [] []) fr0 []) := Box.made w3 (base := w.heap.size + 1) (x := (Nd.mk 27 [] 0 a [] [])) H3.out.size rfl rfl
    go_upto_region 5 with (fail)
    generalize w3.alloc (.cells #[.int .i64 27, .string ⟨#[]⟩, .int .i64 0, .int .i64 (a : Int), .slice none 0 0, .slice none 0 0] 25) = w4 at *
    generalize w3.heap.size = G at *
    clear H3
    go_wp2_with fail
    refine (text_eq E E_tx.out E_s2.out H4.out.p).mono ?_
    rintro e w5 ⟨rfl, h5, b5⟩
    have H5 := Lib.hid (H4.out.call h5 b5)
    have B_G5 := Lib.hid (B_G4.out.but b5 (Nat.le_refl _) (by have := H4.out.r; omega))
    clear h5 b5 H4 B_G4
    have c1 := B_G5.out.c1
    have f1 := B_G5.out.free 1
    have q0 := H5.out.p
    go_upto_block 0 with (fail)
    have BZ : Hid (Box (w5.setCell ⟨G, 1, none⟩ (.string ⟨tx.toArray⟩)) G (w.heap.size + 1) (Nd.mk 27 tx 0 a [] []) fr0 []) := B_G5.out.put 1 (.string ⟨tx.toArray⟩) (y := (Nd.mk 27 tx 0 a [] [])) rfl rfl rfl
    have HZ := Lib.hid (H5.out.own (p := ⟨G, 1, none⟩) B_G5.out.lo (.string ⟨tx.toArray⟩))
    clear c1 f1 q0 B_G5 H5
    generalize w5.setCell ⟨G, 1, none⟩ (.string ⟨tx.toArray⟩) = w20 at *
    go_cut [6] (fun _ wx => ∃ z s3 f3 fs3, q = (z, up s3) ∧ St w wx R g c T s3 ∧ Box wx G (w.heap.size + 1) z f3 fs3 ∧ Goes T s1 s3)
    case first =>
      go_wp2_with fail
      go_loopg [6] T.length (fun gk ks wr => ∃ z s3 f3 fs3, T.length ≤ gk + s3.i ∧ z.ks.length ≤ s3.i ∧ tyL T r gk z s3 = res ∧ Box wr G (w.heap.size + 1) z f3 fs3 ∧ St w wr R g c T s3 ∧ Goes T s1 s3)
      case atStart => exact ⟨_, s2, fr0, [], by omega, Nat.zero_le _, HRES.out, BZ.out, HZ.out, G_s2.out⟩
      case round =>
        obtain ⟨z, s3, f3, fs3, hz, hz4, hpl, hbx, hst, hgo⟩ := hrel
        obtain ⟨m, rfl⟩ : ∃ m, gk = m + 1 := ⟨gk - 1, by have := hgo.lt; omega⟩
        have hz5 : z.ks.length ≤ 100000 := by have := hgo.lt; have := hst.p.len; omega
        have BX := Lib.hid hbx
        have HS := Lib.hid hst
        have G_s3 := Lib.hid hgo
        have HPL := Lib.hid (show (if s3.e = 0 then if kdF T s3 = 3 then tyL T r m (z.add (.mk 27 (stepT T s3).text 0 (stepT T s3).at_ [] [])) (stepF T s3) else if isF T s3 [40] = true then tyL T r m (z.add (r.ty (stepF T s3)).1) (wantF T (r.ty (stepF T s3)).2 [41]) else (z, s3) else (z, s3)) = res from hpl)
        clear hbx hst hgo HRES hpl HZ BZ
        have c5 := HS.out.p.c5
        have ff := HS.out.p.free 5
        obtain ⟨es, qe⟩ : ∃ es, (s3.e == 0) = es := ⟨_, rfl⟩
        rcases es with _ | _
        · have hr := HPL.out
          rw [if_neg (beq_eq_false_iff_ne.1 qe)] at hr
          subst hr
          clear HPL
          go_wp2_with fail
          go_meet
          exact ⟨z, s3, f3, fs3, HQ2.out.symm, HS.out, BX.out, G_s3.out⟩
        · have HPL2 := Lib.hid ((if_pos (beq_iff_eq.1 qe)).symm.trans HPL.out)
          clear HPL
          obtain ⟨k, h_k⟩ : ∃ k, kdF T s3 = k := ⟨_, rfl⟩
          have E_k := Lib.hid h_k
          clear h_k
          obtain ⟨kb, q4⟩ : ∃ kb, (k == 3) = kb := ⟨_, rfl⟩
          go_upto_region 7 with (fail)
          clear c5 ff
          go_wp2_with fail
          refine (kind_eq E_k.out HS.out.p).mono ?_
          rintro e w21 ⟨rfl, b21⟩
          have H21 := Lib.hid (HS.out.read b21)
          have B_G21 := Lib.hid (BX.out.below b21 (Nat.le_refl _))
          clear b21 HS BX
          rcases kb with _ | _
          · obtain ⟨b40, h_b40⟩ : ∃ b40, isF T s3 [40] = b40 := ⟨_, rfl⟩
            have E_b40 := Lib.hid h_b40
            clear h_b40
            have HPL3 := Lib.hid ((if_neg (by rw [E_k.out]; exact beq_eq_false_iff_ne.1 q4)).symm.trans HPL2.out)
            clear HPL2
            go_wp2_with fail
            refine (is_eq E_b40.out H21.out.p).mono ?_
            rintro e w22 ⟨rfl, b22⟩
            have H22 := Lib.hid (H21.out.read b22)
            have B_G22 := Lib.hid (B_G21.out.below b22 (Nat.le_refl _))
            clear b22 H21 B_G21
            rcases b40 with _ | _
            · have hr := (if_neg (by rw [E_b40.out]; decide)).symm.trans HPL3.out
              subst hr
              clear HPL3
              go_wp2_with fail
              go_meet
              exact ⟨z, s3, f3, fs3, HQ2.out.symm, H22.out, B_G22.out, G_s3.out⟩
            · obtain ⟨t, h_t⟩ : ∃ t, stepT T s3 = t := ⟨_, rfl⟩
              have E_t := Lib.hid h_t
              clear h_t
              obtain ⟨s4, h_s4⟩ : ∃ s4, stepF T s3 = s4 := ⟨_, rfl⟩
              have E_s4 := Lib.hid h_s4
              clear h_s4
              have HI : Hid (s4.i = s3.i + 1) := by
                show _ = _
                rw [← E_s4.out]; unfold stepF; rw [if_neg (fun h => by have e := E_b40.out; unfold isF at e; rw [h] at e; simp at e)]
              have G_s4 := Lib.hid (show Goes T s1 s4 from by have q := (G_s3.out.step E); rw [E_s4.out] at q; exact q)
              obtain ⟨y, s5, h_s5⟩ : ∃ y s5, r.ty s4 = (y, s5) := ⟨_, _, rfl⟩
              have E_s5 := Lib.hid h_s5
              clear h_s5
              have G_s5 := Lib.hid (show Goes T s1 s5 from by have q := G_s4.out.ty F; rw [E_s5.out] at q; exact q)
              obtain ⟨s6, h_s6⟩ : ∃ s6, wantF T s5 [41] = s6 := ⟨_, rfl⟩
              have E_s6 := Lib.hid h_s6
              clear h_s6
              have G_s6 := Lib.hid (show Goes T s1 s6 from by have q := G_s5.out.want E [41]; rw [E_s6.out] at q; exact q)
              have HI2 : Hid (s3.i + 1 ≤ s6.i) := by
                show _ ≤ _
                have h1 : Goes T s4 s5 := by have q := F.ty s4 G_s4.out.lt; rw [E_s5.out] at q; exact q
                have h2 : Goes T s5 s6 := by have q := goes_want E G_s5.out.lt [41]; rw [E_s6.out] at q; exact q
                have := h1.i; have := h2.i; have := HI.out; omega
              have HPL4 : Hid (tyL T r m (z.add y) s6 = res) := by
                show _ = _
                have q := (if_pos E_b40.out).symm.trans HPL3.out
                rw [E_s4.out, E_s5.out, E_s6.out] at q; exact q
              clear HPL3
              go_wp2_with fail
              refine (step_eq E E_t.out E_s4.out H22.out.p).mono ?_
              rintro e w23 ⟨rfl, h23, b23⟩
              have H23 := Lib.hid (H22.out.call h23 b23)
              have B_G23 := Lib.hid (B_G22.out.but b23 (Nat.le_refl _) (by have := H22.out.r; omega))
              clear h23 b23 H22 B_G22
              go_upto_region 13 with (fail)
              have C24 := Lib.hid (fun wx (h : PAt wx R g c T s4) => gives_eq E_s5.out (D.ty wx s4 h (by rw [G_s4.out.deep]; exact hd1)))
              refine region_Z (fun W => W.cell? ⟨G, 5, none⟩ = some (.slice f3.ka z.ks.length f3.kc)) (fun i => i == 7) (by kernel_rfl) B_G23.out.drew.c5 (fun hHeld => ?_)
              ztake 0 8
              ztake 1 8
              ztake 2 8
              zstep 3
              go_simp
              go_at_call 67
              refine (C24.out _ H23.out.drew.p).mono ?_
              rintro e wc ⟨fy, rfl, hpc, ny, bc⟩
              have HC := Lib.hid (H23.out.drew.call hpc bc)
              have BC := Lib.hid (B_G23.out.drew.but bc (Nat.le_refl _) (by have := H23.out.r; omega))
              have NY : Hid (NodeIn wc (fun a => w23.heap.size ≤ a) y fy) := ny
              clear hpc ny bc
              unfold ndV
              refine hK.out _ _ (fun _ => BC.out.c5) (fun hHeld2 => ?_)
              clear hK K hHeld
              zput
              zstep 4
              go_simp
              refine hK.out _ _ (fun _ => (BC.out.alloc _).c5) (fun hHeld3 => ?_)
              clear hK K hHeld2
              zput
              zstep 5
              refine step_app ty_nd (v := .slice f3.ka z.ks.length f3.kc) (by rfl) _ _ (by rfl) (by rfl) (BC.out.alloc _).kid wc.heap.size 1 (ndL y fy) (by rfl) (Whole.made wc 25 _) (by rfl) (by simp [ndL, Value.oneCell']) (by decide) (by omega) (by decide) (by have := HC.out.size; simp; omega) ?_
              intro gv cv wd hap
              have HD := Lib.hid ((HC.out.alloc (.cells (ndL y fy).toArray 25)).low (hap.below (BC.out.alloc (.cells (ndL y fy).toArray 25)).kid (Below.refl _ _) (Nat.le_refl _) (by have := HC.out.size; simp; omega)))
              have BN0 := Lib.hid ((BC.out.alloc (.cells (ndL y fy).toArray 25)).app (B := w23.heap.size) B_G23.out.lt B_G23.out.nlt B_G23.out.klt (NY.out.alloc _) hap)
              have XD := Lib.hid (hap.far (BC.out.alloc (.cells (ndL y fy).toArray 25)).box (row_ne (BC.out.alloc (.cells (ndL y fy).toArray 25)).kid BC.out.kN))
              have z5 : wd.cell? ⟨G, 5, none⟩ = some (.slice f3.ka z.ks.length f3.kc) := XD.out.cell 5
              have y5 := XD.out.free 5
              refine hK.out _ _ (fun _ => z5) (fun hHeld4 => ?_)
              replace hHeld4 := hHeld4 (by decide)
              clear hK K hHeld3 hap
              zput
              ztake 6 8
              zstep 7
              go_simp
              zgoz
              zdone
              have H24 := Lib.hid (HD.out.own (p := ⟨G, 5, none⟩) (Nat.lt_of_succ_le B_G23.out.lo) (.slice (some ⟨gv, 0, none⟩) (z.ks.length + 1) cv))
              obtain ⟨f24, fs24, BN1⟩ : ∃ f2 fs2, Box (wd.setCell ⟨G, 5, none⟩ (.slice (some ⟨gv, 0, none⟩) (z.ks.length + 1) cv)) G (w.heap.size + 1) (z.add y) f2 fs2 := ⟨_, _, BN0.out⟩
              have B_G24 := Lib.hid BN1
              clear hK K hHeld4 z5 y5 XD BN0 BN1 HD BC HC NY
              generalize wd.setCell ⟨G, 5, none⟩ (.slice (some ⟨gv, 0, none⟩) (z.ks.length + 1) cv) = w24 at *
              clear C24 H23 B_G23
              go_wp2_with fail
              refine (want_eq E E_s6.out H24.out.p).mono ?_
              rintro e w25 ⟨rfl, h25, b25⟩
              have H25 := Lib.hid (H24.out.call h25 b25)
              have B_G25 := Lib.hid (B_G24.out.but b25 (Nat.le_refl _) (by have := H24.out.r; omega))
              clear h25 b25 H24 B_G24
              go_wp2_with fail
              go_roundg m
              case measure => exact Nat.lt_succ_self _
              case rel => exact ⟨_, s6, f24, fs24, by have := HI2.out; omega, by rw [add_ks]; have := HI2.out; simp; omega, HPL4.out, B_G25.out, H25.out, G_s6.out⟩
          · obtain ⟨t, h_t⟩ : ∃ t, stepT T s3 = t := ⟨_, rfl⟩
            have E_t := Lib.hid h_t
            clear h_t
            obtain ⟨s4, h_s4⟩ : ∃ s4, stepF T s3 = s4 := ⟨_, rfl⟩
            have E_s4 := Lib.hid h_s4
            clear h_s4
            have HI : Hid (s4.i = s3.i + 1) := by
              show _ = _
              rw [← E_s4.out]; unfold stepF; rw [if_neg (by rw [E_k.out, beq_iff_eq.1 q4]; decide)]
            have G_s4 := Lib.hid (show Goes T s1 s4 from by have q := (G_s3.out.step E); rw [E_s4.out] at q; exact q)
            have HPL4 : Hid (tyL T r m (z.add (.mk 27 t.text 0 t.at_ [] [])) s4 = res) := by
              show _ = _
              have q := (if_pos (by rw [E_k.out, beq_iff_eq.1 q4])).symm.trans HPL2.out
              rw [E_s4.out, E_t.out] at q; exact q
            clear HPL2
            go_wp2_with fail
            refine (step_eq E E_t.out E_s4.out H21.out.p).mono ?_
            rintro e w61 ⟨rfl, h61, b61⟩
            have H61 := Lib.hid (H21.out.call h61 b61)
            have B_G61 := Lib.hid (B_G21.out.but b61 (Nat.le_refl _) (by have := H21.out.r; omega))
            clear h61 b61 H21 B_G21
            unfold tokV
            have S_K : Hid (w.heap.size < w61.heap.size) := H61.out.size
            have H62 := Lib.hid (H61.out.alloc (.cells #[.int .i64 t.kind, .string ⟨t.text.toArray⟩, .int .i64 t.num, .int .i64 (t.at_ : Int)] 67))
            have B_G62 := Lib.hid (B_G61.out.alloc (.cells #[.int .i64 t.kind, .string ⟨t.text.toArray⟩, .int .i64 t.num, .int .i64 (t.at_ : Int)] 67))
            have X_K62 : Hid (Whole (w61.alloc (.cells #[.int .i64 t.kind, .string ⟨t.text.toArray⟩, .int .i64 t.num, .int .i64 (t.at_ : Int)] 67)) w61.heap.size 67 #[.int .i64 t.kind, .string ⟨t.text.toArray⟩, .int .i64 t.num, .int .i64 (t.at_ : Int)]) := Whole.made _ _ _
            go_upto_region 9 with (fail)
            generalize w61.alloc (.cells #[.int .i64 t.kind, .string ⟨t.text.toArray⟩, .int .i64 t.num, .int .i64 (t.at_ : Int)] 67) = w62 at *
            generalize w61.heap.size = K at *
            clear H61 B_G61
            have c5 := B_G62.out.c5
            have z1 := X_K62.out.cell 1
            have z3 := X_K62.out.cell 3
            go_wp2_with (at_builtin; refine list_app ty_nd (v := .slice f3.ka z.ks.length f3.kc) rfl _ _ rfl rfl (B_G62.out.alloc _).kid w62.heap.size 1 (ndL (.mk 27 t.text 0 t.at_ [] []) fr0) rfl (Whole.made w62 25 _) rfl (by simp [ndL, Value.oneCell']) (by decide) (by omega) (by decide) (by have := H62.out.size; simp; omega) ?_; intro gv cv wd hap; have HD := Lib.hid ((H62.out.alloc (.cells (ndL (.mk 27 t.text 0 t.at_ [] []) fr0).toArray 25)).low (hap.below (B_G62.out.alloc (.cells (ndL (.mk 27 t.text 0 t.at_ [] []) fr0).toArray 25)).kid (Below.refl _ _) (Nat.le_refl _) (by have := H62.out.size; simp; omega))); have BN0 := Lib.hid ((B_G62.out.alloc (.cells (ndL (.mk 27 t.text 0 t.at_ [] []) fr0).toArray 25)).app (y := (.mk 27 t.text 0 t.at_ [] [])) (fy := fr0) (B := w62.heap.size) B_G62.out.lt B_G62.out.nlt B_G62.out.klt (.leaf _ _ rfl rfl) hap); have XD := Lib.hid (hap.far (B_G62.out.alloc (.cells (ndL (.mk 27 t.text 0 t.at_ [] []) fr0).toArray 25)).box (row_ne (B_G62.out.alloc (.cells (ndL (.mk 27 t.text 0 t.at_ [] []) fr0).toArray 25)).kid B_G62.out.kN)); have z5 : wd.cell? ⟨G, 5, none⟩ = some (.slice f3.ka z.ks.length f3.kc) := XD.out.cell 5; have y5 := XD.out.free 5; clear hap c5 z1 z3)
            have H90 := Lib.hid (HD.out.own (p := ⟨G, 5, none⟩) (Nat.lt_of_succ_le B_G62.out.lo) (.slice (some ⟨gv, 0, none⟩) (z.ks.length + 1) cv))
            obtain ⟨f90, fs90, BN1⟩ : ∃ f2 fs2, Box (wd.setCell ⟨G, 5, none⟩ (.slice (some ⟨gv, 0, none⟩) (z.ks.length + 1) cv)) G (w.heap.size + 1) (z.add (.mk 27 t.text 0 t.at_ [] [])) f2 fs2 := ⟨_, _, BN0.out⟩
            have B90 := Lib.hid BN1
            clear z5 y5 XD BN0 BN1 HD X_K62
            generalize wd.setCell ⟨G, 5, none⟩ (.slice (some ⟨gv, 0, none⟩) (z.ks.length + 1) cv) = w90 at *
            go_wp2_with fail
            go_roundg m
            case measure => exact Nat.lt_succ_self _
            case rel => exact ⟨_, s4, f90, fs90, by have := HI.out; omega, by rw [add_ks]; have := HI.out; simp; omega, HPL4.out, B90.out, H90.out, G_s4.out⟩
    case rest =>
      obtain ⟨z, s3, f3, fs3, hq, h5, b5, g5⟩ := hcut
      subst hq
      have H5 := Lib.hid h5
      have B5 := Lib.hid b5
      have G_s3 := Lib.hid g5
      clear HQ2 HRES h5 b5 g5 HZ BZ
      have c2 := H5.out.p.c2
      have f2 := H5.out.p.free 2
      have d3 : s3.deep = s.deep + 1 := by rw [G_s3.out.deep]; exact HA.out.2
      have d4 : (s3.deep : Int) - 1 = (s.deep : Int) := by omega
      have d5 : s3.deep - 1 = s.deep := by omega
      have d6 : (s3.deep : Int) ≤ 40 := by have := H5.out.p.deep; omega
      have HU : Hid (up s3 = { s3 with deep := s.deep }) := by show _ = _; unfold up; rw [d5]
      clear d5 d3
      go_upto_region 16 with (fail)
      have H6 : Hid (St w (wc.setCell ⟨R, 2, none⟩ (.int .i64 (s.deep : Int))) R g c T (up s3)) := by
        show St _ _ _ _ _ _ _
        rw [HU.out]
        exact H5.out.upd (s' := { s3 with deep := s.deep }) 2 _ rfl H5.out.p.lt (by show s.deep ≤ 40; omega)
      have B6 := Lib.hid (B5.out.but ((But.refl R wc.heap.size wc).set 2 (.int .i64 (s.deep : Int))) (Nat.le_refl _) (by have := H5.out.r; omega))
      clear c2 f2 H5 B5
      generalize wc.setCell ⟨R, 2, none⟩ (.int .i64 (s.deep : Int)) = w6 at *
      have N6 := Lib.hid (B6.out.node.mono (b' := fun a => w.heap.size < a) (fun a ha _ => by omega))
      have t0 : w6.cell? ⟨G, 0, none⟩ = some (.int .i64 z.kd) := B6.out.box.cell 0
      have t1 : w6.cell? ⟨G, 1, none⟩ = some (.string ⟨z.tx.toArray⟩) := B6.out.box.cell 1
      have t2 : w6.cell? ⟨G, 2, none⟩ = some (.int .i64 z.nm) := B6.out.box.cell 2
      have t3 : w6.cell? ⟨G, 3, none⟩ = some (.int .i64 (z.at_ : Int)) := B6.out.box.cell 3
      have t4 : w6.cell? ⟨G, 4, none⟩ = some (.slice f3.na z.ns.length f3.nc) := B6.out.box.cell 4
      have t5 : w6.cell? ⟨G, 5, none⟩ = some (.slice f3.ka z.ks.length f3.kc) := B6.out.box.cell 5
      zzero w6 (w.heap.size) (H6.out.z)
      zfree (H6.out.z)
      go_wp2_with fail
      have HZF : Hid (Whole (zP(w6, w.heap.size, z, f3)) w.heap.size 25 zN(z, f3)) := put6 H6.out.z _ _ _ _ _ _
      have HBF : Hid (But w.heap.size w6.heap.size w6 (zP(w6, w.heap.size, z, f3))) := but6 _ _ _ _ _ _ _ _
      generalize (zP(w6, w.heap.size, z, f3)) = wf at *
      gcells
      exact bodyPost_ret (v := ndV z f3) (by simp [results, Try.results67, go_sem, ndV, Nd.kd, Nd.tx, Nd.nm, Nd.at_, Nd.ns, Nd.ks, leafN, fr0, nd0, g0, g1, g2, g3, g4, g5]) rfl (H6.out.done N6.out HBF.out)
end Go.Proofs.Ytgjchgmlogbmmaa
/- The walks of layer 5, the document's: a constructor. -/
namespace Go.Proofs.Ytgjchgmlogbmmaa
open Go.RowKit
set_option linter.unusedVariables false
set_option linter.unusedSimpArgs false
attribute [local go_sem ↓] Go.wp_at_zero Go.wp_at_succ

theorem is_kd {T : List Tok} {s : PS} {x : List UInt8} (h : isF T s x = true) : kdF T s ≠ 0 := fun h0 => by
  unfold isF at h; rw [h0] at h; simp at h
set_option maxRecDepth 100000 in
set_option maxHeartbeats 8000000 in
theorem con_any (w : World) (R g c : Nat) (T : List Tok) (r : Rec) (n : Nat) (s : PS) (E : Ends T) (F : Fine T r) (D : Deep R g c T r n) (hp : PAt w R g c T s) (hd : 41 ≤ s.deep + n) :
    Calls Try.prog 52 #[.pointer (some ⟨R, 0, none⟩)] w (Gives w R g c T (conF T r s)) := by
  have H0 := Lib.hid (St.start hp)
  have HD := Lib.hid hd
  have HL := Lib.hid hp.lt
  clear hp hd
  obtain ⟨q, hq⟩ : ∃ q, conF T r s = q := ⟨_, rfl⟩
  rw [hq]
  have HQ := Lib.hid hq
  clear hq
  obtain ⟨a, h_a⟩ : ∃ a, atF T s = a := ⟨_, rfl⟩
  have E_a := Lib.hid h_a
  clear h_a
  obtain ⟨tx, h_tx⟩ : ∃ tx, textT T s 4 = tx := ⟨_, rfl⟩
  have E_tx := Lib.hid h_tx
  clear h_tx
  obtain ⟨s2, h_s2⟩ : ∃ s2, textF T s 4 = s2 := ⟨_, rfl⟩
  have E_s2 := Lib.hid h_s2
  clear h_s2
  obtain ⟨b0, h_b0⟩ : ∃ b0, isF T s2 [111, 102] = b0 := ⟨_, rfl⟩
  have E_b0 := Lib.hid h_b0
  clear h_b0
  have G_s2 := Lib.hid (show Goes T s s2 from by have q := (goes_text E HL.out 4); rw [E_s2.out] at q; exact q)
  have HQ2 : Hid (conL T r (T.length + 1) b0 (.mk 26 tx 0 a [] []) s2 = q) := by
    show _ = _
    rw [← HQ.out, ← E_b0.out, ← E_tx.out, ← E_s2.out, ← E_a.out]; rfl
  have HB0 : Hid (b0 = true → kdF T s2 ≠ 0) := fun h => is_kd (E_b0.out.trans h)
  clear HQ
  go_enter Try.func52, Try.ntmps52
  go_upto_region 1 with (fail)
  generalize w.alloc (.cells zZ 25) = w1 at *
  go_wp2_with fail
  refine (at_eq E_a.out H0.out.p).mono ?_
  rintro e w2 ⟨rfl, b2⟩
  have H2 := Lib.hid (H0.out.read b2)
  clear b2 H0
  have S_G : Hid (w.heap.size < w2.heap.size) := H2.out.size
  have H3 := Lib.hid (H2.out.alloc (.cells #[.int .i64 26, .string ⟨#[]⟩, .int .i64 0, .int .i64 (a : Int), .slice none 0 0, .slice none 0 0] 25))
  have B_G3 : Hid (Box (w2.alloc (.cells #[.int .i64 26, .string ⟨#[]⟩, .int .i64 0, .int .i64 (a : Int), .slice none 0 0, .slice none 0 0] 25)) w2.heap.size (w.heap.size + 1) (Nd.mk 26 [] 0 a [] []) fr0 []) := Box.made w2 (base := w.heap.size + 1) (x := (Nd.mk 26 [] 0 a [] [])) H2.out.size rfl rfl
  go_upto_region 2 with (fail)
  generalize w2.alloc (.cells #[.int .i64 26, .string ⟨#[]⟩, .int .i64 0, .int .i64 (a : Int), .slice none 0 0, .slice none 0 0] 25) = w3 at *
  generalize w2.heap.size = G at *
  clear H2
  go_wp2_with fail
  refine (text_eq E E_tx.out E_s2.out H3.out.p).mono ?_
  rintro e w4 ⟨rfl, h4, b4⟩
  have H4 := Lib.hid (H3.out.call h4 b4)
  have B_G4 := Lib.hid (B_G3.out.but b4 (Nat.le_refl _) (by have := H3.out.r; omega))
  clear h4 b4 H3 B_G3
  have c1 := B_G4.out.c1
  have f1 := B_G4.out.free 1
  go_upto_region 3 with (fail)
  have B_G5 : Hid (Box (w4.setCell ⟨G, 1, none⟩ (.string ⟨tx.toArray⟩)) G (w.heap.size + 1) (Nd.mk 26 tx 0 a [] []) fr0 []) := B_G4.out.put 1 (.string ⟨tx.toArray⟩) (y := (Nd.mk 26 tx 0 a [] [])) (by rfl) rfl rfl
  have H5 := Lib.hid (H4.out.own (p := ⟨G, 1, none⟩) B_G4.out.lo (.string ⟨tx.toArray⟩))
  clear c1 f1 B_G4 H4
  generalize w4.setCell ⟨G, 1, none⟩ (.string ⟨tx.toArray⟩) = w5 at *
  go_wp2_with fail
  refine (is_eq E_b0.out H5.out.p).mono ?_
  rintro e w6 ⟨rfl, b6⟩
  have H6 := Lib.hid (H5.out.read b6)
  have B_G6 := Lib.hid (B_G5.out.below b6 (Nat.le_refl _))
  clear b6 H5 B_G5
  go_upto_block 0 with (fail)
  go_cut [4] (fun _ wx => ∃ z s3 f3 fs3, q = (z, s3) ∧ St w wx R g c T s3 ∧ Box wx G (w.heap.size + 1) z f3 fs3)
  case first =>
    go_wp2_with fail
    go_loopg [4] (T.length + 1) (fun gk mo wr => ∃ b z s3 f3 fs3, mo = .bool b ∧ T.length + 1 ≤ gk + s3.i ∧ z.ks.length ≤ s3.i ∧ conL T r gk b z s3 = q ∧ Box wr G (w.heap.size + 1) z f3 fs3 ∧ St w wr R g c T s3 ∧ Goes T s s3 ∧ (b = true → kdF T s3 ≠ 0))
    case atStart => exact ⟨b0, _, s2, fr0, [], rfl, by omega, Nat.zero_le _, HQ2.out, B_G6.out, H6.out, G_s2.out, HB0.out⟩
    case round =>
      obtain ⟨b, z, s3, f3, fs3, rfl, hz, hz4, hpl, hbx, hst, hgo, hk⟩ := hrel
      obtain ⟨m, rfl⟩ : ∃ m, gk = m + 1 := ⟨gk - 1, by have := hgo.lt; omega⟩
      have hz5 : z.ks.length ≤ 100000 := by have := hgo.lt; have := hst.p.len; omega
      have BX := Lib.hid hbx
      have HS := Lib.hid hst
      have G_s3 := Lib.hid hgo
      have HK := Lib.hid hk
      have HPL := Lib.hid (show (if b = true ∧ s3.e = 0 then conL T r m (isF T (r.ty (if z.ks.length = 4 then failF T (stepF T s3) 16 else stepF T s3)).2 [44]) (z.add (r.ty (if z.ks.length = 4 then failF T (stepF T s3) 16 else stepF T s3)).1) (r.ty (if z.ks.length = 4 then failF T (stepF T s3) 16 else stepF T s3)).2 else (z, s3)) = q from hpl)
      clear hbx hst hgo hpl hk HQ2 HB0 B_G6 H6
      rcases b with _ | _
      · have hr := HPL.out
        rw [if_neg (by exact fun h => by cases h.1)] at hr
        subst hr
        clear HPL
        go_wp2_with fail
        go_meet
        exact ⟨z, s3, f3, fs3, rfl, HS.out, BX.out⟩
      · have c5 := HS.out.p.c5
        have ff := HS.out.p.free 5
        obtain ⟨es, qe⟩ : ∃ es, (s3.e == 0) = es := ⟨_, rfl⟩
        rcases es with _ | _
        · have hr := HPL.out
          rw [if_neg (by exact fun h => beq_eq_false_iff_ne.1 qe h.2)] at hr
          subst hr
          clear HPL
          go_wp2_with fail
          go_meet
          exact ⟨z, s3, f3, fs3, rfl, HS.out, BX.out⟩
        · have HPL2 := Lib.hid ((if_pos ⟨rfl, beq_iff_eq.1 qe⟩).symm.trans HPL.out)
          clear HPL
          obtain ⟨t, h_t⟩ : ∃ t, stepT T s3 = t := ⟨_, rfl⟩
          have E_t := Lib.hid h_t
          clear h_t
          obtain ⟨s4, h_s4⟩ : ∃ s4, stepF T s3 = s4 := ⟨_, rfl⟩
          have E_s4 := Lib.hid h_s4
          clear h_s4
          have HI : Hid (s4.i = s3.i + 1) := by
            show _ = _
            rw [← E_s4.out]; unfold stepF; rw [if_neg (HK.out rfl)]
          have G_s4 := Lib.hid (show Goes T s s4 from by have q := (G_s3.out.step E); rw [E_s4.out] at q; exact q)
          go_upto_region 5 with (fail)
          clear c5 ff
          go_wp2_with fail
          refine (step_eq E E_t.out E_s4.out HS.out.p).mono ?_
          rintro e w31 ⟨rfl, h31, b31⟩
          have H31 := Lib.hid (HS.out.call h31 b31)
          have B_G31 := Lib.hid (BX.out.but b31 (Nat.le_refl _) (by have := HS.out.r; omega))
          clear h31 b31 HS BX
          go_upto_region 6 with (fail)
          have d5 := B_G31.out.c5
          obtain ⟨lb, ql⟩ : ∃ lb, ((z.ks.length : Int) == 4) = lb := ⟨_, rfl⟩
          rcases lb with _ | _
          · obtain ⟨y, s6, h_s6⟩ : ∃ y s6, r.ty s4 = (y, s6) := ⟨_, _, rfl⟩
            have E_s6 := Lib.hid h_s6
            clear h_s6
            have G_s6 := Lib.hid (show Goes T s s6 from by have q := G_s4.out.ty F; rw [E_s6.out] at q; exact q)
            obtain ⟨b2, h_b2⟩ : ∃ b2, isF T s6 [44] = b2 := ⟨_, rfl⟩
            have E_b2 := Lib.hid h_b2
            clear h_b2
            have HPL3 : Hid (conL T r m b2 (z.add y) s6 = q) := by
              show _ = _
              have q1 := HPL2.out
              rw [if_neg (fun h => beq_eq_false_iff_ne.1 ql (by omega)), E_s4.out, E_s6.out, E_b2.out] at q1; exact q1
            have HI2 : Hid (s3.i + 1 ≤ s6.i) := by
              show _ ≤ _
              have h1 : Goes T s4 s6 := by have q := F.ty s4 G_s4.out.lt; rw [E_s6.out] at q; exact q
              have := h1.i; have := HI.out; omega
            have HB2 : Hid (b2 = true → kdF T s6 ≠ 0) := fun h => is_kd (E_b2.out.trans h)
            clear HPL2
            go_upto_region 8 with (fail)
            clear d5
            have C32 := Lib.hid (fun wx (h : PAt wx R g c T s4) => gives_eq E_s6.out (D.ty wx s4 h (by rw [G_s4.out.deep]; exact HD.out)))
            refine region_Z (fun W => W.cell? ⟨G, 5, none⟩ = some (.slice f3.ka z.ks.length f3.kc)) (fun i => i == 7) (by kernel_rfl) B_G31.out.drew.c5 (fun hHeld => ?_)
            ztake 0 8
            ztake 1 8
            ztake 2 8
            zstep 3
            go_simp
            go_at_call 67
            refine (C32.out _ H31.out.drew.p).mono ?_
            rintro e wc ⟨fy, rfl, hpc, ny, bc⟩
            have HC := Lib.hid (H31.out.drew.call hpc bc)
            have BC := Lib.hid (B_G31.out.drew.but bc (Nat.le_refl _) (by have := H31.out.r; omega))
            have NY : Hid (NodeIn wc (fun a => w31.heap.size ≤ a) y fy) := ny
            clear hpc ny bc
            unfold ndV
            refine hK.out _ _ (fun _ => BC.out.c5) (fun hHeld2 => ?_)
            clear hK K hHeld
            zput
            zstep 4
            go_simp
            refine hK.out _ _ (fun _ => (BC.out.alloc _).c5) (fun hHeld3 => ?_)
            clear hK K hHeld2
            zput
            zstep 5
            refine step_app ty_nd (v := .slice f3.ka z.ks.length f3.kc) (by rfl) _ _ (by rfl) (by rfl) (BC.out.alloc _).kid wc.heap.size 1 (ndL y fy) (by rfl) (Whole.made wc 25 _) (by rfl) (by simp [ndL, Value.oneCell']) (by decide) (by omega) (by decide) (by have := HC.out.size; simp; omega) ?_
            intro gv cv wd hap
            have HD := Lib.hid ((HC.out.alloc (.cells (ndL y fy).toArray 25)).low (hap.below (BC.out.alloc (.cells (ndL y fy).toArray 25)).kid (Below.refl _ _) (Nat.le_refl _) (by have := HC.out.size; simp; omega)))
            have BN0 := Lib.hid ((BC.out.alloc (.cells (ndL y fy).toArray 25)).app (B := w31.heap.size) B_G31.out.lt B_G31.out.nlt B_G31.out.klt (NY.out.alloc _) hap)
            have XD := Lib.hid (hap.far (BC.out.alloc (.cells (ndL y fy).toArray 25)).box (row_ne (BC.out.alloc (.cells (ndL y fy).toArray 25)).kid BC.out.kN))
            have z5 : wd.cell? ⟨G, 5, none⟩ = some (.slice f3.ka z.ks.length f3.kc) := XD.out.cell 5
            have y5 := XD.out.free 5
            refine hK.out _ _ (fun _ => z5) (fun hHeld4 => ?_)
            replace hHeld4 := hHeld4 (by decide)
            clear hK K hHeld3 hap
            zput
            ztake 6 8
            zstep 7
            go_simp
            zgoz
            zdone
            have H32 := Lib.hid (HD.out.own (p := ⟨G, 5, none⟩) (Nat.lt_of_succ_le B_G31.out.lo) (.slice (some ⟨gv, 0, none⟩) (z.ks.length + 1) cv))
            obtain ⟨f32, fs32, BN1⟩ : ∃ f2 fs2, Box (wd.setCell ⟨G, 5, none⟩ (.slice (some ⟨gv, 0, none⟩) (z.ks.length + 1) cv)) G (w.heap.size + 1) (z.add y) f2 fs2 := ⟨_, _, BN0.out⟩
            have B_G32 := Lib.hid BN1
            clear hK K hHeld4 z5 y5 XD BN0 BN1 HD BC HC NY
            generalize wd.setCell ⟨G, 5, none⟩ (.slice (some ⟨gv, 0, none⟩) (z.ks.length + 1) cv) = w32 at *
            clear C32 H31 B_G31
            go_wp2_with fail
            refine (is_eq E_b2.out H32.out.p).mono ?_
            rintro e w33 ⟨rfl, b33⟩
            have H33 := Lib.hid (H32.out.read b33)
            have B_G33 := Lib.hid (B_G32.out.below b33 (Nat.le_refl _))
            clear b33 H32 B_G32
            go_wp2_with fail
            go_roundg m
            case measure => exact Nat.lt_succ_self _
            case rel => exact ⟨b2, _, s6, f32, fs32, rfl, by have := HI2.out; omega, by rw [add_ks]; have := HI2.out; simp; omega, HPL3.out, B_G33.out, H33.out, G_s6.out, HB2.out⟩
          · obtain ⟨s5, h_s5⟩ : ∃ s5, failF T s4 16 = s5 := ⟨_, rfl⟩
            have E_s5 := Lib.hid h_s5
            clear h_s5
            have G_s5 := Lib.hid (show Goes T s s5 from by have q := G_s4.out.fail 16; rw [E_s5.out] at q; exact q)
            go_upto_region 7 with (fail)
            clear d5
            go_wp2_with fail
            refine (fail_eq E_s5.out H31.out.p).mono ?_
            rintro e w34 ⟨rfl, h34, b34⟩
            have H34 := Lib.hid (H31.out.call h34 b34)
            have B_G34 := Lib.hid (B_G31.out.but b34 (Nat.le_refl _) (by have := H31.out.r; omega))
            clear h34 b34 H31 B_G31
            have d5 := B_G34.out.c5
            obtain ⟨y, s6, h_s6⟩ : ∃ y s6, r.ty s5 = (y, s6) := ⟨_, _, rfl⟩
            have E_s6 := Lib.hid h_s6
            clear h_s6
            have G_s6 := Lib.hid (show Goes T s s6 from by have q := G_s5.out.ty F; rw [E_s6.out] at q; exact q)
            obtain ⟨b2, h_b2⟩ : ∃ b2, isF T s6 [44] = b2 := ⟨_, rfl⟩
            have E_b2 := Lib.hid h_b2
            clear h_b2
            have HPL3 : Hid (conL T r m b2 (z.add y) s6 = q) := by
              show _ = _
              have q1 := HPL2.out
              rw [if_pos (by have := beq_iff_eq.1 ql; omega), E_s4.out, E_s5.out, E_s6.out, E_b2.out] at q1; exact q1
            have HI2 : Hid (s3.i + 1 ≤ s6.i) := by
              show _ ≤ _
              have h1 : Goes T s5 s6 := by have q := F.ty s5 G_s5.out.lt; rw [E_s6.out] at q; exact q
              have h2 : Goes T s4 s5 := by have q := goes_fail G_s4.out.lt 16; rw [E_s5.out] at q; exact q
              have := h2.i; have := h1.i; have := HI.out; omega
            have HB2 : Hid (b2 = true → kdF T s6 ≠ 0) := fun h => is_kd (E_b2.out.trans h)
            clear HPL2
            go_upto_region 8 with (fail)
            clear d5
            have C35 := Lib.hid (fun wx (h : PAt wx R g c T s5) => gives_eq E_s6.out (D.ty wx s5 h (by rw [G_s5.out.deep]; exact HD.out)))
            refine region_Z (fun W => W.cell? ⟨G, 5, none⟩ = some (.slice f3.ka z.ks.length f3.kc)) (fun i => i == 7) (by kernel_rfl) B_G34.out.drew.c5 (fun hHeld => ?_)
            ztake 0 8
            ztake 1 8
            ztake 2 8
            zstep 3
            go_simp
            go_at_call 67
            refine (C35.out _ H34.out.drew.p).mono ?_
            rintro e wc ⟨fy, rfl, hpc, ny, bc⟩
            have HC := Lib.hid (H34.out.drew.call hpc bc)
            have BC := Lib.hid (B_G34.out.drew.but bc (Nat.le_refl _) (by have := H34.out.r; omega))
            have NY : Hid (NodeIn wc (fun a => w34.heap.size ≤ a) y fy) := ny
            clear hpc ny bc
            unfold ndV
            refine hK.out _ _ (fun _ => BC.out.c5) (fun hHeld2 => ?_)
            clear hK K hHeld
            zput
            zstep 4
            go_simp
            refine hK.out _ _ (fun _ => (BC.out.alloc _).c5) (fun hHeld3 => ?_)
            clear hK K hHeld2
            zput
            zstep 5
            refine step_app ty_nd (v := .slice f3.ka z.ks.length f3.kc) (by rfl) _ _ (by rfl) (by rfl) (BC.out.alloc _).kid wc.heap.size 1 (ndL y fy) (by rfl) (Whole.made wc 25 _) (by rfl) (by simp [ndL, Value.oneCell']) (by decide) (by omega) (by decide) (by have := HC.out.size; simp; omega) ?_
            intro gv cv wd hap
            have HD := Lib.hid ((HC.out.alloc (.cells (ndL y fy).toArray 25)).low (hap.below (BC.out.alloc (.cells (ndL y fy).toArray 25)).kid (Below.refl _ _) (Nat.le_refl _) (by have := HC.out.size; simp; omega)))
            have BN0 := Lib.hid ((BC.out.alloc (.cells (ndL y fy).toArray 25)).app (B := w34.heap.size) B_G34.out.lt B_G34.out.nlt B_G34.out.klt (NY.out.alloc _) hap)
            have XD := Lib.hid (hap.far (BC.out.alloc (.cells (ndL y fy).toArray 25)).box (row_ne (BC.out.alloc (.cells (ndL y fy).toArray 25)).kid BC.out.kN))
            have z5 : wd.cell? ⟨G, 5, none⟩ = some (.slice f3.ka z.ks.length f3.kc) := XD.out.cell 5
            have y5 := XD.out.free 5
            refine hK.out _ _ (fun _ => z5) (fun hHeld4 => ?_)
            replace hHeld4 := hHeld4 (by decide)
            clear hK K hHeld3 hap
            zput
            ztake 6 8
            zstep 7
            go_simp
            zgoz
            zdone
            have H35 := Lib.hid (HD.out.own (p := ⟨G, 5, none⟩) (Nat.lt_of_succ_le B_G34.out.lo) (.slice (some ⟨gv, 0, none⟩) (z.ks.length + 1) cv))
            obtain ⟨f35, fs35, BN1⟩ : ∃ f2 fs2, Box (wd.setCell ⟨G, 5, none⟩ (.slice (some ⟨gv, 0, none⟩) (z.ks.length + 1) cv)) G (w.heap.size + 1) (z.add y) f2 fs2 := ⟨_, _, BN0.out⟩
            have B_G35 := Lib.hid BN1
            clear hK K hHeld4 z5 y5 XD BN0 BN1 HD BC HC NY
            generalize wd.setCell ⟨G, 5, none⟩ (.slice (some ⟨gv, 0, none⟩) (z.ks.length + 1) cv) = w35 at *
            clear C35 H34 B_G34
            go_wp2_with fail
            refine (is_eq E_b2.out H35.out.p).mono ?_
            rintro e w36 ⟨rfl, b36⟩
            have H36 := Lib.hid (H35.out.read b36)
            have B_G36 := Lib.hid (B_G35.out.below b36 (Nat.le_refl _))
            clear b36 H35 B_G35
            go_wp2_with fail
            go_roundg m
            case measure => exact Nat.lt_succ_self _
            case rel => exact ⟨b2, _, s6, f35, fs35, rfl, by have := HI2.out; omega, by rw [add_ks]; have := HI2.out; simp; omega, HPL3.out, B_G36.out, H36.out, G_s6.out, HB2.out⟩
  case rest =>
    obtain ⟨z, s3, f3, fs3, hq, h5, b5⟩ := hcut
    subst hq
    have H5 := Lib.hid h5
    have B5 := Lib.hid b5
    clear HQ2 HB0 h5 b5 B_G6 H6
    have N6 := Lib.hid (B5.out.node.mono (b' := fun a => w.heap.size < a) (fun a ha _ => by omega))
    have t0 : wc.cell? ⟨G, 0, none⟩ = some (.int .i64 z.kd) := B5.out.box.cell 0
    have t1 : wc.cell? ⟨G, 1, none⟩ = some (.string ⟨z.tx.toArray⟩) := B5.out.box.cell 1
    have t2 : wc.cell? ⟨G, 2, none⟩ = some (.int .i64 z.nm) := B5.out.box.cell 2
    have t3 : wc.cell? ⟨G, 3, none⟩ = some (.int .i64 (z.at_ : Int)) := B5.out.box.cell 3
    have t4 : wc.cell? ⟨G, 4, none⟩ = some (.slice f3.na z.ns.length f3.nc) := B5.out.box.cell 4
    have t5 : wc.cell? ⟨G, 5, none⟩ = some (.slice f3.ka z.ks.length f3.kc) := B5.out.box.cell 5
    zzero wc (w.heap.size) (H5.out.z)
    zfree (H5.out.z)
    go_wp2_with fail
    have HZF : Hid (Whole (zP(wc, w.heap.size, z, f3)) w.heap.size 25 zN(z, f3)) := put6 H5.out.z _ _ _ _ _ _
    have HBF : Hid (But w.heap.size wc.heap.size wc (zP(wc, w.heap.size, z, f3))) := but6 _ _ _ _ _ _ _ _
    generalize (zP(wc, w.heap.size, z, f3)) = wf at *
    gcells
    exact bodyPost_ret (v := ndV z f3) (by simp [results, Try.results52, go_sem, ndV, Nd.kd, Nd.tx, Nd.nm, Nd.at_, Nd.ns, Nd.ks, leafN, fr0, nd0, g0, g1, g2, g3, g4, g5]) rfl (H5.out.done N6.out HBF.out)
end Go.Proofs.Ytgjchgmlogbmmaa
/- A variable of the call's own that holds a node; two of them become the kids of a new one. -/
namespace Go.Proofs.Ytgjchgmlogbmmaa
open Go.RowKit
set_option linter.unusedVariables false
set_option linter.unusedSimpArgs false

structure Var (w0 w : World) (G : Nat) (x : Nd) (f : Fr) : Prop where
  lo : w0.heap.size < G
  X : Whole w G 25 (ndL x f).toArray
  n : NodeIn w (fun a => w0.heap.size < a ∧ a ≠ G) x f
section
variable {w0 w w' : World} {R g c G : Nat} {T : List Tok} {s : PS} {x y : Nd} {f fy : Fr}
theorem Var.later {B : Nat} (h : Var w0 w G x f) (b : Below B w w') (hB : w.heap.size ≤ B) : Var w0 w' G x f := ⟨h.lo, h.X.below b (Nat.lt_of_lt_of_le h.X.lt hB), h.n.later b hB⟩
theorem Var.call (h : Var w0 w G x f) (H : St w0 w R g c T s) (b : But R w.heap.size w w') : Var w0 w' G x f :=
  ⟨h.lo, h.X.call H h.lo b, h.n.but b (Nat.le_refl _) fun a ha e => by have := H.r; have := ha.1; omega⟩
theorem Var.alloc (h : Var w0 w G x f) (o : Obj) : Var w0 (w.alloc o) G x f := h.later ((Below.refl _ _).alloc (Nat.le_refl _) o) (Nat.le_refl _)
theorem Var.drew (h : Var w0 w G x f) : Var w0 w.drew G x f := h.later (Below.refl _ _).drew (Nat.le_refl _)
theorem Var.made (H : St w0 w R g c T s) (n : NodeIn w (fun a => w0.heap.size < a) x f) : Var w0 (w.alloc (.cells (ndL x f).toArray 25)) w.heap.size x f :=
  ⟨H.size, Whole.made _ _ _, (n.mono (b' := fun a => w0.heap.size < a ∧ a ≠ w.heap.size) fun a ha hl => ⟨ha, Nat.ne_of_lt hl⟩).alloc _⟩
theorem Var.node (h : Var w0 w G x f) : NodeIn w (fun a => w0.heap.size < a) x f := h.n.mono fun a ha _ => ha.1
theorem Box.var {fs : List Fr} (h : Box w G (w0.heap.size + 1) x f fs) : Var w0 w G x f := ⟨h.lo, h.box, h.node.mono fun a ha _ => ⟨ha.1, ha.2⟩⟩
theorem NodeIn.new {w1 : World} (n : NodeIn w (fun a => w1.heap.size ≤ a) y fy) (H : St w0 w1 R g c T s) (v : Var w0 w1 G x f) : NodeIn w (fun a => w0.heap.size < a ∧ a ≠ G) y fy :=
  n.mono fun a ha _ => ⟨by have := H.size; omega, by have := v.X.lt; omega⟩
theorem Var.pair (v : Var w0 w G x f) (H : St w0 w R g c T s) (ny : NodeIn w (fun a => w0.heap.size < a ∧ a ≠ G) y fy) (kd : Int) (o : List UInt8) (at_ : Nat) :
    Var w0 ((((((((w.alloc (.cells (ndL x f ++ ndL y fy).toArray 25)).setCell ⟨G, 0, none⟩ (.int .i64 kd)).setCell ⟨G, 1, none⟩ (.string ⟨o.toArray⟩)).setCell ⟨G, 2, none⟩ (.int .i64 0)).setCell ⟨G, 3, none⟩ (.int .i64 (at_ : Int))).setCell ⟨G, 4, none⟩ (.slice none 0 0)).setCell ⟨G, 5, none⟩ (.slice (some ⟨w.heap.size, 0, none⟩) 2 2)))
      G (.mk kd o 0 at_ [] [x, y]) ⟨none, 0, some ⟨w.heap.size, 0, none⟩, 2⟩ ∧
    St w0 ((((((((w.alloc (.cells (ndL x f ++ ndL y fy).toArray 25)).setCell ⟨G, 0, none⟩ (.int .i64 kd)).setCell ⟨G, 1, none⟩ (.string ⟨o.toArray⟩)).setCell ⟨G, 2, none⟩ (.int .i64 0)).setCell ⟨G, 3, none⟩ (.int .i64 (at_ : Int))).setCell ⟨G, 4, none⟩ (.slice none 0 0)).setCell ⟨G, 5, none⟩ (.slice (some ⟨w.heap.size, 0, none⟩) 2 2))) R g c T s := by
  have X1 : Whole (w.alloc (.cells (ndL x f ++ ndL y fy).toArray 25)) G 25 (ndL x f).toArray := v.X.alloc _
  have B1 : Whole (w.alloc (.cells (ndL x f ++ ndL y fy).toArray 25)) w.heap.size 25 (ndL x f ++ ndL y fy).toArray := Whole.made _ _ _
  have hbu := but6 (w := w.alloc (.cells (ndL x f ++ ndL y fy).toArray 25)) G (w.alloc (.cells (ndL x f ++ ndL y fy).toArray 25)).heap.size (.int .i64 kd) (.string ⟨o.toArray⟩) (.int .i64 0) (.int .i64 (at_ : Int)) (.slice none 0 0) (.slice (some ⟨w.heap.size, 0, none⟩) 2 2)
  have hlt := v.X.lt
  have nx1 : NodeIn (w.alloc (.cells (ndL x f ++ ndL y fy).toArray 25)) (fun a => (w0.heap.size < a ∧ a ≠ G) ∧ a ≠ w.heap.size) x f := (v.n.mono (b' := fun a => (w0.heap.size < a ∧ a ≠ G) ∧ a ≠ w.heap.size) fun a ha hl => ⟨ha, Nat.ne_of_lt hl⟩).alloc _
  have ny1 : NodeIn (w.alloc (.cells (ndL x f ++ ndL y fy).toArray 25)) (fun a => (w0.heap.size < a ∧ a ≠ G) ∧ a ≠ w.heap.size) y fy := (ny.mono (b' := fun a => (w0.heap.size < a ∧ a ≠ G) ∧ a ≠ w.heap.size) fun a ha hl => ⟨ha, Nat.ne_of_lt hl⟩).alloc _
  refine ⟨⟨v.lo, put6 X1 _ _ _ _ _ _, ?_⟩, ?_⟩
  · exact .pair kd o at_ (hbu.whole B1 B1.lt (by omega)) ⟨H.size, by omega⟩ (nx1.but hbu (Nat.le_refl _) fun a ha => ha.1.2) (ny1.but hbu (Nat.le_refl _) fun a ha => ha.1.2)
  · exact (((((((H.alloc _).own (p := ⟨G, 0, none⟩) v.lo _).own (p := ⟨G, 1, none⟩) v.lo _).own (p := ⟨G, 2, none⟩) v.lo _).own (p := ⟨G, 3, none⟩) v.lo _).own (p := ⟨G, 4, none⟩) v.lo _).own (p := ⟨G, 5, none⟩) v.lo _)
end
theorem op_kd {T : List Tok} {s : PS} {a b c : List UInt8} (h : opF T s a b c ≠ []) : kdF T s ≠ 0 := by
  unfold opF at h
  by_cases h1 : isF T s a = true
  · exact is_kd h1
  by_cases h2 : isF T s b = true
  · exact is_kd h2
  by_cases h3 : isF T s c = true
  · exact is_kd h3
  rw [if_neg h1, if_neg h2, if_neg h3] at h
  exact absurd rfl h
end Go.Proofs.Ytgjchgmlogbmmaa
