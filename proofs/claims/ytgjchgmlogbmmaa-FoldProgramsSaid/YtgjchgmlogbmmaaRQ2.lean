/- The walks of layer 11: a program is folded. -/
import Derived.KernelRfl
import Derived.Test.YtgjchgmlogbmmaaRQ1
namespace Go.Proofs.Ytgjchgmlogbmmaa
open Go.RowKit
set_option linter.unusedVariables false
set_option linter.unusedSimpArgs false
attribute [local go_sem ↓] Go.wp_at_zero Go.wp_at_succ

set_option maxRecDepth 100000 in
set_option maxHeartbeats 16000000 in
theorem fprog_any (x : Nd) (hw : WfN x) (hwt : wtN x ≤ 100000) : FProgC x := by
 intro w b f hb hn
 have HL : Hid (x.ks.length ≤ 100000) := hw.len
 have HKC := Lib.hid (fun (e : x.ks = []) => hn.kc0 e)
 have HKW : Hid (∀ y ∈ x.ks, WfN y ∧ wtN y ≤ 100000) := fun y hy => ⟨hw.ks y hy, Nat.le_trans (wt_kid hy) hwt⟩
 clear hwt
 have HR : Hid (Rg w ((w.alloc (.cells #[.int .i64 x.kd, .string ⟨x.tx.toArray⟩, .int .i64 x.nm, .int .i64 (x.at_ : Int), .slice f.na x.ns.length f.nc, .slice f.ka x.ks.length f.kc] 25)).alloc (.cells #[.int .i64 0, .string ⟨#[]⟩, .int .i64 0, .int .i64 0, .slice none 0 0, .slice none 0 0] 25)) b w.heap.size (w.heap.size + 1) x f) := Rg.start hn hb
 have HW := Lib.hid hw
 unfold ndV
 go_enter Try.func19, Try.ntmps19
 go_upto_region 1 with (fail)
 generalize ((w.alloc (.cells #[.int .i64 x.kd, .string ⟨x.tx.toArray⟩, .int .i64 x.nm, .int .i64 (x.at_ : Int), .slice f.na x.ns.length f.nc, .slice f.ka x.ks.length f.kc] 25)).alloc (.cells #[.int .i64 0, .string ⟨#[]⟩, .int .i64 0, .int .i64 0, .slice none 0 0, .slice none 0 0] 25)) = w1 at *
 obtain ⟨G, hG⟩ : ∃ G, w.heap.size = G := ⟨_, rfl⟩
 have HG := Lib.hid hG
 rw [hG] at HR
 simp only [hG]
 clear hG hn hb hw
 obtain ⟨B, hB⟩ : ∃ B : Nat → Prop, B = fun a => b a ∨ w1.heap.size ≤ a := ⟨_, rfl⟩
 have HBD : Hid (∀ a, B a ↔ (b a ∨ w1.heap.size ≤ a)) := fun a => by rw [hB]
 have HGS : Hid (G + 1 < w1.heap.size) := HR.out.z.lt
 clear hB
 have CL := Lib.hid (clone_any x.ks HL.out w1 b f.ka f.kc HKC.out HR.out.a.n.row)
 have c5 := HR.out.a.c5
 go_wp2_with fail
 refine CL.out.mono ?_
 rintro e w2 ⟨A, c, rfl, hk, hbl⟩
 have HKR : Hid (KRow w2 w1.heap.size B x.ks A c) := ⟨hk.nil, fun h => by
  obtain ⟨g, fs, e, hg, ho, hl, hsb⟩ := hk.row h
  exact ⟨g, fs, e, hg, ho, hl, fun k h1 h2 => (hsb k h1 h2).mono fun a ha _ => ⟨(HBD.out a).2 (.inl ha.1), ha.2⟩⟩⟩
 have HR2 := Lib.hid (HR.out.later hbl)
 have HSZ : Hid (w1.heap.size ≤ w2.heap.size) := hbl.size
 clear hk hbl CL c5 HR HKC
 generalize w1.heap.size = S1 at *
 have n5 : w2.cell? ⟨G, 5, none⟩ = some (.slice f.ka x.ks.length f.kc) := HR2.out.a.X.cell 5
 have f5 := HR2.out.a.X.free 5
 go_upto_region 2 with (fail)
 clear n5 f5
 have HP0 := Lib.hid (PIn.start HR2.out HKR.out HSZ.out HG.out HGS.out HBD.out)
 generalize w2.setCell ⟨G, 5, none⟩ (.slice A x.ks.length c) = w3 at *
 clear HR2 HKR HSZ
 have n5 : w3.cell? ⟨G, 5, none⟩ = some (.slice A x.ks.length c) := HP0.out.o.cell 5
 go_wp2_with fail
 clear n5
 go_loopw [13] (fun i wr => ∃ k : Nat, i = .int .i64 (k : Int) ∧ k ≤ x.ks.length ∧ PIn w wr b B G S1 x f (pgF x.ks k) A c) (fun i _ => x.ks.length - (intOf i).toNat)
 case atStart => exact ⟨0, rfl, Nat.zero_le _, by rw [pg_zero]; exact HP0.out⟩
 case round =>
  obtain ⟨k, rfl, hk, har⟩ := hrel
  obtain ⟨wo, hwo⟩ : ∃ wo, wo = wr := ⟨_, rfl⟩
  subst hwo
  have HR := Lib.hid har
  clear har HP0
  by_cases hlt : k < x.ks.length
  ·have i0 : (0 : Int) ≤ (k : Int) := by omega
   have i1 : (k : Int) < (x.ks.length : Int) := by omega
   have I2 : Hid ((k : Int) < 100000) := by show _ < _; have := HL.out; omega
   have HST := Lib.hid (pg_step hlt)
   have HYK := Lib.hid (pg_at hlt)
   have HKY := Lib.hid (HKW.out _ (getD_mem hlt))
   have HKL : Hid (k < (pgF x.ks k).length) := by show _ < _; rw [pg_len]; exact hlt
   generalize x.ks.getD k nd0 = y at *
   generalize pgF x.ks k = ys at *
   obtain ⟨g, fy, rfl, hg1, hgl, ⟨x0, x1, x2, x3, x4, x5⟩, ny, _⟩ := HR.out.k.at_ HYK.out
   have NY := Lib.hid ny
   clear ny
   go_upto_region 5 with (fail)
   have HN : Hid (Whole (wo.alloc (.cells #[.int .i64 y.kd, .string ⟨y.tx.toArray⟩, .int .i64 y.nm, .int .i64 (y.at_ : Int), .slice fy.na y.ns.length fy.nc, .slice fy.ka y.ks.length fy.kc] 25)) wo.heap.size 25 #[.int .i64 y.kd, .string ⟨y.tx.toArray⟩, .int .i64 y.nm, .int .i64 (y.at_ : Int), .slice fy.na y.ns.length fy.nc, .slice fy.ka y.ks.length fy.kc]) := Whole.made wo 25 _
   have HB4 : Hid (Below wo.heap.size wo (wo.alloc (.cells #[.int .i64 y.kd, .string ⟨y.tx.toArray⟩, .int .i64 y.nm, .int .i64 (y.at_ : Int), .slice fy.na y.ns.length fy.nc, .slice fy.ka y.ks.length fy.kc] 25))) := (Below.refl _ _).alloc (Nat.le_refl _) _
   have HS2 : Hid (wo.heap.size < (wo.alloc (.cells #[.int .i64 y.kd, .string ⟨y.tx.toArray⟩, .int .i64 y.nm, .int .i64 (y.at_ : Int), .slice fy.na y.ns.length fy.nc, .slice fy.ka y.ks.length fy.kc] 25)).heap.size) := HN.out.lt
   generalize wo.alloc (.cells #[.int .i64 y.kd, .string ⟨y.tx.toArray⟩, .int .i64 y.nm, .int .i64 (y.at_ : Int), .slice fy.na y.ns.length fy.nc, .slice fy.ka y.ks.length fy.kc] 25) = w4 at *
   obtain ⟨N, hN⟩ : ∃ N, wo.heap.size = N := ⟨_, rfl⟩
   have HNS := Lib.hid hN
   rw [hN] at HN HB4 HS2
   simp only [hN]
   have HGN : Hid (g < N) := by show _ < _; omega
   have HGG : Hid (S1 ≤ g) := hg1
   have HSN : Hid (S1 ≤ N) := by show _ ≤ _; omega
   have X5 : Hid (∀ W, Below N wo W → W.cell? ⟨G, 5, none⟩ = some (.slice (some ⟨g, 0, none⟩) x.ks.length c)) := fun W h => (HR.out.o.below h (by have := HGS.out; omega)).cell 5
   have n5 := X5.out _ HB4.out
   clear x0 x1 x2 x3 x4 x5 hN hgl hg1
   obtain ⟨m, hm⟩ : ∃ m : Nat, m + 1 = x.ks.length := ⟨x.ks.length - 1, by omega⟩
   have hm1 : (x.ks.length : Int) - 1 = (m : Int) := by omega
   have HM := Lib.hid hm
   clear hm
   obtain ⟨last, hlast⟩ : ∃ last, ((k : Int) == (m : Int)) = last := ⟨_, rfl⟩
   have q := hlast
   have n0 : w4.cell? ⟨N, 0, none⟩ = some (.int .i64 y.kd) := HN.out.cell 0
   have NY4 := Lib.hid (NY.out.later HB4.out (Nat.le_of_eq HNS.out))
   have HR4 := Lib.hid (HR.out.below (by rw [HNS.out]; exact HB4.out))
   have q9 : (x.ks.length : Int) ≤ 100000 := by have := HL.out; omega
   clear i0 i1
   rcases last with _ | _
   ·have HPE : Hid (pgF x.ks (k + 1) = ys.set k (declN y)) := by
     have this : ¬ k + 1 = x.ks.length := by
      have h1 := HM.out
      have h2 : (k : Int) ≠ (m : Int) := beq_eq_false_iff_ne.1 hlast
      omega
     show _ = _
     rw [HST.out]; unfold pkF; rw [if_neg this]
    clear hlast HST
    go_upto_region 7 with (fail)
    clear q9
    have i0 : (0 : Int) ≤ (k : Int) := by omega
    have i1 : (k : Int) < (x.ks.length : Int) := by omega
    obtain ⟨d, hd⟩ : ∃ d, (y.kd == 28 || y.kd == 29) = d := ⟨_, rfl⟩
    have HD := Lib.hid hd
    clear hd q
    go_cut [31] (fun u wx => u = .bool d ∧ wx = w4)
    case first =>
     by_cases h1 : y.kd = 28
     ·have q : (y.kd == 28) = true := beq_iff_eq.2 h1
      clear h1
      go_wp2_with fail
      go_meet
      exact ⟨congrArg Value.bool (by rw [← HD.out, q]; rfl), rfl⟩
     ·have q : (y.kd == 28) = false := beq_eq_false_iff_ne.2 h1
      clear h1
      obtain ⟨d2, hd2⟩ : ∃ d2, (y.kd == 29) = d2 := ⟨_, rfl⟩
      have q2 := hd2
      go_wp2_with fail
      all_goals go_meet
      all_goals exact ⟨congrArg Value.bool (by rw [← HD.out, q]; simp [hd2]), rfl⟩
    case rest =>
     obtain ⟨rfl, hwx⟩ := hcut
     have hwx := hwx.symm
     subst hwx
     have i2 : (k : Int) < 100000 := I2.out
     rcases d with _ | _
     ·have HPE2 : Hid (pgF x.ks (k + 1) = ys) := by show _ = _; rw [HPE.out, declN_else HD.out, set_same HYK.out]
      go_wp2_with fail
      go_roundw
      case rel => exact ⟨k + 1, by go_num, by omega, by rw [HPE2.out]; exact HR4.out⟩
      case measure => simp [intOf]; omega
     ·have HDE := Lib.hid (declN_map HD.out)
      clear HD HR4
      have HYL : Hid (y.ks.length ≤ 100000) := HKY.out.1.len
      have HYW : Hid (∀ z ∈ y.ks, WfN z ∧ wtN z ≤ 100000) := fun z hz => ⟨HKY.out.1.ks z hz, Nat.le_trans (wt_kid hz) HKY.out.2⟩
      obtain ⟨S2, hS2⟩ : ∃ S2, w4.heap.size = S2 := ⟨_, rfl⟩
      have NY5 : NodeIn w4 (fun a => B a ∧ a ≠ g ∧ a < N) y fy := (NY.out.mono fun a ha hl => ⟨ha.1, ha.2, by rw [HNS.out] at hl; exact hl⟩).later HB4.out (Nat.le_of_eq HNS.out)
      have CL2 := Lib.hid (clone_any y.ks HYL.out w4 (fun a => B a ∧ a ≠ g ∧ a < N) fy.ka fy.kc (fun e => NY.out.kc0 e) NY5.row)
      clear NY5
      rw [hS2] at CL2 HS2
      have m5 : w4.cell? ⟨N, 5, none⟩ = some (.slice fy.ka y.ks.length fy.kc) := HN.out.cell 5
      go_wp2_with fail
      refine CL2.out.mono ?_
      rintro e w5 ⟨A2, c2, rfl, hk2, b5⟩
      have HN5 := Lib.hid (HN.out.below b5 HS2.out)
      have HB5 := Lib.hid (HB4.out.trans (b5.mono (Nat.le_of_lt HS2.out)))
      obtain ⟨B2, hB2⟩ : ∃ B2 : Nat → Prop, B2 = fun a => (B a ∧ a ≠ g ∧ a < N) ∨ S2 ≤ a := ⟨_, rfl⟩
      have HBD2 : Hid (∀ a, B2 a ↔ ((B a ∧ a ≠ g ∧ a < N) ∨ S2 ≤ a)) := fun a => by rw [hB2]
      have HS5 : Hid (S2 ≤ w5.heap.size) := by show _ ≤ _; rw [← hS2]; exact b5.size
      have HD0 := Lib.hid (DIn.start HB5.out HN5.out (hk2.grow fun a ha => (HBD2.out a).2 (.inl ha)) HS5.out HS2.out (fun a ha => by
       rcases (HBD2.out a).1 ha with h | h
       ·exact .inl h.2.2
       ·exact .inr h))
      have m5 : w5.cell? ⟨N, 5, none⟩ = some (.slice fy.ka y.ks.length fy.kc) := HN5.out.cell 5
      have f5 := HN5.out.free 5
      clear hk2 b5 CL2 hS2 hB2 n5 n0
      go_upto_region 9 with (fail)
      clear m5 f5
      generalize w5.setCell ⟨N, 5, none⟩ (.slice A2 y.ks.length c2) = w6 at *
      clear HS5 HN5 HB5 HN HB4 NY4
      have m5 : w6.cell? ⟨N, 5, none⟩ = some (.slice A2 y.ks.length c2) := HD0.out.o.cell 5
      go_wp2_with fail
      clear m5
      go_loopw [47] (fun i wc => ∃ j : Nat, i = .int .i64 (j : Int) ∧ j ≤ y.ks.length ∧ DIn wo wc N S2 B2 y fy (dkF y.ks j) A2 c2) (fun i _ => y.ks.length - (intOf i).toNat)
      case atStart => exact ⟨0, rfl, Nat.zero_le _, by rw [dk_zero]; exact HD0.out⟩
      case round =>
       obtain ⟨j, rfl, hj, hdn⟩ := hrel
       have HD := Lib.hid hdn
       clear hdn HD0
       by_cases hjt : j < y.ks.length
       ·have j0 : (0 : Int) ≤ (j : Int) := by omega
        have j1 : (j : Int) < (y.ks.length : Int) := by omega
        have J2 : Hid ((j : Int) < 100000) := by show _ < _; have := HYL.out; omega
        have HDT := Lib.hid (dk_step hjt)
        have HZK := Lib.hid (dk_at hjt)
        have HZW := Lib.hid (HYW.out _ (getD_mem hjt))
        have HJL : Hid (j < (dkF y.ks j).length) := by show _ < _; rw [dk_len]; exact hjt
        generalize y.ks.getD j nd0 = z at *
        generalize dkF y.ks j = zs at *
        obtain ⟨g2, fz, rfl, hg2, hgl2, hcz, nz, _⟩ := HD.out.k.at_ HZK.out
        have HCZ := Lib.hid hcz
        have CE := Lib.hid (fexp_any z HZW.out.1 HZW.out.2 wr.drew (fun a => (B2 a ∧ a ≠ g2) ∧ a < wr.heap.size) fz (fun a ha => ha.2) ((nz.later (Below.refl _ _).drew (Nat.le_refl _)).mono fun a ha hl => ⟨ha, hl⟩))
        have HGZ : Hid (g2 < wr.heap.size) := hgl2
        have HSG2 : Hid (S2 ≤ g2) := hg2
        have Y5 : Hid (∀ W, Below wr.heap.size wr W → W.cell? ⟨N, 5, none⟩ = some (.slice (some ⟨g2, 0, none⟩) y.ks.length c2) ∧ ndCells W g2 j z fz) := fun W h => ⟨(HD.out.o.below h HD.out.o.lt).cell 5, HCZ.out.stay HGZ.out h⟩
        unfold ndV at CE
        clear nz hcz hgl2 hg2
        generalize expN z = ze at *
        go_upto_region 12 with (fail)
        refine region_Z (fun W => W.cell? ⟨N, 5, none⟩ = some (.slice (some ⟨g2, 0, none⟩) y.ks.length c2) ∧ ndCells W g2 j z fz) (fun i => i == 10) (by kernel_rfl) (Y5.out _ (Below.refl _ _).drew) (fun hHeld => ?_)
        refine tke 0 rfl (v := ?_) ?_ ?_; rotate_left
        ·(intro w hSw; (try dsimp only at hSw); obtain ⟨s1, u0, u1, u2, u3, u4, u5⟩ := hSw; go_simp; try with_reducible rfl)
        (try simp only [Act.put, sZ])
        refine tke 1 rfl (v := ?_) ?_ ?_; rotate_left
        ·(intro w hSw; (try dsimp only at hSw); obtain ⟨s1, u0, u1, u2, u3, u4, u5⟩ := hSw; go_simp; try with_reducible rfl)
        (try simp only [Act.put, sZ])
        refine tke 2 rfl (v := ?_) ?_ ?_; rotate_left
        ·(intro w hSw; (try dsimp only at hSw); obtain ⟨s1, u0, u1, u2, u3, u4, u5⟩ := hSw; go_simp; try with_reducible rfl)
        (try simp only [Act.put, sZ])
        refine tke 3 rfl (v := ?_) ?_ ?_; rotate_left
        ·(intro w hSw; (try dsimp only at hSw); obtain ⟨s1, u0, u1, u2, u3, u4, u5⟩ := hSw; go_simp; try with_reducible rfl)
        (try simp only [Act.put, sZ])
        refine tke 4 rfl (v := ?_) ?_ ?_; rotate_left
        ·(intro w hSw; (try dsimp only at hSw); obtain ⟨s1, u0, u1, u2, u3, u4, u5⟩ := hSw; go_simp; try with_reducible rfl)
        (try simp only [Act.put, sZ])
        refine tke 5 rfl (v := ?_) ?_ ?_; rotate_left
        ·(intro w hSw; (try dsimp only at hSw); obtain ⟨s1, u0, u1, u2, u3, u4, u5⟩ := hSw; go_simp; try with_reducible rfl)
        (try simp only [Act.put, sZ])
        refine tke 6 rfl (v := ?_) ?_ ?_; rotate_left
        ·(intro w hSw; (try dsimp only at hSw); obtain ⟨s1, u0, u1, u2, u3, u4, u5⟩ := hSw; go_simp; try with_reducible rfl)
        (try simp only [Act.put, sZ])
        refine tke 7 rfl (v := ?_) ?_ ?_; rotate_left
        ·(intro w hSw; (try dsimp only at hSw); obtain ⟨s1, u0, u1, u2, u3, u4, u5⟩ := hSw; go_simp; try with_reducible rfl)
        (try simp only [Act.put, sZ])
        refine stp 8 rfl (fun K hK => ?_)
        go_simp
        go_at_call 11
        refine CE.out.mono ?_
        rintro e w7 ⟨f7, rfl, n7, b7⟩
        have B7 := Lib.hid ((Below.refl wr.heap.size wr).drew.trans b7)
        have HD7 := Lib.hid (HD.out.below HS2.out B7.out)
        have NZ7 : Hid (NodeIn w7 (fun a => B2 a ∧ a ≠ g2) ze f7) := n7.mono fun a ha _ => by
         rcases ha with ha | ha
         ·exact ha.1
         ·have h3 : wr.heap.size ≤ a := ha
          exact ⟨(HBD2.out a).2 (.inr (Nat.le_trans HD.out.s h3)), by have := HGZ.out; omega⟩
        refine hK.out _ _ (fun _ => Y5.out _ B7.out) (fun hHeld2 => ?_)
        replace hHeld2 := hHeld2 rfl
        clear hK K hHeld n7 b7 CE
        (try simp only [Act.put, sZ])
        refine tke 9 rfl (v := ?_) ?_ ?_; rotate_left
        ·(intro w hSw; (try dsimp only at hSw); obtain ⟨s1, u0, u1, u2, u3, u4, u5⟩ := hSw; go_simp; try with_reducible rfl)
        (try simp only [Act.put, sZ])
        refine stp 10 rfl (fun K hK => ?_)
        obtain ⟨g', fy', eg, _, _, ⟨x0, x1, x2, x3, x4, x5⟩, _, hfr⟩ := HD7.out.k.at_ HZK.out
        have eg2 : g2 = g' := by simpa using eg
        subst eg2
        have y0 := hfr 0 (by omega)
        have y1 := hfr 1 (by omega)
        have y2 := hfr 2 (by omega)
        have y3 := hfr 3 (by omega)
        have y4 := hfr 4 (by omega)
        have y5 := hfr 5 (by omega)
        rw [Nat.add_zero] at y0
        clear eg hfr
        go_simp
        refine hK.out _ _ (fun h => absurd h (by decide)) (fun _ => ?_)
        refine anyZ_done (by kernel_rfl) ?_ _
        clear hK K hHeld2 x0 x1 x2 x3 x4 x5 y0 y1 y2 y3 y4 y5
        obtain ⟨wf, HDF, hwf⟩ := HD7.out.put HJL.out HSG2.out HS2.out NZ7.out
        rw [hwf]
        clear hwf
        have j2 : (j : Int) < 100000 := J2.out
        go_wp2_with fail
        go_roundw
        case rel => exact ⟨j + 1, by go_num, by omega, by rw [HDT.out]; exact HDF.out⟩
        case measure => simp [intOf]; omega
       ·have j1 : ¬ (j : Int) < (y.ks.length : Int) := by omega
        obtain rfl : j = y.ks.length := by omega
        rw [dk_end] at HD
        have HP4 := Lib.hid (HR.out.below (by rw [HNS.out]; exact HD.out.bel))
        have NYD : Hid (NodeIn wr (fun a => B a ∧ a ≠ g) (.mk y.kd y.tx y.nm y.at_ y.ns (y.ks.map expN)) ⟨fy.na, fy.nc, A2, c2⟩) := by
         have h1 : NodeIn wo (fun a => B a ∧ a ≠ g ∧ a < N) y fy := NY.out.mono fun a ha hl => ⟨ha.1, ha.2, by rw [HNS.out] at hl; exact hl⟩
         refine (HD.out.k.node (h1.later HD.out.bel (Nat.le_of_eq HNS.out)) (fun a ha => (HBD2.out a).2 (.inl ha)) (fun a ha => (HBD2.out a).2 (.inr ha))).mono fun a ha _ => ?_
         rcases (HBD2.out a).1 ha with h | h
         ·exact ⟨h.1, h.2.1⟩
         ·have := HS2.out; have := HGN.out; have := HSN.out
          exact ⟨(HBD.out a).2 (.inr (by omega)), by omega⟩
        have n5 := X5.out _ HD.out.bel
        have m0 : wr.cell? ⟨N, 0, none⟩ = some (.int .i64 y.kd) := HD.out.o.cell 0
        have m1 : wr.cell? ⟨N, 1, none⟩ = some (.string ⟨y.tx.toArray⟩) := HD.out.o.cell 1
        have m2 : wr.cell? ⟨N, 2, none⟩ = some (.int .i64 y.nm) := HD.out.o.cell 2
        have m3 : wr.cell? ⟨N, 3, none⟩ = some (.int .i64 (y.at_ : Int)) := HD.out.o.cell 3
        have m4 : wr.cell? ⟨N, 4, none⟩ = some (.slice fy.na y.ns.length fy.nc) := HD.out.o.cell 4
        have m5 : wr.cell? ⟨N, 5, none⟩ = some (.slice A2 y.ks.length c2) := HD.out.o.cell 5
        obtain ⟨g', fy', eg, _, _, ⟨x0, x1, x2, x3, x4, x5⟩, _, hfr⟩ := HP4.out.k.at_ HYK.out
        have eg2 : g = g' := by simpa using eg
        subst eg2
        have y0 := hfr 0 (by omega)
        have y1 := hfr 1 (by omega)
        have y2 := hfr 2 (by omega)
        have y3 := hfr 3 (by omega)
        have y4 := hfr 4 (by omega)
        have y5 := hfr 5 (by omega)
        rw [Nat.add_zero] at y0
        have i2 : (k : Int) < 100000 := I2.out
        clear eg hfr
        go_wp2_with fail
        obtain ⟨wf, HPF, hwf⟩ := HP4.out.put HKL.out HGG.out HG.out HGS.out NYD.out
        simp only [kd_mk, tx_mk, nm_mk, at_mk, ns_mk, ks_mk, List.length_map] at hwf
        rw [hwf]
        clear hwf
        go_roundw
        case rel => exact ⟨k + 1, by go_num, by omega, by rw [HPE.out, HDE.out]; exact HPF.out⟩
        case measure => simp [intOf]; omega
   ·have HPE : Hid (pgF x.ks (k + 1) = ys.set k (expN y)) := by
     have : k + 1 = x.ks.length := by have := beq_iff_eq.1 hlast; have := HM.out; omega
     show _ = _
     rw [HST.out]; unfold pkF; rw [if_pos this]
    clear hlast HST
    have CE := Lib.hid (fexp_any y HKY.out.1 HKY.out.2 w4.drew (fun a => (B a ∧ a ≠ g) ∧ a < w4.heap.size) fy (fun a ha => ha.2) ((NY4.out.later (Below.refl _ _).drew (Nat.le_refl _)).mono fun a ha hl => ⟨ha, hl⟩))
    unfold ndV at CE
    generalize expN y = ye at *
    have HSW : Hid (∀ W, Below w4.heap.size w4 W → W.cell? ⟨G, 5, none⟩ = some (.slice (some ⟨g, 0, none⟩) x.ks.length c) ∧ C6 W N 0 1 2 3 4 5 y fy) := fun W h => ⟨X5.out _ (HB4.out.trans (h.mono (Nat.le_of_lt HS2.out))), C6.block ⟨HN.out.cell 0, HN.out.cell 1, HN.out.cell 2, HN.out.cell 3, HN.out.cell 4, HN.out.cell 5⟩ (h.block N HS2.out)⟩
    go_upto_region 6 with (fail)
    clear q9 n5 n0
    have i0 : (0 : Int) ≤ (k : Int) := by omega
    have i1 : (k : Int) < (x.ks.length : Int) := by omega
    refine region_Z (fun W => W.cell? ⟨G, 5, none⟩ = some (.slice (some ⟨g, 0, none⟩) x.ks.length c) ∧ C6 W N 0 1 2 3 4 5 y fy) (fun i => i == 6) (by kernel_rfl) (HSW.out _ (Below.refl _ _).drew) (fun hHeld => ?_)
    refine tke 0 rfl (v := ?_) ?_ ?_; rotate_left
    ·(intro w hSw; (try dsimp only at hSw); obtain ⟨s1, u0, u1, u2, u3, u4, u5⟩ := hSw; go_simp; try with_reducible rfl)
    (try simp only [Act.put, sZ])
    refine tke 1 rfl (v := ?_) ?_ ?_; rotate_left
    ·(intro w hSw; (try dsimp only at hSw); obtain ⟨s1, u0, u1, u2, u3, u4, u5⟩ := hSw; go_simp; try with_reducible rfl)
    (try simp only [Act.put, sZ])
    refine tke 2 rfl (v := ?_) ?_ ?_; rotate_left
    ·(intro w hSw; (try dsimp only at hSw); obtain ⟨s1, u0, u1, u2, u3, u4, u5⟩ := hSw; go_simp; try with_reducible rfl)
    (try simp only [Act.put, sZ])
    refine tke 3 rfl (v := ?_) ?_ ?_; rotate_left
    ·(intro w hSw; (try dsimp only at hSw); obtain ⟨s1, u0, u1, u2, u3, u4, u5⟩ := hSw; go_simp; try with_reducible rfl)
    (try simp only [Act.put, sZ])
    refine stp 4 rfl (fun K hK => ?_)
    go_simp
    go_at_call 11
    refine CE.out.mono ?_
    rintro e w7 ⟨f7, rfl, n7, b7⟩
    have B7 := Lib.hid ((Below.refl w4.heap.size w4).drew.trans b7)
    have HR7 := Lib.hid (HR4.out.below B7.out)
    have NZ7 : Hid (NodeIn w7 (fun a => B a ∧ a ≠ g) ye f7) := n7.mono fun a ha _ => by
     rcases ha with ha | ha
     ·exact ha.1
     ·have h3 : w4.heap.size ≤ a := ha
      have := HS2.out; have := HGN.out; have := HSN.out
      exact ⟨(HBD.out a).2 (.inr (by omega)), by omega⟩
    refine hK.out _ _ (fun _ => HSW.out _ B7.out) (fun hHeld2 => ?_)
    replace hHeld2 := hHeld2 rfl
    clear hK K hHeld n7 b7 CE
    (try simp only [Act.put, sZ])
    refine tke 5 rfl (v := ?_) ?_ ?_; rotate_left
    ·(intro w hSw; (try dsimp only at hSw); obtain ⟨s1, u0, u1, u2, u3, u4, u5⟩ := hSw; go_simp; try with_reducible rfl)
    (try simp only [Act.put, sZ])
    refine stp 6 rfl (fun K hK => ?_)
    obtain ⟨g', fy', eg, _, _, ⟨x0, x1, x2, x3, x4, x5⟩, _, hfr⟩ := HR7.out.k.at_ HYK.out
    have eg2 : g = g' := by simpa using eg
    subst eg2
    have y0 := hfr 0 (by omega)
    have y1 := hfr 1 (by omega)
    have y2 := hfr 2 (by omega)
    have y3 := hfr 3 (by omega)
    have y4 := hfr 4 (by omega)
    have y5 := hfr 5 (by omega)
    rw [Nat.add_zero] at y0
    clear eg hfr
    go_simp
    refine hK.out _ _ (fun h => absurd h (by decide)) (fun _ => ?_)
    refine anyZ_done (by kernel_rfl) ?_ _
    clear hK K hHeld2 x0 x1 x2 x3 x4 x5 y0 y1 y2 y3 y4 y5
    obtain ⟨wf, HPF, hwf⟩ := HR7.out.put HKL.out HGG.out HG.out HGS.out NZ7.out
    rw [hwf]
    clear hwf
    have i2 : (k : Int) < 100000 := I2.out
    go_wp2_with fail
    go_roundw
    case rel => exact ⟨k + 1, by go_num, by omega, by rw [HPE.out]; exact HPF.out⟩
    case measure => simp [intOf]; omega
  ·have i1 : ¬ (k : Int) < (x.ks.length : Int) := by omega
   obtain rfl : k = x.ks.length := by omega
   have HYL : Hid ((progK x.ks).length = x.ks.length) := by show _ = _; rw [← pg_end]; exact pg_len _ _
   rw [pg_end] at HR
   have HNP := Lib.hid (HR.out.k.node HR.out.n (fun a ha => (HBD.out a).2 (.inl ha)) (fun a ha => (HBD.out a).2 (.inr ha)))
   have n0 : wo.cell? ⟨G, 0, none⟩ = some (.int .i64 x.kd) := HR.out.o.cell 0
   have n1 : wo.cell? ⟨G, 1, none⟩ = some (.string ⟨x.tx.toArray⟩) := HR.out.o.cell 1
   have n2 : wo.cell? ⟨G, 2, none⟩ = some (.int .i64 x.nm) := HR.out.o.cell 2
   have n3 : wo.cell? ⟨G, 3, none⟩ = some (.int .i64 (x.at_ : Int)) := HR.out.o.cell 3
   have n4 : wo.cell? ⟨G, 4, none⟩ = some (.slice f.na x.ns.length f.nc) := HR.out.o.cell 4
   have n5 : wo.cell? ⟨G, 5, none⟩ = some (.slice A x.ks.length c) := HR.out.o.cell 5
   obtain ⟨z0, z1, z2, z3, z4, z5⟩ := zeroC HR.out.z
   obtain ⟨y0, y1, y2, y3, y4, y5⟩ := freeC HR.out.z
   go_wp2_with fail
   obtain ⟨wf, HZF, HBF, hwf⟩ := ends6 HR.out.z (.int .i64 x.kd) (.string ⟨x.tx.toArray⟩) (.int .i64 x.nm) (.int .i64 (x.at_ : Int)) (.slice f.na x.ns.length f.nc) (.slice A x.ks.length c)
   rw [hwf]
   clear hwf
   obtain ⟨g0, g1, g2, g3, g4, g5⟩ := cells6 HZF.out
   exact bodyPost_ret (v := ndV (progN x) ⟨f.na, f.nc, A, c⟩) (by simp [results, Try.results19, go_sem, ndV, progN, Nd.kd, Nd.tx, Nd.nm, Nd.at_, Nd.ns, Nd.ks, g0, g1, g2, g3, g4, g5]; exact HYL.out.symm) rfl ⟨⟨f.na, f.nc, A, c⟩, rfl, exp_fin HBD.out HGS.out HG.out HR.out.hb HR.out.bel HNP.out HBF.out⟩
end Go.Proofs.Ytgjchgmlogbmmaa
