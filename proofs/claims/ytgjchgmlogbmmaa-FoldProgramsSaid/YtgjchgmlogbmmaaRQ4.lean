/- The walks of layer 11: the document's way to fold a program. -/
import Derived.KernelRfl
import Derived.Test.YtgjchgmlogbmmaaRQ1
import Derived.Test.YtgjchgmlogbmmaaRL
namespace Go.Proofs.Ytgjchgmlogbmmaa
open Go.RowKit
set_option linter.unusedVariables false
set_option linter.unusedSimpArgs false
attribute [local go_sem ↓] Go.wp_at_zero Go.wp_at_succ

theorem rz_step {ks : List Nd} {k : Nat} (h : k < ks.length) : (progK ks).take (k + 1) = (progK ks).take k ++ [pkF ks.length k (ks.getD k nd0)] := by
 rw [List.take_add_one, progK_get, get_of h]; rfl
theorem node_one {w : World} {B : Nat → Prop} {x z : Nd} {fz : Fr} {M : Nat} (hM : Whole w M 25 (ndL z fz).toArray) (hn : NodeIn w (fun a => B a ∧ a ≠ M) z fz) (hB : B M) (hks : x.ks = [z]) (hns : x.ns = []) : NodeIn w B x ⟨none, 0, some ⟨M, 0, none⟩, 1⟩ := by
 refine .mk (fun _ => ⟨rfl, rfl⟩) (fun h => absurd hns h) (fun h => by rw [hks] at h; cases h) M (fun _ => fz) (fun _ => ⟨rfl, hB, hM.lt⟩) (fun k h j v hv => ?_) (fun k h => ?_)
 ·have h0 : k = 0 := by rw [hks] at h; simpa using h
  subst h0
  have e : x.ks[0] = z := by simp [hks]
  rw [e] at hv
  rw [Nat.zero_mul, Nat.zero_add, hM.cell j]
  simpa using hv
 ·have h0 : k = 0 := by rw [hks] at h; simpa using h
  subst h0
  have e : x.ks[0] = z := by simp [hks]
  rw [e]; exact hn
def Six5 (w : World) (N : Nat) (y : Nd) (fy : Fr) (v : Value) : Prop := w.cell? ⟨N, 0, none⟩ = some (.int .i64 y.kd) ∧ w.cell? ⟨N, 1, none⟩ = some (.string ⟨y.tx.toArray⟩) ∧ w.cell? ⟨N, 2, none⟩ = some (.int .i64 y.nm) ∧ w.cell? ⟨N, 3, none⟩ = some (.int .i64 (y.at_ : Int)) ∧ w.cell? ⟨N, 4, none⟩ = some (.slice fy.na y.ns.length fy.nc) ∧ w.cell? ⟨N, 5, none⟩ = some v
theorem six5 {w : World} {N : Nat} {y : Nd} {fy : Fr} {v : Value} (h : Whole w N 25 #[.int .i64 y.kd, .string ⟨y.tx.toArray⟩, .int .i64 y.nm, .int .i64 (y.at_ : Int), .slice fy.na y.ns.length fy.nc, v]) : Six5 w N y fy v := ⟨h.cell 0, h.cell 1, h.cell 2, h.cell 3, h.cell 4, h.cell 5⟩
def RProgC (x : Nd) : Prop := ∀ (w : World) (b : Nat → Prop) (f : Fr), (∀ a, b a → a < w.heap.size) → NodeIn w b x f → Calls Try.prog 20 #[ndV x f] w (GivesN w b (progN x))
set_option maxRecDepth 100000 in
set_option maxHeartbeats 16000000 in
theorem rprog_any (x : Nd) (hw : WfN x) (hd : ∀ k y, x.ks[k]? = some y → k + 1 < x.ks.length → DeclOk y) : RProgC x := by
 intro w b f hb hn
 have HL : Hid (x.ks.length ≤ 100000) := hw.len
 have HKW := Lib.hid hw.ks
 have HDK := Lib.hid hd
 clear hd
 unfold GivesN
 have HR : Hid (Rg w ((w.alloc (.cells #[.int .i64 x.kd, .string ⟨x.tx.toArray⟩, .int .i64 x.nm, .int .i64 (x.at_ : Int), .slice f.na x.ns.length f.nc, .slice f.ka x.ks.length f.kc] 25)).alloc (.cells #[.int .i64 0, .string ⟨#[]⟩, .int .i64 0, .int .i64 0, .slice none 0 0, .slice none 0 0] 25)) b w.heap.size (w.heap.size + 1) x f) := Rg.start hn hb
 have HW := Lib.hid hw
 unfold ndV
 go_enter Try.func20, Try.ntmps20
 go_upto_region 1 with (fail)
 generalize ((w.alloc (.cells #[.int .i64 x.kd, .string ⟨x.tx.toArray⟩, .int .i64 x.nm, .int .i64 (x.at_ : Int), .slice f.na x.ns.length f.nc, .slice f.ka x.ks.length f.kc] 25)).alloc (.cells #[.int .i64 0, .string ⟨#[]⟩, .int .i64 0, .int .i64 0, .slice none 0 0, .slice none 0 0] 25)) = w1 at *
 obtain ⟨G, hG⟩ : ∃ G, w.heap.size = G := ⟨_, rfl⟩
 have HG := Lib.hid hG
 rw [hG] at HR
 simp only [hG]
 clear hG hn hb hw
 obtain ⟨O, hO⟩ : ∃ O, w1.heap.size = O := ⟨_, rfl⟩
 have HO := Lib.hid (ROut.start (B := fun a => b a ∨ O + 1 ≤ a) HR.out hO)
 obtain ⟨B, hB⟩ : ∃ B : Nat → Prop, B = fun a => b a ∨ O + 1 ≤ a := ⟨_, rfl⟩
 have HBD : Hid (∀ a, B a ↔ (b a ∨ O + 1 ≤ a)) := fun a => by rw [hB]
 rw [← hB] at HO
 have HGO : Hid (G + 1 < O) := by rw [← hO]; exact HR.out.z.lt
 obtain ⟨n0, n1, n2, n3, n4, n5⟩ := nodeC (HR.out.a.X)
 go_upto_region 2 with (fail)
 clear n0 n1 n2 n3 n4 n5
 generalize w1.alloc (.cells #[.int .i64 x.kd, .string ⟨x.tx.toArray⟩, .int .i64 x.nm, .int .i64 (x.at_ : Int), .slice f.na x.ns.length f.nc, .slice none 0 0] 25) = w2 at *
 clear hO hB HR
 obtain ⟨S1, hS1⟩ : ∃ S1, O + 1 = S1 := ⟨_, rfl⟩
 rw [hS1] at HO HBD
 have HOS : Hid (O < S1) := by show _ < _; omega
 have HSG : Hid (w.heap.size < S1) := by have := HG.out; have := HGO.out; show _ < _; omega
 clear hS1
 go_wp2_with fail
 go_loopw [4] (fun i wr => ∃ (k : Nat) (A : Option Addr) (c : Nat), i = .int .i64 (k : Int) ∧ k ≤ x.ks.length ∧ ROut w wr b B G O S1 x f ((progK x.ks).take k) A c) (fun i _ => x.ks.length - (intOf i).toNat)
 case atStart => exact ⟨0, none, 0, rfl, Nat.zero_le _, HO.out⟩
 case round =>
  obtain ⟨k, A, c, rfl, hk, har⟩ := hrel
  have HKK : Hid (((progK x.ks).take k).length = k) := by show _ = _; rw [List.length_take, progK_len]; omega
  have HR := Lib.hid har
  clear har HO
  by_cases hlt : k < x.ks.length
  ·have HZ0 := Lib.hid (rz_step hlt)
   obtain ⟨ys, hys⟩ : ∃ ys, (progK x.ks).take k = ys := ⟨_, rfl⟩
   rw [hys] at HR HKK HZ0
   clear hys
   have i0 : (0 : Int) ≤ (k : Int) := by omega
   have i1 : (k : Int) < (x.ks.length : Int) := by omega
   have I2 : Hid ((k : Int) < 100000) := by show _ < _; have := HL.out; omega
   have HK1 : Hid (k ≤ 100000) := by show _ ≤ _; have := HL.out; omega
   obtain ⟨g, fy, eg, hgb, hgl, ⟨x0, x1, x2, x3, x4, x5⟩, ny⟩ := HR.out.r.a.n.row.at_ hlt
   have NY : Hid (NodeIn wr b (x.ks.getD k nd0) fy) := ny.mono fun a ha _ => ha.1
   have HYW := Lib.hid (HKW.out _ (getD_mem hlt))
   have HYD := Lib.hid (fun h => HDK.out k _ (get_of hlt) h)
   generalize x.ks.getD k nd0 = y at *
   have c5 := HR.out.r.a.c5
   rw [eg] at c5
   have C5 := Lib.hid c5
   rw [eg]
   clear ny hgb eg
   have q9 : (x.ks.length : Int) ≤ 100000 := by have := HL.out; omega
   go_upto_region 6 with (fail)
   have HN : Hid (Whole (wr.alloc (.cells #[.int .i64 y.kd, .string ⟨y.tx.toArray⟩, .int .i64 y.nm, .int .i64 (y.at_ : Int), .slice fy.na y.ns.length fy.nc, .slice fy.ka y.ks.length fy.kc] 25)) wr.heap.size 25 #[.int .i64 y.kd, .string ⟨y.tx.toArray⟩, .int .i64 y.nm, .int .i64 (y.at_ : Int), .slice fy.na y.ns.length fy.nc, .slice fy.ka y.ks.length fy.kc]) := Whole.made wr 25 _
   have HB4 : Hid (Below wr.heap.size wr (wr.alloc (.cells #[.int .i64 y.kd, .string ⟨y.tx.toArray⟩, .int .i64 y.nm, .int .i64 (y.at_ : Int), .slice fy.na y.ns.length fy.nc, .slice fy.ka y.ks.length fy.kc] 25))) := (Below.refl _ _).alloc (Nat.le_refl _) _
   have HR4 := Lib.hid (HR.out.later HB4.out)
   have NY4 := Lib.hid (NY.out.later HB4.out (Nat.le_refl _))
   have HRN : Hid (∀ a, (Value.slice A ys.length c).ownBlock = some a → a < wr.heap.size) := fun a e => by
    obtain ⟨fs, hfl, hown, hfk⟩ := HR.out.k.own
    exact (hown.lt a e).2
   have D5 : Hid ((wr.alloc (.cells #[.int .i64 y.kd, .string ⟨y.tx.toArray⟩, .int .i64 y.nm, .int .i64 (y.at_ : Int), .slice fy.na y.ns.length fy.nc, .slice fy.ka y.ks.length fy.kc] 25)).cell? ⟨G, 5, none⟩ = some (.slice (some ⟨g, 0, none⟩) x.ks.length f.kc)) := (World.cell?_of_block (HB4.out.block G HR.out.r.a.X.lt)).trans C5.out
   have HNS : Hid (wr.heap.size < (wr.alloc (.cells #[.int .i64 y.kd, .string ⟨y.tx.toArray⟩, .int .i64 y.nm, .int .i64 (y.at_ : Int), .slice fy.na y.ns.length fy.nc, .slice fy.ka y.ks.length fy.kc] 25)).heap.size) := HN.out.lt
   generalize wr.alloc (.cells #[.int .i64 y.kd, .string ⟨y.tx.toArray⟩, .int .i64 y.nm, .int .i64 (y.at_ : Int), .slice fy.na y.ns.length fy.nc, .slice fy.ka y.ks.length fy.kc] 25) = w4 at *
   generalize wr.heap.size = N at *
   clear x0 x1 x2 x3 x4 x5 c5 C5 HR NY HB4
   obtain ⟨m, hm⟩ : ∃ m : Nat, m + 1 = x.ks.length := ⟨x.ks.length - 1, by omega⟩
   have hm1 : (x.ks.length : Int) - 1 = (m : Int) := by omega
   have HM := Lib.hid hm
   clear hm
   obtain ⟨last, hlast⟩ : ∃ last, ((k : Int) == (m : Int)) = last := ⟨_, rfl⟩
   have q := hlast
   have d5 := D5.out
   have HSW : Hid (∀ W, Below w4.heap.size w4 W → W.cell? ⟨O, 5, none⟩ = some (.slice A k c) ∧ C6 W N 0 1 2 3 4 5 y fy) := fun W h => ⟨by have := (HR4.out.o.below h HR4.out.o.lt).cell 5; rw [← HKK.out]; exact this, (sixC HN.out).block (h.block N HNS.out)⟩
   clear i0 i1
   rcases last with _ | _
   ·have HNL : Hid (k + 1 < x.ks.length ∧ pkF x.ks.length k y = declN y) := by
     have this : ¬ k + 1 = x.ks.length := by
      have h1 := HM.out
      have h2 : (k : Int) ≠ (m : Int) := beq_eq_false_iff_ne.1 hlast
      omega
     exact ⟨by omega, by unfold pkF; rw [if_neg this]⟩
    rw [HNL.out.2] at HZ0
    clear hlast
    have n0 : w4.cell? ⟨N, 0, none⟩ = some (.int .i64 y.kd) := HN.out.cell 0
    go_upto_region 8 with (fail)
    clear q9 d5 hm1 q
    obtain ⟨d, hd⟩ : ∃ d, (y.kd == 28 || y.kd == 29) = d := ⟨_, rfl⟩
    have HD := Lib.hid hd
    clear hd
    go_cut [49] (fun u wx => u = .bool d ∧ wx = w4)
    case first =>
     by_cases h1 : y.kd = 28
     ·have q : (y.kd == 28) = true := beq_iff_eq.2 h1
      clear h1
      go_wp2_with fail
      go_meet
      exact ⟨congrArg Value.bool (by rw [← HD.out, q]; rfl), rfl⟩
     ·have q : (y.kd == 28) = false := beq_eq_false_iff_ne.2 h1
      clear h1
      obtain ⟨d2, hd2⟩ : ∃ d2, (y.kd == 29) = d2 := ⟨_, rfl⟩
      have q2 := hd2
      go_wp2_with fail
      all_goals go_meet
      all_goals exact ⟨congrArg Value.bool (by rw [← HD.out, q]; simp [hd2]), rfl⟩
    case rest =>
     obtain ⟨rfl, hwx⟩ := hcut
     have hwx := hwx.symm
     subst hwx
     clear n0
     rcases d with _ | _
     ·rw [declN_else HD.out] at HZ0
      have HZS := HZ0
      clear HZ0 HD
      go_upto_region 10 with (fail)
      have NYB : Hid (NodeIn w4 (fun a => B a ∧ A ≠ some ⟨a, 0, none⟩) y fy) := NY4.out.mono fun a ha _ => ⟨(HBD.out a).2 (.inl ha), fun e => by have := HR4.out.k.lt_ e; have := HR4.out.r.hb a ha; have := HSG.out; omega⟩
      have HRA := Lib.hid (HR4.out.later ((Below.refl w4.heap.size w4).alloc (Nat.le_refl _) (.cells (ndL y fy).toArray 25)))
      have NYA := Lib.hid (NYB.out.later ((Below.refl w4.heap.size w4).alloc (Nat.le_refl _) (.cells (ndL y fy).toArray 25)) (Nat.le_refl _))
      obtain ⟨fs, hfl, hown, hfk⟩ := HRA.out.k.own
      have HOWN := Lib.hid hown
      have HFK := Lib.hid hfk
      have HFL := Lib.hid hfl
      have HYS : Hid (ys.length = k) := HKK.out
      rw [HYS.out] at hown
      have HOW2 := Lib.hid hown
      have HKK1 : Hid (k + 1 ≤ 1000000) := by show _ ≤ _; have := HK1.out; omega
      clear hfk hfl hown
      have o5 := (HSW.out _ (Below.refl _ _)).1
      obtain ⟨n0, n1, n2, n3, n4, n5⟩ := (HSW.out _ (Below.refl _ _)).2
      have i2 : (k : Int) < 100000 := I2.out
      go_wp2_with (at_builtin; refine list_app ty_nd (v := .slice A k c) rfl _ _ rfl rfl HOW2.out w4.heap.size 1 (ndL y fy) rfl (Whole.made w4 25 _) rfl (by simp [ndL, Value.oneCell']) (by decide) (by have := HK1.out; omega) (by decide) (by have := HRA.out.s; exact this) ?_; intro gv cv wd hap; rw [← HYS.out] at hap; have HAP := Lib.hid hap; have HOF : Hid ((Value.slice A ys.length c).ownBlock ≠ some O) := (fun e => by have := (HOWN.out.lt O e).1; have := HOS.out; omega); have ZO := Lib.hid (hap.far HRA.out.o HOF.out); have z5 : wd.cell? ⟨O, 5, none⟩ = some (.slice A k c) := (by have := ZO.out.cell 5; rw [← HYS.out]; exact this); have y5 := ZO.out.free 5; clear hap o5 n0 n1 n2 n3 n4 n5)
      have HRX := Lib.hid (HRA.out.app HGO.out HOS.out HBD.out HG.out HFL.out HOWN.out HFK.out NYA.out HAP.out)
      rw [HYS.out] at HRX
      clear z5 y5 ZO
      generalize wd.setCell ⟨O, 5, none⟩ (.slice (some ⟨gv, 0, none⟩) (k + 1) cv) = wf at *
      go_roundw
      case rel => exact ⟨k + 1, some ⟨gv, 0, none⟩, cv, by go_num, by omega, by rw [HZS.out]; exact HRX.out⟩
      case measure => simp [intOf]; omega
     ·obtain ⟨z, hks, hnm, hns⟩ := HYD.out HNL.out.1 (by have := HD.out; simpa using this)
      have HDE := declN_map HD.out
      rw [hks, hnm, hns] at HDE
      rw [HDE] at HZ0
      have HZS : Hid ((progK x.ks).take (k + 1) = ys ++ [.mk y.kd y.tx 0 y.at_ [] [expN z]]) := HZ0.out
      clear HZ0 HD HDE HYD
      obtain ⟨g2, fz, e2, ⟨hl2, hb2⟩, hcz, nz⟩ := kids_at NY4.out (k := 0) (y := z) (by rw [hks]; rfl)
      have HG2 : Hid (g2 < w.heap.size) := HR4.out.r.hb g2 hb2
      have HCZ : Hid (C6 w4 g2 0 1 2 3 4 5 z fz) := hcz
      have hzl : y.ks.length = 1 := by rw [hks]; rfl
      have SN := Lib.hid HSW.out
      rw [e2, hzl] at HN
      have CE := Lib.hid (refexp_any z (HYW.out.ks z (by rw [hks]; simp)) w4.drew b fz (fun a ha => Nat.lt_of_lt_of_le (HR4.out.r.hb a ha) HR4.out.r.a.bel.size) (nz.later (Below.refl _ _).drew (Nat.le_refl _)))
      unfold GivesN ndV at CE
      generalize expN z = ze at *
      have HSW : Hid (∀ W, Below w4.heap.size w4 W → W.cell? ⟨O, 5, none⟩ = some (.slice A k c) ∧ Six5 W N y fy (.slice (some ⟨g2, 0, none⟩) 1 fy.kc) ∧ C6 W g2 0 1 2 3 4 5 z fz) := fun W h => ⟨(SN.out W h).1, six5 (HN.out.below h HNS.out), HCZ.out.block (h.block g2 hl2)⟩
      clear nz hcz
      go_upto_region 9 with (fail)
      refine region_Z (fun W => W.cell? ⟨O, 5, none⟩ = some (.slice A k c) ∧ Six5 W N y fy (.slice (some ⟨g2, 0, none⟩) 1 fy.kc) ∧ C6 W g2 0 1 2 3 4 5 z fz) (fun i => i == 18) (by kernel_rfl) (HSW.out _ (Below.refl _ _).drew) (fun hHeld => ?_)
      refine tke 0 rfl (v := ?_) ?_ ?_; rotate_left
      ·(intro w hSw; (try dsimp only at hSw); obtain ⟨s1, ⟨u0, u1, u2, u3, u4, u5⟩, v0, v1, v2, v3, v4, v5⟩ := hSw; go_simp; try with_reducible rfl)
      (try simp only [Act.put, sZ])
      refine tke 1 rfl (v := ?_) ?_ ?_; rotate_left
      ·(intro w hSw; (try dsimp only at hSw); obtain ⟨s1, ⟨u0, u1, u2, u3, u4, u5⟩, v0, v1, v2, v3, v4, v5⟩ := hSw; go_simp; try with_reducible rfl)
      (try simp only [Act.put, sZ])
      refine tke 2 rfl (v := ?_) ?_ ?_; rotate_left
      ·(intro w hSw; (try dsimp only at hSw); obtain ⟨s1, ⟨u0, u1, u2, u3, u4, u5⟩, v0, v1, v2, v3, v4, v5⟩ := hSw; go_simp; try with_reducible rfl)
      (try simp only [Act.put, sZ])
      refine tke 3 rfl (v := ?_) ?_ ?_; rotate_left
      ·(intro w hSw; (try dsimp only at hSw); obtain ⟨s1, ⟨u0, u1, u2, u3, u4, u5⟩, v0, v1, v2, v3, v4, v5⟩ := hSw; go_simp; try with_reducible rfl)
      (try simp only [Act.put, sZ])
      refine tke 4 rfl (v := ?_) ?_ ?_; rotate_left
      ·(intro w hSw; (try dsimp only at hSw); obtain ⟨s1, ⟨u0, u1, u2, u3, u4, u5⟩, v0, v1, v2, v3, v4, v5⟩ := hSw; go_simp; try with_reducible rfl)
      (try simp only [Act.put, sZ])
      refine tke 5 rfl (v := ?_) ?_ ?_; rotate_left
      ·(intro w hSw; (try dsimp only at hSw); obtain ⟨s1, ⟨u0, u1, u2, u3, u4, u5⟩, v0, v1, v2, v3, v4, v5⟩ := hSw; go_simp; try with_reducible rfl)
      (try simp only [Act.put, sZ])
      refine tke 6 rfl (v := ?_) ?_ ?_; rotate_left
      ·(intro w hSw; (try dsimp only at hSw); obtain ⟨s1, ⟨u0, u1, u2, u3, u4, u5⟩, v0, v1, v2, v3, v4, v5⟩ := hSw; go_simp; try with_reducible rfl)
      (try simp only [Act.put, sZ])
      refine tke 7 rfl (v := ?_) ?_ ?_; rotate_left
      ·(intro w hSw; (try dsimp only at hSw); obtain ⟨s1, ⟨u0, u1, u2, u3, u4, u5⟩, v0, v1, v2, v3, v4, v5⟩ := hSw; go_simp; try with_reducible rfl)
      (try simp only [Act.put, sZ])
      refine tke 8 rfl (v := ?_) ?_ ?_; rotate_left
      ·(intro w hSw; (try dsimp only at hSw); obtain ⟨s1, ⟨u0, u1, u2, u3, u4, u5⟩, v0, v1, v2, v3, v4, v5⟩ := hSw; go_simp; try with_reducible rfl)
      (try simp only [Act.put, sZ])
      refine tke 9 rfl (v := ?_) ?_ ?_; rotate_left
      ·(intro w hSw; (try dsimp only at hSw); obtain ⟨s1, ⟨u0, u1, u2, u3, u4, u5⟩, v0, v1, v2, v3, v4, v5⟩ := hSw; go_simp; try with_reducible rfl)
      (try simp only [Act.put, sZ])
      refine tke 10 rfl (v := ?_) ?_ ?_; rotate_left
      ·(intro w hSw; (try dsimp only at hSw); obtain ⟨s1, ⟨u0, u1, u2, u3, u4, u5⟩, v0, v1, v2, v3, v4, v5⟩ := hSw; go_simp; try with_reducible rfl)
      (try simp only [Act.put, sZ])
      refine tke 11 rfl (v := ?_) ?_ ?_; rotate_left
      ·(intro w hSw; (try dsimp only at hSw); obtain ⟨s1, ⟨u0, u1, u2, u3, u4, u5⟩, v0, v1, v2, v3, v4, v5⟩ := hSw; go_simp; try with_reducible rfl)
      (try simp only [Act.put, sZ])
      refine stp 12 rfl (fun K hK => ?_)
      go_simp
      go_at_call 12
      refine CE.out.mono ?_
      rintro e w5 ⟨f5, rfl, n5, b5⟩
      have B5 := Lib.hid ((Below.refl w4.heap.size w4).drew.trans b5)
      have HR5 := Lib.hid (HR4.out.later B5.out)
      have HSW5 := Lib.hid (HSW.out _ B5.out)
      have NY5 : Hid (NodeIn w5 (fun a => B a ∧ A ≠ some ⟨a, 0, none⟩) ze f5) := n5.mono fun a ha _ => by
       rcases ha with ha | ha
       ·exact ⟨(HBD.out a).2 (.inl ha), fun e => by have := HR4.out.k.lt_ e; have := HR4.out.r.hb a ha; have := HSG.out; omega⟩
       ·exact ⟨(HBD.out a).2 (.inr (Nat.le_trans HR4.out.s ha)), fun e => by have := HR4.out.k.lt_ e; have h3 : w4.heap.size ≤ a := ha; omega⟩
      clear n5 b5 CE
      refine hK.out _ _ (fun _ => HSW5.out) (fun hHeld2 => ?_)
      replace hHeld2 := hHeld2 (by decide)
      clear hK K hHeld
      (try simp only [Act.put, sZ])
      obtain ⟨M, hM⟩ : ∃ M, w5.heap.size = M := ⟨_, rfl⟩
      have B6 : Hid (Below w4.heap.size w4 (w5.alloc (.cells (ndL ze f5).toArray 25))) := B5.out.alloc B5.out.size _
      refine stp 13 rfl (fun K hK => ?_)
      go_simp
      refine hK.out _ _ (fun _ => HSW.out _ B6.out) (fun hHeld3 => ?_)
      replace hHeld3 := hHeld3 (by decide)
      clear hK K hHeld2
      (try simp only [Act.put, sZ])
      have NY6 : Hid (NodeIn (w5.alloc (.cells (ndL ze f5).toArray 25)) (fun a => B a ∧ A ≠ some ⟨a, 0, none⟩) (.mk y.kd y.tx 0 y.at_ [] [ze]) ⟨none, 0, some ⟨M, 0, none⟩, 1⟩) := by
       rw [← hM]
       refine node_one (Whole.made w5 25 _) ((NY5.out.mono fun a ha hl => (⟨ha, Nat.ne_of_lt hl⟩ : (B a ∧ A ≠ some ⟨a, 0, none⟩) ∧ a ≠ w5.heap.size)).later ((Below.refl w5.heap.size w5).alloc (Nat.le_refl _) _) (Nat.le_refl _)) ⟨(HBD.out _).2 (.inr HR5.out.s), fun e => by have := HR5.out.k.lt_ e; omega⟩ rfl rfl
      have HR6 := Lib.hid (HR5.out.later ((Below.refl w5.heap.size w5).alloc (Nat.le_refl _) (.cells (ndL ze f5).toArray 25)))
      clear NY5 HR5 HSW5 B5 hM
      change Hid (Below w4.heap.size w4 (w5.alloc (.cells #[.int .i64 ze.kd, .string ⟨ze.tx.toArray⟩, .int .i64 ze.nm, .int .i64 (ze.at_ : Int), .slice f5.na ze.ns.length f5.nc, .slice f5.ka ze.ks.length f5.kc] 25))) at B6
      change Hid (NodeIn (w5.alloc (.cells #[.int .i64 ze.kd, .string ⟨ze.tx.toArray⟩, .int .i64 ze.nm, .int .i64 (ze.at_ : Int), .slice f5.na ze.ns.length f5.nc, .slice f5.ka ze.ks.length f5.kc] 25)) _ _ _) at NY6
      change Hid (ROut w (w5.alloc (.cells #[.int .i64 ze.kd, .string ⟨ze.tx.toArray⟩, .int .i64 ze.nm, .int .i64 (ze.at_ : Int), .slice f5.na ze.ns.length f5.nc, .slice f5.ka ze.ks.length f5.kc] 25)) _ _ _ _ _ _ _ _ _ _) at HR6
      generalize w5.alloc (.cells #[.int .i64 ze.kd, .string ⟨ze.tx.toArray⟩, .int .i64 ze.nm, .int .i64 (ze.at_ : Int), .slice f5.na ze.ns.length f5.nc, .slice f5.ka ze.ks.length f5.kc] 25) = w6 at *
      have B5 := B6
      have HR5 := HR6
      have NY5 := NY6
      clear B6 HR6 NY6
      obtain ⟨w5, hw6⟩ : ∃ w5, w6 = w5 := ⟨_, rfl⟩
      subst hw6
      have hHeld2 := hHeld3
      clear hHeld3
      refine tke 14 rfl (v := ?_) ?_ ?_; rotate_left
      ·(intro w hSw; (try dsimp only at hSw); obtain ⟨s1, ⟨u0, u1, u2, u3, u4, u5⟩, v0, v1, v2, v3, v4, v5⟩ := hSw; go_simp; try with_reducible rfl)
      (try simp only [Act.put, sZ])
      have BA : Hid (Below w4.heap.size w4 (w6.alloc (.cells (ndL (.mk y.kd y.tx 0 y.at_ [] [ze]) ⟨none, 0, some ⟨M, 0, none⟩, 1⟩).toArray 25))) := B5.out.alloc B5.out.size _
      refine stp 15 rfl (fun K hK => ?_)
      go_simp
      refine hK.out _ _ (fun _ => HSW.out _ BA.out) (fun hHeld3 => ?_)
      clear hK K hHeld2
      (try simp only [Act.put, sZ])
      have HRA := Lib.hid (HR5.out.later ((Below.refl w6.heap.size w6).alloc (Nat.le_refl _) (.cells (ndL (.mk y.kd y.tx 0 y.at_ [] [ze]) ⟨none, 0, some ⟨M, 0, none⟩, 1⟩).toArray 25)))
      have NYA := Lib.hid (NY5.out.later ((Below.refl w6.heap.size w6).alloc (Nat.le_refl _) (.cells (ndL (.mk y.kd y.tx 0 y.at_ [] [ze]) ⟨none, 0, some ⟨M, 0, none⟩, 1⟩).toArray 25)) (Nat.le_refl _))
      obtain ⟨fs, hfl, hown, hfk⟩ := HRA.out.k.own
      have HOWN := Lib.hid hown
      have HFK := Lib.hid hfk
      have HFL := Lib.hid hfl
      have HYS : Hid (ys.length = k) := HKK.out
      rw [HYS.out] at hown
      clear hfk hfl
      refine stp 16 rfl (fun K hK => ?_)
      refine step_app ty_nd (v := .slice A k c) (by rfl) _ _ (by rfl) (by rfl) hown w6.heap.size 1 (ndL (.mk y.kd y.tx 0 y.at_ [] [ze]) ⟨none, 0, some ⟨M, 0, none⟩, 1⟩) (by rfl) (Whole.made w6 25 _) (by rfl) (by simp [ndL, Value.oneCell']) (by decide) (by have := HK1.out; omega) (by decide) (by have := HRA.out.s; exact this) ?_
      intro gv cv wd hap
      rw [← HYS.out] at hap
      have HAP := Lib.hid hap
      have HOF : Hid ((Value.slice A ys.length c).ownBlock ≠ some O) := fun e => by have := (HOWN.out.lt O e).1; have := HOS.out; omega
      have HNF : Hid ((Value.slice A ys.length c).ownBlock ≠ some N) := fun e => by have := HRN.out N e; omega
      have ZO := Lib.hid (hap.far HRA.out.o HOF.out)
      have ZN := Lib.hid (hap.far (HN.out.below BA.out HNS.out) HNF.out)
      have z5 : wd.cell? ⟨O, 5, none⟩ = some (.slice A k c) := by have := ZO.out.cell 5; rw [← HYS.out]; exact this
      have y5 := ZO.out.free 5
      have BD : Hid (Below S1 (w6.alloc (.cells (ndL (.mk y.kd y.tx 0 y.at_ [] [ze]) ⟨none, 0, some ⟨M, 0, none⟩, 1⟩).toArray 25)) wd) := hap.below HOWN.out (Below.refl _ _) (Nat.le_refl _) HRA.out.s
      clear hown hap
      refine hK.out _ _ (fun _ => ⟨z5, six5 ZN.out, (HSW.out _ BA.out).2.2.block (BD.out.block g2 (by have := HG2.out; have := HSG.out; omega))⟩) (fun hHeld4 => ?_)
      replace hHeld4 := hHeld4 (by decide)
      clear hK K hHeld3
      (try simp only [Act.put, sZ])
      refine tke 17 rfl (v := ?_) ?_ ?_; rotate_left
      ·(intro w hSw; (try dsimp only at hSw); obtain ⟨s1, ⟨u0, u1, u2, u3, u4, u5⟩, v0, v1, v2, v3, v4, v5⟩ := hSw; go_simp; try with_reducible rfl)
      (try simp only [Act.put, sZ])
      refine stp 18 rfl (fun K hK => ?_)
      go_simp
      refine hK.out _ _ (fun h => absurd h (by decide)) (fun _ => ?_)
      refine anyZ_done (by kernel_rfl) ?_ _
      have HRX := Lib.hid (HRA.out.app HGO.out HOS.out HBD.out HG.out HFL.out HOWN.out HFK.out NYA.out HAP.out)
      rw [HYS.out] at HRX
      clear hK K hHeld4 z5 y5 ZO ZN
      generalize wd.setCell ⟨O, 5, none⟩ (.slice (some ⟨gv, 0, none⟩) (k + 1) cv) = wf at *
      have i2 : (k : Int) < 100000 := I2.out
      go_wp2_with fail
      go_roundw
      case rel => exact ⟨k + 1, some ⟨gv, 0, none⟩, cv, by go_num, by omega, by rw [HZS.out]; exact HRX.out⟩
      case measure => simp [intOf]; omega
   ·have HZS : Hid ((progK x.ks).take (k + 1) = ys ++ [expN y]) := by
     have : k + 1 = x.ks.length := by have := beq_iff_eq.1 hlast; have := HM.out; omega
     show _ = _
     rw [HZ0.out]; unfold pkF; rw [if_pos this]
    clear hlast HZ0
    have CE := Lib.hid (refexp_any y HYW.out w4.drew b fy (fun a ha => Nat.lt_of_lt_of_le (HR4.out.r.hb a ha) HR4.out.r.a.bel.size) (NY4.out.later (Below.refl _ _).drew (Nat.le_refl _)))
    unfold GivesN ndV at CE
    generalize expN y = ye at *
    go_upto_region 7 with (fail)
    clear q9 d5 hm1 q
    refine region_Z (fun W => W.cell? ⟨O, 5, none⟩ = some (.slice A k c) ∧ C6 W N 0 1 2 3 4 5 y fy) (fun i => i == 7) (by kernel_rfl) (HSW.out _ (Below.refl _ _).drew) (fun hHeld => ?_)
    refine tke 0 rfl (v := ?_) ?_ ?_; rotate_left
    ·(intro w hSw; (try dsimp only at hSw); obtain ⟨s1, u0, u1, u2, u3, u4, u5⟩ := hSw; go_simp; try with_reducible rfl)
    (try simp only [Act.put, sZ])
    refine tke 1 rfl (v := ?_) ?_ ?_; rotate_left
    ·(intro w hSw; (try dsimp only at hSw); obtain ⟨s1, u0, u1, u2, u3, u4, u5⟩ := hSw; go_simp; try with_reducible rfl)
    (try simp only [Act.put, sZ])
    refine tke 2 rfl (v := ?_) ?_ ?_; rotate_left
    ·(intro w hSw; (try dsimp only at hSw); obtain ⟨s1, u0, u1, u2, u3, u4, u5⟩ := hSw; go_simp; try with_reducible rfl)
    (try simp only [Act.put, sZ])
    refine stp 3 rfl (fun K hK => ?_)
    go_simp
    go_at_call 12
    refine CE.out.mono ?_
    rintro e w5 ⟨f5, rfl, n5, b5⟩
    have B5 := Lib.hid ((Below.refl w4.heap.size w4).drew.trans b5)
    have HR5 := Lib.hid (HR4.out.later B5.out)
    have HSW5 := Lib.hid (HSW.out _ B5.out)
    have NY5 : Hid (NodeIn w5 (fun a => B a ∧ A ≠ some ⟨a, 0, none⟩) ye f5) := n5.mono fun a ha _ => by
     rcases ha with ha | ha
     ·exact ⟨(HBD.out a).2 (.inl ha), fun e => by have := HR4.out.k.lt_ e; have := HR4.out.r.hb a ha; have := HSG.out; omega⟩
     ·exact ⟨(HBD.out a).2 (.inr (Nat.le_trans HR4.out.s ha)), fun e => by have := HR4.out.k.lt_ e; have h3 : w4.heap.size ≤ a := ha; omega⟩
    clear n5 b5 CE
    refine hK.out _ _ (fun _ => HSW5.out) (fun hHeld2 => ?_)
    replace hHeld2 := hHeld2 (by decide)
    clear hK K hHeld
    (try simp only [Act.put, sZ])
    have BA : Hid (Below w4.heap.size w4 (w5.alloc (.cells (ndL ye f5).toArray 25))) := B5.out.alloc B5.out.size _
    refine stp 4 rfl (fun K hK => ?_)
    go_simp
    refine hK.out _ _ (fun _ => HSW.out _ BA.out) (fun hHeld3 => ?_)
    clear hK K hHeld2
    (try simp only [Act.put, sZ])
    have HRA := Lib.hid (HR5.out.later ((Below.refl w5.heap.size w5).alloc (Nat.le_refl _) (.cells (ndL ye f5).toArray 25)))
    have NYA := Lib.hid (NY5.out.later ((Below.refl w5.heap.size w5).alloc (Nat.le_refl _) (.cells (ndL ye f5).toArray 25)) (Nat.le_refl _))
    obtain ⟨fs, hfl, hown, hfk⟩ := HRA.out.k.own
    have HOWN := Lib.hid hown
    have HFK := Lib.hid hfk
    have HFL := Lib.hid hfl
    have HYS : Hid (ys.length = k) := HKK.out
    rw [HYS.out] at hown
    clear hfk hfl
    refine stp 5 rfl (fun K hK => ?_)
    refine step_app ty_nd (v := .slice A k c) (by rfl) _ _ (by rfl) (by rfl) hown w5.heap.size 1 (ndL ye f5) (by rfl) (Whole.made w5 25 _) (by rfl) (by simp [ndL, Value.oneCell']) (by decide) (by have := HK1.out; omega) (by decide) (by have := HRA.out.s; exact this) ?_
    intro gv cv wd hap
    rw [← HYS.out] at hap
    have HAP := Lib.hid hap
    have HOF : Hid ((Value.slice A ys.length c).ownBlock ≠ some O) := fun e => by have := (HOWN.out.lt O e).1; have := HOS.out; omega
    have HNF : Hid ((Value.slice A ys.length c).ownBlock ≠ some N) := fun e => by have := HRN.out N e; omega
    have ZO := Lib.hid (hap.far HRA.out.o HOF.out)
    have ZN := Lib.hid (hap.far (HN.out.below BA.out HNS.out) HNF.out)
    have z5 : wd.cell? ⟨O, 5, none⟩ = some (.slice A k c) := by have := ZO.out.cell 5; rw [← HYS.out]; exact this
    have y5 := ZO.out.free 5
    have BD : Hid (Below S1 (w5.alloc (.cells (ndL ye f5).toArray 25)) wd) := hap.below HOWN.out (Below.refl _ _) (Nat.le_refl _) HRA.out.s
    clear hown hap
    refine hK.out _ _ (fun _ => ⟨z5, sixC ZN.out⟩) (fun hHeld4 => ?_)
    replace hHeld4 := hHeld4 (by decide)
    clear hK K hHeld3
    (try simp only [Act.put, sZ])
    refine tke 6 rfl (v := ?_) ?_ ?_; rotate_left
    ·(intro w hSw; (try dsimp only at hSw); obtain ⟨s1, u0, u1, u2, u3, u4, u5⟩ := hSw; go_simp; try with_reducible rfl)
    (try simp only [Act.put, sZ])
    refine stp 7 rfl (fun K hK => ?_)
    go_simp
    refine hK.out _ _ (fun h => absurd h (by decide)) (fun _ => ?_)
    refine anyZ_done (by kernel_rfl) ?_ _
    have HRX := Lib.hid (HRA.out.app HGO.out HOS.out HBD.out HG.out HFL.out HOWN.out HFK.out NYA.out HAP.out)
    rw [HYS.out] at HRX
    clear hK K hHeld4 z5 y5 ZO ZN
    generalize wd.setCell ⟨O, 5, none⟩ (.slice (some ⟨gv, 0, none⟩) (k + 1) cv) = wf at *
    have i2 : (k : Int) < 100000 := I2.out
    go_wp2_with fail
    go_roundw
    case rel => exact ⟨k + 1, some ⟨gv, 0, none⟩, cv, by go_num, by omega, by rw [HZS.out]; exact HRX.out⟩
    case measure => simp [intOf]; omega
  ·have i1 : ¬ (k : Int) < (x.ks.length : Int) := by omega
   obtain rfl : k = x.ks.length := by omega
   have HYL : Hid ((progK x.ks).length = x.ks.length) := progK_len _
   rw [show (progK x.ks).take x.ks.length = progK x.ks by rw [List.take_of_length_le (by rw [progK_len]; omega)]] at HR
   have HGS : Hid (G + 1 < S1) := by show _ < _; have := HGO.out; have := HOS.out; omega
   have HNP := Lib.hid (HR.out.node HBD.out)
   have c5 := HR.out.r.a.c5
   obtain ⟨n0, n1, n2, n3, n4, n5⟩ := cells6 HR.out.o
   obtain ⟨z0, z1, z2, z3, z4, z5⟩ := zeroC HR.out.r.z
   obtain ⟨y0, y1, y2, y3, y4, y5⟩ := freeC HR.out.r.z
   go_wp2_with fail
   obtain ⟨wf, HZF, HBF, hwf⟩ := ends6 HR.out.r.z (.int .i64 x.kd) (.string ⟨x.tx.toArray⟩) (.int .i64 x.nm) (.int .i64 (x.at_ : Int)) (.slice f.na x.ns.length f.nc) (.slice A (progK x.ks).length c)
   rw [hwf]
   clear hwf
   obtain ⟨g0, g1, g2, g3, g4, g5⟩ := cells6 HZF.out
   exact bodyPost_ret (v := ndV (progN x) ⟨f.na, f.nc, A, c⟩) (by simp [results, Try.results20, go_sem, ndV, progN, Nd.kd, Nd.tx, Nd.nm, Nd.at_, Nd.ns, Nd.ks, g0, g1, g2, g3, g4, g5]) rfl ⟨⟨f.na, f.nc, A, c⟩, rfl, exp_fin HBD.out HGS.out HG.out HR.out.r.hb HR.out.r.a.bel HNP.out HBF.out⟩
end Go.Proofs.Ytgjchgmlogbmmaa
