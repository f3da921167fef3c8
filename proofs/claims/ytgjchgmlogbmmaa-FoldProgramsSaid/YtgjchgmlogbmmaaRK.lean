/- A part of the proofs of chapter 11, squeezed, merged and shrunk by group.py: FWalkT FWalkU. -/
import Derived.Test.YtgjchgmlogbmmaaR1
import Derived.KernelRfl
import Derived.Test.YtgjchgmlogbmmaaRI
import Derived.Test.YtgjchgmlogbmmaaRH
/- The walks of layer 11: two nodes that are the same. -/
namespace Go.Proofs.Ytgjchgmlogbmmaa
open Go.RowKit
set_option linter.unusedVariables false
set_option linter.unusedSimpArgs false
attribute [local go_sem ↓] Go.wp_at_zero Go.wp_at_succ

theorem NodeIn.names {w : World} {b : Nat → Prop} {x : Nd} {f : Fr} (h : NodeIn w b x f) : StrIn w b x.ns f.na := fun e => by
 cases h with
 | mk hn0 hn hk0 g fs hk hc hs => exact hn e
theorem ndCells.below {w w' : World} {g k : Nat} {y : Nd} {fy : Fr} {B : Nat} (h : ndCells w g k y fy) (hg : g < B) (hb : Below B w w') : ndCells w' g k y fy := by
 have e : ∀ i, w'.cell? ⟨g, i, none⟩ = w.cell? ⟨g, i, none⟩ := fun i => World.cell?_of_block (hb.block g hg)
 unfold ndCells
 simp only [e]
 exact h
/-- Two readings of a node, each in a block of its own. -/
structure SamAt (w w1 : World) (b b2 : Nat → Prop) (G : Nat) (x : Nd) (f h : Fr) : Prop where
 X : Whole w1 G 25 #[.int .i64 x.kd, .string ⟨x.tx.toArray⟩, .int .i64 x.nm, .int .i64 (x.at_ : Int), .slice f.na x.ns.length f.nc, .slice f.ka x.ks.length f.kc]
 Y : Whole w1 (G + 1) 25 #[.int .i64 x.kd, .string ⟨x.tx.toArray⟩, .int .i64 x.nm, .int .i64 (x.at_ : Int), .slice h.na x.ns.length h.nc, .slice h.ka x.ks.length h.kc]
 n : NodeIn w1 b x f
 m : NodeIn w1 b2 x h
 bel : Below w.heap.size w w1
theorem SamAt.later {w w1 w2 : World} {b b2 : Nat → Prop} {G : Nat} {x : Nd} {f h : Fr} (s : SamAt w w1 b b2 G x f h) (hb : Below w1.heap.size w1 w2) : SamAt w w2 b b2 G x f h :=
 ⟨s.X.below hb s.X.lt, s.Y.below hb s.Y.lt, s.n.later hb (Nat.le_refl _), s.m.later hb (Nat.le_refl _), s.bel.trans (hb.mono s.bel.size)⟩
theorem SamAt.start {w : World} {b b2 : Nat → Prop} {x : Nd} {f h : Fr} (n : NodeIn w b x f) (m : NodeIn w b2 x h) : SamAt w ((w.alloc (.cells #[.int .i64 x.kd, .string ⟨x.tx.toArray⟩, .int .i64 x.nm, .int .i64 (x.at_ : Int), .slice f.na x.ns.length f.nc, .slice f.ka x.ks.length f.kc] 25)).alloc (.cells #[.int .i64 x.kd, .string ⟨x.tx.toArray⟩, .int .i64 x.nm, .int .i64 (x.at_ : Int), .slice h.na x.ns.length h.nc, .slice h.ka x.ks.length h.kc] 25)) b b2 w.heap.size x f h := by
 have h1 : Below w.heap.size w (w.alloc (.cells #[.int .i64 x.kd, .string ⟨x.tx.toArray⟩, .int .i64 x.nm, .int .i64 (x.at_ : Int), .slice f.na x.ns.length f.nc, .slice f.ka x.ks.length f.kc] 25)) := (Below.refl _ _).alloc (Nat.le_refl _) _
 have h2 : Below (w.alloc (.cells #[.int .i64 x.kd, .string ⟨x.tx.toArray⟩, .int .i64 x.nm, .int .i64 (x.at_ : Int), .slice f.na x.ns.length f.nc, .slice f.ka x.ks.length f.kc] 25)).heap.size (w.alloc (.cells #[.int .i64 x.kd, .string ⟨x.tx.toArray⟩, .int .i64 x.nm, .int .i64 (x.at_ : Int), .slice f.na x.ns.length f.nc, .slice f.ka x.ks.length f.kc] 25)) ((w.alloc (.cells #[.int .i64 x.kd, .string ⟨x.tx.toArray⟩, .int .i64 x.nm, .int .i64 (x.at_ : Int), .slice f.na x.ns.length f.nc, .slice f.ka x.ks.length f.kc] 25)).alloc (.cells #[.int .i64 x.kd, .string ⟨x.tx.toArray⟩, .int .i64 x.nm, .int .i64 (x.at_ : Int), .slice h.na x.ns.length h.nc, .slice h.ka x.ks.length h.kc] 25)) := (Below.refl _ _).alloc (Nat.le_refl _) _
 have e : (w.alloc (.cells #[.int .i64 x.kd, .string ⟨x.tx.toArray⟩, .int .i64 x.nm, .int .i64 (x.at_ : Int), .slice f.na x.ns.length f.nc, .slice f.ka x.ks.length f.kc] 25)).heap.size = w.heap.size + 1 := by simp
 refine ⟨(Whole.made w 25 _).alloc _, ?_, (n.later h1 (Nat.le_refl _)).later h2 (Nat.le_refl _), (m.later h1 (Nat.le_refl _)).later h2 (Nat.le_refl _), h1.trans (h2.mono (by omega))⟩
 have := Whole.made (w.alloc (.cells #[.int .i64 x.kd, .string ⟨x.tx.toArray⟩, .int .i64 x.nm, .int .i64 (x.at_ : Int), .slice f.na x.ns.length f.nc, .slice f.ka x.ks.length f.kc] 25)) 25 #[.int .i64 x.kd, .string ⟨x.tx.toArray⟩, .int .i64 x.nm, .int .i64 (x.at_ : Int), .slice h.na x.ns.length h.nc, .slice h.ka x.ks.length h.kc]
 rw [e] at this
 exact this
def SameC (y : Nd) : Prop := ∀ (w : World) (b b2 : Nat → Prop) (f h : Fr), NodeIn w b y f → NodeIn w b2 y h → Calls Try.prog 10 #[ndV y f, ndV y h, .bool true] w fun e w' => e = .returned (.bool true) ∧ Below w.heap.size w w'
set_option maxRecDepth 100000 in
set_option maxHeartbeats 16000000 in
theorem same_any (x : Nd) : WfN x → SameC x := by
 induction x using Nd.ind with
 | h x ih =>
  intro hw w b b2 f h n m
  have HA := Lib.hid (SamAt.start n m)
  have HL : Hid (x.ks.length ≤ 100000) := hw.len
  have HLN : Hid (x.ns.length ≤ 100000) := hw.ns
  have IH := Lib.hid (fun y hy => ih y hy (hw.ks y hy))
  clear n m hw ih
  unfold ndV
  go_enter Try.func10, Try.ntmps10
  go_upto_region 1 with (fail)
  generalize (w.alloc (.cells #[.int .i64 x.kd, .string ⟨x.tx.toArray⟩, .int .i64 x.nm, .int .i64 (x.at_ : Int), .slice f.na x.ns.length f.nc, .slice f.ka x.ks.length f.kc] 25)).alloc (.cells #[.int .i64 x.kd, .string ⟨x.tx.toArray⟩, .int .i64 x.nm, .int .i64 (x.at_ : Int), .slice h.na x.ns.length h.nc, .slice h.ka x.ks.length h.kc] 25) = w1 at *
  obtain ⟨G, hG⟩ : ∃ G, w.heap.size = G := ⟨_, rfl⟩
  have HG := Lib.hid hG
  rw [hG] at HA
  simp only [hG]
  clear hG
  have HX := Lib.hid HA.out.X
  have HY := Lib.hid HA.out.Y
  obtain ⟨n0, n1, n2, n3, n4, n5⟩ := nodeC (HX.out)
  obtain ⟨m0, m1, m2, m3, m4, m5⟩ := nodeC (HY.out)
  go_upto_region 3 with (fail)
  clear n0 n1 n2 n3 n4 n5 m0 m1 m2 m3 m4 m5 HX HY
  go_wp2_with fail
  go_loopw [7] (fun i wr => ∃ k : Nat, i = .int .i64 (k : Int) ∧ k ≤ x.ns.length ∧ SamAt w wr b b2 G x f h) (fun i _ => x.ns.length - (intOf i).toNat)
  case atStart => exact ⟨0, rfl, Nat.zero_le _, HA.out⟩
  case round =>
   obtain ⟨k, rfl, hk, har⟩ := hrel
   have HR := Lib.hid har
   clear har HA
   have a4 := HR.out.X.cell 4
   have b4 := HR.out.Y.cell 4
   simp only [List.getElem?_toArray, List.getElem?_cons_zero, List.getElem?_cons_succ] at a4 b4
   by_cases hlt : k < x.ns.length
   ·have i1 : (k : Int) < (x.ns.length : Int) := by omega
    obtain ⟨g, e1, hgl, u0⟩ := HR.out.n.names.at_ hlt
    obtain ⟨g2, e2, hgl2, v0⟩ := HR.out.m.names.at_ hlt
    generalize x.ns.getD k [] = s at *
    rw [e1] at a4
    rw [e2] at b4
    have i0 : (0 : Int) ≤ (k : Int) := by omega
    have i2 : (k : Int) < 100000 := by have := HLN.out; omega
    clear e1 e2
    go_upto_region 6 with (fail)
    go_region
    have HR2 : Hid (SamAt w wr.drew b b2 G x f h) := HR.out.later (Below.refl _ _).drew
    clear u0 v0 a4 b4 HR
    go_wp2_with fail
    go_roundw
    case rel => exact ⟨k + 1, by go_num, by omega, HR2.out⟩
    case measure => simp [intOf]; omega
   ·have i1 : ¬ (k : Int) < (x.ns.length : Int) := by omega
    go_upto_region 8 with (fail)
    clear a4 b4 i1
    go_wp2_with fail
    go_loopw [8] (fun i wr => ∃ k : Nat, i = .int .i64 (k : Int) ∧ k ≤ x.ks.length ∧ SamAt w wr b b2 G x f h) (fun i _ => x.ks.length - (intOf i).toNat)
    case atStart => exact ⟨0, rfl, Nat.zero_le _, HR.out⟩
    case round =>
     obtain ⟨j, rfl, hj, har⟩ := hrel
     have HRj := Lib.hid har
     clear har HR
     have a5 := HRj.out.X.cell 5
     have b5 := HRj.out.Y.cell 5
     simp only [List.getElem?_toArray, List.getElem?_cons_zero, List.getElem?_cons_succ] at a5 b5
     by_cases hlj : j < x.ks.length
     ·have i3 : (j : Int) < (x.ks.length : Int) := by omega
      obtain ⟨g, fy, e1, hgl, u0, ny⟩ := HRj.out.n.row.any hlj
      obtain ⟨g2, hy, e2, hgl2, v0, my⟩ := HRj.out.m.row.any hlj
      have HS := Lib.hid (IH.out _ (getD_mem hlj))
      generalize x.ks.getD j nd0 = y at *
      rw [e1] at a5
      rw [e2] at b5
      have CS := Lib.hid (HS.out wr.drew _ _ fy hy (ny.later (Below.refl _ _).drew (Nat.le_refl _)) (my.later (Below.refl _ _).drew (Nat.le_refl _)))
      unfold ndV at CS
      have HA5 := Lib.hid a5
      have HB5 := Lib.hid b5
      have HU := Lib.hid u0
      have HV := Lib.hid v0
      have i0 : (0 : Int) ≤ (j : Int) := by omega
      have i2 : (j : Int) < 100000 := by have := HL.out; omega
      clear ny my HS u0 v0
      go_upto_region 11 with (fail)
      clear a5 b5
      have hGl := HRj.out.X.lt
      have hGl2 := HRj.out.Y.lt
      refine region_Z (fun W => W.cell? ⟨G, 5, none⟩ = some (.slice f.ka x.ks.length f.kc) ∧ W.cell? ⟨G + 1, 5, none⟩ = some (.slice h.ka x.ks.length h.kc) ∧ ndCells W g j y fy ∧ ndCells W g2 j y hy) (fun i => false) (by kernel_rfl) ⟨by rw [e1]; exact HA5.out, by rw [e2]; exact HB5.out, HU.out.below hgl (Below.refl _ _).drew, HV.out.below hgl2 (Below.refl _ _).drew⟩ (fun hHeld => ?_)
      refine tkf 0 rfl (v := ?_) ?_ ?_; rotate_left
      ·(intro w hSw; (try dsimp only at hSw); (obtain ⟨s1, s2, ⟨u0, u1, u2, u3, u4, u5⟩, v0, v1, v2, v3, v4, v5⟩ := hSw); go_simp; try with_reducible rfl)
      (try simp only [Act.put, sZ])
      refine tkf 1 rfl (v := ?_) ?_ ?_; rotate_left
      ·(intro w hSw; (try dsimp only at hSw); (obtain ⟨s1, s2, ⟨u0, u1, u2, u3, u4, u5⟩, v0, v1, v2, v3, v4, v5⟩ := hSw); go_simp; try with_reducible rfl)
      (try simp only [Act.put, sZ])
      refine tkf 2 rfl (v := ?_) ?_ ?_; rotate_left
      ·(intro w hSw; (try dsimp only at hSw); (obtain ⟨s1, s2, ⟨u0, u1, u2, u3, u4, u5⟩, v0, v1, v2, v3, v4, v5⟩ := hSw); go_simp; try with_reducible rfl)
      (try simp only [Act.put, sZ])
      refine tkf 3 rfl (v := ?_) ?_ ?_; rotate_left
      ·(intro w hSw; (try dsimp only at hSw); (obtain ⟨s1, s2, ⟨u0, u1, u2, u3, u4, u5⟩, v0, v1, v2, v3, v4, v5⟩ := hSw); go_simp; try with_reducible rfl)
      (try simp only [Act.put, sZ])
      refine tkf 4 rfl (v := ?_) ?_ ?_; rotate_left
      ·(intro w hSw; (try dsimp only at hSw); (obtain ⟨s1, s2, ⟨u0, u1, u2, u3, u4, u5⟩, v0, v1, v2, v3, v4, v5⟩ := hSw); go_simp; try with_reducible rfl)
      (try simp only [Act.put, sZ])
      refine tkf 5 rfl (v := ?_) ?_ ?_; rotate_left
      ·(intro w hSw; (try dsimp only at hSw); (obtain ⟨s1, s2, ⟨u0, u1, u2, u3, u4, u5⟩, v0, v1, v2, v3, v4, v5⟩ := hSw); go_simp; try with_reducible rfl)
      (try simp only [Act.put, sZ])
      refine tkf 6 rfl (v := ?_) ?_ ?_; rotate_left
      ·(intro w hSw; (try dsimp only at hSw); (obtain ⟨s1, s2, ⟨u0, u1, u2, u3, u4, u5⟩, v0, v1, v2, v3, v4, v5⟩ := hSw); go_simp; try with_reducible rfl)
      (try simp only [Act.put, sZ])
      refine tkf 7 rfl (v := ?_) ?_ ?_; rotate_left
      ·(intro w hSw; (try dsimp only at hSw); (obtain ⟨s1, s2, ⟨u0, u1, u2, u3, u4, u5⟩, v0, v1, v2, v3, v4, v5⟩ := hSw); go_simp; try with_reducible rfl)
      (try simp only [Act.put, sZ])
      refine tkf 8 rfl (v := ?_) ?_ ?_; rotate_left
      ·(intro w hSw; (try dsimp only at hSw); (obtain ⟨s1, s2, ⟨u0, u1, u2, u3, u4, u5⟩, v0, v1, v2, v3, v4, v5⟩ := hSw); go_simp; try with_reducible rfl)
      (try simp only [Act.put, sZ])
      refine tkf 9 rfl (v := ?_) ?_ ?_; rotate_left
      ·(intro w hSw; (try dsimp only at hSw); (obtain ⟨s1, s2, ⟨u0, u1, u2, u3, u4, u5⟩, v0, v1, v2, v3, v4, v5⟩ := hSw); go_simp; try with_reducible rfl)
      (try simp only [Act.put, sZ])
      refine tkf 10 rfl (v := ?_) ?_ ?_; rotate_left
      ·(intro w hSw; (try dsimp only at hSw); (obtain ⟨s1, s2, ⟨u0, u1, u2, u3, u4, u5⟩, v0, v1, v2, v3, v4, v5⟩ := hSw); go_simp; try with_reducible rfl)
      (try simp only [Act.put, sZ])
      refine stp 11 rfl (fun K hK => ?_)
      go_simp
      go_at_call 10
      refine CS.out.mono ?_
      rintro e w4 ⟨rfl, b4⟩
      have B4 := Lib.hid ((Below.refl wr.heap.size wr).drew.trans b4)
      have HR4 := Lib.hid (HRj.out.later B4.out)
      have HS4 : Hid (w4.cell? ⟨G, 5, none⟩ = some (.slice f.ka x.ks.length f.kc) ∧ w4.cell? ⟨G + 1, 5, none⟩ = some (.slice h.ka x.ks.length h.kc) ∧ ndCells w4 g j y fy ∧ ndCells w4 g2 j y hy) := ⟨HR4.out.X.cell 5, HR4.out.Y.cell 5, HU.out.below hgl B4.out, HV.out.below hgl2 B4.out⟩
      rw [e1, e2] at HS4
      refine hK.out _ _ (fun _ => by rw [e1, e2]; exact HS4.out) (fun hHeld2 => ?_)
      clear hK K hHeld
      (try simp only [Act.put, sZ])
      refine stp 12 rfl (fun K hK => ?_)
      go_simp
      refine hK.out _ _ (fun _ => by rw [e1, e2]; exact HS4.out) (fun hHeld3 => ?_)
      clear hK K hHeld2
      (try simp only [Act.put, sZ])
      refine anyZ_done (by kernel_rfl) ?_ _
      go_wp2_with fail
      go_roundw
      case rel => exact ⟨j + 1, by go_num, by omega, HR4.out⟩
      case measure => simp [intOf]; omega
     ·have i3 : ¬ (j : Int) < (x.ks.length : Int) := by omega
      go_wp2_with fail
      exact bodyPost_ret (v := .bool true) (by simp [results, Try.results10, go_sem]) rfl ⟨rfl, HRj.out.bel⟩
end Go.Proofs.Ytgjchgmlogbmmaa
/- The walks of layer 11: the document's operation. -/
namespace Go.Proofs.Ytgjchgmlogbmmaa
open Go.RowKit
set_option linter.unusedVariables false
set_option linter.unusedSimpArgs false
attribute [local go_sem ↓] Go.wp_at_zero Go.wp_at_succ

theorem rdo_tx (l : List UInt8) (a b : Int) (w : World) : Calls Try.prog 16 #[.string ⟨l.toArray⟩, .int .i64 a, .int .i64 b] w fun e w' => e = .returned (.tuple #[.int .i64 (I.doF l a b).1, .int .i64 (I.doF l a b).2]) ∧ w = w' := by
 have := I.rdo_any ⟨l.toArray⟩ a b w
 rw [bytes_list] at this
 exact this
/-- What a walk that gives a node says. -/
def GivesN (w : World) (b : Nat → Prop) (y : Nd) (e : Ending) (w' : World) : Prop := ∃ f', e = .returned (ndV y f') ∧ NodeIn w' (fun a => b a ∨ w.heap.size ≤ a) y f' ∧ Below w.heap.size w w'
theorem op_hat {x p q : Nd} (ht : (x.tx == [94]) = true) : opN x p q = if (p.kd == 2 && q.kd == 2 && decide (p.tx.length + q.tx.length ≤ 60)) = true then .mk 2 (p.tx ++ q.tx) 0 x.at_ [] [] else x := by
 unfold opN; rw [if_pos ht]
theorem op_not {x p q : Nd} (ht : (x.tx == [94]) = false) (h2 : (p.kd == 1 && q.kd == 1) = false) : opN x p q = x := op_stay (by rw [ht]; simp) h2
theorem op_bad {x p q : Nd} (ht : (x.tx == [94]) = false) (h2 : (p.kd == 1 && q.kd == 1) = true) (h3 : ((I.doF x.tx p.nm q.nm).2 != 0 || decide ((I.doF x.tx p.nm q.nm).1 < 0)) = true) : opN x p q = x := op_err (by rw [ht]; simp) h2 h3
set_option maxRecDepth 100000 in
set_option maxHeartbeats 8000000 in
theorem refop_any (x p q : Nd) (hks : x.ks = [p, q]) (hpt : p.tx.length ≤ 60) (hqt : q.tx.length ≤ 60) (w : World) (b : Nat → Prop) (f : Fr) (hb : ∀ a, b a → a < w.heap.size) (hn : NodeIn w b x f) : Calls Try.prog 24 #[ndV x f] w (GivesN w b (opN x p q)) := by
 have HKS := Lib.hid hks
 have HPT := Lib.hid hpt
 have HQT := Lib.hid hqt
 have hw := True.intro
 obtain ⟨y, hy⟩ : ∃ y, opN x p q = y := ⟨_, rfl⟩
 have HY := Lib.hid hy
 rw [hy]
 clear hks hpt hqt hy
 have HR : Hid (Rg w ((w.alloc (.cells #[.int .i64 x.kd, .string ⟨x.tx.toArray⟩, .int .i64 x.nm, .int .i64 (x.at_ : Int), .slice f.na x.ns.length f.nc, .slice f.ka x.ks.length f.kc] 25)).alloc (.cells #[.int .i64 0, .string ⟨#[]⟩, .int .i64 0, .int .i64 0, .slice none 0 0, .slice none 0 0] 25)) b w.heap.size (w.heap.size + 1) x f) := Rg.start hn hb
 have HW := Lib.hid hw
 unfold ndV
 go_enter Try.func24, Try.ntmps24
 go_upto_region 1 with (fail)
 generalize ((w.alloc (.cells #[.int .i64 x.kd, .string ⟨x.tx.toArray⟩, .int .i64 x.nm, .int .i64 (x.at_ : Int), .slice f.na x.ns.length f.nc, .slice f.ka x.ks.length f.kc] 25)).alloc (.cells #[.int .i64 0, .string ⟨#[]⟩, .int .i64 0, .int .i64 0, .slice none 0 0, .slice none 0 0] 25)) = w1 at *
 obtain ⟨G, hG⟩ : ∃ G, w.heap.size = G := ⟨_, rfl⟩
 have HG := Lib.hid hG
 rw [hG] at HR
 simp only [hG]
 clear hG hn hb hw
 obtain ⟨g, fp, fq, e, ⟨hgl, hgb⟩, hc0, hc1, np, nq⟩ := kids2 HR.out.a.n HKS.out
 have HC0 := Lib.hid hc0
 have HC1 := Lib.hid hc1
 have HNP := Lib.hid np
 have HNQ := Lib.hid nq
 have c5 := HR.out.a.c5
 rw [e, HKS.out] at c5
 have X5 : Hid (w1.cell? ⟨G, 5, none⟩ = some (.slice (some ⟨g, 0, none⟩) 2 f.kc)) := c5
 have X1 := Lib.hid HR.out.a.c1
 have HGZ : Hid (g ≠ G + 1) := by show _ ≠ _; have := HR.out.hb g hgb; have := HG.out; omega
 clear e hc0 hc1 np nq c5 hgb
 obtain ⟨p0, p1, p2, p3, p4, p5⟩ := HC0.out
 obtain ⟨q0, q1, q2, q3, q4, q5⟩ := HC1.out
 have x5 := X5.out
 go_upto_region 2 with (fail)
 clear p0 p1 p2 p3 p4 p5 q0 q1 q2 q3 q4 q5 x5
 have B2 : Hid (Below w1.heap.size w1 (w1.alloc (.cells #[.int .i64 p.kd, .string ⟨p.tx.toArray⟩, .int .i64 p.nm, .int .i64 (p.at_ : Int), .slice fp.na p.ns.length fp.nc, .slice fp.ka p.ks.length fp.kc] 25))) := (Below.refl _ _).alloc (Nat.le_refl _) _
 have HPA1 : Hid (Whole (w1.alloc (.cells #[.int .i64 p.kd, .string ⟨p.tx.toArray⟩, .int .i64 p.nm, .int .i64 (p.at_ : Int), .slice fp.na p.ns.length fp.nc, .slice fp.ka p.ks.length fp.kc] 25)) w1.heap.size 25 #[.int .i64 p.kd, .string ⟨p.tx.toArray⟩, .int .i64 p.nm, .int .i64 (p.at_ : Int), .slice fp.na p.ns.length fp.nc, .slice fp.ka p.ks.length fp.kc]) := Whole.made w1 25 _
 generalize w1.alloc (.cells #[.int .i64 p.kd, .string ⟨p.tx.toArray⟩, .int .i64 p.nm, .int .i64 (p.at_ : Int), .slice fp.na p.ns.length fp.nc, .slice fp.ka p.ks.length fp.kc] 25) = w1b at *
 have HR1 := Lib.hid (HR.out.later B2.out)
 have x5 : w1b.cell? ⟨G, 5, none⟩ = some (.slice (some ⟨g, 0, none⟩) 2 f.kc) := (World.cell?_of_block (B2.out.block G HR.out.a.X.lt)).trans X5.out
 have hc1 := HC1.out.block (B2.out.block g hgl)
 generalize w1.heap.size = A at *
 obtain ⟨q0, q1, q2, q3, q4, q5⟩ := hc1
 go_upto_region 3 with (fail)
 clear q0 q1 q2 q3 q4 q5 x5
 have B3 : Hid (Below w1b.heap.size w1b (w1b.alloc (.cells #[.int .i64 q.kd, .string ⟨q.tx.toArray⟩, .int .i64 q.nm, .int .i64 (q.at_ : Int), .slice fq.na q.ns.length fq.nc, .slice fq.ka q.ks.length fq.kc] 25))) := (Below.refl _ _).alloc (Nat.le_refl _) _
 have HQB : Hid (Whole (w1b.alloc (.cells #[.int .i64 q.kd, .string ⟨q.tx.toArray⟩, .int .i64 q.nm, .int .i64 (q.at_ : Int), .slice fq.na q.ns.length fq.nc, .slice fq.ka q.ks.length fq.kc] 25)) w1b.heap.size 25 #[.int .i64 q.kd, .string ⟨q.tx.toArray⟩, .int .i64 q.nm, .int .i64 (q.at_ : Int), .slice fq.na q.ns.length fq.nc, .slice fq.ka q.ks.length fq.kc]) := Whole.made w1b 25 _
 have HPA : Hid (Whole (w1b.alloc (.cells #[.int .i64 q.kd, .string ⟨q.tx.toArray⟩, .int .i64 q.nm, .int .i64 (q.at_ : Int), .slice fq.na q.ns.length fq.nc, .slice fq.ka q.ks.length fq.kc] 25)) A 25 #[.int .i64 p.kd, .string ⟨p.tx.toArray⟩, .int .i64 p.nm, .int .i64 (p.at_ : Int), .slice fp.na p.ns.length fp.nc, .slice fp.ka p.ks.length fp.kc]) := HPA1.out.alloc _
 generalize w1b.alloc (.cells #[.int .i64 q.kd, .string ⟨q.tx.toArray⟩, .int .i64 q.nm, .int .i64 (q.at_ : Int), .slice fq.na q.ns.length fq.nc, .slice fq.ka q.ks.length fq.kc] 25) = w2 at *
 have HR2 : Hid (Rg w w2 b G (G + 1) x f) := (HR1.out).later B3.out
 generalize w1b.heap.size = B at *
 clear HPA1 B2 B3 HR1
 clear HC0 HC1 HNP HNQ X1 HGZ
 have c1 := HR2.out.a.c1
 have d0 : w2.cell? ⟨A, 0, none⟩ = some (.int .i64 p.kd) := HPA.out.cell 0
 have e0 : w2.cell? ⟨B, 0, none⟩ = some (.int .i64 q.kd) := HQB.out.cell 0
 obtain ⟨ta, hta⟩ : ∃ ta, (x.tx == [94]) = ta := ⟨_, rfl⟩
 have HTA := Lib.hid hta
 rcases ta with _ | _
 ·obtain ⟨td, hTD⟩ : ∃ td, (p.kd == 1 && q.kd == 1) = td := ⟨_, rfl⟩
  have HTD := Lib.hid hTD
  clear hTD
  go_upto_region 7 with (fail)
  clear hta
  go_cut [52] (fun u wx => u = .bool (!td) ∧ wx = w2)
  case first =>
   have HF := HTD.out
   obtain ⟨q1, e1⟩ : ∃ q1, (p.kd == 1) = q1 := ⟨_, rfl⟩
   obtain ⟨q2, e2⟩ : ∃ q2, (q.kd == 1) = q2 := ⟨_, rfl⟩
   have n1 : (p.kd != 1) = !q1 := by rw [← e1]; rfl
   have n2 : (q.kd != 1) = !q2 := by rw [← e2]; rfl
   rw [e1, e2] at HF
   have HF2 : Hid ((!q1 || !q2) = !td) := by show _ = _; rw [← HF]; cases q1 <;> cases q2 <;> rfl
   clear HF HTD e1 e2
   rcases q1 with _ | _
   ·go_wp2_with fail
    go_meet
    exact ⟨congrArg Value.bool HF2.out, rfl⟩
   ·go_wp2_with fail
    go_meet
    exact ⟨congrArg Value.bool HF2.out, rfl⟩
  case rest =>
   obtain ⟨rfl, rfl⟩ := hcut
   rcases td with _ | _
   ·have HEQ : Hid (y = x) := HY.out.symm.trans (op_not HTA.out HTD.out)
    clear HY HTA HTD d0 e0 c1 HPA HQB
    obtain ⟨n0, n1, n2, n3, n4, n5⟩ := nodeC (HR2.out.a.X)
    obtain ⟨z0, z1, z2, z3, z4, z5⟩ := zeroC (HR2.out.z)
    obtain ⟨y0, y1, y2, y3, y4, y5⟩ := freeC (HR2.out.z)
    go_wp2_with fail
    have HZF : Hid (Whole ((((((wc.setCell ⟨(G + 1), 0, none⟩ (.int .i64 x.kd)).setCell ⟨(G + 1), 1, none⟩ (.string ⟨x.tx.toArray⟩)).setCell ⟨(G + 1), 2, none⟩ (.int .i64 x.nm)).setCell ⟨(G + 1), 3, none⟩ (.int .i64 (x.at_ : Int))).setCell ⟨(G + 1), 4, none⟩ (.slice f.na x.ns.length f.nc)).setCell ⟨(G + 1), 5, none⟩ (.slice f.ka x.ks.length f.kc)) (G + 1) 25 #[.int .i64 x.kd, .string ⟨x.tx.toArray⟩, .int .i64 x.nm, .int .i64 (x.at_ : Int), .slice f.na x.ns.length f.nc, .slice f.ka x.ks.length f.kc]) := put6 HR2.out.z _ _ _ _ _ _
    have HBF : Hid (But (G + 1) wc.heap.size wc ((((((wc.setCell ⟨(G + 1), 0, none⟩ (.int .i64 x.kd)).setCell ⟨(G + 1), 1, none⟩ (.string ⟨x.tx.toArray⟩)).setCell ⟨(G + 1), 2, none⟩ (.int .i64 x.nm)).setCell ⟨(G + 1), 3, none⟩ (.int .i64 (x.at_ : Int))).setCell ⟨(G + 1), 4, none⟩ (.slice f.na x.ns.length f.nc)).setCell ⟨(G + 1), 5, none⟩ (.slice f.ka x.ks.length f.kc))) := but6 _ _ _ _ _ _ _ _
    generalize ((((((wc.setCell ⟨(G + 1), 0, none⟩ (.int .i64 x.kd)).setCell ⟨(G + 1), 1, none⟩ (.string ⟨x.tx.toArray⟩)).setCell ⟨(G + 1), 2, none⟩ (.int .i64 x.nm)).setCell ⟨(G + 1), 3, none⟩ (.int .i64 (x.at_ : Int))).setCell ⟨(G + 1), 4, none⟩ (.slice f.na x.ns.length f.nc)).setCell ⟨(G + 1), 5, none⟩ (.slice f.ka x.ks.length f.kc)) = wf at *
    obtain ⟨g0, g1, g2, g3, g4, g5⟩ := cells6 HZF.out
    exact bodyPost_ret (v := ndV x f) (by simp [results, Try.results24, go_sem, ndV, Nd.kd, Nd.tx, Nd.nm, Nd.at_, Nd.ns, Nd.ks, fr0, nd0, g0, g1, g2, g3, g4, g5]) rfl ⟨f, by rw [HEQ.out], by rw [HEQ.out]; exact HR2.out.node HG.out HR2.out.a.n HBF.out, HR2.out.bel HG.out HBF.out⟩
   ·obtain ⟨v, er, hdo⟩ : ∃ v er, I.doF x.tx p.nm q.nm = (v, er) := ⟨_, _, rfl⟩
    have CD := Lib.hid (rdo_tx x.tx p.nm q.nm wc)
    have HDO := Lib.hid hdo
    rw [hdo] at CD
    clear hdo
    have d2 : wc.cell? ⟨A, 2, none⟩ = some (.int .i64 p.nm) := HPA.out.cell 2
    have e2 : wc.cell? ⟨B, 2, none⟩ = some (.int .i64 q.nm) := HQB.out.cell 2
    go_wp2_with fail
    refine CD.out.mono ?_
    rintro e w3 ⟨rfl, rfl⟩
    clear CD d2 e2
    by_cases he : er = 0
    ·subst he
     by_cases hv : v < 0
     ·have HEQ : Hid (y = x) := HY.out.symm.trans (op_bad HTA.out HTD.out (by rw [HDO.out]; simp [hv]))
      clear HY HTA HTD HDO c1 HPA HQB
      obtain ⟨n0, n1, n2, n3, n4, n5⟩ := nodeC (HR2.out.a.X)
      obtain ⟨z0, z1, z2, z3, z4, z5⟩ := zeroC (HR2.out.z)
      obtain ⟨y0, y1, y2, y3, y4, y5⟩ := freeC (HR2.out.z)
      go_wp2_with fail
      have HZF : Hid (Whole ((((((wc.setCell ⟨(G + 1), 0, none⟩ (.int .i64 x.kd)).setCell ⟨(G + 1), 1, none⟩ (.string ⟨x.tx.toArray⟩)).setCell ⟨(G + 1), 2, none⟩ (.int .i64 x.nm)).setCell ⟨(G + 1), 3, none⟩ (.int .i64 (x.at_ : Int))).setCell ⟨(G + 1), 4, none⟩ (.slice f.na x.ns.length f.nc)).setCell ⟨(G + 1), 5, none⟩ (.slice f.ka x.ks.length f.kc)) (G + 1) 25 #[.int .i64 x.kd, .string ⟨x.tx.toArray⟩, .int .i64 x.nm, .int .i64 (x.at_ : Int), .slice f.na x.ns.length f.nc, .slice f.ka x.ks.length f.kc]) := put6 HR2.out.z _ _ _ _ _ _
      have HBF : Hid (But (G + 1) wc.heap.size wc ((((((wc.setCell ⟨(G + 1), 0, none⟩ (.int .i64 x.kd)).setCell ⟨(G + 1), 1, none⟩ (.string ⟨x.tx.toArray⟩)).setCell ⟨(G + 1), 2, none⟩ (.int .i64 x.nm)).setCell ⟨(G + 1), 3, none⟩ (.int .i64 (x.at_ : Int))).setCell ⟨(G + 1), 4, none⟩ (.slice f.na x.ns.length f.nc)).setCell ⟨(G + 1), 5, none⟩ (.slice f.ka x.ks.length f.kc))) := but6 _ _ _ _ _ _ _ _
      generalize ((((((wc.setCell ⟨(G + 1), 0, none⟩ (.int .i64 x.kd)).setCell ⟨(G + 1), 1, none⟩ (.string ⟨x.tx.toArray⟩)).setCell ⟨(G + 1), 2, none⟩ (.int .i64 x.nm)).setCell ⟨(G + 1), 3, none⟩ (.int .i64 (x.at_ : Int))).setCell ⟨(G + 1), 4, none⟩ (.slice f.na x.ns.length f.nc)).setCell ⟨(G + 1), 5, none⟩ (.slice f.ka x.ks.length f.kc)) = wf at *
      obtain ⟨g0, g1, g2, g3, g4, g5⟩ := cells6 HZF.out
      exact bodyPost_ret (v := ndV x f) (by simp [results, Try.results24, go_sem, ndV, Nd.kd, Nd.tx, Nd.nm, Nd.at_, Nd.ns, Nd.ks, fr0, nd0, g0, g1, g2, g3, g4, g5]) rfl ⟨f, by rw [HEQ.out], by rw [HEQ.out]; exact HR2.out.node HG.out HR2.out.a.n HBF.out, HR2.out.bel HG.out HBF.out⟩
     ·have hv0 : 0 ≤ v := by omega
      have HYD : Hid (y = if x.tx == [61] || x.tx == [60] then (if v == 1 then .mk 5 [84, 114, 117, 101] 0 x.at_ [] [] else .mk 5 [70, 97, 108, 115, 101] 0 x.at_ [] []) else .mk 1 [] v x.at_ [] []) := HY.out.symm.trans (op_done HTD.out HDO.out hv0)
      clear HY HTA HTD HDO HPA HQB
      go_upto_region 12 with (fail)
      clear hv hv0
      obtain ⟨ts, hTS⟩ : ∃ ts, (x.tx == [61] || x.tx == [60]) = ts := ⟨_, rfl⟩
      rw [hTS] at HYD
      have HTS := Lib.hid hTS
      clear hTS
      go_cut [78] (fun u wx => u = .bool (!ts) ∧ wx = wc)
      case first =>
       have HF := HTS.out
       obtain ⟨q1, e1⟩ : ∃ q1, (x.tx == [61]) = q1 := ⟨_, rfl⟩
       obtain ⟨q2, e2⟩ : ∃ q2, (x.tx == [60]) = q2 := ⟨_, rfl⟩
       have n1 : (x.tx != [61]) = !q1 := by rw [← e1]; rfl
       have n2 : (x.tx != [60]) = !q2 := by rw [← e2]; rfl
       rw [e1, e2] at HF
       have HF2 : Hid ((!q1 && !q2) = !ts) := by show _ = _; rw [← HF]; cases q1 <;> cases q2 <;> rfl
       clear HF HTS
       rcases q1 with _ | _
       ·go_wp2_with fail
        go_meet
        exact ⟨congrArg Value.bool HF2.out, rfl⟩
       ·go_wp2_with fail
        go_meet
        exact ⟨congrArg Value.bool HF2.out, rfl⟩
      case rest =>
       obtain ⟨rfl, rfl⟩ := hcut
       rcases ts with _ | _
       ·have HEQ : Hid (y = .mk 1 [] v x.at_ [] []) := HYD.out
        clear HYD HTS
        have c3 := HR2.out.a.c3
        obtain ⟨z0, z1, z2, z3, z4, z5⟩ := zeroC (HR2.out.z)
        obtain ⟨y0, y1, y2, y3, y4, y5⟩ := freeC (HR2.out.z)
        go_wp2_with fail
        have HZF : Hid (Whole ((((((wc.setCell ⟨(G + 1), 0, none⟩ (.int .i64 1)).setCell ⟨(G + 1), 1, none⟩ (.string ⟨#[]⟩)).setCell ⟨(G + 1), 2, none⟩ (.int .i64 v)).setCell ⟨(G + 1), 3, none⟩ (.int .i64 (x.at_ : Int))).setCell ⟨(G + 1), 4, none⟩ (.slice none 0 0)).setCell ⟨(G + 1), 5, none⟩ (.slice none 0 0)) (G + 1) 25 #[.int .i64 1, .string ⟨#[]⟩, .int .i64 v, .int .i64 (x.at_ : Int), .slice none 0 0, .slice none 0 0]) := put6 HR2.out.z _ _ _ _ _ _
        have HBF : Hid (But (G + 1) wc.heap.size wc ((((((wc.setCell ⟨(G + 1), 0, none⟩ (.int .i64 1)).setCell ⟨(G + 1), 1, none⟩ (.string ⟨#[]⟩)).setCell ⟨(G + 1), 2, none⟩ (.int .i64 v)).setCell ⟨(G + 1), 3, none⟩ (.int .i64 (x.at_ : Int))).setCell ⟨(G + 1), 4, none⟩ (.slice none 0 0)).setCell ⟨(G + 1), 5, none⟩ (.slice none 0 0))) := but6 _ _ _ _ _ _ _ _
        generalize ((((((wc.setCell ⟨(G + 1), 0, none⟩ (.int .i64 1)).setCell ⟨(G + 1), 1, none⟩ (.string ⟨#[]⟩)).setCell ⟨(G + 1), 2, none⟩ (.int .i64 v)).setCell ⟨(G + 1), 3, none⟩ (.int .i64 (x.at_ : Int))).setCell ⟨(G + 1), 4, none⟩ (.slice none 0 0)).setCell ⟨(G + 1), 5, none⟩ (.slice none 0 0)) = wf at *
        obtain ⟨g0, g1, g2, g3, g4, g5⟩ := cells6 HZF.out
        exact bodyPost_ret (v := ndV (Nd.mk 1 [] v x.at_ [] []) fr0) (by simp [results, Try.results24, go_sem, ndV, Nd.kd, Nd.tx, Nd.nm, Nd.at_, Nd.ns, Nd.ks, fr0, nd0, g0, g1, g2, g3, g4, g5]) rfl ⟨fr0, by rw [HEQ.out], by rw [HEQ.out]; exact HR2.out.node HG.out (NodeIn.leaf wc b (x := (Nd.mk 1 [] v x.at_ [] [])) rfl rfl) HBF.out, HR2.out.bel HG.out HBF.out⟩
       ·by_cases h1 : v = 1
        ·subst h1
         have HEQ : Hid (y = .mk 5 [84, 114, 117, 101] 0 x.at_ [] []) := HYD.out
         clear HYD HTS
         have c3 := HR2.out.a.c3
         obtain ⟨z0, z1, z2, z3, z4, z5⟩ := zeroC (HR2.out.z)
         obtain ⟨y0, y1, y2, y3, y4, y5⟩ := freeC (HR2.out.z)
         go_wp2_with fail
         have HZF : Hid (Whole ((((((wc.setCell ⟨(G + 1), 0, none⟩ (.int .i64 5)).setCell ⟨(G + 1), 1, none⟩ (.string ⟨([84, 114, 117, 101] : List UInt8).toArray⟩)).setCell ⟨(G + 1), 2, none⟩ (.int .i64 0)).setCell ⟨(G + 1), 3, none⟩ (.int .i64 (x.at_ : Int))).setCell ⟨(G + 1), 4, none⟩ (.slice none 0 0)).setCell ⟨(G + 1), 5, none⟩ (.slice none 0 0)) (G + 1) 25 #[.int .i64 5, .string ⟨([84, 114, 117, 101] : List UInt8).toArray⟩, .int .i64 0, .int .i64 (x.at_ : Int), .slice none 0 0, .slice none 0 0]) := put6 HR2.out.z _ _ _ _ _ _
         have HBF : Hid (But (G + 1) wc.heap.size wc ((((((wc.setCell ⟨(G + 1), 0, none⟩ (.int .i64 5)).setCell ⟨(G + 1), 1, none⟩ (.string ⟨([84, 114, 117, 101] : List UInt8).toArray⟩)).setCell ⟨(G + 1), 2, none⟩ (.int .i64 0)).setCell ⟨(G + 1), 3, none⟩ (.int .i64 (x.at_ : Int))).setCell ⟨(G + 1), 4, none⟩ (.slice none 0 0)).setCell ⟨(G + 1), 5, none⟩ (.slice none 0 0))) := but6 _ _ _ _ _ _ _ _
         generalize ((((((wc.setCell ⟨(G + 1), 0, none⟩ (.int .i64 5)).setCell ⟨(G + 1), 1, none⟩ (.string ⟨([84, 114, 117, 101] : List UInt8).toArray⟩)).setCell ⟨(G + 1), 2, none⟩ (.int .i64 0)).setCell ⟨(G + 1), 3, none⟩ (.int .i64 (x.at_ : Int))).setCell ⟨(G + 1), 4, none⟩ (.slice none 0 0)).setCell ⟨(G + 1), 5, none⟩ (.slice none 0 0)) = wf at *
         obtain ⟨g0, g1, g2, g3, g4, g5⟩ := cells6 HZF.out
         exact bodyPost_ret (v := ndV (Nd.mk 5 [84, 114, 117, 101] 0 x.at_ [] []) fr0) (by simp [results, Try.results24, go_sem, ndV, Nd.kd, Nd.tx, Nd.nm, Nd.at_, Nd.ns, Nd.ks, fr0, nd0, g0, g1, g2, g3, g4, g5]) rfl ⟨fr0, by rw [HEQ.out], by rw [HEQ.out]; exact HR2.out.node HG.out (NodeIn.leaf wc b (x := (Nd.mk 5 [84, 114, 117, 101] 0 x.at_ [] [])) rfl rfl) HBF.out, HR2.out.bel HG.out HBF.out⟩
        ·have HEQ : Hid (y = .mk 5 [70, 97, 108, 115, 101] 0 x.at_ [] []) := HYD.out.trans (by simp [h1])
         have h2 : (v == 1) = false := beq_eq_false_iff_ne.2 h1
         clear HYD HTS h1
         have c3 := HR2.out.a.c3
         obtain ⟨z0, z1, z2, z3, z4, z5⟩ := zeroC (HR2.out.z)
         obtain ⟨y0, y1, y2, y3, y4, y5⟩ := freeC (HR2.out.z)
         go_wp2_with fail
         have HZF : Hid (Whole ((((((wc.setCell ⟨(G + 1), 0, none⟩ (.int .i64 5)).setCell ⟨(G + 1), 1, none⟩ (.string ⟨([70, 97, 108, 115, 101] : List UInt8).toArray⟩)).setCell ⟨(G + 1), 2, none⟩ (.int .i64 0)).setCell ⟨(G + 1), 3, none⟩ (.int .i64 (x.at_ : Int))).setCell ⟨(G + 1), 4, none⟩ (.slice none 0 0)).setCell ⟨(G + 1), 5, none⟩ (.slice none 0 0)) (G + 1) 25 #[.int .i64 5, .string ⟨([70, 97, 108, 115, 101] : List UInt8).toArray⟩, .int .i64 0, .int .i64 (x.at_ : Int), .slice none 0 0, .slice none 0 0]) := put6 HR2.out.z _ _ _ _ _ _
         have HBF : Hid (But (G + 1) wc.heap.size wc ((((((wc.setCell ⟨(G + 1), 0, none⟩ (.int .i64 5)).setCell ⟨(G + 1), 1, none⟩ (.string ⟨([70, 97, 108, 115, 101] : List UInt8).toArray⟩)).setCell ⟨(G + 1), 2, none⟩ (.int .i64 0)).setCell ⟨(G + 1), 3, none⟩ (.int .i64 (x.at_ : Int))).setCell ⟨(G + 1), 4, none⟩ (.slice none 0 0)).setCell ⟨(G + 1), 5, none⟩ (.slice none 0 0))) := but6 _ _ _ _ _ _ _ _
         generalize ((((((wc.setCell ⟨(G + 1), 0, none⟩ (.int .i64 5)).setCell ⟨(G + 1), 1, none⟩ (.string ⟨([70, 97, 108, 115, 101] : List UInt8).toArray⟩)).setCell ⟨(G + 1), 2, none⟩ (.int .i64 0)).setCell ⟨(G + 1), 3, none⟩ (.int .i64 (x.at_ : Int))).setCell ⟨(G + 1), 4, none⟩ (.slice none 0 0)).setCell ⟨(G + 1), 5, none⟩ (.slice none 0 0)) = wf at *
         obtain ⟨g0, g1, g2, g3, g4, g5⟩ := cells6 HZF.out
         exact bodyPost_ret (v := ndV (Nd.mk 5 [70, 97, 108, 115, 101] 0 x.at_ [] []) fr0) (by simp [results, Try.results24, go_sem, ndV, Nd.kd, Nd.tx, Nd.nm, Nd.at_, Nd.ns, Nd.ks, fr0, nd0, g0, g1, g2, g3, g4, g5]) rfl ⟨fr0, by rw [HEQ.out], by rw [HEQ.out]; exact HR2.out.node HG.out (NodeIn.leaf wc b (x := (Nd.mk 5 [70, 97, 108, 115, 101] 0 x.at_ [] [])) rfl rfl) HBF.out, HR2.out.bel HG.out HBF.out⟩
    ·have n1 : (er != 0) = true := bne_iff_ne.2 he
     have HEQ : Hid (y = x) := HY.out.symm.trans (op_bad HTA.out HTD.out (by rw [HDO.out]; simp [he]))
     clear HY HTA HTD HDO he c1 HPA HQB
     obtain ⟨n0, n1, n2, n3, n4, n5⟩ := nodeC (HR2.out.a.X)
     obtain ⟨z0, z1, z2, z3, z4, z5⟩ := zeroC (HR2.out.z)
     obtain ⟨y0, y1, y2, y3, y4, y5⟩ := freeC (HR2.out.z)
     go_wp2_with fail
     have HZF : Hid (Whole ((((((wc.setCell ⟨(G + 1), 0, none⟩ (.int .i64 x.kd)).setCell ⟨(G + 1), 1, none⟩ (.string ⟨x.tx.toArray⟩)).setCell ⟨(G + 1), 2, none⟩ (.int .i64 x.nm)).setCell ⟨(G + 1), 3, none⟩ (.int .i64 (x.at_ : Int))).setCell ⟨(G + 1), 4, none⟩ (.slice f.na x.ns.length f.nc)).setCell ⟨(G + 1), 5, none⟩ (.slice f.ka x.ks.length f.kc)) (G + 1) 25 #[.int .i64 x.kd, .string ⟨x.tx.toArray⟩, .int .i64 x.nm, .int .i64 (x.at_ : Int), .slice f.na x.ns.length f.nc, .slice f.ka x.ks.length f.kc]) := put6 HR2.out.z _ _ _ _ _ _
     have HBF : Hid (But (G + 1) wc.heap.size wc ((((((wc.setCell ⟨(G + 1), 0, none⟩ (.int .i64 x.kd)).setCell ⟨(G + 1), 1, none⟩ (.string ⟨x.tx.toArray⟩)).setCell ⟨(G + 1), 2, none⟩ (.int .i64 x.nm)).setCell ⟨(G + 1), 3, none⟩ (.int .i64 (x.at_ : Int))).setCell ⟨(G + 1), 4, none⟩ (.slice f.na x.ns.length f.nc)).setCell ⟨(G + 1), 5, none⟩ (.slice f.ka x.ks.length f.kc))) := but6 _ _ _ _ _ _ _ _
     generalize ((((((wc.setCell ⟨(G + 1), 0, none⟩ (.int .i64 x.kd)).setCell ⟨(G + 1), 1, none⟩ (.string ⟨x.tx.toArray⟩)).setCell ⟨(G + 1), 2, none⟩ (.int .i64 x.nm)).setCell ⟨(G + 1), 3, none⟩ (.int .i64 (x.at_ : Int))).setCell ⟨(G + 1), 4, none⟩ (.slice f.na x.ns.length f.nc)).setCell ⟨(G + 1), 5, none⟩ (.slice f.ka x.ks.length f.kc)) = wf at *
     obtain ⟨g0, g1, g2, g3, g4, g5⟩ := cells6 HZF.out
     exact bodyPost_ret (v := ndV x f) (by simp [results, Try.results24, go_sem, ndV, Nd.kd, Nd.tx, Nd.nm, Nd.at_, Nd.ns, Nd.ks, fr0, nd0, g0, g1, g2, g3, g4, g5]) rfl ⟨f, by rw [HEQ.out], by rw [HEQ.out]; exact HR2.out.node HG.out HR2.out.a.n HBF.out, HR2.out.bel HG.out HBF.out⟩
 ·have HYD : Hid (y = if (p.kd == 2 && q.kd == 2 && decide (p.tx.length + q.tx.length ≤ 60)) = true then .mk 2 (p.tx ++ q.tx) 0 x.at_ [] [] else x) := HY.out.symm.trans (op_hat HTA.out)
  clear HY HTA
  go_upto_region 4 with (fail)
  clear hta
  obtain ⟨tb, hTB⟩ : ∃ tb, (p.kd == 2 && q.kd == 2 && decide (p.tx.length + q.tx.length ≤ 60)) = tb := ⟨_, rfl⟩
  rw [hTB] at HYD
  have HTB := Lib.hid hTB
  clear hTB
  have d1 : w2.cell? ⟨A, 1, none⟩ = some (.string ⟨p.tx.toArray⟩) := HPA.out.cell 1
  have e1 : w2.cell? ⟨B, 1, none⟩ = some (.string ⟨q.tx.toArray⟩) := HQB.out.cell 1
  go_cut [35] (fun u wx => u = .bool tb ∧ wx = w2)
  case first =>
   have HF := HTB.out
   obtain ⟨q1, f1⟩ : ∃ q1, (p.kd == 2) = q1 := ⟨_, rfl⟩
   obtain ⟨q2, f2⟩ : ∃ q2, (q.kd == 2) = q2 := ⟨_, rfl⟩
   obtain ⟨P, hP⟩ : ∃ P, ByteArray.mk p.tx.toArray = P := ⟨_, rfl⟩
   obtain ⟨Q, hQ⟩ : ∃ Q, ByteArray.mk q.tx.toArray = Q := ⟨_, rfl⟩
   have hp1 : P.size = p.tx.length := by rw [← hP]; exact bytes_size _
   have hq1 : Q.size = q.tx.length := by rw [← hQ]; exact bytes_size _
   have h1 : (P.size : Int) ≤ 60 := by have := HPT.out; omega
   have h2 : (Q.size : Int) ≤ 60 := by have := HQT.out; omega
   rw [f1, f2, ← hp1, ← hq1] at HF
   rw [hP] at d1
   rw [hQ] at e1
   have HF2 := Lib.hid HF
   clear HF HTB hp1 hq1 hP hQ
   rcases q1 with _ | _
   ·go_wp2_with fail
    go_meet
    exact ⟨congrArg Value.bool HF2.out, rfl⟩
   rcases q2 with _ | _
   ·go_wp2_with fail
    go_meet
    exact ⟨congrArg Value.bool HF2.out, rfl⟩
   by_cases hl : (P.size : Int) + Q.size ≤ 60
   ·have hf3 : tb = true := by rw [← HF2.out]; simp; omega
    subst hf3
    go_wp2_with fail
    go_meet
    exact ⟨rfl, rfl⟩
   ·have hf3 : tb = false := by rw [← HF2.out]; simp; omega
    subst hf3
    go_wp2_with fail
    go_meet
    exact ⟨rfl, rfl⟩
  case rest =>
   obtain ⟨rfl, rfl⟩ := hcut
   clear d0 e0
   rcases tb with _ | _
   ·have HEQ : Hid (y = x) := HYD.out
    clear HYD HTB d1 e1 c1 HPA HQB
    obtain ⟨n0, n1, n2, n3, n4, n5⟩ := nodeC (HR2.out.a.X)
    obtain ⟨z0, z1, z2, z3, z4, z5⟩ := zeroC (HR2.out.z)
    obtain ⟨y0, y1, y2, y3, y4, y5⟩ := freeC (HR2.out.z)
    go_wp2_with fail
    have HZF : Hid (Whole ((((((wc.setCell ⟨(G + 1), 0, none⟩ (.int .i64 x.kd)).setCell ⟨(G + 1), 1, none⟩ (.string ⟨x.tx.toArray⟩)).setCell ⟨(G + 1), 2, none⟩ (.int .i64 x.nm)).setCell ⟨(G + 1), 3, none⟩ (.int .i64 (x.at_ : Int))).setCell ⟨(G + 1), 4, none⟩ (.slice f.na x.ns.length f.nc)).setCell ⟨(G + 1), 5, none⟩ (.slice f.ka x.ks.length f.kc)) (G + 1) 25 #[.int .i64 x.kd, .string ⟨x.tx.toArray⟩, .int .i64 x.nm, .int .i64 (x.at_ : Int), .slice f.na x.ns.length f.nc, .slice f.ka x.ks.length f.kc]) := put6 HR2.out.z _ _ _ _ _ _
    have HBF : Hid (But (G + 1) wc.heap.size wc ((((((wc.setCell ⟨(G + 1), 0, none⟩ (.int .i64 x.kd)).setCell ⟨(G + 1), 1, none⟩ (.string ⟨x.tx.toArray⟩)).setCell ⟨(G + 1), 2, none⟩ (.int .i64 x.nm)).setCell ⟨(G + 1), 3, none⟩ (.int .i64 (x.at_ : Int))).setCell ⟨(G + 1), 4, none⟩ (.slice f.na x.ns.length f.nc)).setCell ⟨(G + 1), 5, none⟩ (.slice f.ka x.ks.length f.kc))) := but6 _ _ _ _ _ _ _ _
    generalize ((((((wc.setCell ⟨(G + 1), 0, none⟩ (.int .i64 x.kd)).setCell ⟨(G + 1), 1, none⟩ (.string ⟨x.tx.toArray⟩)).setCell ⟨(G + 1), 2, none⟩ (.int .i64 x.nm)).setCell ⟨(G + 1), 3, none⟩ (.int .i64 (x.at_ : Int))).setCell ⟨(G + 1), 4, none⟩ (.slice f.na x.ns.length f.nc)).setCell ⟨(G + 1), 5, none⟩ (.slice f.ka x.ks.length f.kc)) = wf at *
    obtain ⟨g0, g1, g2, g3, g4, g5⟩ := cells6 HZF.out
    exact bodyPost_ret (v := ndV x f) (by simp [results, Try.results24, go_sem, ndV, Nd.kd, Nd.tx, Nd.nm, Nd.at_, Nd.ns, Nd.ks, fr0, nd0, g0, g1, g2, g3, g4, g5]) rfl ⟨f, by rw [HEQ.out], by rw [HEQ.out]; exact HR2.out.node HG.out HR2.out.a.n HBF.out, HR2.out.bel HG.out HBF.out⟩
   ·have HEQ : Hid (y = .mk 2 (p.tx ++ q.tx) 0 x.at_ [] []) := HYD.out
    obtain ⟨P, hP⟩ : ∃ P, ByteArray.mk p.tx.toArray = P := ⟨_, rfl⟩
    obtain ⟨Q, hQ⟩ : ∃ Q, ByteArray.mk q.tx.toArray = Q := ⟨_, rfl⟩
    have hPQ := bytes_app p.tx q.tx
    rw [hP, hQ] at hPQ
    rw [hP] at d1
    rw [hQ] at e1
    have hp1 : P.size = p.tx.length := by rw [← hP]; exact bytes_size _
    have hq1 : Q.size = q.tx.length := by rw [← hQ]; exact bytes_size _
    have h1 : (P.size : Int) ≤ 60 := by have := HPT.out; omega
    have h2 : (Q.size : Int) ≤ 60 := by have := HQT.out; omega
    have HPQ := Lib.hid hPQ
    clear HYD HTB hP hQ hPQ hp1 hq1
    generalize p.tx ++ q.tx = jt at *
    have c3 := HR2.out.a.c3
    obtain ⟨z0, z1, z2, z3, z4, z5⟩ := zeroC (HR2.out.z)
    obtain ⟨y0, y1, y2, y3, y4, y5⟩ := freeC (HR2.out.z)
    go_wp2_with fail
    rw [HPQ.out]
    have HZF : Hid (Whole ((((((wc.setCell ⟨(G + 1), 0, none⟩ (.int .i64 2)).setCell ⟨(G + 1), 1, none⟩ (.string ⟨jt.toArray⟩)).setCell ⟨(G + 1), 2, none⟩ (.int .i64 0)).setCell ⟨(G + 1), 3, none⟩ (.int .i64 (x.at_ : Int))).setCell ⟨(G + 1), 4, none⟩ (.slice none 0 0)).setCell ⟨(G + 1), 5, none⟩ (.slice none 0 0)) (G + 1) 25 #[.int .i64 2, .string ⟨jt.toArray⟩, .int .i64 0, .int .i64 (x.at_ : Int), .slice none 0 0, .slice none 0 0]) := put6 HR2.out.z _ _ _ _ _ _
    have HBF : Hid (But (G + 1) wc.heap.size wc ((((((wc.setCell ⟨(G + 1), 0, none⟩ (.int .i64 2)).setCell ⟨(G + 1), 1, none⟩ (.string ⟨jt.toArray⟩)).setCell ⟨(G + 1), 2, none⟩ (.int .i64 0)).setCell ⟨(G + 1), 3, none⟩ (.int .i64 (x.at_ : Int))).setCell ⟨(G + 1), 4, none⟩ (.slice none 0 0)).setCell ⟨(G + 1), 5, none⟩ (.slice none 0 0))) := but6 _ _ _ _ _ _ _ _
    generalize ((((((wc.setCell ⟨(G + 1), 0, none⟩ (.int .i64 2)).setCell ⟨(G + 1), 1, none⟩ (.string ⟨jt.toArray⟩)).setCell ⟨(G + 1), 2, none⟩ (.int .i64 0)).setCell ⟨(G + 1), 3, none⟩ (.int .i64 (x.at_ : Int))).setCell ⟨(G + 1), 4, none⟩ (.slice none 0 0)).setCell ⟨(G + 1), 5, none⟩ (.slice none 0 0)) = wf at *
    obtain ⟨g0, g1, g2, g3, g4, g5⟩ := cells6 HZF.out
    exact bodyPost_ret (v := ndV (Nd.mk 2 jt 0 x.at_ [] []) fr0) (by simp [results, Try.results24, go_sem, ndV, Nd.kd, Nd.tx, Nd.nm, Nd.at_, Nd.ns, Nd.ks, fr0, nd0, g0, g1, g2, g3, g4, g5]) rfl ⟨fr0, by rw [HEQ.out], by rw [HEQ.out]; exact HR2.out.node HG.out (NodeIn.leaf wc b (x := (Nd.mk 2 jt 0 x.at_ [] [])) rfl rfl) HBF.out, HR2.out.bel HG.out HBF.out⟩
end Go.Proofs.Ytgjchgmlogbmmaa
