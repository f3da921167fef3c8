/- A part of the proofs of chapter 11, squeezed, merged and shrunk by group.py: FWalkL FWalkM. -/
import Derived.Test.YtgjchgmlogbmmaaRF
/- The walks of layer 11: texts joined, truths, a branch. -/
namespace Go.Proofs.Ytgjchgmlogbmmaa
open Go.RowKit
set_option linter.unusedVariables false
set_option linter.unusedSimpArgs false
attribute [local go_sem ↓] Go.wp_at_zero Go.wp_at_succ

theorem red_if {x p q r : Nd} (h : x.kd = 10) (e : x.ks = [p, q, r]) : redF x = if p.kd == 5 && p.ks.isEmpty && p.tx == [84, 114, 117, 101] then q else if p.kd == 5 && p.ks.isEmpty && p.tx == [70, 97, 108, 115, 101] then r else x := by
 unfold redF; rw [e, h]; rfl
set_option maxRecDepth 100000 in
set_option maxHeartbeats 8000000 in
theorem branch_any (x : Nd) (hw : WfN x) (h10 : x.kd = 10) (w : World) (b : Nat → Prop) (f : Fr) (hb : ∀ a, b a → a < w.heap.size) (hn : NodeIn w b x f) : Calls Try.prog 43 #[ndV x f] w (FoldPost w b x) := by
 obtain ⟨p, q, r, hks⟩ := hw.three h10
 have HKS := Lib.hid hks
 have HRED := Lib.hid (red_if h10 hks)
 clear h10 hks
 have HR : Hid (Rg w ((w.alloc (.cells #[.int .i64 x.kd, .string ⟨x.tx.toArray⟩, .int .i64 x.nm, .int .i64 (x.at_ : Int), .slice f.na x.ns.length f.nc, .slice f.ka x.ks.length f.kc] 25)).alloc (.cells #[.int .i64 0, .string ⟨#[]⟩, .int .i64 0, .int .i64 0, .slice none 0 0, .slice none 0 0] 25)) b w.heap.size (w.heap.size + 1) x f) := Rg.start hn hb
 have HW := Lib.hid hw
 unfold ndV
 go_enter Try.func43, Try.ntmps43
 go_upto_region 1 with (fail)
 generalize ((w.alloc (.cells #[.int .i64 x.kd, .string ⟨x.tx.toArray⟩, .int .i64 x.nm, .int .i64 (x.at_ : Int), .slice f.na x.ns.length f.nc, .slice f.ka x.ks.length f.kc] 25)).alloc (.cells #[.int .i64 0, .string ⟨#[]⟩, .int .i64 0, .int .i64 0, .slice none 0 0, .slice none 0 0] 25)) = w1 at *
 obtain ⟨G, hG⟩ : ∃ G, w.heap.size = G := ⟨_, rfl⟩
 have HG := Lib.hid hG
 rw [hG] at HR
 simp only [hG]
 clear hG hn hb hw
 obtain ⟨g, fp, fq, fr, e, ⟨hgl, hgb⟩, hc0, hc1, hc2, np, nq, nr⟩ := kids3 HR.out.a.n HKS.out
 have HC0 := Lib.hid hc0
 have HC1 := Lib.hid hc1
 have HC2 := Lib.hid hc2
 have HNQ := Lib.hid nq
 have HNR := Lib.hid nr
 have c5 := HR.out.a.c5
 rw [e, HKS.out] at c5
 have X5 : Hid (w1.cell? ⟨G, 5, none⟩ = some (.slice (some ⟨g, 0, none⟩) 3 f.kc)) := c5
 clear e hc0 hc1 hc2 np nq nr hgb c5
 have c5 := X5.out
 obtain ⟨k0, k1, k2, k3, k4, k5⟩ := HC0.out
 go_upto_region 2 with (fail)
 clear k0 k1 k2 k3 k4 k5 c5
 have HBL : Hid (Below w1.heap.size w1 (w1.alloc (.cells #[.int .i64 p.kd, .string ⟨p.tx.toArray⟩, .int .i64 p.nm, .int .i64 (p.at_ : Int), .slice fp.na p.ns.length fp.nc, .slice fp.ka p.ks.length fp.kc] 25))) := (Below.refl _ _).alloc (Nat.le_refl _) _
 have HKB : Hid (Whole (w1.alloc (.cells #[.int .i64 p.kd, .string ⟨p.tx.toArray⟩, .int .i64 p.nm, .int .i64 (p.at_ : Int), .slice fp.na p.ns.length fp.nc, .slice fp.ka p.ks.length fp.kc] 25)) w1.heap.size 25 (ndL p fp).toArray) := Whole.made _ _ _
 generalize w1.alloc (.cells #[.int .i64 p.kd, .string ⟨p.tx.toArray⟩, .int .i64 p.nm, .int .i64 (p.at_ : Int), .slice fp.na p.ns.length fp.nc, .slice fp.ka p.ks.length fp.kc] 25) = w2 at *
 have HR2 := Lib.hid (HR.out.later HBL.out)
 have X52 : Hid (w2.cell? ⟨G, 5, none⟩ = some (.slice (some ⟨g, 0, none⟩) 3 f.kc)) := (World.cell?_of_block (HBL.out.block G HR.out.a.X.lt)).trans X5.out
 have HC12 := Lib.hid (HC1.out.block (HBL.out.block g hgl))
 have HC22 := Lib.hid (HC2.out.block (HBL.out.block g hgl))
 have HNQ2 := Lib.hid (HNQ.out.later HBL.out (Nat.le_refl _))
 have HNR2 := Lib.hid (HNR.out.later HBL.out (Nat.le_refl _))
 clear HR HC0 HC1 HC2 HNQ HNR X5 HBL hgl
 generalize w1.heap.size = KB at *
 have d0 : w2.cell? ⟨KB, 0, none⟩ = some (.int .i64 p.kd) := HKB.out.cell 0
 have d1 : w2.cell? ⟨KB, 1, none⟩ = some (.string ⟨p.tx.toArray⟩) := HKB.out.cell 1
 have d5 : w2.cell? ⟨KB, 5, none⟩ = some (.slice fp.ka p.ks.length fp.kc) := HKB.out.cell 5
 by_cases h5 : p.kd = 5
 ·have q5 : (p.kd == 5) = true := beq_iff_eq.2 h5
  rw [q5] at HRED
  rw [h5] at d0
  clear h5 q5
  by_cases hl : 0 < p.ks.length
  ·have HRD : Hid (redF x = x) := by
    show _ = _
    have : p.ks.isEmpty = false := by cases hp : p.ks with
     | nil => rw [hp] at hl; simp at hl
     | cons a l => rfl
    rw [HRED.out, this]; rfl
   clear HRED
   obtain ⟨n0, n1, n2, n3, n4, n5⟩ := nodeC (HR2.out.a.X)
   obtain ⟨z0, z1, z2, z3, z4, z5⟩ := zeroC (HR2.out.z)
   obtain ⟨y0, y1, y2, y3, y4, y5⟩ := freeC (HR2.out.z)
   go_wp2_with fail
   have HZF : Hid (Whole ((((((w2.setCell ⟨(G + 1), 0, none⟩ (.int .i64 x.kd)).setCell ⟨(G + 1), 1, none⟩ (.string ⟨x.tx.toArray⟩)).setCell ⟨(G + 1), 2, none⟩ (.int .i64 x.nm)).setCell ⟨(G + 1), 3, none⟩ (.int .i64 (x.at_ : Int))).setCell ⟨(G + 1), 4, none⟩ (.slice f.na x.ns.length f.nc)).setCell ⟨(G + 1), 5, none⟩ (.slice f.ka x.ks.length f.kc)) (G + 1) 25 #[.int .i64 x.kd, .string ⟨x.tx.toArray⟩, .int .i64 x.nm, .int .i64 (x.at_ : Int), .slice f.na x.ns.length f.nc, .slice f.ka x.ks.length f.kc]) := put6 HR2.out.z _ _ _ _ _ _
   have HBF : Hid (But (G + 1) w2.heap.size w2 ((((((w2.setCell ⟨(G + 1), 0, none⟩ (.int .i64 x.kd)).setCell ⟨(G + 1), 1, none⟩ (.string ⟨x.tx.toArray⟩)).setCell ⟨(G + 1), 2, none⟩ (.int .i64 x.nm)).setCell ⟨(G + 1), 3, none⟩ (.int .i64 (x.at_ : Int))).setCell ⟨(G + 1), 4, none⟩ (.slice f.na x.ns.length f.nc)).setCell ⟨(G + 1), 5, none⟩ (.slice f.ka x.ks.length f.kc))) := but6 _ _ _ _ _ _ _ _
   generalize ((((((w2.setCell ⟨(G + 1), 0, none⟩ (.int .i64 x.kd)).setCell ⟨(G + 1), 1, none⟩ (.string ⟨x.tx.toArray⟩)).setCell ⟨(G + 1), 2, none⟩ (.int .i64 x.nm)).setCell ⟨(G + 1), 3, none⟩ (.int .i64 (x.at_ : Int))).setCell ⟨(G + 1), 4, none⟩ (.slice f.na x.ns.length f.nc)).setCell ⟨(G + 1), 5, none⟩ (.slice f.ka x.ks.length f.kc)) = wf at *
   obtain ⟨g0, g1, g2, g3, g4, g5⟩ := cells6 HZF.out
   exact bodyPost_ret (v := .tuple #[ndV x f, .bool false]) (by simp [results, Try.results43, go_sem, ndV, Nd.kd, Nd.tx, Nd.nm, Nd.at_, Nd.ns, Nd.ks, fr0, nd0, g0, g1, g2, g3, g4, g5]) rfl ⟨x, false, f, rfl, HR2.out.node HG.out HR2.out.a.n HBF.out, HR2.out.bel HG.out HBF.out, by simp [HRD.out]⟩
  ·have hz : p.ks = [] := List.length_eq_zero_iff.1 (by omega)
   rw [hz] at HRED
   have hl2 : p.ks.length = 0 := by rw [hz]; rfl
   rw [hl2] at d5
   clear hz hl hl2
   by_cases ht : p.tx = [84, 114, 117, 101]
   ·have HRD : Hid (redF x = q) := by show _ = _; rw [HRED.out, ht]; rfl
    rw [ht] at d1
    clear ht HRED
    have c5 := X52.out
    obtain ⟨k0, k1, k2, k3, k4, k5⟩ := HC12.out
    obtain ⟨z0, z1, z2, z3, z4, z5⟩ := zeroC (HR2.out.z)
    obtain ⟨y0, y1, y2, y3, y4, y5⟩ := freeC (HR2.out.z)
    go_wp2_with fail
    have HZF : Hid (Whole ((((((w2.setCell ⟨(G + 1), 0, none⟩ (.int .i64 q.kd)).setCell ⟨(G + 1), 1, none⟩ (.string ⟨q.tx.toArray⟩)).setCell ⟨(G + 1), 2, none⟩ (.int .i64 q.nm)).setCell ⟨(G + 1), 3, none⟩ (.int .i64 (q.at_ : Int))).setCell ⟨(G + 1), 4, none⟩ (.slice fq.na q.ns.length fq.nc)).setCell ⟨(G + 1), 5, none⟩ (.slice fq.ka q.ks.length fq.kc)) (G + 1) 25 #[.int .i64 q.kd, .string ⟨q.tx.toArray⟩, .int .i64 q.nm, .int .i64 (q.at_ : Int), .slice fq.na q.ns.length fq.nc, .slice fq.ka q.ks.length fq.kc]) := put6 HR2.out.z _ _ _ _ _ _
    have HBF : Hid (But (G + 1) w2.heap.size w2 ((((((w2.setCell ⟨(G + 1), 0, none⟩ (.int .i64 q.kd)).setCell ⟨(G + 1), 1, none⟩ (.string ⟨q.tx.toArray⟩)).setCell ⟨(G + 1), 2, none⟩ (.int .i64 q.nm)).setCell ⟨(G + 1), 3, none⟩ (.int .i64 (q.at_ : Int))).setCell ⟨(G + 1), 4, none⟩ (.slice fq.na q.ns.length fq.nc)).setCell ⟨(G + 1), 5, none⟩ (.slice fq.ka q.ks.length fq.kc))) := but6 _ _ _ _ _ _ _ _
    generalize ((((((w2.setCell ⟨(G + 1), 0, none⟩ (.int .i64 q.kd)).setCell ⟨(G + 1), 1, none⟩ (.string ⟨q.tx.toArray⟩)).setCell ⟨(G + 1), 2, none⟩ (.int .i64 q.nm)).setCell ⟨(G + 1), 3, none⟩ (.int .i64 (q.at_ : Int))).setCell ⟨(G + 1), 4, none⟩ (.slice fq.na q.ns.length fq.nc)).setCell ⟨(G + 1), 5, none⟩ (.slice fq.ka q.ks.length fq.kc)) = wf at *
    obtain ⟨g0, g1, g2, g3, g4, g5⟩ := cells6 HZF.out
    exact bodyPost_ret (v := .tuple #[ndV q fq, .bool true]) (by simp [results, Try.results43, go_sem, ndV, Nd.kd, Nd.tx, Nd.nm, Nd.at_, Nd.ns, Nd.ks, fr0, nd0, g0, g1, g2, g3, g4, g5]) rfl ⟨q, true, fq, rfl, HR2.out.node HG.out HNQ2.out HBF.out, HR2.out.bel HG.out HBF.out, by simp [HRD.out]⟩
   ·by_cases hf : p.tx = [70, 97, 108, 115, 101]
    ·have HRD : Hid (redF x = r) := by show _ = _; rw [HRED.out, hf]; rfl
     rw [hf] at d1
     clear ht hf HRED
     have c5 := X52.out
     obtain ⟨k0, k1, k2, k3, k4, k5⟩ := HC22.out
     obtain ⟨z0, z1, z2, z3, z4, z5⟩ := zeroC (HR2.out.z)
     obtain ⟨y0, y1, y2, y3, y4, y5⟩ := freeC (HR2.out.z)
     go_wp2_with fail
     have HZF : Hid (Whole ((((((w2.setCell ⟨(G + 1), 0, none⟩ (.int .i64 r.kd)).setCell ⟨(G + 1), 1, none⟩ (.string ⟨r.tx.toArray⟩)).setCell ⟨(G + 1), 2, none⟩ (.int .i64 r.nm)).setCell ⟨(G + 1), 3, none⟩ (.int .i64 (r.at_ : Int))).setCell ⟨(G + 1), 4, none⟩ (.slice fr.na r.ns.length fr.nc)).setCell ⟨(G + 1), 5, none⟩ (.slice fr.ka r.ks.length fr.kc)) (G + 1) 25 #[.int .i64 r.kd, .string ⟨r.tx.toArray⟩, .int .i64 r.nm, .int .i64 (r.at_ : Int), .slice fr.na r.ns.length fr.nc, .slice fr.ka r.ks.length fr.kc]) := put6 HR2.out.z _ _ _ _ _ _
     have HBF : Hid (But (G + 1) w2.heap.size w2 ((((((w2.setCell ⟨(G + 1), 0, none⟩ (.int .i64 r.kd)).setCell ⟨(G + 1), 1, none⟩ (.string ⟨r.tx.toArray⟩)).setCell ⟨(G + 1), 2, none⟩ (.int .i64 r.nm)).setCell ⟨(G + 1), 3, none⟩ (.int .i64 (r.at_ : Int))).setCell ⟨(G + 1), 4, none⟩ (.slice fr.na r.ns.length fr.nc)).setCell ⟨(G + 1), 5, none⟩ (.slice fr.ka r.ks.length fr.kc))) := but6 _ _ _ _ _ _ _ _
     generalize ((((((w2.setCell ⟨(G + 1), 0, none⟩ (.int .i64 r.kd)).setCell ⟨(G + 1), 1, none⟩ (.string ⟨r.tx.toArray⟩)).setCell ⟨(G + 1), 2, none⟩ (.int .i64 r.nm)).setCell ⟨(G + 1), 3, none⟩ (.int .i64 (r.at_ : Int))).setCell ⟨(G + 1), 4, none⟩ (.slice fr.na r.ns.length fr.nc)).setCell ⟨(G + 1), 5, none⟩ (.slice fr.ka r.ks.length fr.kc)) = wf at *
     obtain ⟨g0, g1, g2, g3, g4, g5⟩ := cells6 HZF.out
     exact bodyPost_ret (v := .tuple #[ndV r fr, .bool true]) (by simp [results, Try.results43, go_sem, ndV, Nd.kd, Nd.tx, Nd.nm, Nd.at_, Nd.ns, Nd.ks, fr0, nd0, g0, g1, g2, g3, g4, g5]) rfl ⟨r, true, fr, rfl, HR2.out.node HG.out HNR2.out HBF.out, HR2.out.bel HG.out HBF.out, by simp [HRD.out]⟩
    ·have e1 : (p.tx == [84, 114, 117, 101]) = false := beq_eq_false_iff_ne.2 ht
     have e2 : (p.tx == [70, 97, 108, 115, 101]) = false := beq_eq_false_iff_ne.2 hf
     have HRD : Hid (redF x = x) := by show _ = _; rw [HRED.out, e1, e2]; rfl
     clear ht hf HRED
     obtain ⟨n0, n1, n2, n3, n4, n5⟩ := nodeC (HR2.out.a.X)
     obtain ⟨z0, z1, z2, z3, z4, z5⟩ := zeroC (HR2.out.z)
     obtain ⟨y0, y1, y2, y3, y4, y5⟩ := freeC (HR2.out.z)
     go_wp2_with fail
     have HZF : Hid (Whole ((((((w2.setCell ⟨(G + 1), 0, none⟩ (.int .i64 x.kd)).setCell ⟨(G + 1), 1, none⟩ (.string ⟨x.tx.toArray⟩)).setCell ⟨(G + 1), 2, none⟩ (.int .i64 x.nm)).setCell ⟨(G + 1), 3, none⟩ (.int .i64 (x.at_ : Int))).setCell ⟨(G + 1), 4, none⟩ (.slice f.na x.ns.length f.nc)).setCell ⟨(G + 1), 5, none⟩ (.slice f.ka x.ks.length f.kc)) (G + 1) 25 #[.int .i64 x.kd, .string ⟨x.tx.toArray⟩, .int .i64 x.nm, .int .i64 (x.at_ : Int), .slice f.na x.ns.length f.nc, .slice f.ka x.ks.length f.kc]) := put6 HR2.out.z _ _ _ _ _ _
     have HBF : Hid (But (G + 1) w2.heap.size w2 ((((((w2.setCell ⟨(G + 1), 0, none⟩ (.int .i64 x.kd)).setCell ⟨(G + 1), 1, none⟩ (.string ⟨x.tx.toArray⟩)).setCell ⟨(G + 1), 2, none⟩ (.int .i64 x.nm)).setCell ⟨(G + 1), 3, none⟩ (.int .i64 (x.at_ : Int))).setCell ⟨(G + 1), 4, none⟩ (.slice f.na x.ns.length f.nc)).setCell ⟨(G + 1), 5, none⟩ (.slice f.ka x.ks.length f.kc))) := but6 _ _ _ _ _ _ _ _
     generalize ((((((w2.setCell ⟨(G + 1), 0, none⟩ (.int .i64 x.kd)).setCell ⟨(G + 1), 1, none⟩ (.string ⟨x.tx.toArray⟩)).setCell ⟨(G + 1), 2, none⟩ (.int .i64 x.nm)).setCell ⟨(G + 1), 3, none⟩ (.int .i64 (x.at_ : Int))).setCell ⟨(G + 1), 4, none⟩ (.slice f.na x.ns.length f.nc)).setCell ⟨(G + 1), 5, none⟩ (.slice f.ka x.ks.length f.kc)) = wf at *
     obtain ⟨g0, g1, g2, g3, g4, g5⟩ := cells6 HZF.out
     exact bodyPost_ret (v := .tuple #[ndV x f, .bool false]) (by simp [results, Try.results43, go_sem, ndV, Nd.kd, Nd.tx, Nd.nm, Nd.at_, Nd.ns, Nd.ks, fr0, nd0, g0, g1, g2, g3, g4, g5]) rfl ⟨x, false, f, rfl, HR2.out.node HG.out HR2.out.a.n HBF.out, HR2.out.bel HG.out HBF.out, by simp [HRD.out]⟩
 ·have q5 : (p.kd == 5) = false := beq_eq_false_iff_ne.2 h5
  have HRD : Hid (redF x = x) := by show _ = _; rw [HRED.out, q5]; rfl
  have q5n : (p.kd != 5) = true := bne_iff_ne.2 h5
  clear h5 HRED
  obtain ⟨n0, n1, n2, n3, n4, n5⟩ := nodeC (HR2.out.a.X)
  obtain ⟨z0, z1, z2, z3, z4, z5⟩ := zeroC (HR2.out.z)
  obtain ⟨y0, y1, y2, y3, y4, y5⟩ := freeC (HR2.out.z)
  go_wp2_with fail
  have HZF : Hid (Whole ((((((w2.setCell ⟨(G + 1), 0, none⟩ (.int .i64 x.kd)).setCell ⟨(G + 1), 1, none⟩ (.string ⟨x.tx.toArray⟩)).setCell ⟨(G + 1), 2, none⟩ (.int .i64 x.nm)).setCell ⟨(G + 1), 3, none⟩ (.int .i64 (x.at_ : Int))).setCell ⟨(G + 1), 4, none⟩ (.slice f.na x.ns.length f.nc)).setCell ⟨(G + 1), 5, none⟩ (.slice f.ka x.ks.length f.kc)) (G + 1) 25 #[.int .i64 x.kd, .string ⟨x.tx.toArray⟩, .int .i64 x.nm, .int .i64 (x.at_ : Int), .slice f.na x.ns.length f.nc, .slice f.ka x.ks.length f.kc]) := put6 HR2.out.z _ _ _ _ _ _
  have HBF : Hid (But (G + 1) w2.heap.size w2 ((((((w2.setCell ⟨(G + 1), 0, none⟩ (.int .i64 x.kd)).setCell ⟨(G + 1), 1, none⟩ (.string ⟨x.tx.toArray⟩)).setCell ⟨(G + 1), 2, none⟩ (.int .i64 x.nm)).setCell ⟨(G + 1), 3, none⟩ (.int .i64 (x.at_ : Int))).setCell ⟨(G + 1), 4, none⟩ (.slice f.na x.ns.length f.nc)).setCell ⟨(G + 1), 5, none⟩ (.slice f.ka x.ks.length f.kc))) := but6 _ _ _ _ _ _ _ _
  generalize ((((((w2.setCell ⟨(G + 1), 0, none⟩ (.int .i64 x.kd)).setCell ⟨(G + 1), 1, none⟩ (.string ⟨x.tx.toArray⟩)).setCell ⟨(G + 1), 2, none⟩ (.int .i64 x.nm)).setCell ⟨(G + 1), 3, none⟩ (.int .i64 (x.at_ : Int))).setCell ⟨(G + 1), 4, none⟩ (.slice f.na x.ns.length f.nc)).setCell ⟨(G + 1), 5, none⟩ (.slice f.ka x.ks.length f.kc)) = wf at *
  obtain ⟨g0, g1, g2, g3, g4, g5⟩ := cells6 HZF.out
  exact bodyPost_ret (v := .tuple #[ndV x f, .bool false]) (by simp [results, Try.results43, go_sem, ndV, Nd.kd, Nd.tx, Nd.nm, Nd.at_, Nd.ns, Nd.ks, fr0, nd0, g0, g1, g2, g3, g4, g5]) rfl ⟨x, false, f, rfl, HR2.out.node HG.out HR2.out.a.n HBF.out, HR2.out.bel HG.out HBF.out, by simp [HRD.out]⟩
end Go.Proofs.Ytgjchgmlogbmmaa
/- The walks of layer 11: texts joined, truths. -/
namespace Go.Proofs.Ytgjchgmlogbmmaa
open Go.RowKit
set_option linter.unusedVariables false
set_option linter.unusedSimpArgs false
attribute [local go_sem ↓] Go.wp_at_zero Go.wp_at_succ

theorem bytes_app (a c : List UInt8) : (ByteArray.mk a.toArray ++ ByteArray.mk c.toArray) = ⟨(a ++ c).toArray⟩ := by
 apply ByteArray.ext
 rw [ByteArray.data_append]
 simp
theorem bytes_size (a : List UInt8) : (ByteArray.mk a.toArray).size = a.length := by simp [ByteArray.size]
set_option maxHeartbeats 1000000 in
theorem join_in (a c : List UInt8) (w : World) (h : a.length + c.length ≤ 60) :
  Calls Try.prog 56 #[.string ⟨a.toArray⟩, .string ⟨c.toArray⟩] w fun e w' => e = .returned (.tuple #[.string ⟨(a ++ c).toArray⟩, .int .i64 0]) ∧ w = w' := by
 rw [← bytes_app]
 have s1 := bytes_size a
 have s2 := bytes_size c
 generalize ByteArray.mk a.toArray = A at *
 generalize ByteArray.mk c.toArray = B at *
 rw [← s1, ← s2] at h
 clear s1 s2
 have h1 : (A.size : Int) ≤ 60 := by omega
 have h2 : (B.size : Int) ≤ 60 - A.size := by omega
 go_enter Try.func56, Try.ntmps56
 go_wp2
 go_ret2
 exact ⟨rfl, rfl⟩
set_option maxHeartbeats 1000000 in
theorem join_out (a c : List UInt8) (w : World) (ha : a.length ≤ 60) (hc : c.length ≤ 60) (h : 60 < a.length + c.length) :
  Calls Try.prog 56 #[.string ⟨a.toArray⟩, .string ⟨c.toArray⟩] w fun e w' => e = .returned (.tuple #[.string ⟨#[]⟩, .int .i64 12]) ∧ w = w' := by
 have s1 := bytes_size a
 have s2 := bytes_size c
 generalize ByteArray.mk a.toArray = A at *
 generalize ByteArray.mk c.toArray = B at *
 rw [← s1] at ha
 rw [← s2] at hc
 rw [← s1, ← s2] at h
 clear s1 s2
 have h1 : (A.size : Int) ≤ 60 := by omega
 have h2 : 60 - (A.size : Int) < B.size := by omega
 go_enter Try.func56, Try.ntmps56
 go_wp2
 go_ret2
 exact ⟨rfl, rfl⟩
set_option maxHeartbeats 1000000 in
theorem truth0 (w : World) (k : Nat) : Calls Try.prog 58 #[.int .i64 (k : Int), .int .i64 0] w fun e w' => e = .returned (ndV (.mk 5 [70, 97, 108, 115, 101] 0 k [] []) fr0) ∧ Below w.heap.size w w' := by
 have HZF : Hid (Whole ((w.alloc (.cells #[.int .i64 5, .string ⟨#[70, 97, 108, 115, 101]⟩, .int .i64 0, .int .i64 (k : Int), .slice none 0 0, .slice none 0 0] 25)).alloc (.cells #[.string ⟨#[70, 97, 108, 115, 101]⟩, .string ⟨#[84, 114, 117, 101]⟩] 9)) w.heap.size 25 #[.int .i64 5, .string ⟨#[70, 97, 108, 115, 101]⟩, .int .i64 0, .int .i64 (k : Int), .slice none 0 0, .slice none 0 0]) := (Whole.made w 25 _).alloc _
 have HB : Hid (Below w.heap.size w ((w.alloc (.cells #[.int .i64 5, .string ⟨#[70, 97, 108, 115, 101]⟩, .int .i64 0, .int .i64 (k : Int), .slice none 0 0, .slice none 0 0] 25)).alloc (.cells #[.string ⟨#[70, 97, 108, 115, 101]⟩, .string ⟨#[84, 114, 117, 101]⟩] 9))) := ((Below.refl _ _).alloc (Nat.le_refl _) _).alloc (by simp) _
 have z0 : ((w.alloc (.cells #[.int .i64 0, .string ⟨#[]⟩, .int .i64 0, .int .i64 0, .slice none 0 0, .slice none 0 0] 25)).alloc (.cells #[.string ⟨#[70, 97, 108, 115, 101]⟩, .string ⟨#[84, 114, 117, 101]⟩] 9)).cell? ⟨w.heap.size + 1, 0, none⟩ = some (.string ⟨([70, 97, 108, 115, 101] : List UInt8).toArray⟩) := by
  simp
 go_enter Try.func58, Try.ntmps58
 go_upto_region 1 with (fail)
 go_wp2_with fail
 generalize (w.alloc (.cells #[.int .i64 5, .string ⟨#[70, 97, 108, 115, 101]⟩, .int .i64 0, .int .i64 (k : Int), .slice none 0 0, .slice none 0 0] 25)).alloc (.cells #[.string ⟨#[70, 97, 108, 115, 101]⟩, .string ⟨#[84, 114, 117, 101]⟩] 9) = wf at *
 obtain ⟨g0, g1, g2, g3, g4, g5⟩ := cells6 HZF.out
 exact bodyPost_ret (v := ndV (.mk 5 [70, 97, 108, 115, 101] 0 k [] []) fr0) (by simp [results, Try.results58, go_sem, ndV, Nd.kd, Nd.tx, Nd.nm, Nd.at_, Nd.ns, Nd.ks, fr0, g0, g1, g2, g3, g4, g5]) rfl ⟨rfl, HB.out⟩
set_option maxHeartbeats 1000000 in
theorem truth1 (w : World) (k : Nat) : Calls Try.prog 58 #[.int .i64 (k : Int), .int .i64 1] w fun e w' => e = .returned (ndV (.mk 5 [84, 114, 117, 101] 0 k [] []) fr0) ∧ Below w.heap.size w w' := by
 have HZF : Hid (Whole ((w.alloc (.cells #[.int .i64 5, .string ⟨#[84, 114, 117, 101]⟩, .int .i64 0, .int .i64 (k : Int), .slice none 0 0, .slice none 0 0] 25)).alloc (.cells #[.string ⟨#[70, 97, 108, 115, 101]⟩, .string ⟨#[84, 114, 117, 101]⟩] 9)) w.heap.size 25 #[.int .i64 5, .string ⟨#[84, 114, 117, 101]⟩, .int .i64 0, .int .i64 (k : Int), .slice none 0 0, .slice none 0 0]) := (Whole.made w 25 _).alloc _
 have HB : Hid (Below w.heap.size w ((w.alloc (.cells #[.int .i64 5, .string ⟨#[84, 114, 117, 101]⟩, .int .i64 0, .int .i64 (k : Int), .slice none 0 0, .slice none 0 0] 25)).alloc (.cells #[.string ⟨#[70, 97, 108, 115, 101]⟩, .string ⟨#[84, 114, 117, 101]⟩] 9))) := ((Below.refl _ _).alloc (Nat.le_refl _) _).alloc (by simp) _
 have z0 : ((w.alloc (.cells #[.int .i64 0, .string ⟨#[]⟩, .int .i64 0, .int .i64 0, .slice none 0 0, .slice none 0 0] 25)).alloc (.cells #[.string ⟨#[70, 97, 108, 115, 101]⟩, .string ⟨#[84, 114, 117, 101]⟩] 9)).cell? ⟨w.heap.size + 1, 1, none⟩ = some (.string ⟨([84, 114, 117, 101] : List UInt8).toArray⟩) := by
  simp
 go_enter Try.func58, Try.ntmps58
 go_upto_region 1 with (fail)
 go_wp2_with fail
 generalize (w.alloc (.cells #[.int .i64 5, .string ⟨#[84, 114, 117, 101]⟩, .int .i64 0, .int .i64 (k : Int), .slice none 0 0, .slice none 0 0] 25)).alloc (.cells #[.string ⟨#[70, 97, 108, 115, 101]⟩, .string ⟨#[84, 114, 117, 101]⟩] 9) = wf at *
 obtain ⟨g0, g1, g2, g3, g4, g5⟩ := cells6 HZF.out
 exact bodyPost_ret (v := ndV (.mk 5 [84, 114, 117, 101] 0 k [] []) fr0) (by simp [results, Try.results58, go_sem, ndV, Nd.kd, Nd.tx, Nd.nm, Nd.at_, Nd.ns, Nd.ks, fr0, g0, g1, g2, g3, g4, g5]) rfl ⟨rfl, HB.out⟩
end Go.Proofs.Ytgjchgmlogbmmaa
