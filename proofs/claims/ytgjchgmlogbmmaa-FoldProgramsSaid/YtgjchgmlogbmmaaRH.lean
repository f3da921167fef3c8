/- A part of the proofs of chapter 11, squeezed, merged and shrunk by group.py: FWalkN FRow FWalkO FWalkP. -/
import Derived.Test.YtgjchgmlogbmmaaR1
import Derived.KernelRfl
import Derived.Test.YtgjchgmlogbmmaaRG
import Derived.Test.YtgjchgmlogbmmaaR4
/- The walks of layer 11: an operation. -/
namespace Go.Proofs.Ytgjchgmlogbmmaa
open Go.RowKit
set_option linter.unusedVariables false
set_option linter.unusedSimpArgs false
attribute [local go_sem ↓] Go.wp_at_zero Go.wp_at_succ

theorem two_new (w : World) (a b : Array Value) : Whole (((w.alloc (.cells a 25)).alloc (.cells b 25)).drew) (w.heap.size + 1) 25 b := by
 have := Whole.made (w.alloc (.cells a 25)) 25 b
 simpa [Whole, World.drew] using this
theorem bytes_list (l : List UInt8) : (ByteArray.mk l.toArray).toList = l := by simp [go_sem]
theorem do_tx (l : List UInt8) (a b : Int) (w : World) : Calls Try.prog 57 #[.string ⟨l.toArray⟩, .int .i64 a, .int .i64 b] w fun e w' => e = .returned (.tuple #[.int .i64 (I.doF l a b).1, .int .i64 (I.doF l a b).2]) ∧ w = w' := by
 have := I.do_any ⟨l.toArray⟩ a b w
 rw [bytes_list] at this
 exact this
theorem do_hat (a b : Int) : (I.doF [94] a b).2 = 1 := by
 unfold I.doF
 split <;> rfl
theorem do_tt {l : List UInt8} {a b : Int} (h : (l == [61] || l == [60]) = true) (he : (I.doF l a b).2 = 0) : (I.doF l a b).1 = 0 ∨ (I.doF l a b).1 = 1 := by
 simp only [Bool.or_eq_true, beq_iff_eq] at h
 unfold I.doF at he ⊢
 split at he
 ·rename_i hi
  rw [if_pos hi]
  rcases h with rfl | rfl
  ·simp only [show (([61] : List UInt8) == [43]) = false from rfl, show (([61] : List UInt8) == [45]) = false from rfl, show (([61] : List UInt8) == [42]) = false from rfl, show (([61] : List UInt8) == [47]) = false from rfl, show (([61] : List UInt8) == [37]) = false from rfl, show (([61] : List UInt8) == [61]) = true from rfl, Bool.false_eq_true, if_false, if_true]
   split
   ·exact .inr rfl
   ·exact .inl rfl
  ·simp only [show (([60] : List UInt8) == [43]) = false from rfl, show (([60] : List UInt8) == [45]) = false from rfl, show (([60] : List UInt8) == [42]) = false from rfl, show (([60] : List UInt8) == [47]) = false from rfl, show (([60] : List UInt8) == [37]) = false from rfl, show (([60] : List UInt8) == [61]) = false from rfl, show (([60] : List UInt8) == [60]) = true from rfl, Bool.false_eq_true, if_false, if_true]
   split
   ·exact .inr rfl
   ·exact .inl rfl
 ·cases he
theorem op_join {x p q : Nd} (h : (p.kd == 2 && q.kd == 2 && x.tx == [94]) = true) : opN x p q = if p.tx.length + q.tx.length ≤ 60 then .mk 2 (p.tx ++ q.tx) 0 x.at_ [] [] else x := by
 simp only [Bool.and_eq_true] at h
 unfold opN
 rw [if_pos h.2, h.1.1, h.1.2]
 by_cases hl : p.tx.length + q.tx.length ≤ 60
 ·rw [if_pos hl, decide_eq_true hl]; rfl
 ·rw [if_neg hl, decide_eq_false hl]; rfl
theorem op_stay {x p q : Nd} (h : (p.kd == 2 && q.kd == 2 && x.tx == [94]) = false) (h2 : (p.kd == 1 && q.kd == 1) = false) : opN x p q = x := by
 unfold opN
 by_cases ht : (x.tx == [94]) = true
 ·rw [if_pos ht]
  rw [ht, Bool.and_true] at h
  rw [h]; rfl
 ·rw [if_neg ht, h2]; rfl
theorem op_err {x p q : Nd} (h : (p.kd == 2 && q.kd == 2 && x.tx == [94]) = false) (h2 : (p.kd == 1 && q.kd == 1) = true) (h3 : ((I.doF x.tx p.nm q.nm).2 != 0 || decide ((I.doF x.tx p.nm q.nm).1 < 0)) = true) : opN x p q = x := by
 unfold opN
 by_cases ht : (x.tx == [94]) = true
 ·rw [if_pos ht]
  rw [ht, Bool.and_true] at h
  rw [h]; rfl
 ·rw [if_neg ht, if_pos h2]
  have : ((I.doF x.tx p.nm q.nm).2 == 0 && decide (0 ≤ (I.doF x.tx p.nm q.nm).1)) = false := by
   simp only [Bool.or_eq_true, bne_iff_ne, decide_eq_true_eq] at h3
   rw [Bool.and_eq_false_iff]
   rcases h3 with h3 | h3
   ·exact .inl (beq_eq_false_iff_ne.2 h3)
   ·exact .inr (decide_eq_false (by omega))
  rw [this]; rfl
theorem op_done {x p q : Nd} {v : Int} (h2 : (p.kd == 1 && q.kd == 1) = true) (h3 : I.doF x.tx p.nm q.nm = (v, 0)) (hv : 0 ≤ v) : opN x p q = if x.tx == [61] || x.tx == [60] then (if v == 1 then .mk 5 [84, 114, 117, 101] 0 x.at_ [] [] else .mk 5 [70, 97, 108, 115, 101] 0 x.at_ [] []) else .mk 1 [] v x.at_ [] [] := by
 have ht : ¬ (x.tx == [94]) = true := fun h => by
  have e : x.tx = [94] := by simpa using h
  have := do_hat p.nm q.nm
  rw [← e, h3] at this
  cases this
 unfold opN
 rw [if_neg ht, if_pos h2, h3]
 simp only [beq_self_eq_true, Bool.true_and]
 rw [if_pos (decide_eq_true hv)]
theorem red_op {x p q : Nd} (h : x.kd = 13) (e : x.ks = [p, q]) : redF x = opN x p q := by
 unfold redF; rw [e, h]; rfl
set_option maxRecDepth 100000 in
set_option maxHeartbeats 8000000 in
theorem op_any11 (x : Nd) (hw : WfN x) (h13 : x.kd = 13) (w : World) (b : Nat → Prop) (f : Fr) (hb : ∀ a, b a → a < w.heap.size) (hn : NodeIn w b x f) : Calls Try.prog 42 #[ndV x f] w (FoldPost w b x) := by
 obtain ⟨p, q, hks⟩ := hw.two (by omega)
 have HKS := Lib.hid hks
 have HRED := Lib.hid (red_op h13 hks)
 have HPT : Hid (p.tx.length ≤ 60) := (hw.ks p (by rw [hks]; simp)).tx
 have HQT : Hid (q.tx.length ≤ 60) := (hw.ks q (by rw [hks]; simp)).tx
 clear h13 hks
 have HR : Hid (Rg w ((w.alloc (.cells #[.int .i64 x.kd, .string ⟨x.tx.toArray⟩, .int .i64 x.nm, .int .i64 (x.at_ : Int), .slice f.na x.ns.length f.nc, .slice f.ka x.ks.length f.kc] 25)).alloc (.cells #[.int .i64 0, .string ⟨#[]⟩, .int .i64 0, .int .i64 0, .slice none 0 0, .slice none 0 0] 25)) b w.heap.size (w.heap.size + 1) x f) := Rg.start hn hb
 have HW := Lib.hid hw
 unfold ndV
 go_enter Try.func42, Try.ntmps42
 go_upto_region 1 with (fail)
 generalize ((w.alloc (.cells #[.int .i64 x.kd, .string ⟨x.tx.toArray⟩, .int .i64 x.nm, .int .i64 (x.at_ : Int), .slice f.na x.ns.length f.nc, .slice f.ka x.ks.length f.kc] 25)).alloc (.cells #[.int .i64 0, .string ⟨#[]⟩, .int .i64 0, .int .i64 0, .slice none 0 0, .slice none 0 0] 25)) = w1 at *
 obtain ⟨G, hG⟩ : ∃ G, w.heap.size = G := ⟨_, rfl⟩
 have HG := Lib.hid hG
 rw [hG] at HR
 simp only [hG]
 clear hG hn hb hw
 obtain ⟨g, fp, fq, e, ⟨hgl, hgb⟩, hc0, hc1, np, nq⟩ := kids2 HR.out.a.n HKS.out
 have HC0 := Lib.hid hc0
 have HC1 := Lib.hid hc1
 have HNP := Lib.hid np
 have HNQ := Lib.hid nq
 have c5 := HR.out.a.c5
 rw [e, HKS.out] at c5
 have X5 : Hid (w1.cell? ⟨G, 5, none⟩ = some (.slice (some ⟨g, 0, none⟩) 2 f.kc)) := c5
 have X1 := Lib.hid HR.out.a.c1
 have HGZ : Hid (g ≠ G + 1) := by show _ ≠ _; have := HR.out.hb g hgb; have := HG.out; omega
 clear e hc0 hc1 np nq c5 hgb
 have HS : Hid (∀ W, Below w1.heap.size w1 W → W.cell? ⟨G, 5, none⟩ = some (.slice (some ⟨g, 0, none⟩) 2 f.kc) ∧ C6 W g 0 1 2 3 4 5 p fp ∧ C6 W g 6 7 8 9 10 11 q fq) := fun W h => ⟨(World.cell?_of_block (h.block G HR.out.a.X.lt)).trans X5.out, HC0.out.block (h.block g hgl), HC1.out.block (h.block g hgl)⟩
 go_cut [4, 5] (fun u v wx => ∃ A B, u = .pointer (some ⟨A, 0, none⟩) ∧ v = .pointer (some ⟨B, 0, none⟩) ∧ Whole wx A 25 (ndL p fp).toArray ∧ Whole wx B 25 (ndL q fq).toArray ∧ Below w1.heap.size w1 wx)
 case first =>
  refine region_Z (fun W => W.cell? ⟨G, 5, none⟩ = some (.slice (some ⟨g, 0, none⟩) 2 f.kc) ∧ C6 W g 0 1 2 3 4 5 p fp ∧ C6 W g 6 7 8 9 10 11 q fq) (fun i => false) (by kernel_rfl) (HS.out _ (Below.refl _ _).drew) (fun hHeld => ?_)
  refine tkf 0 rfl (v := ?_) ?_ ?_; rotate_left
  ·(intro w hSw; (try dsimp only at hSw); obtain ⟨hS5, ⟨u0, u1, u2, u3, u4, u5⟩, v0, v1, v2, v3, v4, v5⟩ := hSw; go_simp; try with_reducible rfl)
  (try simp only [Act.put, sZ])
  refine tkf 1 rfl (v := ?_) ?_ ?_; rotate_left
  ·(intro w hSw; (try dsimp only at hSw); obtain ⟨hS5, ⟨u0, u1, u2, u3, u4, u5⟩, v0, v1, v2, v3, v4, v5⟩ := hSw; go_simp; try with_reducible rfl)
  (try simp only [Act.put, sZ])
  refine tkf 2 rfl (v := ?_) ?_ ?_; rotate_left
  ·(intro w hSw; (try dsimp only at hSw); obtain ⟨hS5, ⟨u0, u1, u2, u3, u4, u5⟩, v0, v1, v2, v3, v4, v5⟩ := hSw; go_simp; try with_reducible rfl)
  (try simp only [Act.put, sZ])
  refine tkf 3 rfl (v := ?_) ?_ ?_; rotate_left
  ·(intro w hSw; (try dsimp only at hSw); obtain ⟨hS5, ⟨u0, u1, u2, u3, u4, u5⟩, v0, v1, v2, v3, v4, v5⟩ := hSw; go_simp; try with_reducible rfl)
  (try simp only [Act.put, sZ])
  refine tkf 4 rfl (v := ?_) ?_ ?_; rotate_left
  ·(intro w hSw; (try dsimp only at hSw); obtain ⟨hS5, ⟨u0, u1, u2, u3, u4, u5⟩, v0, v1, v2, v3, v4, v5⟩ := hSw; go_simp; try with_reducible rfl)
  (try simp only [Act.put, sZ])
  refine tkf 5 rfl (v := ?_) ?_ ?_; rotate_left
  ·(intro w hSw; (try dsimp only at hSw); obtain ⟨hS5, ⟨u0, u1, u2, u3, u4, u5⟩, v0, v1, v2, v3, v4, v5⟩ := hSw; go_simp; try with_reducible rfl)
  (try simp only [Act.put, sZ])
  refine tkf 6 rfl (v := ?_) ?_ ?_; rotate_left
  ·(intro w hSw; (try dsimp only at hSw); obtain ⟨hS5, ⟨u0, u1, u2, u3, u4, u5⟩, v0, v1, v2, v3, v4, v5⟩ := hSw; go_simp; try with_reducible rfl)
  (try simp only [Act.put, sZ])
  refine tkf 7 rfl (v := ?_) ?_ ?_; rotate_left
  ·(intro w hSw; (try dsimp only at hSw); obtain ⟨hS5, ⟨u0, u1, u2, u3, u4, u5⟩, v0, v1, v2, v3, v4, v5⟩ := hSw; go_simp; try with_reducible rfl)
  (try simp only [Act.put, sZ])
  refine anyZ_split (i := 8) (j := 9) (by kernel_rfl) rfl rfl (fun K hK => ?_) (fun K hK => ?_)
  ·go_simp
   refine hK.out _ _ (fun _ => HS.out _ (((Below.refl _ _).alloc (Nat.le_refl _) _).drew)) (fun _ => ?_)
   clear hK K hHeld
   (try simp only [Act.put, sZ])
   refine stp 9 rfl (fun K hK => ?_)
   go_simp
   refine hK.out _ _ (fun _ => HS.out _ ((((Below.refl _ _).alloc (Nat.le_refl _) _).alloc (by simp) _).drew)) (fun _ => ?_)
   clear hK K
   (try simp only [Act.put, sZ])
   refine stp 10 rfl (fun K hK => ?_)
   go_simp
   refine hK.out _ _ (fun _ => HS.out _ ((((Below.refl _ _).alloc (Nat.le_refl _) _).alloc (by simp) _).drew)) (fun _ => ?_)
   clear hK K
   (try simp only [Act.put, sZ])
   refine stp 11 rfl (fun K hK => ?_)
   go_simp
   refine hK.out _ _ (fun _ => HS.out _ ((((Below.refl _ _).alloc (Nat.le_refl _) _).alloc (by simp) _).drew)) (fun _ => ?_)
   clear hK K
   (try simp only [Act.put, sZ])
   refine anyZ_done (by kernel_rfl) ?_ _
   go_wp2_with fail
   go_meet
   refine ⟨w1.heap.size, w1.heap.size + 1, rfl, rfl, ?_, ?_, ((((Below.refl _ _).alloc (Nat.le_refl _) _).alloc (by simp) _).drew)⟩
   ·exact ((Whole.made w1 25 _).alloc _)
   ·exact (two_new w1 _ _)
  ·go_simp
   refine hK.out _ _ (fun _ => HS.out _ (((Below.refl _ _).alloc (Nat.le_refl _) _).drew)) (fun _ => ?_)
   clear hK K hHeld
   (try simp only [Act.put, sZ])
   refine stp 8 rfl (fun K hK => ?_)
   go_simp
   refine hK.out _ _ (fun _ => HS.out _ ((((Below.refl _ _).alloc (Nat.le_refl _) _).alloc (by simp) _).drew)) (fun _ => ?_)
   clear hK K
   (try simp only [Act.put, sZ])
   refine stp 10 rfl (fun K hK => ?_)
   go_simp
   refine hK.out _ _ (fun _ => HS.out _ ((((Below.refl _ _).alloc (Nat.le_refl _) _).alloc (by simp) _).drew)) (fun _ => ?_)
   clear hK K
   (try simp only [Act.put, sZ])
   refine stp 11 rfl (fun K hK => ?_)
   go_simp
   refine hK.out _ _ (fun _ => HS.out _ ((((Below.refl _ _).alloc (Nat.le_refl _) _).alloc (by simp) _).drew)) (fun _ => ?_)
   clear hK K
   (try simp only [Act.put, sZ])
   refine anyZ_done (by kernel_rfl) ?_ _
   go_wp2_with fail
   go_meet
   refine ⟨w1.heap.size + 1, w1.heap.size, rfl, rfl, ?_, ?_, ((((Below.refl _ _).alloc (Nat.le_refl _) _).alloc (by simp) _).drew)⟩
   ·exact (two_new w1 _ _)
   ·exact ((Whole.made w1 25 _).alloc _)
 case rest =>
  obtain ⟨A, B, rfl, rfl, hpA, hqB, hbl⟩ := hcut
  have HR2 := Lib.hid (HR.out.later hbl)
  have HPA := Lib.hid hpA
  have HQB := Lib.hid hqB
  clear hpA hqB hbl HR HC0 HC1 HNP HNQ X5 X1 HS hgl HGZ
  have d0 : wc.cell? ⟨A, 0, none⟩ = some (.int .i64 p.kd) := HPA.out.cell 0
  have e0 : wc.cell? ⟨B, 0, none⟩ = some (.int .i64 q.kd) := HQB.out.cell 0
  have c1 := HR2.out.a.c1
  obtain ⟨tb, hTB⟩ : ∃ tb, (p.kd == 2 && q.kd == 2 && x.tx == [94]) = tb := ⟨_, rfl⟩
  have HTB := Lib.hid hTB
  clear hTB
  go_upto_region 2 with (fail)
  go_cut [18] (fun u wx => u = .bool tb ∧ wx = wc)
  case first =>
   have HF := HTB.out
   obtain ⟨q1, e1⟩ : ∃ q1, (p.kd == 2) = q1 := ⟨_, rfl⟩
   obtain ⟨q2, e2⟩ : ∃ q2, (q.kd == 2) = q2 := ⟨_, rfl⟩
   obtain ⟨q3, e3⟩ : ∃ q3, (x.tx == [94]) = q3 := ⟨_, rfl⟩
   rw [e1, e2, e3] at HF
   have HF2 := Lib.hid HF
   clear HF HTB
   rcases q1 with _ | _
   ·go_wp2_with fail
    go_meet
    exact ⟨congrArg Value.bool HF2.out, rfl⟩
   rcases q2 with _ | _
   ·go_wp2_with fail
    go_meet
    exact ⟨congrArg Value.bool HF2.out, rfl⟩
   ·go_wp2_with fail
    go_meet
    exact ⟨congrArg Value.bool HF2.out, rfl⟩
  case rest =>
   obtain ⟨rfl, rfl⟩ := hcut
   rcases tb with _ | _
   ·obtain ⟨td, hTD⟩ : ∃ td, (p.kd == 1 && q.kd == 1) = td := ⟨_, rfl⟩
    have HTD := Lib.hid hTD
    clear hTD
    have d0 : wc.cell? ⟨A, 0, none⟩ = some (.int .i64 p.kd) := HPA.out.cell 0
    have e0 : wc.cell? ⟨B, 0, none⟩ = some (.int .i64 q.kd) := HQB.out.cell 0
    go_upto_region 5 with (fail)
    go_cut [46] (fun u wx => u = .bool (!td) ∧ wx = wc)
    case first =>
     have HF := HTD.out
     obtain ⟨q1, e1⟩ : ∃ q1, (p.kd == 1) = q1 := ⟨_, rfl⟩
     obtain ⟨q2, e2⟩ : ∃ q2, (q.kd == 1) = q2 := ⟨_, rfl⟩
     have n1 : (p.kd != 1) = !q1 := by rw [← e1]; rfl
     have n2 : (q.kd != 1) = !q2 := by rw [← e2]; rfl
     rw [e1, e2] at HF
     have HF2 : Hid ((!q1 || !q2) = !td) := by show _ = _; rw [← HF]; cases q1 <;> cases q2 <;> rfl
     clear HF HTD e1 e2
     rcases q1 with _ | _
     ·go_wp2_with fail
      go_meet
      exact ⟨congrArg Value.bool HF2.out, rfl⟩
     ·go_wp2_with fail
      go_meet
      exact ⟨congrArg Value.bool HF2.out, rfl⟩
    case rest =>
     obtain ⟨rfl, rfl⟩ := hcut
     rcases td with _ | _
     ·have HRD : Hid (redF x = x) := HRED.out.trans (op_stay HTB.out HTD.out)
      obtain ⟨n0, n1, n2, n3, n4, n5⟩ := nodeC (HR2.out.a.X)
      obtain ⟨z0, z1, z2, z3, z4, z5⟩ := zeroC (HR2.out.z)
      obtain ⟨y0, y1, y2, y3, y4, y5⟩ := freeC (HR2.out.z)
      go_wp2_with fail
      have HZF : Hid (Whole ((((((wc.setCell ⟨(G + 1), 0, none⟩ (.int .i64 x.kd)).setCell ⟨(G + 1), 1, none⟩ (.string ⟨x.tx.toArray⟩)).setCell ⟨(G + 1), 2, none⟩ (.int .i64 x.nm)).setCell ⟨(G + 1), 3, none⟩ (.int .i64 (x.at_ : Int))).setCell ⟨(G + 1), 4, none⟩ (.slice f.na x.ns.length f.nc)).setCell ⟨(G + 1), 5, none⟩ (.slice f.ka x.ks.length f.kc)) (G + 1) 25 #[.int .i64 x.kd, .string ⟨x.tx.toArray⟩, .int .i64 x.nm, .int .i64 (x.at_ : Int), .slice f.na x.ns.length f.nc, .slice f.ka x.ks.length f.kc]) := put6 HR2.out.z _ _ _ _ _ _
      have HBF : Hid (But (G + 1) wc.heap.size wc ((((((wc.setCell ⟨(G + 1), 0, none⟩ (.int .i64 x.kd)).setCell ⟨(G + 1), 1, none⟩ (.string ⟨x.tx.toArray⟩)).setCell ⟨(G + 1), 2, none⟩ (.int .i64 x.nm)).setCell ⟨(G + 1), 3, none⟩ (.int .i64 (x.at_ : Int))).setCell ⟨(G + 1), 4, none⟩ (.slice f.na x.ns.length f.nc)).setCell ⟨(G + 1), 5, none⟩ (.slice f.ka x.ks.length f.kc))) := but6 _ _ _ _ _ _ _ _
      generalize ((((((wc.setCell ⟨(G + 1), 0, none⟩ (.int .i64 x.kd)).setCell ⟨(G + 1), 1, none⟩ (.string ⟨x.tx.toArray⟩)).setCell ⟨(G + 1), 2, none⟩ (.int .i64 x.nm)).setCell ⟨(G + 1), 3, none⟩ (.int .i64 (x.at_ : Int))).setCell ⟨(G + 1), 4, none⟩ (.slice f.na x.ns.length f.nc)).setCell ⟨(G + 1), 5, none⟩ (.slice f.ka x.ks.length f.kc)) = wf at *
      obtain ⟨g0, g1, g2, g3, g4, g5⟩ := cells6 HZF.out
      exact bodyPost_ret (v := .tuple #[ndV x f, .bool false]) (by simp [results, Try.results42, go_sem, ndV, Nd.kd, Nd.tx, Nd.nm, Nd.at_, Nd.ns, Nd.ks, fr0, nd0, g0, g1, g2, g3, g4, g5]) rfl ⟨x, false, f, rfl, HR2.out.node HG.out HR2.out.a.n HBF.out, HR2.out.bel HG.out HBF.out, by simp [HRD.out]⟩
     ·obtain ⟨v, er, hdo⟩ : ∃ v er, I.doF x.tx p.nm q.nm = (v, er) := ⟨_, _, rfl⟩
      have CD := Lib.hid (do_tx x.tx p.nm q.nm wc)
      have HDO := Lib.hid hdo
      rw [hdo] at CD
      clear hdo
      have c1 := HR2.out.a.c1
      have d2 : wc.cell? ⟨A, 2, none⟩ = some (.int .i64 p.nm) := HPA.out.cell 2
      have e2 : wc.cell? ⟨B, 2, none⟩ = some (.int .i64 q.nm) := HQB.out.cell 2
      go_wp2_with fail
      refine CD.out.mono ?_
      rintro e w3 ⟨rfl, rfl⟩
      clear CD d2 e2
      by_cases he : er = 0
      ·subst he
       by_cases hv : v < 0
       ·have HRD : Hid (redF x = x) := HRED.out.trans (op_err HTB.out HTD.out (by rw [HDO.out]; simp [hv]))
        clear HRED HTB HTD HDO
        obtain ⟨n0, n1, n2, n3, n4, n5⟩ := nodeC (HR2.out.a.X)
        obtain ⟨z0, z1, z2, z3, z4, z5⟩ := zeroC (HR2.out.z)
        obtain ⟨y0, y1, y2, y3, y4, y5⟩ := freeC (HR2.out.z)
        go_wp2_with fail
        have HZF : Hid (Whole ((((((wc.setCell ⟨(G + 1), 0, none⟩ (.int .i64 x.kd)).setCell ⟨(G + 1), 1, none⟩ (.string ⟨x.tx.toArray⟩)).setCell ⟨(G + 1), 2, none⟩ (.int .i64 x.nm)).setCell ⟨(G + 1), 3, none⟩ (.int .i64 (x.at_ : Int))).setCell ⟨(G + 1), 4, none⟩ (.slice f.na x.ns.length f.nc)).setCell ⟨(G + 1), 5, none⟩ (.slice f.ka x.ks.length f.kc)) (G + 1) 25 #[.int .i64 x.kd, .string ⟨x.tx.toArray⟩, .int .i64 x.nm, .int .i64 (x.at_ : Int), .slice f.na x.ns.length f.nc, .slice f.ka x.ks.length f.kc]) := put6 HR2.out.z _ _ _ _ _ _
        have HBF : Hid (But (G + 1) wc.heap.size wc ((((((wc.setCell ⟨(G + 1), 0, none⟩ (.int .i64 x.kd)).setCell ⟨(G + 1), 1, none⟩ (.string ⟨x.tx.toArray⟩)).setCell ⟨(G + 1), 2, none⟩ (.int .i64 x.nm)).setCell ⟨(G + 1), 3, none⟩ (.int .i64 (x.at_ : Int))).setCell ⟨(G + 1), 4, none⟩ (.slice f.na x.ns.length f.nc)).setCell ⟨(G + 1), 5, none⟩ (.slice f.ka x.ks.length f.kc))) := but6 _ _ _ _ _ _ _ _
        generalize ((((((wc.setCell ⟨(G + 1), 0, none⟩ (.int .i64 x.kd)).setCell ⟨(G + 1), 1, none⟩ (.string ⟨x.tx.toArray⟩)).setCell ⟨(G + 1), 2, none⟩ (.int .i64 x.nm)).setCell ⟨(G + 1), 3, none⟩ (.int .i64 (x.at_ : Int))).setCell ⟨(G + 1), 4, none⟩ (.slice f.na x.ns.length f.nc)).setCell ⟨(G + 1), 5, none⟩ (.slice f.ka x.ks.length f.kc)) = wf at *
        obtain ⟨g0, g1, g2, g3, g4, g5⟩ := cells6 HZF.out
        exact bodyPost_ret (v := .tuple #[ndV x f, .bool false]) (by simp [results, Try.results42, go_sem, ndV, Nd.kd, Nd.tx, Nd.nm, Nd.at_, Nd.ns, Nd.ks, fr0, nd0, g0, g1, g2, g3, g4, g5]) rfl ⟨x, false, f, rfl, HR2.out.node HG.out HR2.out.a.n HBF.out, HR2.out.bel HG.out HBF.out, by simp [HRD.out]⟩
       ·have hv0 : 0 ≤ v := by omega
        have HRD : Hid (redF x = if x.tx == [61] || x.tx == [60] then (if v == 1 then .mk 5 [84, 114, 117, 101] 0 x.at_ [] [] else .mk 5 [70, 97, 108, 115, 101] 0 x.at_ [] []) else .mk 1 [] v x.at_ [] []) := HRED.out.trans (op_done HTD.out HDO.out hv0)
        have c3 := HR2.out.a.c3
        by_cases ht : (x.tx == [61] || x.tx == [60]) = true
        ·have hv1 := do_tt ht (by rw [HDO.out] : (I.doF x.tx p.nm q.nm).2 = 0)
         rw [HDO.out] at hv1
         rw [ht] at HRD
         obtain ⟨q1, e1⟩ : ∃ q1, (x.tx == [61]) = q1 := ⟨_, rfl⟩
         obtain ⟨q2, e2⟩ : ∃ q2, (x.tx == [60]) = q2 := ⟨_, rfl⟩
         rw [e1, e2] at ht
         have HT := Lib.hid ht
         clear HRED HTB HTD HDO ht hv hv0
         rcases hv1 with hv1 | hv1
         ·have hv1 : v = 0 := hv1
          subst hv1
          have HRD2 : Hid (redF x = .mk 5 [70, 97, 108, 115, 101] 0 x.at_ [] []) := HRD.out
          clear HRD
          rcases q1 with _ | _
          ·rcases q2 with _ | _
           ·exact absurd HT.out (by decide)
           ·clear HT
            go_wp2_with fail
            refine (truth0 wc x.at_).mono ?_
            rintro e w4 ⟨rfl, b4⟩
            have HR4 := Lib.hid (HR2.out.later b4)
            clear b4 HR2 c1 c3
            simp only [ndV, kd_mk, tx_mk, nm_mk, at_mk, ns_mk, ks_mk, fr0, List.length_nil]
            obtain ⟨z0, z1, z2, z3, z4, z5⟩ := zeroC (HR4.out.z)
            obtain ⟨y0, y1, y2, y3, y4, y5⟩ := freeC (HR4.out.z)
            go_wp2_with fail
            have HZF : Hid (Whole ((((((w4.setCell ⟨(G + 1), 0, none⟩ (.int .i64 5)).setCell ⟨(G + 1), 1, none⟩ (.string ⟨([70, 97, 108, 115, 101] : List UInt8).toArray⟩)).setCell ⟨(G + 1), 2, none⟩ (.int .i64 0)).setCell ⟨(G + 1), 3, none⟩ (.int .i64 (x.at_ : Int))).setCell ⟨(G + 1), 4, none⟩ (.slice none 0 0)).setCell ⟨(G + 1), 5, none⟩ (.slice none 0 0)) (G + 1) 25 #[.int .i64 5, .string ⟨([70, 97, 108, 115, 101] : List UInt8).toArray⟩, .int .i64 0, .int .i64 (x.at_ : Int), .slice none 0 0, .slice none 0 0]) := put6 HR4.out.z _ _ _ _ _ _
            have HBF : Hid (But (G + 1) w4.heap.size w4 ((((((w4.setCell ⟨(G + 1), 0, none⟩ (.int .i64 5)).setCell ⟨(G + 1), 1, none⟩ (.string ⟨([70, 97, 108, 115, 101] : List UInt8).toArray⟩)).setCell ⟨(G + 1), 2, none⟩ (.int .i64 0)).setCell ⟨(G + 1), 3, none⟩ (.int .i64 (x.at_ : Int))).setCell ⟨(G + 1), 4, none⟩ (.slice none 0 0)).setCell ⟨(G + 1), 5, none⟩ (.slice none 0 0))) := but6 _ _ _ _ _ _ _ _
            generalize ((((((w4.setCell ⟨(G + 1), 0, none⟩ (.int .i64 5)).setCell ⟨(G + 1), 1, none⟩ (.string ⟨([70, 97, 108, 115, 101] : List UInt8).toArray⟩)).setCell ⟨(G + 1), 2, none⟩ (.int .i64 0)).setCell ⟨(G + 1), 3, none⟩ (.int .i64 (x.at_ : Int))).setCell ⟨(G + 1), 4, none⟩ (.slice none 0 0)).setCell ⟨(G + 1), 5, none⟩ (.slice none 0 0)) = wf at *
            obtain ⟨g0, g1, g2, g3, g4, g5⟩ := cells6 HZF.out
            exact bodyPost_ret (v := .tuple #[ndV (Nd.mk 5 [70, 97, 108, 115, 101] 0 x.at_ [] []) fr0, .bool true]) (by simp [results, Try.results42, go_sem, ndV, Nd.kd, Nd.tx, Nd.nm, Nd.at_, Nd.ns, Nd.ks, fr0, nd0, g0, g1, g2, g3, g4, g5]) rfl ⟨(Nd.mk 5 [70, 97, 108, 115, 101] 0 x.at_ [] []), true, fr0, rfl, HR4.out.node HG.out (NodeIn.leaf w4 b (x := (Nd.mk 5 [70, 97, 108, 115, 101] 0 x.at_ [] [])) rfl rfl) HBF.out, HR4.out.bel HG.out HBF.out, by simp [HRD2.out]⟩
          ·clear HT
           go_wp2_with fail
           refine (truth0 wc x.at_).mono ?_
           rintro e w4 ⟨rfl, b4⟩
           have HR4 := Lib.hid (HR2.out.later b4)
           clear b4 HR2 c1 c3
           simp only [ndV, kd_mk, tx_mk, nm_mk, at_mk, ns_mk, ks_mk, fr0, List.length_nil]
           obtain ⟨z0, z1, z2, z3, z4, z5⟩ := zeroC (HR4.out.z)
           obtain ⟨y0, y1, y2, y3, y4, y5⟩ := freeC (HR4.out.z)
           go_wp2_with fail
           have HZF : Hid (Whole ((((((w4.setCell ⟨(G + 1), 0, none⟩ (.int .i64 5)).setCell ⟨(G + 1), 1, none⟩ (.string ⟨([70, 97, 108, 115, 101] : List UInt8).toArray⟩)).setCell ⟨(G + 1), 2, none⟩ (.int .i64 0)).setCell ⟨(G + 1), 3, none⟩ (.int .i64 (x.at_ : Int))).setCell ⟨(G + 1), 4, none⟩ (.slice none 0 0)).setCell ⟨(G + 1), 5, none⟩ (.slice none 0 0)) (G + 1) 25 #[.int .i64 5, .string ⟨([70, 97, 108, 115, 101] : List UInt8).toArray⟩, .int .i64 0, .int .i64 (x.at_ : Int), .slice none 0 0, .slice none 0 0]) := put6 HR4.out.z _ _ _ _ _ _
           have HBF : Hid (But (G + 1) w4.heap.size w4 ((((((w4.setCell ⟨(G + 1), 0, none⟩ (.int .i64 5)).setCell ⟨(G + 1), 1, none⟩ (.string ⟨([70, 97, 108, 115, 101] : List UInt8).toArray⟩)).setCell ⟨(G + 1), 2, none⟩ (.int .i64 0)).setCell ⟨(G + 1), 3, none⟩ (.int .i64 (x.at_ : Int))).setCell ⟨(G + 1), 4, none⟩ (.slice none 0 0)).setCell ⟨(G + 1), 5, none⟩ (.slice none 0 0))) := but6 _ _ _ _ _ _ _ _
           generalize ((((((w4.setCell ⟨(G + 1), 0, none⟩ (.int .i64 5)).setCell ⟨(G + 1), 1, none⟩ (.string ⟨([70, 97, 108, 115, 101] : List UInt8).toArray⟩)).setCell ⟨(G + 1), 2, none⟩ (.int .i64 0)).setCell ⟨(G + 1), 3, none⟩ (.int .i64 (x.at_ : Int))).setCell ⟨(G + 1), 4, none⟩ (.slice none 0 0)).setCell ⟨(G + 1), 5, none⟩ (.slice none 0 0)) = wf at *
           obtain ⟨g0, g1, g2, g3, g4, g5⟩ := cells6 HZF.out
           exact bodyPost_ret (v := .tuple #[ndV (Nd.mk 5 [70, 97, 108, 115, 101] 0 x.at_ [] []) fr0, .bool true]) (by simp [results, Try.results42, go_sem, ndV, Nd.kd, Nd.tx, Nd.nm, Nd.at_, Nd.ns, Nd.ks, fr0, nd0, g0, g1, g2, g3, g4, g5]) rfl ⟨(Nd.mk 5 [70, 97, 108, 115, 101] 0 x.at_ [] []), true, fr0, rfl, HR4.out.node HG.out (NodeIn.leaf w4 b (x := (Nd.mk 5 [70, 97, 108, 115, 101] 0 x.at_ [] [])) rfl rfl) HBF.out, HR4.out.bel HG.out HBF.out, by simp [HRD2.out]⟩
         ·have hv1 : v = 1 := hv1
          subst hv1
          have HRD2 : Hid (redF x = .mk 5 [84, 114, 117, 101] 0 x.at_ [] []) := HRD.out
          clear HRD
          rcases q1 with _ | _
          ·rcases q2 with _ | _
           ·exact absurd HT.out (by decide)
           ·clear HT
            go_wp2_with fail
            refine (truth1 wc x.at_).mono ?_
            rintro e w4 ⟨rfl, b4⟩
            have HR4 := Lib.hid (HR2.out.later b4)
            clear b4 HR2 c1 c3
            simp only [ndV, kd_mk, tx_mk, nm_mk, at_mk, ns_mk, ks_mk, fr0, List.length_nil]
            obtain ⟨z0, z1, z2, z3, z4, z5⟩ := zeroC (HR4.out.z)
            obtain ⟨y0, y1, y2, y3, y4, y5⟩ := freeC (HR4.out.z)
            go_wp2_with fail
            have HZF : Hid (Whole ((((((w4.setCell ⟨(G + 1), 0, none⟩ (.int .i64 5)).setCell ⟨(G + 1), 1, none⟩ (.string ⟨([84, 114, 117, 101] : List UInt8).toArray⟩)).setCell ⟨(G + 1), 2, none⟩ (.int .i64 0)).setCell ⟨(G + 1), 3, none⟩ (.int .i64 (x.at_ : Int))).setCell ⟨(G + 1), 4, none⟩ (.slice none 0 0)).setCell ⟨(G + 1), 5, none⟩ (.slice none 0 0)) (G + 1) 25 #[.int .i64 5, .string ⟨([84, 114, 117, 101] : List UInt8).toArray⟩, .int .i64 0, .int .i64 (x.at_ : Int), .slice none 0 0, .slice none 0 0]) := put6 HR4.out.z _ _ _ _ _ _
            have HBF : Hid (But (G + 1) w4.heap.size w4 ((((((w4.setCell ⟨(G + 1), 0, none⟩ (.int .i64 5)).setCell ⟨(G + 1), 1, none⟩ (.string ⟨([84, 114, 117, 101] : List UInt8).toArray⟩)).setCell ⟨(G + 1), 2, none⟩ (.int .i64 0)).setCell ⟨(G + 1), 3, none⟩ (.int .i64 (x.at_ : Int))).setCell ⟨(G + 1), 4, none⟩ (.slice none 0 0)).setCell ⟨(G + 1), 5, none⟩ (.slice none 0 0))) := but6 _ _ _ _ _ _ _ _
            generalize ((((((w4.setCell ⟨(G + 1), 0, none⟩ (.int .i64 5)).setCell ⟨(G + 1), 1, none⟩ (.string ⟨([84, 114, 117, 101] : List UInt8).toArray⟩)).setCell ⟨(G + 1), 2, none⟩ (.int .i64 0)).setCell ⟨(G + 1), 3, none⟩ (.int .i64 (x.at_ : Int))).setCell ⟨(G + 1), 4, none⟩ (.slice none 0 0)).setCell ⟨(G + 1), 5, none⟩ (.slice none 0 0)) = wf at *
            obtain ⟨g0, g1, g2, g3, g4, g5⟩ := cells6 HZF.out
            exact bodyPost_ret (v := .tuple #[ndV (Nd.mk 5 [84, 114, 117, 101] 0 x.at_ [] []) fr0, .bool true]) (by simp [results, Try.results42, go_sem, ndV, Nd.kd, Nd.tx, Nd.nm, Nd.at_, Nd.ns, Nd.ks, fr0, nd0, g0, g1, g2, g3, g4, g5]) rfl ⟨(Nd.mk 5 [84, 114, 117, 101] 0 x.at_ [] []), true, fr0, rfl, HR4.out.node HG.out (NodeIn.leaf w4 b (x := (Nd.mk 5 [84, 114, 117, 101] 0 x.at_ [] [])) rfl rfl) HBF.out, HR4.out.bel HG.out HBF.out, by simp [HRD2.out]⟩
          ·clear HT
           go_wp2_with fail
           refine (truth1 wc x.at_).mono ?_
           rintro e w4 ⟨rfl, b4⟩
           have HR4 := Lib.hid (HR2.out.later b4)
           clear b4 HR2 c1 c3
           simp only [ndV, kd_mk, tx_mk, nm_mk, at_mk, ns_mk, ks_mk, fr0, List.length_nil]
           obtain ⟨z0, z1, z2, z3, z4, z5⟩ := zeroC (HR4.out.z)
           obtain ⟨y0, y1, y2, y3, y4, y5⟩ := freeC (HR4.out.z)
           go_wp2_with fail
           have HZF : Hid (Whole ((((((w4.setCell ⟨(G + 1), 0, none⟩ (.int .i64 5)).setCell ⟨(G + 1), 1, none⟩ (.string ⟨([84, 114, 117, 101] : List UInt8).toArray⟩)).setCell ⟨(G + 1), 2, none⟩ (.int .i64 0)).setCell ⟨(G + 1), 3, none⟩ (.int .i64 (x.at_ : Int))).setCell ⟨(G + 1), 4, none⟩ (.slice none 0 0)).setCell ⟨(G + 1), 5, none⟩ (.slice none 0 0)) (G + 1) 25 #[.int .i64 5, .string ⟨([84, 114, 117, 101] : List UInt8).toArray⟩, .int .i64 0, .int .i64 (x.at_ : Int), .slice none 0 0, .slice none 0 0]) := put6 HR4.out.z _ _ _ _ _ _
           have HBF : Hid (But (G + 1) w4.heap.size w4 ((((((w4.setCell ⟨(G + 1), 0, none⟩ (.int .i64 5)).setCell ⟨(G + 1), 1, none⟩ (.string ⟨([84, 114, 117, 101] : List UInt8).toArray⟩)).setCell ⟨(G + 1), 2, none⟩ (.int .i64 0)).setCell ⟨(G + 1), 3, none⟩ (.int .i64 (x.at_ : Int))).setCell ⟨(G + 1), 4, none⟩ (.slice none 0 0)).setCell ⟨(G + 1), 5, none⟩ (.slice none 0 0))) := but6 _ _ _ _ _ _ _ _
           generalize ((((((w4.setCell ⟨(G + 1), 0, none⟩ (.int .i64 5)).setCell ⟨(G + 1), 1, none⟩ (.string ⟨([84, 114, 117, 101] : List UInt8).toArray⟩)).setCell ⟨(G + 1), 2, none⟩ (.int .i64 0)).setCell ⟨(G + 1), 3, none⟩ (.int .i64 (x.at_ : Int))).setCell ⟨(G + 1), 4, none⟩ (.slice none 0 0)).setCell ⟨(G + 1), 5, none⟩ (.slice none 0 0)) = wf at *
           obtain ⟨g0, g1, g2, g3, g4, g5⟩ := cells6 HZF.out
           exact bodyPost_ret (v := .tuple #[ndV (Nd.mk 5 [84, 114, 117, 101] 0 x.at_ [] []) fr0, .bool true]) (by simp [results, Try.results42, go_sem, ndV, Nd.kd, Nd.tx, Nd.nm, Nd.at_, Nd.ns, Nd.ks, fr0, nd0, g0, g1, g2, g3, g4, g5]) rfl ⟨(Nd.mk 5 [84, 114, 117, 101] 0 x.at_ [] []), true, fr0, rfl, HR4.out.node HG.out (NodeIn.leaf w4 b (x := (Nd.mk 5 [84, 114, 117, 101] 0 x.at_ [] [])) rfl rfl) HBF.out, HR4.out.bel HG.out HBF.out, by simp [HRD2.out]⟩
        ·have hf : (x.tx == [61] || x.tx == [60]) = false := by simpa using ht
         rw [hf] at HRD
         have HRD2 : Hid (redF x = .mk 1 [] v x.at_ [] []) := HRD.out
         simp only [Bool.or_eq_false_iff] at hf
         obtain ⟨f1, f2⟩ := hf
         clear HRED HTB HTD HDO ht HRD hv
         obtain ⟨z0, z1, z2, z3, z4, z5⟩ := zeroC (HR2.out.z)
         obtain ⟨y0, y1, y2, y3, y4, y5⟩ := freeC (HR2.out.z)
         go_wp2_with fail
         have HZF : Hid (Whole ((((((wc.setCell ⟨(G + 1), 0, none⟩ (.int .i64 1)).setCell ⟨(G + 1), 1, none⟩ (.string ⟨#[]⟩)).setCell ⟨(G + 1), 2, none⟩ (.int .i64 v)).setCell ⟨(G + 1), 3, none⟩ (.int .i64 (x.at_ : Int))).setCell ⟨(G + 1), 4, none⟩ (.slice none 0 0)).setCell ⟨(G + 1), 5, none⟩ (.slice none 0 0)) (G + 1) 25 #[.int .i64 1, .string ⟨#[]⟩, .int .i64 v, .int .i64 (x.at_ : Int), .slice none 0 0, .slice none 0 0]) := put6 HR2.out.z _ _ _ _ _ _
         have HBF : Hid (But (G + 1) wc.heap.size wc ((((((wc.setCell ⟨(G + 1), 0, none⟩ (.int .i64 1)).setCell ⟨(G + 1), 1, none⟩ (.string ⟨#[]⟩)).setCell ⟨(G + 1), 2, none⟩ (.int .i64 v)).setCell ⟨(G + 1), 3, none⟩ (.int .i64 (x.at_ : Int))).setCell ⟨(G + 1), 4, none⟩ (.slice none 0 0)).setCell ⟨(G + 1), 5, none⟩ (.slice none 0 0))) := but6 _ _ _ _ _ _ _ _
         generalize ((((((wc.setCell ⟨(G + 1), 0, none⟩ (.int .i64 1)).setCell ⟨(G + 1), 1, none⟩ (.string ⟨#[]⟩)).setCell ⟨(G + 1), 2, none⟩ (.int .i64 v)).setCell ⟨(G + 1), 3, none⟩ (.int .i64 (x.at_ : Int))).setCell ⟨(G + 1), 4, none⟩ (.slice none 0 0)).setCell ⟨(G + 1), 5, none⟩ (.slice none 0 0)) = wf at *
         obtain ⟨g0, g1, g2, g3, g4, g5⟩ := cells6 HZF.out
         exact bodyPost_ret (v := .tuple #[ndV (Nd.mk 1 [] v x.at_ [] []) fr0, .bool true]) (by simp [results, Try.results42, go_sem, ndV, Nd.kd, Nd.tx, Nd.nm, Nd.at_, Nd.ns, Nd.ks, fr0, nd0, g0, g1, g2, g3, g4, g5]) rfl ⟨(Nd.mk 1 [] v x.at_ [] []), true, fr0, rfl, HR2.out.node HG.out (NodeIn.leaf wc b (x := (Nd.mk 1 [] v x.at_ [] [])) rfl rfl) HBF.out, HR2.out.bel HG.out HBF.out, by simp [HRD2.out]⟩
      ·have n1 : (er != 0) = true := bne_iff_ne.2 he
       have HRD : Hid (redF x = x) := HRED.out.trans (op_err HTB.out HTD.out (by rw [HDO.out]; simp [he]))
       clear HRED HTB HTD HDO he
       obtain ⟨n0, n1, n2, n3, n4, n5⟩ := nodeC (HR2.out.a.X)
       obtain ⟨z0, z1, z2, z3, z4, z5⟩ := zeroC (HR2.out.z)
       obtain ⟨y0, y1, y2, y3, y4, y5⟩ := freeC (HR2.out.z)
       go_wp2_with fail
       have HZF : Hid (Whole ((((((wc.setCell ⟨(G + 1), 0, none⟩ (.int .i64 x.kd)).setCell ⟨(G + 1), 1, none⟩ (.string ⟨x.tx.toArray⟩)).setCell ⟨(G + 1), 2, none⟩ (.int .i64 x.nm)).setCell ⟨(G + 1), 3, none⟩ (.int .i64 (x.at_ : Int))).setCell ⟨(G + 1), 4, none⟩ (.slice f.na x.ns.length f.nc)).setCell ⟨(G + 1), 5, none⟩ (.slice f.ka x.ks.length f.kc)) (G + 1) 25 #[.int .i64 x.kd, .string ⟨x.tx.toArray⟩, .int .i64 x.nm, .int .i64 (x.at_ : Int), .slice f.na x.ns.length f.nc, .slice f.ka x.ks.length f.kc]) := put6 HR2.out.z _ _ _ _ _ _
       have HBF : Hid (But (G + 1) wc.heap.size wc ((((((wc.setCell ⟨(G + 1), 0, none⟩ (.int .i64 x.kd)).setCell ⟨(G + 1), 1, none⟩ (.string ⟨x.tx.toArray⟩)).setCell ⟨(G + 1), 2, none⟩ (.int .i64 x.nm)).setCell ⟨(G + 1), 3, none⟩ (.int .i64 (x.at_ : Int))).setCell ⟨(G + 1), 4, none⟩ (.slice f.na x.ns.length f.nc)).setCell ⟨(G + 1), 5, none⟩ (.slice f.ka x.ks.length f.kc))) := but6 _ _ _ _ _ _ _ _
       generalize ((((((wc.setCell ⟨(G + 1), 0, none⟩ (.int .i64 x.kd)).setCell ⟨(G + 1), 1, none⟩ (.string ⟨x.tx.toArray⟩)).setCell ⟨(G + 1), 2, none⟩ (.int .i64 x.nm)).setCell ⟨(G + 1), 3, none⟩ (.int .i64 (x.at_ : Int))).setCell ⟨(G + 1), 4, none⟩ (.slice f.na x.ns.length f.nc)).setCell ⟨(G + 1), 5, none⟩ (.slice f.ka x.ks.length f.kc)) = wf at *
       obtain ⟨g0, g1, g2, g3, g4, g5⟩ := cells6 HZF.out
       exact bodyPost_ret (v := .tuple #[ndV x f, .bool false]) (by simp [results, Try.results42, go_sem, ndV, Nd.kd, Nd.tx, Nd.nm, Nd.at_, Nd.ns, Nd.ks, fr0, nd0, g0, g1, g2, g3, g4, g5]) rfl ⟨x, false, f, rfl, HR2.out.node HG.out HR2.out.a.n HBF.out, HR2.out.bel HG.out HBF.out, by simp [HRD.out]⟩
   ·have HRD : Hid (redF x = if p.tx.length + q.tx.length ≤ 60 then .mk 2 (p.tx ++ q.tx) 0 x.at_ [] [] else x) := HRED.out.trans (op_join HTB.out)
    have d1 : wc.cell? ⟨A, 1, none⟩ = some (.string ⟨p.tx.toArray⟩) := HPA.out.cell 1
    have e1 : wc.cell? ⟨B, 1, none⟩ = some (.string ⟨q.tx.toArray⟩) := HQB.out.cell 1
    clear HRED HTB d0 e0 c1
    go_wp2_with fail
    by_cases hl : p.tx.length + q.tx.length ≤ 60
    ·refine (join_in p.tx q.tx wc hl).mono ?_
     rintro e w3 ⟨rfl, rfl⟩
     have HRD2 : Hid (redF x = .mk 2 (p.tx ++ q.tx) 0 x.at_ [] []) := by show _ = _; rw [HRD.out, if_pos hl]
     have c3 := HR2.out.a.c3
     clear HRD hl d1 e1
     generalize p.tx ++ q.tx = jt at *
     obtain ⟨z0, z1, z2, z3, z4, z5⟩ := zeroC (HR2.out.z)
     obtain ⟨y0, y1, y2, y3, y4, y5⟩ := freeC (HR2.out.z)
     go_wp2_with fail
     have HZF : Hid (Whole ((((((wc.setCell ⟨(G + 1), 0, none⟩ (.int .i64 2)).setCell ⟨(G + 1), 1, none⟩ (.string ⟨jt.toArray⟩)).setCell ⟨(G + 1), 2, none⟩ (.int .i64 0)).setCell ⟨(G + 1), 3, none⟩ (.int .i64 (x.at_ : Int))).setCell ⟨(G + 1), 4, none⟩ (.slice none 0 0)).setCell ⟨(G + 1), 5, none⟩ (.slice none 0 0)) (G + 1) 25 #[.int .i64 2, .string ⟨jt.toArray⟩, .int .i64 0, .int .i64 (x.at_ : Int), .slice none 0 0, .slice none 0 0]) := put6 HR2.out.z _ _ _ _ _ _
     have HBF : Hid (But (G + 1) wc.heap.size wc ((((((wc.setCell ⟨(G + 1), 0, none⟩ (.int .i64 2)).setCell ⟨(G + 1), 1, none⟩ (.string ⟨jt.toArray⟩)).setCell ⟨(G + 1), 2, none⟩ (.int .i64 0)).setCell ⟨(G + 1), 3, none⟩ (.int .i64 (x.at_ : Int))).setCell ⟨(G + 1), 4, none⟩ (.slice none 0 0)).setCell ⟨(G + 1), 5, none⟩ (.slice none 0 0))) := but6 _ _ _ _ _ _ _ _
     generalize ((((((wc.setCell ⟨(G + 1), 0, none⟩ (.int .i64 2)).setCell ⟨(G + 1), 1, none⟩ (.string ⟨jt.toArray⟩)).setCell ⟨(G + 1), 2, none⟩ (.int .i64 0)).setCell ⟨(G + 1), 3, none⟩ (.int .i64 (x.at_ : Int))).setCell ⟨(G + 1), 4, none⟩ (.slice none 0 0)).setCell ⟨(G + 1), 5, none⟩ (.slice none 0 0)) = wf at *
     obtain ⟨g0, g1, g2, g3, g4, g5⟩ := cells6 HZF.out
     exact bodyPost_ret (v := .tuple #[ndV (Nd.mk 2 jt 0 x.at_ [] []) fr0, .bool true]) (by simp [results, Try.results42, go_sem, ndV, Nd.kd, Nd.tx, Nd.nm, Nd.at_, Nd.ns, Nd.ks, fr0, nd0, g0, g1, g2, g3, g4, g5]) rfl ⟨(Nd.mk 2 jt 0 x.at_ [] []), true, fr0, rfl, HR2.out.node HG.out (NodeIn.leaf wc b (x := (Nd.mk 2 jt 0 x.at_ [] [])) rfl rfl) HBF.out, HR2.out.bel HG.out HBF.out, by simp [HRD2.out]⟩
    ·refine (join_out p.tx q.tx wc HPT.out HQT.out (by omega)).mono ?_
     rintro e w3 ⟨rfl, rfl⟩
     have HRD2 : Hid (redF x = x) := by show _ = _; rw [HRD.out, if_neg hl]
     have c3 := HR2.out.a.c3
     clear HRD hl d1 e1
     obtain ⟨z0, z1, z2, z3, z4, z5⟩ := zeroC (HR2.out.z)
     obtain ⟨y0, y1, y2, y3, y4, y5⟩ := freeC (HR2.out.z)
     go_wp2_with fail
     have HZF : Hid (Whole ((((((wc.setCell ⟨(G + 1), 0, none⟩ (.int .i64 2)).setCell ⟨(G + 1), 1, none⟩ (.string ⟨#[]⟩)).setCell ⟨(G + 1), 2, none⟩ (.int .i64 0)).setCell ⟨(G + 1), 3, none⟩ (.int .i64 (x.at_ : Int))).setCell ⟨(G + 1), 4, none⟩ (.slice none 0 0)).setCell ⟨(G + 1), 5, none⟩ (.slice none 0 0)) (G + 1) 25 #[.int .i64 2, .string ⟨#[]⟩, .int .i64 0, .int .i64 (x.at_ : Int), .slice none 0 0, .slice none 0 0]) := put6 HR2.out.z _ _ _ _ _ _
     have HBF : Hid (But (G + 1) wc.heap.size wc ((((((wc.setCell ⟨(G + 1), 0, none⟩ (.int .i64 2)).setCell ⟨(G + 1), 1, none⟩ (.string ⟨#[]⟩)).setCell ⟨(G + 1), 2, none⟩ (.int .i64 0)).setCell ⟨(G + 1), 3, none⟩ (.int .i64 (x.at_ : Int))).setCell ⟨(G + 1), 4, none⟩ (.slice none 0 0)).setCell ⟨(G + 1), 5, none⟩ (.slice none 0 0))) := but6 _ _ _ _ _ _ _ _
     generalize ((((((wc.setCell ⟨(G + 1), 0, none⟩ (.int .i64 2)).setCell ⟨(G + 1), 1, none⟩ (.string ⟨#[]⟩)).setCell ⟨(G + 1), 2, none⟩ (.int .i64 0)).setCell ⟨(G + 1), 3, none⟩ (.int .i64 (x.at_ : Int))).setCell ⟨(G + 1), 4, none⟩ (.slice none 0 0)).setCell ⟨(G + 1), 5, none⟩ (.slice none 0 0)) = wf at *
     obtain ⟨g0, g1, g2, g3, g4, g5⟩ := cells6 HZF.out
     exact bodyPost_ret (v := .tuple #[ndV (Nd.mk 2 [] 0 x.at_ [] []) fr0, .bool false]) (by simp [results, Try.results42, go_sem, ndV, Nd.kd, Nd.tx, Nd.nm, Nd.at_, Nd.ns, Nd.ks, fr0, nd0, g0, g1, g2, g3, g4, g5]) rfl ⟨(Nd.mk 2 [] 0 x.at_ [] []), false, fr0, rfl, HR2.out.node HG.out (NodeIn.leaf wc b (x := (Nd.mk 2 [] 0 x.at_ [] [])) rfl rfl) HBF.out, HR2.out.bel HG.out HBF.out, by simp [HRD2.out]⟩
end Go.Proofs.Ytgjchgmlogbmmaa
/- Kids of the call's own: a copy of a row of nodes, whose places are filled anew. -/
namespace Go.Proofs.Ytgjchgmlogbmmaa
open Go.RowKit
set_option linter.unusedVariables false
set_option linter.unusedSimpArgs false
attribute [local go_sem ↓] Go.wp_at_zero Go.wp_at_succ

theorem flatL_inv : ∀ (xs : List Nd) (fs : List Fr) (j : Nat) (v : Value), (flatL xs fs)[j]? = some v → ∃ (h : j / 6 < xs.length) (h2 : j / 6 < fs.length), (ndL xs[j / 6] fs[j / 6])[j % 6]? = some v
 | [], fs, j, v, h => by simp [flatL] at h
 | x :: xs, [], j, v, h => by simp [flatL] at h
 | x :: xs, f :: fs, j, v, h => by
  rw [flatL] at h
  by_cases hj : j < 6
  ·rw [List.getElem?_append_left (by rw [ndL_len]; exact hj)] at h
   have e1 : j / 6 = 0 := by omega
   have e2 : j % 6 = j := by omega
   refine ⟨by rw [e1]; simp, by rw [e1]; simp, ?_⟩
   simp only [e1, e2, List.getElem_cons_zero]; exact h
  ·rw [List.getElem?_append_right (by rw [ndL_len]; omega), ndL_len] at h
   obtain ⟨h1, h2, h3⟩ := flatL_inv xs fs (j - 6) v h
   have e1 : j / 6 = (j - 6) / 6 + 1 := by omega
   have e2 : j % 6 = (j - 6) % 6 := by omega
   refine ⟨by rw [e1]; simpa using h1, by rw [e1]; simpa using h2, ?_⟩
   simp only [e1, e2, List.getElem_cons_succ]; exact h3
theorem flatL_set : ∀ (xs : List Nd) (fs : List Fr) (i : Nat) (y : Nd) (f : Fr), fs.length = xs.length → i < xs.length →
  ((((((flatL xs fs).set (i * 6) (.int .i64 y.kd)).set (i * 6 + 1) (.string ⟨y.tx.toArray⟩)).set (i * 6 + 2) (.int .i64 y.nm)).set (i * 6 + 3) (.int .i64 (y.at_ : Int))).set (i * 6 + 4) (.slice f.na y.ns.length f.nc)).set (i * 6 + 5) (.slice f.ka y.ks.length f.kc) = flatL (xs.set i y) (fs.set i f)
 | [], fs, i, y, f, _, h => by simp at h
 | x :: xs, [], i, y, f, h, _ => by simp at h
 | x :: xs, g :: fs, 0, y, f, _, _ => by
  simp [flatL, ndL]
 | x :: xs, g :: fs, i + 1, y, f, h, h2 => by
  have ih := flatL_set xs fs i y f (by simpa using h) (by simpa using h2)
  rw [flatL]
  have e : ∀ k, (i + 1) * 6 + k = 6 + (i * 6 + k) := fun k => by omega
  have e0 : (i + 1) * 6 = 6 + i * 6 := by omega
  have st : ∀ (L : List Value) (k : Nat) (v : Value), (ndL x g ++ L).set (6 + k) v = ndL x g ++ L.set k v := fun L k v => by
   rw [List.set_append_right _ _ (by rw [ndL_len]; omega), ndL_len]; congr 2; omega
  rw [e0]
  rw [show ∀ k, 6 + i * 6 + k = 6 + (i * 6 + k) from fun k => by omega] at *
  simp only [Nat.add_assoc]
  rw [st, st, st, st, st, st, ih]
  rfl
/-- Kids of the call's own, the blocks of what stands in them among B. -/
structure KRow (w : World) (base : Nat) (B : Nat → Prop) (ys : List Nd) (A : Option Addr) (c : Nat) : Prop where
 nil : ys = [] → A = none ∧ c = 0
 row : ys ≠ [] → ∃ g fs, A = some ⟨g, 0, none⟩ ∧ base ≤ g ∧ w.ownsRow base 25 6 (.slice (some ⟨g, 0, none⟩) ys.length c) ys.length (flatL ys fs) ∧ fs.length = ys.length ∧ ∀ k (h : k < ys.length) (h2 : k < fs.length), NodeIn w (fun a => B a ∧ a ≠ g) ys[k] fs[k]
section
variable {w w' : World} {base : Nat} {B : Nat → Prop} {ys : List Nd} {A : Option Addr} {c : Nat}
theorem KRow.frame (h : KRow w base B ys A c) (hs : w.heap.size ≤ w'.heap.size) (hb : ∀ a, a < w.heap.size → base ≤ a ∨ B a → w'.heap[a]? = w.heap[a]?) : KRow w' base B ys A c := by
 refine ⟨h.nil, fun hn => ?_⟩
 obtain ⟨g, fs, e, hg, ho, hl, hsb⟩ := h.row hn
 exact ⟨g, fs, e, hg, own_of_block ho fun a ha => hb a (ho.lt a ha).2 (.inl (ho.lt a ha).1), hl, fun k h1 h2 => (hsb k h1 h2).frame hs fun a ha hlt => hb a hlt (.inr ha.1)⟩
theorem KRow.below {H : Nat} (h : KRow w base B ys A c) (hb : Below H w w') (hH : w.heap.size ≤ H) : KRow w' base B ys A c := h.frame hb.size fun a hl _ => hb.block a (Nat.lt_of_lt_of_le hl hH)
/-- A kid of it. -/
theorem KRow.at_ (h : KRow w base B ys A c) {k : Nat} {y : Nd} (e : ys[k]? = some y) : ∃ g fy, A = some ⟨g, 0, none⟩ ∧ base ≤ g ∧ g < w.heap.size ∧ ndCells w g k y fy ∧ NodeIn w (fun a => B a ∧ a ≠ g) y fy ∧ ∀ j, j < 6 → w.frozen? ⟨g, k * 6 + j, none⟩ = false := by
 have hk := (List.getElem?_eq_some_iff.1 e).1
 have hy : ys[k] = y := (List.getElem?_eq_some_iff.1 e).2
 obtain ⟨g, fs, ea, hg, ho, hl, hsb⟩ := h.row (fun e => by rw [e] at hk; simp at hk)
 have hf : k < fs.length := by omega
 have hc : ∀ j, j < 6 → w.cell? ⟨g, k * 6 + j, none⟩ = (flatL ys fs)[k * 6 + j]? ∧ w.frozen? ⟨g, k * 6 + j, none⟩ = false := fun j hj => by
  obtain ⟨g', c', e', _, _, hcell, hfr⟩ := own_cell ho (k := k * 6 + j) (by omega)
  simp only [Value.slice.injEq] at e'
  have eg : g = g' := by have := e'.1; simpa using this
  subst eg
  exact ⟨hcell, hfr⟩
 have hv : ∀ j v, (ndL y fs[k])[j]? = some v → j < 6 → w.cell? ⟨g, k * 6 + j, none⟩ = some v := fun j v h1 hj => by
  rw [(hc j hj).1]
  exact flatL_get ys fs k hk hf j v (by rw [hy]; exact h1)
 have hn := hsb k hk hf
 rw [hy] at hn
 exact ⟨g, fs[k], ea, hg, (ho.lt g rfl).2, ⟨hv 0 _ rfl (by omega), hv 1 _ rfl (by omega), hv 2 _ rfl (by omega), hv 3 _ rfl (by omega), hv 4 _ rfl (by omega), hv 5 _ rfl (by omega)⟩, hn, fun j hj => (hc j hj).2⟩
/-- A place of it is filled anew. -/
theorem KRow.put {g : Nat} (h : KRow w base B ys (some ⟨g, 0, none⟩) c) {i : Nat} (hi : i < ys.length) {y : Nd} {f : Fr} (hn : NodeIn w (fun a => B a ∧ a ≠ g) y f) :
  KRow ((((((w.setCell ⟨g, i * 6, none⟩ (.int .i64 y.kd)).setCell ⟨g, i * 6 + 1, none⟩ (.string ⟨y.tx.toArray⟩)).setCell ⟨g, i * 6 + 2, none⟩ (.int .i64 y.nm)).setCell ⟨g, i * 6 + 3, none⟩ (.int .i64 (y.at_ : Int))).setCell ⟨g, i * 6 + 4, none⟩ (.slice f.na y.ns.length f.nc)).setCell ⟨g, i * 6 + 5, none⟩ (.slice f.ka y.ks.length f.kc)) base B (ys.set i y) (some ⟨g, 0, none⟩) c := by
 have hne : ys ≠ [] := fun e => by rw [e] at hi; simp at hi
 refine ⟨fun e => ?_, fun _ => ?_⟩
 ·have := congrArg List.length e
  rw [List.length_set, List.length_nil] at this; omega
 obtain ⟨g', fs, e, hg, ho, hl, hsb⟩ := h.row hne
 have eg : g = g' := by simpa using e
 subst eg
 have hs6 := (own_set1 (own_set1 (own_set1 (own_set1 (own_set1 (own_set1 ho (i * 6) (.int .i64 y.kd)) (i * 6 + 1) (.string ⟨y.tx.toArray⟩)) (i * 6 + 2) (.int .i64 y.nm)) (i * 6 + 3) (.int .i64 (y.at_ : Int))) (i * 6 + 4) (.slice f.na y.ns.length f.nc)) (i * 6 + 5) (.slice f.ka y.ks.length f.kc))
 rw [flatL_set ys fs i y f hl hi] at hs6
 have hfr : ∀ a, a ≠ g → ((((((w.setCell ⟨g, i * 6, none⟩ (.int .i64 y.kd)).setCell ⟨g, i * 6 + 1, none⟩ (.string ⟨y.tx.toArray⟩)).setCell ⟨g, i * 6 + 2, none⟩ (.int .i64 y.nm)).setCell ⟨g, i * 6 + 3, none⟩ (.int .i64 (y.at_ : Int))).setCell ⟨g, i * 6 + 4, none⟩ (.slice f.na y.ns.length f.nc)).setCell ⟨g, i * 6 + 5, none⟩ (.slice f.ka y.ks.length f.kc)).heap[a]? = w.heap[a]? := fun a ha => by
  rw [Below.heap_setCell _ ⟨g, i * 6 + 5, none⟩ _ _ ha, Below.heap_setCell _ ⟨g, i * 6 + 4, none⟩ _ _ ha, Below.heap_setCell _ ⟨g, i * 6 + 3, none⟩ _ _ ha, Below.heap_setCell _ ⟨g, i * 6 + 2, none⟩ _ _ ha, Below.heap_setCell _ ⟨g, i * 6 + 1, none⟩ _ _ ha, Below.heap_setCell _ ⟨g, i * 6, none⟩ _ _ ha]
 refine ⟨g, fs.set i f, rfl, hg, by rw [List.length_set]; exact hs6, by rw [List.length_set, List.length_set]; exact hl, fun k h1 h2 => ?_⟩
 rw [List.length_set] at h1 h2
 rw [List.getElem_set, List.getElem_set]
 by_cases hk : i = k
 ·rw [if_pos hk, if_pos hk]
  exact hn.frame (by simp [World.setCell]) fun a ha _ => hfr a ha.2
 ·rw [if_neg hk, if_neg hk]
  exact (hsb k h1 h2).frame (by simp [World.setCell]) fun a ha _ => hfr a ha.2
/-- The node with these kids. -/
theorem KRow.node (h : KRow w base B ys A c) {b : Nat → Prop} {x : Nd} {f : Fr} (hn : NodeIn w b x f) (hb : ∀ a, b a → B a) (hB : ∀ a, base ≤ a → B a) : NodeIn w B (.mk x.kd x.tx x.nm x.at_ x.ns ys) ⟨f.na, f.nc, A, c⟩ := by
 cases hn with
 | mk hn0 hn1 hk0 g0 fs0 hk1 hc0 hs0 =>
  by_cases hy : ys = []
  ·obtain ⟨rfl, rfl⟩ := h.nil hy
   subst hy
   refine .mk hn0 (fun h => ?_) (fun _ => ⟨rfl, rfl⟩) 0 (fun _ => fr0) (fun e => absurd rfl e) (fun k h => by simp [ks_mk] at h) (fun k h => by simp [ks_mk] at h)
   obtain ⟨g, e1, e2, e3, e4⟩ := hn1 h
   exact ⟨g, e1, hb g e2, e3, e4⟩
  ·obtain ⟨g, fs, rfl, hg, ho, hl, hsb⟩ := h.row hy
   refine .mk hn0 (fun h => ?_) (fun e => absurd e hy) g (fun k => fs.getD k fr0) (fun _ => ⟨rfl, hB g hg, (ho.lt g rfl).2⟩) (fun k hk j v hv => ?_) (fun k hk => ?_)
   ·obtain ⟨g, e1, e2, e3, e4⟩ := hn1 h
    exact ⟨g, e1, hb g e2, e3, e4⟩
   ·have hk' : k < ys.length := hk
    have hf : k < fs.length := by omega
    have hgd : fs.getD k fr0 = fs[k] := by rw [List.getD_eq_getElem?_getD, List.getElem?_eq_getElem hf]; rfl
    rw [hgd] at hv
    have hj : j < 6 := by
     have := (List.getElem?_eq_some_iff.1 hv).1
     rw [ndL_len] at this; exact this
    obtain ⟨g', c', e', _, _, hcell, _⟩ := own_cell ho (k := k * 6 + j) (by omega)
    simp only [Value.slice.injEq] at e'
    have eg : g = g' := by have := e'.1; simpa using this
    subst eg
    rw [hcell]; exact flatL_get ys fs k hk' hf j v hv
   ·have hk' : k < ys.length := hk
    have hf : k < fs.length := by omega
    have hgd : fs.getD k fr0 = fs[k] := by rw [List.getD_eq_getElem?_getD, List.getElem?_eq_getElem hf]; rfl
    rw [hgd]
    exact hsb k hk' hf
end
end Go.Proofs.Ytgjchgmlogbmmaa
/- The walks of layer 11: a row of nodes is copied. -/
namespace Go.Proofs.Ytgjchgmlogbmmaa
open Go.RowKit
set_option linter.unusedVariables false
set_option linter.unusedSimpArgs false
attribute [local go_sem ↓] Go.wp_at_zero Go.wp_at_succ

theorem list_copy {t e : TypeId} {size bytes : Nat} (T : ElemTy t e size bytes) {ops : Array Oper} {rest : List Oper} {o : Oper} {a : Act} {Q : Exit → Act → World → Prop} {w : World} (hgd : o.guard = none) (s x : Operand)
  (ho : o.op = .call { callee := .builtin .append, args := #[s, x], argTypes := #[t, t] }) (ad0 : Addr) (hs : a.eval s = .slice (some ad0) 0 0) (ad : Addr) (m c : Nat) (news : List Value) (hx : a.eval x = .slice (some ad) m c)
  (hl : news.length = m * size) (hc : ∀ j u, news[j]? = some u → w.cell? (ad.add j) = some u) (h1 : ∀ u ∈ news, u.oneCell' = true) (hm : 0 < m) (hn : m ≤ 1000000000) (hb : bytes ≤ 1000)
  (h : ∀ g' cap w', w'.ownsRow w.heap.size e size (.slice (some ⟨g', 0, none⟩) m cap) m news → w.grownBy w' none → wpList Try.prog ops Q rest (a.put o.dst (.slice (some ⟨g', 0, none⟩) m cap)) w') : wpList Try.prog ops Q (o :: rest) a w := by
 obtain ⟨i, z, hi, hz, hsz, hby, hzs⟩ := T.info
 refine wpList_append_grows w hgd s x t ho e i z size bytes T.under hi hz hsz hby hzs T.pos (some ad0) 0 0 [] hs (fun h => by cases h) (by simp) (fun b _ j u hj => by simp at hj) ad m c news hx hl hc h1 (by omega) (by unfold maxLen; omega) ?_ (fun v' w' hown hgrow => ?_)
 ·rw [Nat.zero_add]; have := Nat.mul_le_mul hn hb; omega
 ·rw [Nat.zero_add, List.nil_append] at hown
  rcases hown.2 with ⟨e1, e2⟩ | ⟨g, cap, cur, e1, _⟩
  ·omega
  ·subst e1
   exact h g cap w' hown hgrow
theorem flatL_one {xs : List Nd} {fs : List Fr} : ∀ u ∈ flatL xs fs, u.oneCell' = true := fun u hu => by
 obtain ⟨j, hj⟩ := List.mem_iff_getElem?.1 hu
 obtain ⟨h, h2, h3⟩ := flatL_inv xs fs j u hj
 have hm := List.mem_of_getElem? h3
 simp only [ndL, List.mem_cons, List.not_mem_nil, or_false] at hm
 rcases hm with rfl | rfl | rfl | rfl | rfl | rfl <;> simp [Value.oneCell']
set_option maxRecDepth 100000 in
set_option maxHeartbeats 8000000 in
theorem clone_any (xs : List Nd) (hl : xs.length ≤ 100000) (w : World) (b : Nat → Prop) (A : Option Addr) (c : Nat) (h0 : xs = [] → A = none ∧ c = 0) (hr : RowIn w b xs A) :
  Calls Try.prog 21 #[.slice A xs.length c] w fun e w' => ∃ A' c', e = .returned (.slice A' xs.length c') ∧ KRow w' w.heap.size b xs A' c' ∧ Below w.heap.size w w' := by
 by_cases hx : xs = []
 ·subst hx
  obtain ⟨rfl, rfl⟩ := h0 rfl
  clear h0
  have hE : ∀ w : World, (binOp .eql 23 (.slice none 0 0) (.slice none 0 0)).run Try.prog w = .ok (.bool true) w := fun w => by kernel_rfl
  go_enter Try.func21, Try.ntmps21
  go_wp2_with fail
  refine bodyPost_ret (v := .slice none 0 0) (by simp [results, Try.results21, go_sem]) rfl ?_
  exact ⟨none, 0, rfl, ⟨fun _ => ⟨rfl, rfl⟩, fun h => absurd rfl h⟩, Below.refl _ _⟩
 ·obtain ⟨_, g, fs, h1, h2, h3⟩ := hr
  obtain ⟨rfl, hbg, hgl⟩ := h1 hx
  obtain ⟨fl, hfl⟩ : ∃ fl : List Fr, fl = (List.range xs.length).map fs := ⟨_, rfl⟩
  have hlen : fl.length = xs.length := by rw [hfl]; simp
  have hget : ∀ k (h : k < fl.length), fl[k] = fs k := fun k h => by subst hfl; simp
  have HLN : Hid ((flatL xs fl).length = xs.length * 6) := flatL_len xs fl hlen
  have HW1 : Hid (Below w.heap.size w (w.alloc (.cells #[] 25))) := (Below.refl _ _).alloc (Nat.le_refl _) _
  have HC : Hid (∀ j u, (flatL xs fl)[j]? = some u → (w.alloc (.cells #[] 25)).cell? ((⟨g, 0, none⟩ : Addr).add j) = some u) := fun j u hj => by
   obtain ⟨k1, k2, k3⟩ := flatL_inv xs fl j u hj
   rw [hget] at k3
   have := h2 (j / 6) k1 (j % 6) u k3
   have ea : (⟨g, 0, none⟩ : Addr).add j = ⟨g, j, none⟩ := by unfold Addr.add; split <;> simp_all
   rw [ea, World.cell?_of_block (HW1.out.block g hgl), ← this]
   congr 2; omega
  have HSB : Hid (∀ k (h : k < xs.length) (h' : k < fl.length), NodeIn w (fun a => b a ∧ a < w.heap.size) xs[k] fl[k]) := fun k h h' => by
   rw [hget]
   exact (h3 k h).mono fun a ha hl => ⟨ha.1, hl⟩
  have HFL : Hid (fl.length = xs.length) := hlen
  have hne : 0 < xs.length := List.length_pos_iff.2 hx
  clear hfl hlen hget h0 h1 h2 h3 hx
  have hE : ∀ (a : Addr) (n c : Nat) (w : World), (binOp .eql 23 (.slice (some a) n c) (.slice none 0 0)).run Try.prog w = .ok (.bool false) w := fun a n c w => by kernel_rfl
  go_enter Try.func21, Try.ntmps21
  go_wp2_with (at_builtin; refine list_copy ty_nd rfl _ _ rfl ⟨w.heap.size, 0, none⟩ rfl ⟨g, 0, none⟩ xs.length c (flatL xs fl) rfl HLN.out HC.out flatL_one hne (by omega) (by decide) ?_; intro gv cv wd hown hgr; have HO := Lib.hid hown; have HG := Lib.hid hgr; clear hown hgr)
  refine bodyPost_ret (v := .slice (some ⟨gv, 0, none⟩) xs.length cv) (by simp [results, Try.results21, go_sem]) rfl ?_
  have hB : Below w.heap.size w wd := HW1.out.trans ⟨HG.out.os, HG.out.tape, HG.out.output, HG.out.size, fun k hk => HG.out.block k (by simp; omega) (by simp)⟩
  have hgv := (HO.out.lt gv rfl).1
  refine ⟨_, _, rfl, ⟨fun e => by rw [e] at hne; simp at hne, fun _ => ⟨gv, fl, rfl, by simp at hgv; omega, own_more HO.out (by simp), HFL.out, fun k h h' => ?_⟩⟩, hB⟩
  exact ((HSB.out k h h').later hB (Nat.le_refl _)).mono fun a ha _ => ⟨ha.1, fun e => by have := ha.2; simp at hgv; omega⟩
end Go.Proofs.Ytgjchgmlogbmmaa
/- The walks of layer 11: an exp is folded. -/
namespace Go.Proofs.Ytgjchgmlogbmmaa
open Go.RowKit
set_option linter.unusedVariables false
set_option linter.unusedSimpArgs false
attribute [local go_sem ↓] Go.wp_at_zero Go.wp_at_succ

/-- Kids, of which the first k are folded. -/
def ysF (ks : List Nd) (kd : Int) (k : Nat) : List Nd := expK (ks.take k) kd 0 ++ ks.drop k
theorem ys_len (ks : List Nd) (kd : Int) (k : Nat) : (ysF ks kd k).length = ks.length := by
 unfold ysF
 rw [List.length_append, expK_len, List.length_take, List.length_drop]; omega
theorem ys_get (ks : List Nd) (kd : Int) (k j : Nat) : (ysF ks kd k)[j]? = if j < k then ks[j]?.map (fun x => if bindsB kd j = true then expN x else x) else ks[j]? := by
 unfold ysF
 by_cases h : j < k
 ·rw [if_pos h]
  by_cases hl : j < ks.length
  ·rw [List.getElem?_append_left (by rw [expK_len, List.length_take]; omega), expK_get, List.getElem?_take, if_pos h, Nat.zero_add]
  ·have e1 : ks[j]? = none := List.getElem?_eq_none (by omega)
   rw [e1]
   exact List.getElem?_eq_none (by rw [List.length_append, expK_len, List.length_take, List.length_drop]; omega)
 ·rw [if_neg h]
  by_cases hl : k ≤ ks.length
  ·rw [List.getElem?_append_right (by rw [expK_len, List.length_take]; omega), expK_len, List.length_take, List.getElem?_drop]
   congr 1; omega
  ·rw [List.getElem?_eq_none (by rw [List.length_append, expK_len, List.length_take, List.length_drop]; omega), List.getElem?_eq_none (by omega)]
theorem ys_step (ks : List Nd) (kd : Int) (k : Nat) (h : k < ks.length) : ysF ks kd (k + 1) = if bindsB kd k = true then (ysF ks kd k).set k (expN (ks.getD k nd0)) else ysF ks kd k := by
 have hg : ks[k]? = some (ks.getD k nd0) := by rw [List.getD_eq_getElem?_getD, List.getElem?_eq_getElem h]; rfl
 apply List.ext_getElem?
 intro j
 rw [ys_get]
 by_cases hb : bindsB kd k = true
 ·rw [if_pos hb, List.getElem?_set, ys_get, ys_len]
  by_cases hjk : k = j
  ·subst hjk
   rw [if_pos (Nat.lt_succ_self _), if_pos rfl, if_pos h, hg, Option.map_some, if_pos hb]
  ·rw [if_neg hjk]
   by_cases h1 : j < k
   ·rw [if_pos h1, if_pos (by omega)]
   ·rw [if_neg h1, if_neg (by omega)]
 ·rw [if_neg hb, ys_get]
  by_cases h1 : j < k
  ·rw [if_pos h1, if_pos (by omega)]
  ·rw [if_neg h1]
   by_cases h2 : j < k + 1
   ·have : j = k := by omega
    subst this
    rw [if_pos h2, hg, Option.map_some, if_neg hb]
   ·rw [if_neg h2]
theorem ys_end (ks : List Nd) (kd : Int) : ysF ks kd ks.length = expK ks kd 0 := by unfold ysF; simp
theorem ys_zero (ks : List Nd) (kd : Int) : ysF ks kd 0 = ks := by simp [ysF, expK]
theorem Rg.low {w w5 w6 : World} {b : Nat → Prop} {G g : Nat} {x : Nd} {f : Fr} (h : Rg w w5 b G (G + 1) x f) (hG : w.heap.size ≤ G) (hg : G + 1 < g) (hb : Below g w5 w6) : Rg w w6 b G (G + 1) x f :=
 ⟨⟨(hb.block G (by omega)).trans h.a.X, h.a.n.frame hb.size (fun a ha _ => hb.block a (by have := h.hb a ha; omega)), h.a.bel.trans (hb.mono (by omega))⟩, (hb.block (G + 1) hg).trans h.z, h.hb⟩
theorem kid_below (w : World) (g o : Nat) (v0 v1 v2 v3 v4 v5 : Value) : Below g w ((((((w.setCell ⟨g, o, none⟩ v0).setCell ⟨g, o + 1, none⟩ v1).setCell ⟨g, o + 2, none⟩ v2).setCell ⟨g, o + 3, none⟩ v3).setCell ⟨g, o + 4, none⟩ v4).setCell ⟨g, o + 5, none⟩ v5) :=
 ((((((Below.refl g w).setCell (p := ⟨g, o, none⟩) (Nat.le_refl g) v0).setCell (p := ⟨g, o + 1, none⟩) (Nat.le_refl g) v1).setCell (p := ⟨g, o + 2, none⟩) (Nat.le_refl g) v2).setCell (p := ⟨g, o + 3, none⟩) (Nat.le_refl g) v3).setCell (p := ⟨g, o + 4, none⟩) (Nat.le_refl g) v4).setCell (p := ⟨g, o + 5, none⟩) (Nat.le_refl g) v5
def DoesC (n : Nat) (y : Nd) : Prop := ∀ (w : World) (b : Nat → Prop) (f : Fr), (∀ a, b a → a < w.heap.size) → NodeIn w b y f → Calls Try.prog n #[ndV y f] w (FoldPost w b y)
theorem calls_of : ∀ i ∈ insI, ∀ args w, (callFunc (insT i).2.2 args).run Try.prog w = .ok (.enter (insT i).2.2 args) w := by
 intro i hi
 simp only [insI, List.mem_cons, List.not_mem_nil, or_false] at hi
 rcases hi with rfl | rfl | rfl | rfl | rfl
 ·exact Try.call42
 ·exact Try.call43
 ·exact Try.call44
 ·exact Try.call44
 ·exact Try.call45
theorem does_of {y : Nd} (hw : WfN y) (hwt : wtN y ≤ 100000) : ∀ i ∈ insI, (insT i).1 = y.kd ∧ (insT i).2.1 = (y.ks.length : Int) → DoesC (insT i).2.2 y := by
 intro i hi h
 simp only [insI, List.mem_cons, List.not_mem_nil, or_false] at hi
 rcases hi with rfl | rfl | rfl | rfl | rfl
 ·exact fun w b f hb hn => op_any11 y hw h.1.symm w b f hb hn
 ·exact fun w b f hb hn => branch_any y hw h.1.symm w b f hb hn
 ·exact fun w b f hb hn => let_any y hw hwt (.inl h.1.symm) w b f hb hn
 ·exact fun w b f hb hn => let_any y hw hwt (.inr h.1.symm) w b f hb hn
 ·exact fun w b f hb hn => seq_any y hw h.1.symm w b f hb hn
theorem none_of {y : Nd} (hw : WfN y) (h : ∀ i ∈ insI, ¬ ((insT i).1 = y.kd ∧ (insT i).2.1 = (y.ks.length : Int))) : redF y = y := by
 have n13 : y.kd ≠ 13 := fun e => by
  obtain ⟨p, q, hk⟩ := hw.two (by omega)
  exact h 2 (by decide) ⟨e.symm, by rw [hk]; rfl⟩
 have n10 : y.kd ≠ 10 := fun e => by
  obtain ⟨p, q, r, hk⟩ := hw.three e
  exact h 4 (by decide) ⟨e.symm, by rw [hk]; rfl⟩
 have n8 : y.kd ≠ 8 := fun e => by
  obtain ⟨p, q, hk⟩ := hw.two (by omega)
  exact h 6 (by decide) ⟨e.symm, by rw [hk]; rfl⟩
 have n9 : y.kd ≠ 9 := fun e => by
  obtain ⟨p, q, hk⟩ := hw.two (by omega)
  exact h 8 (by decide) ⟨e.symm, by rw [hk]; rfl⟩
 have n14 : y.kd ≠ 14 := fun e => by
  obtain ⟨p, q, hk⟩ := hw.two (by omega)
  exact h 10 (by decide) ⟨e.symm, by rw [hk]; rfl⟩
 unfold redF
 rw [beq_eq_false_iff_ne.2 n13, beq_eq_false_iff_ne.2 n10, beq_eq_false_iff_ne.2 n8, beq_eq_false_iff_ne.2 n9, beq_eq_false_iff_ne.2 n14]
 rfl
theorem redF_kd_lens {y : Nd} (hw : WfN y) : WfN y ∧ (0 ≤ y.kd ∧ y.kd ≤ 1000000) ∧ (0 : Int) ≤ (y.ks.length : Int) ∧ (y.ks.length : Int) ≤ 1000000 := by
 have h1 := hw.range
 have h2 := hw.len
 exact ⟨hw, ⟨h1.1, by omega⟩, by omega, by omega⟩
theorem look_of {w : World} {r : Nat} {L : List (Int × Int × Nat)} {y : Nd} (hM : MapIs w r L) (hL : ∀ t, t ∈ L ↔ ∃ i ∈ insI, t = insT i) (hw : WfN y ∧ (0 ≤ y.kd ∧ y.kd ≤ 1000000) ∧ (0 : Int) ≤ (y.ks.length : Int) ∧ (y.ks.length : Int) ≤ 1000000) (ht : wtN y ≤ 100000) :
  ((Instr.lookup 46 (.map (some r)) (pairV y.kd y.ks.length) false).run Try.prog w = .ok .nilFunc w ∧ redF y = y) ∨ ∃ n, (Instr.lookup 46 (.map (some r)) (pairV y.kd y.ks.length) false).run Try.prog w = .ok (fnV n) w ∧ DoesC n y ∧ (∀ args w, (callFunc n args).run Try.prog w = .ok (.enter n args) w) := by
 rcases hM.look (fun t ht => by obtain ⟨i, hi, rfl⟩ := (hL t).1 ht; exact ins_small i hi) y.kd y.ks.length hw.2.1 hw.2.2 with ⟨h1, h2⟩ | ⟨t, ht2, h1, h2, h3⟩
 ·exact .inl ⟨h1, none_of hw.1 fun i hi e => h2 (insT i) ((hL _).2 ⟨i, hi, rfl⟩) e⟩
 ·obtain ⟨i, hi, rfl⟩ := (hL t).1 ht2
  exact .inr ⟨_, h3, does_of hw.1 ht i hi ⟨h1, h2⟩, calls_of i hi⟩
theorem exp_fin {w wr wf : World} {b B : Nat → Prop} {G S1 : Nat} {y : Nd} {f : Fr} (hBD : ∀ a, B a ↔ (b a ∨ S1 ≤ a)) (hGS : G + 1 < S1) (hG : w.heap.size = G) (hBW : ∀ a, b a → a < w.heap.size) (hbl : Below w.heap.size w wr) (n : NodeIn wr B y f) (hf : But (G + 1) wr.heap.size wr wf) :
  NodeIn wf (fun a => b a ∨ w.heap.size ≤ a) y f ∧ Below w.heap.size w wf :=
 ⟨(n.but hf (Nat.le_refl _) fun a ha e => by
   rcases (hBD a).1 ha with h | h
   ·have := hBW a h; omega
   ·omega).mono fun a ha _ => by
    rcases (hBD a).1 ha with h | h
    ·exact .inl h
    ·exact .inr (by omega), hbl.trans ⟨hf.os, hf.tape, hf.output, hf.size, fun k hk => hf.block k (Nat.lt_of_lt_of_le hk hbl.size) (by omega)⟩⟩
theorem fn_nil : ∀ w, (binOp .neq 45 .nilFunc .nilFunc).run Try.prog w = .ok (.bool false) w := fun w => rfl
theorem fn_one (n : Nat) : ∀ w, (binOp .neq 45 (.func (.func n) #[] #[]) .nilFunc).run Try.prog w = .ok (.bool true) w := fun w => rfl
def ExpC (y : Nd) : Prop := ∀ (w : World) (b : Nat → Prop) (f : Fr), (∀ a, b a → a < w.heap.size) → NodeIn w b y f →
 Calls Try.prog 11 #[ndV y f] w fun e w' => ∃ f', e = .returned (ndV (expN y) f') ∧ NodeIn w' (fun a => b a ∨ w.heap.size ≤ a) (expN y) f' ∧ Below w.heap.size w w'
set_option maxRecDepth 100000 in
set_option maxHeartbeats 16000000 in
theorem fexp_any (x : Nd) : WfN x → wtN x ≤ 100000 → ExpC x := by
 induction x using Nd.ind with
 | h x ih =>
  intro hw hwt w b f hb hn
  have HWT : Hid (wtN x ≤ 100000) := hwt
  have IH := Lib.hid (fun y hy => ih y hy (hw.ks y hy) (Nat.le_trans (wt_kid hy) hwt))
  have HEN := Lib.hid (expN_eq x)
  have HL : Hid (x.ks.length ≤ 100000) := hw.len
  have HKC := Lib.hid (fun (e : x.ks = []) => hn.kc0 e)
  clear ih hwt
  have HR : Hid (Rg w ((w.alloc (.cells #[.int .i64 x.kd, .string ⟨x.tx.toArray⟩, .int .i64 x.nm, .int .i64 (x.at_ : Int), .slice f.na x.ns.length f.nc, .slice f.ka x.ks.length f.kc] 25)).alloc (.cells #[.int .i64 0, .string ⟨#[]⟩, .int .i64 0, .int .i64 0, .slice none 0 0, .slice none 0 0] 25)) b w.heap.size (w.heap.size + 1) x f) := Rg.start hn hb
  have HW := Lib.hid hw
  unfold ndV
  go_enter Try.func11, Try.ntmps11
  go_upto_region 1 with (fail)
  generalize ((w.alloc (.cells #[.int .i64 x.kd, .string ⟨x.tx.toArray⟩, .int .i64 x.nm, .int .i64 (x.at_ : Int), .slice f.na x.ns.length f.nc, .slice f.ka x.ks.length f.kc] 25)).alloc (.cells #[.int .i64 0, .string ⟨#[]⟩, .int .i64 0, .int .i64 0, .slice none 0 0, .slice none 0 0] 25)) = w1 at *
  obtain ⟨G, hG⟩ : ∃ G, w.heap.size = G := ⟨_, rfl⟩
  have HG := Lib.hid hG
  rw [hG] at HR
  simp only [hG]
  clear hG hn hb hw
  obtain ⟨B, hB⟩ : ∃ B : Nat → Prop, B = fun a => b a ∨ w1.heap.size ≤ a := ⟨_, rfl⟩
  have HBD : Hid (∀ a, B a ↔ (b a ∨ w1.heap.size ≤ a)) := fun a => by rw [hB]
  have HGS : Hid (G + 1 < w1.heap.size) := HR.out.z.lt
  clear hB
  have CL := Lib.hid (clone_any x.ks HL.out w1 b f.ka f.kc HKC.out HR.out.a.n.row)
  have c5 := HR.out.a.c5
  go_wp2_with fail
  refine CL.out.mono ?_
  rintro e w2 ⟨A, c, rfl, hk, hbl⟩
  have HKR : Hid (KRow w2 w1.heap.size B x.ks A c) := ⟨hk.nil, fun h => by
   obtain ⟨g, fs, e, hg, ho, hl, hsb⟩ := hk.row h
   exact ⟨g, fs, e, hg, ho, hl, fun k h1 h2 => (hsb k h1 h2).mono fun a ha _ => ⟨(HBD.out a).2 (.inl ha.1), ha.2⟩⟩⟩
  have HR2 := Lib.hid (HR.out.later hbl)
  have HSZ : Hid (w1.heap.size ≤ w2.heap.size) := hbl.size
  clear hk hbl CL c5 HR HKC
  generalize w1.heap.size = S1 at *
  go_wp2_with fail
  go_loopw [15] (fun i wr => ∃ k : Nat, i = .int .i64 (k : Int) ∧ k ≤ x.ks.length ∧ KRow wr S1 B (ysF x.ks x.kd k) A c ∧ Rg w wr b G (G + 1) x f ∧ S1 ≤ wr.heap.size) (fun i _ => x.ks.length - (intOf i).toNat)
  case atStart => exact ⟨0, rfl, Nat.zero_le _, by rw [ys_zero]; exact HKR.out, HR2.out, HSZ.out⟩
  case round =>
   obtain ⟨k, rfl, hk, hkr, hrg, hsz⟩ := hrel
   have HK3 := Lib.hid hkr
   have HR3 := Lib.hid hrg
   have HS3 : Hid (S1 ≤ wr.heap.size) := hsz
   clear hkr hrg hsz HKR HR2 HSZ
   by_cases hlt : k < x.ks.length
   ·have HYS := Lib.hid (ys_step x.ks x.kd k hlt)
    have i0 : (0 : Int) ≤ (k : Int) := by omega
    have i1 : (k : Int) < (x.ks.length : Int) := by omega
    have I2 : Hid ((k : Int) < 100000) := by show _ < _; have := HL.out; omega
    have CB := Lib.hid (binds_any x HW.out HWT.out wr b f k hlt (fun a ha => Nat.lt_of_lt_of_le (HR3.out.hb a ha) HR3.out.a.bel.size) HR3.out.a.n)
    generalize bindsF x.kd x.tx (x.ks.getD (k - 1) nd0) k = own at *
    unfold ndV at CB
    obtain ⟨n0, n1, n2, n3, n4, n5⟩ := nodeC (HR3.out.a.X)
    go_wp2_with fail
    refine CB.out.mono ?_
    rintro e w4 ⟨A9, k9, rfl, _, b4⟩
    have HK4 := Lib.hid (HK3.out.below b4 (Nat.le_refl _))
    have HR4 := Lib.hid (HR3.out.later b4)
    have HS4 : Hid (S1 ≤ w4.heap.size) := Nat.le_trans HS3.out b4.size
    clear b4 CB HK3 HR3 HS3 n0 n1 n2 n3 n4 n5
    have i2 : (k : Int) < 100000 := I2.out
    obtain ⟨tb, hTB⟩ : ∃ tb, bindsB x.kd k = tb := ⟨_, rfl⟩
    rw [hTB] at HYS ⊢
    clear hTB
    rcases tb with _ | _
    ·have HY2 : Hid (ysF x.ks x.kd (k + 1) = ysF x.ks x.kd k) := HYS.out
     go_wp2_with fail
     go_roundw
     case rel => exact ⟨k + 1, by go_num, by omega, by rw [HY2.out]; exact HK4.out, HR4.out, HS4.out⟩
     case measure => simp [intOf]; omega
    ·have HY2 : Hid (ysF x.ks x.kd (k + 1) = (ysF x.ks x.kd k).set k (expN (x.ks.getD k nd0))) := HYS.out
     have hyk : (ysF x.ks x.kd k)[k]? = some (x.ks.getD k nd0) := by
      rw [ys_get, if_neg (Nat.lt_irrefl _), List.getD_eq_getElem?_getD, List.getElem?_eq_getElem hlt]; rfl
     have HKL : Hid (k < (ysF x.ks x.kd k).length) := by show _ < _; rw [ys_len]; exact hlt
     obtain ⟨g, fy, rfl, hg1, hgl, ⟨x0, x1, x2, x3, x4, x5⟩, ny, _⟩ := HK4.out.at_ hyk
     have HYK := Lib.hid hyk
     have CE := Lib.hid (IH.out _ (getD_mem hlt) w4 (fun a => (B a ∧ a ≠ g) ∧ a < w4.heap.size) fy (fun a ha => ha.2) (ny.mono fun a ha hl => ⟨ha, hl⟩))
     clear HYS ny hyk
     generalize x.ks.getD k nd0 = y at *
     unfold ndV at CE
     go_wp2_with fail
     refine CE.out.mono ?_
     rintro e w5 ⟨f5, rfl, n5, b5⟩
     have HK5 := Lib.hid (HK4.out.below b5 (Nat.le_refl _))
     have HR5 := Lib.hid (HR4.out.later b5)
     have HS5 : Hid (S1 ≤ w5.heap.size) := Nat.le_trans HS4.out b5.size
     have HN5 : Hid (NodeIn w5 (fun a => B a ∧ a ≠ g) (expN y) f5) := n5.mono fun a ha _ => by
      rcases ha with ha | ha
      ·exact ha.1
      ·exact ⟨(HBD.out a).2 (.inr (Nat.le_trans HS4.out ha)), by omega⟩
     have HGL5 : Hid (g < w5.heap.size) := Nat.lt_of_lt_of_le hgl b5.size
     clear n5 b5 CE HK4 HR4 HS4 x0 x1 x2 x3 x4 x5
     obtain ⟨g', fy', eg, _, _, ⟨x0, x1, x2, x3, x4, x5⟩, _, hfr⟩ := HK5.out.at_ HYK.out
     have eg2 : g = g' := by simpa using eg
     subst eg2
     have y0 := hfr 0 (by omega)
     have y1 := hfr 1 (by omega)
     have y2 := hfr 2 (by omega)
     have y3 := hfr 3 (by omega)
     have y4 := hfr 4 (by omega)
     have y5 := hfr 5 (by omega)
     rw [Nat.add_zero] at y0
     have HGG : Hid (G + 1 < g) := Nat.lt_of_lt_of_le HGS.out hg1
     clear eg hfr hgl
     generalize expN y = ye at *
     go_wp2_with fail
     have HPT : Hid (KRow ((((((w5.setCell ⟨g, k * 6, none⟩ (.int .i64 ye.kd)).setCell ⟨g, k * 6 + 1, none⟩ (.string ⟨ye.tx.toArray⟩)).setCell ⟨g, k * 6 + 2, none⟩ (.int .i64 ye.nm)).setCell ⟨g, k * 6 + 3, none⟩ (.int .i64 (ye.at_ : Int))).setCell ⟨g, k * 6 + 4, none⟩ (.slice f5.na ye.ns.length f5.nc)).setCell ⟨g, k * 6 + 5, none⟩ (.slice f5.ka ye.ks.length f5.kc)) S1 B ((ysF x.ks x.kd k).set k ye) (some ⟨g, 0, none⟩) c) := HK5.out.put HKL.out HN5.out
     have HB6 : Hid (Below g w5 ((((((w5.setCell ⟨g, k * 6, none⟩ (.int .i64 ye.kd)).setCell ⟨g, k * 6 + 1, none⟩ (.string ⟨ye.tx.toArray⟩)).setCell ⟨g, k * 6 + 2, none⟩ (.int .i64 ye.nm)).setCell ⟨g, k * 6 + 3, none⟩ (.int .i64 (ye.at_ : Int))).setCell ⟨g, k * 6 + 4, none⟩ (.slice f5.na ye.ns.length f5.nc)).setCell ⟨g, k * 6 + 5, none⟩ (.slice f5.ka ye.ks.length f5.kc))) := kid_below _ _ _ _ _ _ _ _ _
     generalize ((((((w5.setCell ⟨g, k * 6, none⟩ (.int .i64 ye.kd)).setCell ⟨g, k * 6 + 1, none⟩ (.string ⟨ye.tx.toArray⟩)).setCell ⟨g, k * 6 + 2, none⟩ (.int .i64 ye.nm)).setCell ⟨g, k * 6 + 3, none⟩ (.int .i64 (ye.at_ : Int))).setCell ⟨g, k * 6 + 4, none⟩ (.slice f5.na ye.ns.length f5.nc)).setCell ⟨g, k * 6 + 5, none⟩ (.slice f5.ka ye.ks.length f5.kc)) = w6 at *
     have HR6 : Hid (Rg w w6 b G (G + 1) x f) := HR5.out.low (Nat.le_of_eq HG.out) HGG.out HB6.out
     have HS6 : Hid (S1 ≤ w6.heap.size) := Nat.le_trans HS5.out HB6.out.size
     go_roundw
     case rel => exact ⟨k + 1, by go_num, by omega, by rw [HY2.out]; exact HPT.out, HR6.out, HS6.out⟩
     case measure => simp [intOf]; omega
   ·have i1 : ¬ (k : Int) < (x.ks.length : Int) := by omega
    obtain rfl : k = x.ks.length := by omega
    rw [ys_end] at HK3
    clear i1 hlt hk
    obtain ⟨ys, hys⟩ : ∃ ys, expK x.ks x.kd 0 = ys := ⟨_, rfl⟩
    have HYL : Hid (ys.length = x.ks.length) := by show _ = _; rw [← hys]; exact expK_len _ _ _
    rw [hys] at HK3 HEN
    have HWX : Hid (WfN (.mk x.kd x.tx x.nm x.at_ x.ns ys)) := by show WfN _; rw [← hys]; exact wf_kids HW.out
    have HTX : Hid (wtN (.mk x.kd x.tx x.nm x.at_ x.ns ys) ≤ 100000) := by
     have h1 := wt_expK x.kd x.ks (fun y _ => wt_exp y) 0
     have h2 := HWT.out
     rw [wtN_eq] at h2
     rw [hys] at h1
     show _ ≤ _
     rw [wtN_eq]
     simp only [kd_mk, ks_mk]; omega
    clear hys
    have n5 : wr.cell? ⟨G, 5, none⟩ = some (.slice f.ka x.ks.length f.kc) := HR3.out.a.X.cell 5
    have f5 := HR3.out.a.X.free 5
    go_upto_region 10 with (fail)
    clear n5 f5
    have HX4 : Hid (Whole (wr.setCell ⟨G, 5, none⟩ (.slice A x.ks.length c)) G 25 #[.int .i64 x.kd, .string ⟨x.tx.toArray⟩, .int .i64 x.nm, .int .i64 (x.at_ : Int), .slice f.na x.ns.length f.nc, .slice A x.ks.length c]) := HR3.out.a.X.put 5 _
    have HZ4 : Hid (Whole (wr.setCell ⟨G, 5, none⟩ (.slice A x.ks.length c)) (G + 1) 25 #[.int .i64 0, .string ⟨#[]⟩, .int .i64 0, .int .i64 0, .slice none 0 0, .slice none 0 0]) := HR3.out.z.far (by show G + 1 ≠ G; omega) _
    have HBL4 : Hid (Below w.heap.size w (wr.setCell ⟨G, 5, none⟩ (.slice A x.ks.length c))) := HR3.out.a.bel.setCell (by show w.heap.size ≤ G; rw [HG.out]; exact Nat.le_refl _) _
    have HN4 : Hid (NodeIn (wr.setCell ⟨G, 5, none⟩ (.slice A x.ks.length c)) B (.mk x.kd x.tx x.nm x.at_ x.ns ys) ⟨f.na, f.nc, A, c⟩) := by
     have hfr : ∀ a, a ≠ G → (wr.setCell ⟨G, 5, none⟩ (.slice A x.ks.length c)).heap[a]? = wr.heap[a]? := fun a ha => Below.heap_setCell wr ⟨G, 5, none⟩ _ a ha
     have hBG : ∀ a, B a → a ≠ G := fun a ha e => by
      rcases (HBD.out a).1 ha with h | h
      ·have := HR3.out.hb a h; have := HG.out; omega
      ·have := HGS.out; omega
     refine (HK3.out.frame (by simp [World.setCell]) (fun a hl h => hfr a ?_)).node (HR3.out.a.n.frame (by simp [World.setCell]) fun a ha _ => hfr a (hBG a ((HBD.out a).2 (.inl ha)))) (fun a ha => (HBD.out a).2 (.inl ha)) (fun a ha => (HBD.out a).2 (.inr ha))
     rcases h with h | h
     ·have := HGS.out; omega
     ·exact hBG a h
    have HS4 : Hid (S1 ≤ (wr.setCell ⟨G, 5, none⟩ (.slice A x.ks.length c)).heap.size) := by show _ ≤ _; simp [World.setCell]; exact HS3.out
    have HBW : Hid (∀ a, b a → a < w.heap.size) := HR3.out.hb
    clear HR3 HK3 HS3
    generalize wr.setCell ⟨G, 5, none⟩ (.slice A x.ks.length c) = w4 at *
    have X0 : Hid (w4.cell? ⟨G, 0, none⟩ = some (.int .i64 x.kd)) := HX4.out.cell 0
    rw [← HYL.out] at HX4 ⊢
    have HYW := Lib.hid (redF_kd_lens HWX.out)
    refine region_Z (fun W => W.cell? ⟨G, 0, none⟩ = some (.int .i64 x.kd)) (fun i => false) (by kernel_rfl) X0.out (fun hHeld => ?_)
    refine tkf 1 rfl (v := ?_) ?_ ?_; rotate_left
    ·(intro w hSw; (try dsimp only at hSw); go_simp; try with_reducible rfl)
    (try simp only [Act.put, sZ])
    refine tkf 2 rfl (v := ?_) ?_ ?_; rotate_left
    ·(intro w hSw; (try dsimp only at hSw); go_simp; try with_reducible rfl)
    (try simp only [Act.put, sZ])
    refine tkf 3 rfl (v := ?_) ?_ ?_; rotate_left
    ·(intro w hSw; (try dsimp only at hSw); go_simp; try with_reducible rfl)
    (try simp only [Act.put, sZ])
    refine tkf 4 rfl (v := ?_) ?_ ?_; rotate_left
    ·(intro w hSw; (try dsimp only at hSw); go_simp; try with_reducible rfl)
    (try simp only [Act.put, sZ])
    refine tkf 5 rfl (v := ?_) ?_ ?_; rotate_left
    ·(intro w hSw; (try dsimp only at hSw); go_simp; try with_reducible rfl)
    (try simp only [Act.put, sZ])
    refine stp 0 rfl (fun K hK => ?_)
    go_simp
    go_at_call 23
    refine (folders_any _).mono ?_
    rintro e w5 ⟨r, rfl, ⟨L, hM, hL⟩, b0⟩
    have B5 := Lib.hid ((Below.refl w4.heap.size w4).drew.trans b0)
    have X05 : Hid (w5.cell? ⟨G, 0, none⟩ = some (.int .i64 x.kd)) := (World.cell?_of_block (B5.out.block G HX4.out.lt)).trans X0.out
    have HLK := Lib.hid (look_of hM hL HYW.out HTX.out)
    clear hM hL b0
    refine hK.out _ _ (fun _ => X05.out) (fun hHeld2 => ?_)
    clear hK K hHeld
    (try simp only [Act.put, sZ])
    have HX5 := Lib.hid (HX4.out.below B5.out HX4.out.lt)
    have HZ5 := Lib.hid (HZ4.out.below B5.out HZ4.out.lt)
    have HBL5 := Lib.hid (HBL4.out.trans (B5.out.mono HBL4.out.size))
    have HN5 := Lib.hid (HN4.out.later B5.out (Nat.le_refl _))
    have HS5 : Hid (S1 ≤ w5.heap.size) := Nat.le_trans HS4.out B5.out.size
    clear HX4 HZ4 HBL4 HN4 HS4 X0 B5 HYW
    rcases HLK.out with ⟨hlk, hrd⟩ | ⟨n, hlk, hdo, hce⟩
    ·have HLR := Lib.hid hlk
     have HEX : Hid (expN x = .mk x.kd x.tx x.nm x.at_ x.ns ys) := HEN.out.trans hrd
     clear hlk hrd HLK HEN
     refine stp 6 rfl (fun K hK => ?_)
     have h := HLR.out
     simp only [pairV, kd_mk, ks_mk] at h
     rw [if_pos (by rfl)]
     unfold Oper.wp
     simp [execOp, Act.eval, h, Result.andThen]
     refine hK.out _ _ (fun _ => X05.out) (fun hHeld3 => ?_)
     clear hK K hHeld2 HLR h
     (try simp only [Act.put, sZ])
     refine stp 7 rfl (fun K hK => ?_)
     go_simp
     refine hK.out _ _ (fun _ => X05.out) (fun hHeld4 => ?_)
     clear hK K hHeld3
     (try simp only [Act.put, sZ])
     refine anyZ_done (by kernel_rfl) ?_ _
     have hne := fn_nil
     have n0 : w5.cell? ⟨G, 0, none⟩ = some (.int .i64 x.kd) := HX5.out.cell 0
     have n1 : w5.cell? ⟨G, 1, none⟩ = some (.string ⟨x.tx.toArray⟩) := HX5.out.cell 1
     have n2 : w5.cell? ⟨G, 2, none⟩ = some (.int .i64 x.nm) := HX5.out.cell 2
     have n3 : w5.cell? ⟨G, 3, none⟩ = some (.int .i64 (x.at_ : Int)) := HX5.out.cell 3
     have n4 : w5.cell? ⟨G, 4, none⟩ = some (.slice f.na x.ns.length f.nc) := HX5.out.cell 4
     have n5 : w5.cell? ⟨G, 5, none⟩ = some (.slice A ys.length c) := HX5.out.cell 5
     obtain ⟨z0, z1, z2, z3, z4, z5⟩ := zeroC (HZ5.out)
     obtain ⟨y0, y1, y2, y3, y4, y5⟩ := freeC (HZ5.out)
     go_wp2_with fail
     have HZF : Hid (Whole ((((((w5.setCell ⟨(G + 1), 0, none⟩ (.int .i64 x.kd)).setCell ⟨(G + 1), 1, none⟩ (.string ⟨x.tx.toArray⟩)).setCell ⟨(G + 1), 2, none⟩ (.int .i64 x.nm)).setCell ⟨(G + 1), 3, none⟩ (.int .i64 (x.at_ : Int))).setCell ⟨(G + 1), 4, none⟩ (.slice f.na x.ns.length f.nc)).setCell ⟨(G + 1), 5, none⟩ (.slice A ys.length c)) (G + 1) 25 #[.int .i64 x.kd, .string ⟨x.tx.toArray⟩, .int .i64 x.nm, .int .i64 (x.at_ : Int), .slice f.na x.ns.length f.nc, .slice A ys.length c]) := put6 HZ5.out _ _ _ _ _ _
     have HBF : Hid (But (G + 1) w5.heap.size w5 ((((((w5.setCell ⟨(G + 1), 0, none⟩ (.int .i64 x.kd)).setCell ⟨(G + 1), 1, none⟩ (.string ⟨x.tx.toArray⟩)).setCell ⟨(G + 1), 2, none⟩ (.int .i64 x.nm)).setCell ⟨(G + 1), 3, none⟩ (.int .i64 (x.at_ : Int))).setCell ⟨(G + 1), 4, none⟩ (.slice f.na x.ns.length f.nc)).setCell ⟨(G + 1), 5, none⟩ (.slice A ys.length c))) := but6 _ _ _ _ _ _ _ _
     generalize ((((((w5.setCell ⟨(G + 1), 0, none⟩ (.int .i64 x.kd)).setCell ⟨(G + 1), 1, none⟩ (.string ⟨x.tx.toArray⟩)).setCell ⟨(G + 1), 2, none⟩ (.int .i64 x.nm)).setCell ⟨(G + 1), 3, none⟩ (.int .i64 (x.at_ : Int))).setCell ⟨(G + 1), 4, none⟩ (.slice f.na x.ns.length f.nc)).setCell ⟨(G + 1), 5, none⟩ (.slice A ys.length c)) = wf at *
     obtain ⟨g0, g1, g2, g3, g4, g5⟩ := cells6 HZF.out
     have hfin := exp_fin HBD.out HGS.out HG.out HBW.out HBL5.out HN5.out HBF.out
     rw [← HEX.out] at hfin
     refine bodyPost_ret (v := ndV (expN x) ⟨f.na, f.nc, A, c⟩) (by rw [HEX.out]; simp [results, Try.results11, go_sem, ndV, Nd.kd, Nd.tx, Nd.nm, Nd.at_, Nd.ns, Nd.ks, g0, g1, g2, g3, g4, g5]) rfl ⟨⟨f.na, f.nc, A, c⟩, rfl, hfin⟩
    ·have HLR := Lib.hid hlk
     have CD := Lib.hid (hdo w5 (fun a => B a ∧ a < w5.heap.size) ⟨f.na, f.nc, A, c⟩ (fun a ha => ha.2) (HN5.out.mono fun a ha hl => ⟨ha, hl⟩))
     clear hlk hdo HLK
     unfold ndV at CD
     simp only [kd_mk, tx_mk, nm_mk, at_mk, ns_mk, ks_mk] at CD
     refine stp 6 rfl (fun K hK => ?_)
     have h := HLR.out
     simp only [pairV, kd_mk, ks_mk] at h
     rw [if_pos (by rfl)]
     unfold Oper.wp
     simp [execOp, Act.eval, h, Result.andThen, fnV]
     refine hK.out _ _ (fun _ => X05.out) (fun hHeld3 => ?_)
     clear hK K hHeld2 HLR h
     (try simp only [Act.put, sZ])
     refine stp 7 rfl (fun K hK => ?_)
     go_simp
     refine hK.out _ _ (fun _ => X05.out) (fun hHeld4 => ?_)
     clear hK K hHeld3
     (try simp only [Act.put, sZ])
     refine anyZ_done (by kernel_rfl) ?_ _
     have hne := fn_one n
     have n0 : w5.cell? ⟨G, 0, none⟩ = some (.int .i64 x.kd) := HX5.out.cell 0
     have n1 : w5.cell? ⟨G, 1, none⟩ = some (.string ⟨x.tx.toArray⟩) := HX5.out.cell 1
     have n2 : w5.cell? ⟨G, 2, none⟩ = some (.int .i64 x.nm) := HX5.out.cell 2
     have n3 : w5.cell? ⟨G, 3, none⟩ = some (.int .i64 (x.at_ : Int)) := HX5.out.cell 3
     have n4 : w5.cell? ⟨G, 4, none⟩ = some (.slice f.na x.ns.length f.nc) := HX5.out.cell 4
     have n5 : w5.cell? ⟨G, 5, none⟩ = some (.slice A ys.length c) := HX5.out.cell 5
     go_wp2_with fail
     refine CD.out.mono ?_
     rintro e w6 ⟨y, tt, f6, rfl, n6, b6, hyt⟩
     have HYT := Lib.hid hyt
     have HX6 := Lib.hid (HX5.out.below b6 HX5.out.lt)
     have HZ6 := Lib.hid (HZ5.out.below b6 HZ5.out.lt)
     have HBL6 := Lib.hid (HBL5.out.trans (b6.mono HBL5.out.size))
     have HN6 : Hid (NodeIn w6 B y f6) := n6.mono fun a ha _ => by
      rcases ha with ha | ha
      ·exact ha.1
      ·exact (HBD.out a).2 (.inr (Nat.le_trans HS5.out ha))
     have HN65 := Lib.hid (HN5.out.later b6 (Nat.le_refl _))
     clear hyt n6 b6 CD HX5 HZ5 HBL5 HN5 hne n0 n1 n2 n3 n4 n5 X05
     unfold ndV
     go_upto_region 13 with (fail)
     have HM7 : Hid (Whole (w6.alloc (.cells #[.int .i64 y.kd, .string ⟨y.tx.toArray⟩, .int .i64 y.nm, .int .i64 (y.at_ : Int), .slice f6.na y.ns.length f6.nc, .slice f6.ka y.ks.length f6.kc] 25)) w6.heap.size 25 #[.int .i64 y.kd, .string ⟨y.tx.toArray⟩, .int .i64 y.nm, .int .i64 (y.at_ : Int), .slice f6.na y.ns.length f6.nc, .slice f6.ka y.ks.length f6.kc]) := Whole.made w6 25 _
     have B7 : Hid (Below w6.heap.size w6 (w6.alloc (.cells #[.int .i64 y.kd, .string ⟨y.tx.toArray⟩, .int .i64 y.nm, .int .i64 (y.at_ : Int), .slice f6.na y.ns.length f6.nc, .slice f6.ka y.ks.length f6.kc] 25))) := (Below.refl _ _).alloc (Nat.le_refl _) _
     generalize w6.alloc (.cells #[.int .i64 y.kd, .string ⟨y.tx.toArray⟩, .int .i64 y.nm, .int .i64 (y.at_ : Int), .slice f6.na y.ns.length f6.nc, .slice f6.ka y.ks.length f6.kc] 25) = w7 at *
     have HX7 := Lib.hid (HX6.out.below B7.out HX6.out.lt)
     have HZ7 := Lib.hid (HZ6.out.below B7.out HZ6.out.lt)
     have HBL7 := Lib.hid (HBL6.out.trans (B7.out.mono HBL6.out.size))
     have HN7 := Lib.hid (HN6.out.later B7.out (Nat.le_refl _))
     have HN75 := Lib.hid (HN65.out.later B7.out (Nat.le_refl _))
     clear HX6 HZ6 HBL6 HN6 HN65 B7
     generalize w6.heap.size = M7 at *
     rcases tt with _ | _
     ·have HEX : Hid (expN x = .mk x.kd x.tx x.nm x.at_ x.ns ys) := HEN.out.trans (by have := HYT.out; simpa using this)
      clear HEN HYT
      have n0 : w7.cell? ⟨G, 0, none⟩ = some (.int .i64 x.kd) := HX7.out.cell 0
      have n1 : w7.cell? ⟨G, 1, none⟩ = some (.string ⟨x.tx.toArray⟩) := HX7.out.cell 1
      have n2 : w7.cell? ⟨G, 2, none⟩ = some (.int .i64 x.nm) := HX7.out.cell 2
      have n3 : w7.cell? ⟨G, 3, none⟩ = some (.int .i64 (x.at_ : Int)) := HX7.out.cell 3
      have n4 : w7.cell? ⟨G, 4, none⟩ = some (.slice f.na x.ns.length f.nc) := HX7.out.cell 4
      have n5 : w7.cell? ⟨G, 5, none⟩ = some (.slice A ys.length c) := HX7.out.cell 5
      obtain ⟨z0, z1, z2, z3, z4, z5⟩ := zeroC (HZ7.out)
      obtain ⟨y0, y1, y2, y3, y4, y5⟩ := freeC (HZ7.out)
      go_wp2_with fail
      have HZF : Hid (Whole ((((((w7.setCell ⟨(G + 1), 0, none⟩ (.int .i64 x.kd)).setCell ⟨(G + 1), 1, none⟩ (.string ⟨x.tx.toArray⟩)).setCell ⟨(G + 1), 2, none⟩ (.int .i64 x.nm)).setCell ⟨(G + 1), 3, none⟩ (.int .i64 (x.at_ : Int))).setCell ⟨(G + 1), 4, none⟩ (.slice f.na x.ns.length f.nc)).setCell ⟨(G + 1), 5, none⟩ (.slice A ys.length c)) (G + 1) 25 #[.int .i64 x.kd, .string ⟨x.tx.toArray⟩, .int .i64 x.nm, .int .i64 (x.at_ : Int), .slice f.na x.ns.length f.nc, .slice A ys.length c]) := put6 HZ7.out _ _ _ _ _ _
      have HBF : Hid (But (G + 1) w7.heap.size w7 ((((((w7.setCell ⟨(G + 1), 0, none⟩ (.int .i64 x.kd)).setCell ⟨(G + 1), 1, none⟩ (.string ⟨x.tx.toArray⟩)).setCell ⟨(G + 1), 2, none⟩ (.int .i64 x.nm)).setCell ⟨(G + 1), 3, none⟩ (.int .i64 (x.at_ : Int))).setCell ⟨(G + 1), 4, none⟩ (.slice f.na x.ns.length f.nc)).setCell ⟨(G + 1), 5, none⟩ (.slice A ys.length c))) := but6 _ _ _ _ _ _ _ _
      generalize ((((((w7.setCell ⟨(G + 1), 0, none⟩ (.int .i64 x.kd)).setCell ⟨(G + 1), 1, none⟩ (.string ⟨x.tx.toArray⟩)).setCell ⟨(G + 1), 2, none⟩ (.int .i64 x.nm)).setCell ⟨(G + 1), 3, none⟩ (.int .i64 (x.at_ : Int))).setCell ⟨(G + 1), 4, none⟩ (.slice f.na x.ns.length f.nc)).setCell ⟨(G + 1), 5, none⟩ (.slice A ys.length c)) = wf at *
      obtain ⟨g0, g1, g2, g3, g4, g5⟩ := cells6 HZF.out
      have hfin := exp_fin HBD.out HGS.out HG.out HBW.out HBL7.out HN75.out HBF.out
      rw [← HEX.out] at hfin
      refine bodyPost_ret (v := ndV (expN x) ⟨f.na, f.nc, A, c⟩) (by rw [HEX.out]; simp [results, Try.results11, go_sem, ndV, Nd.kd, Nd.tx, Nd.nm, Nd.at_, Nd.ns, Nd.ks, g0, g1, g2, g3, g4, g5]) rfl ⟨⟨f.na, f.nc, A, c⟩, rfl, hfin⟩
     ·have HEX : Hid (expN x = y) := HEN.out.trans (by have := HYT.out; simpa using this.symm)
      clear HEN HYT
      obtain ⟨n0, n1, n2, n3, n4, n5⟩ := nodeC (HM7.out)
      obtain ⟨z0, z1, z2, z3, z4, z5⟩ := zeroC (HZ7.out)
      obtain ⟨y0, y1, y2, y3, y4, y5⟩ := freeC (HZ7.out)
      go_wp2_with fail
      have HZF : Hid (Whole ((((((w7.setCell ⟨(G + 1), 0, none⟩ (.int .i64 y.kd)).setCell ⟨(G + 1), 1, none⟩ (.string ⟨y.tx.toArray⟩)).setCell ⟨(G + 1), 2, none⟩ (.int .i64 y.nm)).setCell ⟨(G + 1), 3, none⟩ (.int .i64 (y.at_ : Int))).setCell ⟨(G + 1), 4, none⟩ (.slice f6.na y.ns.length f6.nc)).setCell ⟨(G + 1), 5, none⟩ (.slice f6.ka y.ks.length f6.kc)) (G + 1) 25 #[.int .i64 y.kd, .string ⟨y.tx.toArray⟩, .int .i64 y.nm, .int .i64 (y.at_ : Int), .slice f6.na y.ns.length f6.nc, .slice f6.ka y.ks.length f6.kc]) := put6 HZ7.out _ _ _ _ _ _
      have HBF : Hid (But (G + 1) w7.heap.size w7 ((((((w7.setCell ⟨(G + 1), 0, none⟩ (.int .i64 y.kd)).setCell ⟨(G + 1), 1, none⟩ (.string ⟨y.tx.toArray⟩)).setCell ⟨(G + 1), 2, none⟩ (.int .i64 y.nm)).setCell ⟨(G + 1), 3, none⟩ (.int .i64 (y.at_ : Int))).setCell ⟨(G + 1), 4, none⟩ (.slice f6.na y.ns.length f6.nc)).setCell ⟨(G + 1), 5, none⟩ (.slice f6.ka y.ks.length f6.kc))) := but6 _ _ _ _ _ _ _ _
      generalize ((((((w7.setCell ⟨(G + 1), 0, none⟩ (.int .i64 y.kd)).setCell ⟨(G + 1), 1, none⟩ (.string ⟨y.tx.toArray⟩)).setCell ⟨(G + 1), 2, none⟩ (.int .i64 y.nm)).setCell ⟨(G + 1), 3, none⟩ (.int .i64 (y.at_ : Int))).setCell ⟨(G + 1), 4, none⟩ (.slice f6.na y.ns.length f6.nc)).setCell ⟨(G + 1), 5, none⟩ (.slice f6.ka y.ks.length f6.kc)) = wf at *
      obtain ⟨g0, g1, g2, g3, g4, g5⟩ := cells6 HZF.out
      have hfin := exp_fin HBD.out HGS.out HG.out HBW.out HBL7.out HN7.out HBF.out
      rw [← HEX.out] at hfin
      refine bodyPost_ret (v := ndV (expN x) f6) (by rw [HEX.out]; simp [results, Try.results11, go_sem, ndV, Nd.kd, Nd.tx, Nd.nm, Nd.at_, Nd.ns, Nd.ks, g0, g1, g2, g3, g4, g5]) rfl ⟨f6, rfl, hfin⟩
end Go.Proofs.Ytgjchgmlogbmmaa
