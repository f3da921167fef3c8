import Derived.Test.YtgjchgmlogbmmaaN5
/- The walks of layer 11: a sequence, a let. -/
namespace Go.Proofs.Ytgjchgmlogbmmaa
open Go.RowKit
set_option linter.unusedVariables false
set_option linter.unusedSimpArgs false
attribute [local go_sem ↓] Go.wp_at_zero Go.wp_at_succ

/-- The six cells of a node in a row. -/
def C6 (w : World) (g a0 a1 a2 a3 a4 a5 : Nat) (y : Nd) (fy : Fr) : Prop :=
  w.cell? ⟨g, a0, none⟩ = some (.int .i64 y.kd) ∧ w.cell? ⟨g, a1, none⟩ = some (.string ⟨y.tx.toArray⟩) ∧ w.cell? ⟨g, a2, none⟩ = some (.int .i64 y.nm) ∧
    w.cell? ⟨g, a3, none⟩ = some (.int .i64 (y.at_ : Int)) ∧ w.cell? ⟨g, a4, none⟩ = some (.slice fy.na y.ns.length fy.nc) ∧ w.cell? ⟨g, a5, none⟩ = some (.slice fy.ka y.ks.length fy.kc)
theorem C6.block {w w' : World} {g a0 a1 a2 a3 a4 a5 : Nat} {y : Nd} {fy : Fr} (h : C6 w g a0 a1 a2 a3 a4 a5 y fy) (hb : w'.heap[g]? = w.heap[g]?) : C6 w' g a0 a1 a2 a3 a4 a5 y fy := by
  obtain ⟨c0, c1, c2, c3, c4, c5⟩ := h
  have hc : ∀ o, w'.cell? ⟨g, o, none⟩ = w.cell? ⟨g, o, none⟩ := fun o => World.cell?_of_block hb
  exact ⟨(hc _).trans c0, (hc _).trans c1, (hc _).trans c2, (hc _).trans c3, (hc _).trans c4, (hc _).trans c5⟩
theorem kids_at {w : World} {b : Nat → Prop} {x : Nd} {f : Fr} (n : NodeIn w b x f) {k : Nat} {y : Nd} (e : x.ks[k]? = some y) : ∃ g fy, f.ka = some ⟨g, 0, none⟩ ∧ (g < w.heap.size ∧ b g) ∧ ndCells w g k y fy ∧ NodeIn w b y fy := by
  have hk := (List.getElem?_eq_some_iff.1 e).1
  obtain ⟨g, fy, a, bg, c, d, m'⟩ := n.row.at_ hk
  have m := m'.mono (b' := b) fun a ha _ => ha.1
  have : x.ks.getD k nd0 = y := by rw [List.getD_eq_getElem?_getD, e]; rfl
  rw [this] at d m
  exact ⟨g, fy, a, ⟨c, bg⟩, d, m⟩
theorem kids2 {w : World} {b : Nat → Prop} {x p q : Nd} {f : Fr} (n : NodeIn w b x f) (e : x.ks = [p, q]) : ∃ g fp fq, f.ka = some ⟨g, 0, none⟩ ∧ (g < w.heap.size ∧ b g) ∧ C6 w g 0 1 2 3 4 5 p fp ∧ C6 w g 6 7 8 9 10 11 q fq ∧ NodeIn w b p fp ∧ NodeIn w b q fq := by
  obtain ⟨g, fp, a, hl, hc, hn⟩ := kids_at n (k := 0) (y := p) (by rw [e]; rfl)
  obtain ⟨g', fq, a', _, hc', hn'⟩ := kids_at n (k := 1) (y := q) (by rw [e]; rfl)
  have : g = g' := by rw [a] at a'; simpa using a'
  subst this
  exact ⟨g, fp, fq, a, hl, hc, hc', hn, hn'⟩
theorem kids3 {w : World} {b : Nat → Prop} {x p q r : Nd} {f : Fr} (n : NodeIn w b x f) (e : x.ks = [p, q, r]) : ∃ g fp fq fr, f.ka = some ⟨g, 0, none⟩ ∧ (g < w.heap.size ∧ b g) ∧ C6 w g 0 1 2 3 4 5 p fp ∧ C6 w g 6 7 8 9 10 11 q fq ∧ C6 w g 12 13 14 15 16 17 r fr ∧ NodeIn w b p fp ∧ NodeIn w b q fq ∧ NodeIn w b r fr := by
  obtain ⟨g, fp, a, hl, hc, hn⟩ := kids_at n (k := 0) (y := p) (by rw [e]; rfl)
  obtain ⟨g', fq, a', _, hc', hn'⟩ := kids_at n (k := 1) (y := q) (by rw [e]; rfl)
  obtain ⟨g2, fr, a2, _, hc2, hn2⟩ := kids_at n (k := 2) (y := r) (by rw [e]; rfl)
  have : g = g' := by rw [a] at a'; simpa using a'
  subst this
  have : g = g2 := by rw [a] at a2; simpa using a2
  subst this
  exact ⟨g, fp, fq, fr, a, hl, hc, hc', hc2, hn, hn', hn2⟩
/-- A node handed in, and the result's block. -/
theorem far6h (w : World) (g Z : Nat) (h : g ≠ Z) (v0 v1 v2 v3 v4 v5 : Value) : ((((((w.setCell ⟨Z, 0, none⟩ v0).setCell ⟨Z, 1, none⟩ v1).setCell ⟨Z, 2, none⟩ v2).setCell ⟨Z, 3, none⟩ v3).setCell ⟨Z, 4, none⟩ v4).setCell ⟨Z, 5, none⟩ v5).heap[g]? = w.heap[g]? := by
  rw [Below.heap_setCell _ ⟨Z, 5, none⟩ _ _ h, Below.heap_setCell _ ⟨Z, 4, none⟩ _ _ h, Below.heap_setCell _ ⟨Z, 3, none⟩ _ _ h, Below.heap_setCell _ ⟨Z, 2, none⟩ _ _ h, Below.heap_setCell _ ⟨Z, 1, none⟩ _ _ h, Below.heap_setCell _ ⟨Z, 0, none⟩ _ _ h]
structure Rg (w w1 : World) (b : Nat → Prop) (G Z : Nat) (x : Nd) (f : Fr) : Prop where
  a : Ag w w1 b G x f
  z : Whole w1 Z 25 zZ
  hb : ∀ a, b a → a < w.heap.size
theorem Rg.start {w : World} {b : Nat → Prop} {x : Nd} {f : Fr} (hn : NodeIn w b x f) (hb : ∀ a, b a → a < w.heap.size) : Rg w ((w.alloc (.cells zN(x, f) 25)).alloc (.cells zZ 25)) b w.heap.size (w.heap.size + 1) x f :=
  ⟨(Ag.start hn).alloc _, by
    have := Whole.made (w.alloc (.cells zN(x, f) 25)) 25 zZ
    simpa using this, hb⟩
section
variable {w w1 w2 wf : World} {b c : Nat → Prop} {G Z : Nat} {x y : Nd} {f fy : Fr}
theorem Rg.later (h : Rg w w1 b G Z x f) (hb : Below w1.heap.size w1 w2) : Rg w w2 b G Z x f := ⟨h.a.later hb, h.z.below hb h.z.lt, h.hb⟩
theorem Rg.node (h : Rg w w1 b G (G + 1) x f) (hG : w.heap.size = G) (n : NodeIn w1 b y fy) (hf : But (G + 1) w1.heap.size w1 wf) : NodeIn wf (fun a => b a ∨ w.heap.size ≤ a) y fy :=
  (n.but hf (Nat.le_refl _) fun a ha e => by have := h.hb a ha; omega).mono fun a ha _ => .inl ha
theorem Rg.bel (h : Rg w w1 b G (G + 1) x f) (hG : w.heap.size = G) (hf : But (G + 1) w1.heap.size w1 wf) : Below w.heap.size w wf :=
  h.a.bel.trans ⟨hf.os, hf.tape, hf.output, hf.size, fun k hk => hf.block k (Nat.lt_of_lt_of_le hk h.a.bel.size) (by omega)⟩
end
/-- What a folder gives: a node, and whether it has folded. -/
def FoldPost (w : World) (b : Nat → Prop) (x : Nd) (e : Ending) (w' : World) : Prop :=
  ∃ (y : Nd) (t : Bool) (f : Fr), e = .returned (.tuple #[ndV y f, .bool t]) ∧ NodeIn w' (fun a => b a ∨ w.heap.size ≤ a) y f ∧ Below w.heap.size w w' ∧ if t = true then y = redF x else redF x = x
theorem red_seq {x p q : Nd} (h : x.kd = 14) (e : x.ks = [p, q]) : redF x = if stillF p then q else x := by
  unfold redF; rw [e, h]; rfl
theorem red_let {x p q : Nd} (h : x.kd = 8 ∨ x.kd = 9) (e : x.ks = [p, q]) : redF x = if stillF p && !occF q x.tx then q else x := by
  unfold redF; rw [e]; rcases h with h | h <;> rw [h] <;> rfl
set_option maxRecDepth 100000 in
set_option maxHeartbeats 8000000 in
theorem seq_any (x : Nd) (hw : WfN x) (h14 : x.kd = 14) (w : World) (b : Nat → Prop) (f : Fr) (hb : ∀ a, b a → a < w.heap.size) (hn : NodeIn w b x f) : Calls Try.prog 45 #[ndV x f] w (FoldPost w b x) := by
  obtain ⟨p, q, hks⟩ := hw.two (by omega)
  have HKS := Lib.hid hks
  have HRED := Lib.hid (red_seq h14 hks)
  have HPW := Lib.hid (still_any p (hw.ks p (by rw [hks]; simp)))
  clear h14 hks
  have HR : Hid (Rg w ((w.alloc (.cells zN(x, f) 25)).alloc (.cells zZ 25)) b w.heap.size (w.heap.size + 1) x f) := Rg.start hn hb
  have HW := Lib.hid hw
  unfold ndV
  go_enter Try.func45, Try.ntmps45
  go_upto_region 1 with (fail)
  generalize ((w.alloc (.cells zN(x, f) 25)).alloc (.cells zZ 25)) = w1 at *
  obtain ⟨G, hG⟩ : ∃ G, w.heap.size = G := ⟨_, rfl⟩
  have HG := Lib.hid hG
  rw [hG] at HR
  simp only [hG]
  clear hG hn hb hw
  obtain ⟨g, fp, fq, e, ⟨hgl, hgb⟩, hc0, hc1, np, nq⟩ := kids2 HR.out.a.n HKS.out
  have HC0 := Lib.hid hc0
  have HC1 := Lib.hid hc1
  have HNP := Lib.hid np
  have HNQ := Lib.hid nq
  have c5 := HR.out.a.c5
  rw [e, HKS.out] at c5
  have X5 : Hid (w1.cell? ⟨G, 5, none⟩ = some (.slice (some ⟨g, 0, none⟩) 2 f.kc)) := c5
  have X1 := Lib.hid HR.out.a.c1
  have HGZ : Hid (g ≠ G + 1) := by show _ ≠ _; have := HR.out.hb g hgb; have := HG.out; omega
  clear e hc0 hc1 np nq c5 hgb
  refine region_Z (fun W => W.cell? ⟨G, 5, none⟩ = some (.slice (some ⟨g, 0, none⟩) 2 f.kc) ∧ True ∧ C6 W g 0 1 2 3 4 5 p fp ∧ C6 W g 6 7 8 9 10 11 q fq) (fun i => false) (by kernel_rfl) ⟨X5.out, trivial, HC0.out.block rfl, HC1.out.block rfl⟩ (fun hHeld => ?_)
  ztki 0 11
  · (intro w hSw; (try dsimp only at hSw); obtain ⟨hS5, hS1, ⟨u0, u1, u2, u3, u4, u5⟩, v0, v1, v2, v3, v4, v5⟩ := hSw; go_simp; try with_reducible rfl)
  zput
  ztki 1 11
  · (intro w hSw; (try dsimp only at hSw); obtain ⟨hS5, hS1, ⟨u0, u1, u2, u3, u4, u5⟩, v0, v1, v2, v3, v4, v5⟩ := hSw; go_simp; try with_reducible rfl)
  zput
  ztki 2 11
  · (intro w hSw; (try dsimp only at hSw); obtain ⟨hS5, hS1, ⟨u0, u1, u2, u3, u4, u5⟩, v0, v1, v2, v3, v4, v5⟩ := hSw; go_simp; try with_reducible rfl)
  zput
  ztki 3 11
  · (intro w hSw; (try dsimp only at hSw); obtain ⟨hS5, hS1, ⟨u0, u1, u2, u3, u4, u5⟩, v0, v1, v2, v3, v4, v5⟩ := hSw; go_simp; try with_reducible rfl)
  zput
  ztki 4 11
  · (intro w hSw; (try dsimp only at hSw); obtain ⟨hS5, hS1, ⟨u0, u1, u2, u3, u4, u5⟩, v0, v1, v2, v3, v4, v5⟩ := hSw; go_simp; try with_reducible rfl)
  zput
  ztki 5 11
  · (intro w hSw; (try dsimp only at hSw); obtain ⟨hS5, hS1, ⟨u0, u1, u2, u3, u4, u5⟩, v0, v1, v2, v3, v4, v5⟩ := hSw; go_simp; try with_reducible rfl)
  zput
  ztki 6 11
  · (intro w hSw; (try dsimp only at hSw); obtain ⟨hS5, hS1, ⟨u0, u1, u2, u3, u4, u5⟩, v0, v1, v2, v3, v4, v5⟩ := hSw; go_simp; try with_reducible rfl)
  zput
  ztki 7 11
  · (intro w hSw; (try dsimp only at hSw); obtain ⟨hS5, hS1, ⟨u0, u1, u2, u3, u4, u5⟩, v0, v1, v2, v3, v4, v5⟩ := hSw; go_simp; try with_reducible rfl)
  zput
  zstep 8
  go_simp
  go_at_call 59
  have CS := Lib.hid (HPW.out w1.drew b fp (HNP.out.later (Below.refl _ _).drew (Nat.le_refl _)))
  unfold ndV at CS
  refine CS.out.mono ?_
  rintro e w4 ⟨rfl, b4⟩
  have B4 := Lib.hid ((Below.refl w1.heap.size w1).drew.trans b4)
  have HR4 := Lib.hid (HR.out.later B4.out)
  have HNQ4 := Lib.hid (HNQ.out.later B4.out (Nat.le_refl _))
  have X54 : Hid (w4.cell? ⟨G, 5, none⟩ = some (.slice (some ⟨g, 0, none⟩) 2 f.kc)) := (World.cell?_of_block (B4.out.block G HR.out.a.X.lt)).trans X5.out
  have HC04 := Lib.hid (HC0.out.block (B4.out.block g hgl))
  have HC14 := Lib.hid (HC1.out.block (B4.out.block g hgl))
  have hgl4 : g < w4.heap.size := Nat.lt_of_lt_of_le hgl B4.out.size
  refine hK.out _ _ (fun _ => ⟨X54.out, trivial, HC04.out, HC14.out⟩) (fun hHeld2 => ?_)
  clear hK K hHeld b4 CS HR HNQ HC0 HC1 HNP X5
  zput
  zzero w4 (G + 1) (HR4.out.z)
  zfree (HR4.out.z)
  zstep 9
  go_simp
  have HZF : Hid (Whole (zP(w4, (G + 1), q, fq)) (G + 1) 25 zN(q, fq)) := put6 HR4.out.z _ _ _ _ _ _
  have HBF : Hid (But (G + 1) w4.heap.size w4 (zP(w4, (G + 1), q, fq))) := but6 _ _ _ _ _ _ _ _
  generalize (zP(w4, (G + 1), q, fq)) = wf at *
  refine hK.out _ _ (fun _ => ⟨(World.cell?_of_block (HBF.out.block G HR4.out.a.X.lt (by omega))).trans X54.out, trivial, HC04.out.block (HBF.out.block g hgl4 HGZ.out), HC14.out.block (HBF.out.block g hgl4 HGZ.out)⟩) (fun _ => ?_)
  clear hK K
  zput
  zstep 10
  go_simp
  refine hK.out _ _ (fun _ => ⟨(World.cell?_of_block (HBF.out.block G HR4.out.a.X.lt (by omega))).trans X54.out, trivial, HC04.out.block (HBF.out.block g hgl4 HGZ.out), HC14.out.block (HBF.out.block g hgl4 HGZ.out)⟩) (fun _ => ?_)
  clear hK K
  zput
  zdone
  go_wp2_with fail
  gcells
  exact bodyPost_ret (v := .tuple #[ndV q fq, .bool (stillF p)]) (by simp [results, Try.results45, go_sem, ndV, Nd.kd, Nd.tx, Nd.nm, Nd.at_, Nd.ns, Nd.ks, fr0, nd0, g0, g1, g2, g3, g4, g5]) rfl ⟨q, (stillF p), fq, rfl, HR4.out.node HG.out HNQ4.out HBF.out, HR4.out.bel HG.out HBF.out, by rw [HRED.out]; by_cases h : stillF p = true <;> simp [h]⟩
set_option maxRecDepth 100000 in
set_option maxHeartbeats 8000000 in
theorem let_any (x : Nd) (hw : WfN x) (hwt : wtN x ≤ 100000) (h89 : x.kd = 8 ∨ x.kd = 9) (w : World) (b : Nat → Prop) (f : Fr) (hb : ∀ a, b a → a < w.heap.size) (hn : NodeIn w b x f) : Calls Try.prog 44 #[ndV x f] w (FoldPost w b x) := by
  obtain ⟨p, q, hks⟩ := hw.two (by omega)
  have HKS := Lib.hid hks
  have HRED := Lib.hid (red_let h89 hks)
  have HPW := Lib.hid (still_any p (hw.ks p (by rw [hks]; simp)))
  have HQW : Hid (WfN q) := hw.ks q (by rw [hks]; simp)
  have HQT : Hid (wtN q ≤ 100000) := Nat.le_trans (wt_kid (by rw [hks]; simp)) hwt
  clear h89 hks hwt
  have HR : Hid (Rg w ((w.alloc (.cells zN(x, f) 25)).alloc (.cells zZ 25)) b w.heap.size (w.heap.size + 1) x f) := Rg.start hn hb
  have HW := Lib.hid hw
  unfold ndV
  go_enter Try.func44, Try.ntmps44
  go_upto_region 1 with (fail)
  generalize ((w.alloc (.cells zN(x, f) 25)).alloc (.cells zZ 25)) = w1 at *
  obtain ⟨G, hG⟩ : ∃ G, w.heap.size = G := ⟨_, rfl⟩
  have HG := Lib.hid hG
  rw [hG] at HR
  simp only [hG]
  clear hG hn hb hw
  obtain ⟨g, fp, fq, e, ⟨hgl, hgb⟩, hc0, hc1, np, nq⟩ := kids2 HR.out.a.n HKS.out
  have HC0 := Lib.hid hc0
  have HC1 := Lib.hid hc1
  have HNP := Lib.hid np
  have HNQ := Lib.hid nq
  have c5 := HR.out.a.c5
  rw [e, HKS.out] at c5
  have X5 : Hid (w1.cell? ⟨G, 5, none⟩ = some (.slice (some ⟨g, 0, none⟩) 2 f.kc)) := c5
  have X1 := Lib.hid HR.out.a.c1
  have HGZ : Hid (g ≠ G + 1) := by show _ ≠ _; have := HR.out.hb g hgb; have := HG.out; omega
  clear e hc0 hc1 np nq c5 hgb
  refine region_Z (fun W => W.cell? ⟨G, 5, none⟩ = some (.slice (some ⟨g, 0, none⟩) 2 f.kc) ∧ W.cell? ⟨G, 1, none⟩ = some (.string ⟨x.tx.toArray⟩) ∧ C6 W g 0 1 2 3 4 5 p fp ∧ C6 W g 6 7 8 9 10 11 q fq) (fun i => false) (by kernel_rfl) ⟨X5.out, X1.out, HC0.out.block rfl, HC1.out.block rfl⟩ (fun hHeld => ?_)
  ztki 0 22
  · (intro w hSw; (try dsimp only at hSw); obtain ⟨hS5, hS1, ⟨u0, u1, u2, u3, u4, u5⟩, v0, v1, v2, v3, v4, v5⟩ := hSw; go_simp; try with_reducible rfl)
  zput
  ztki 1 22
  · (intro w hSw; (try dsimp only at hSw); obtain ⟨hS5, hS1, ⟨u0, u1, u2, u3, u4, u5⟩, v0, v1, v2, v3, v4, v5⟩ := hSw; go_simp; try with_reducible rfl)
  zput
  ztki 2 22
  · (intro w hSw; (try dsimp only at hSw); obtain ⟨hS5, hS1, ⟨u0, u1, u2, u3, u4, u5⟩, v0, v1, v2, v3, v4, v5⟩ := hSw; go_simp; try with_reducible rfl)
  zput
  ztki 3 22
  · (intro w hSw; (try dsimp only at hSw); obtain ⟨hS5, hS1, ⟨u0, u1, u2, u3, u4, u5⟩, v0, v1, v2, v3, v4, v5⟩ := hSw; go_simp; try with_reducible rfl)
  zput
  ztki 4 22
  · (intro w hSw; (try dsimp only at hSw); obtain ⟨hS5, hS1, ⟨u0, u1, u2, u3, u4, u5⟩, v0, v1, v2, v3, v4, v5⟩ := hSw; go_simp; try with_reducible rfl)
  zput
  ztki 5 22
  · (intro w hSw; (try dsimp only at hSw); obtain ⟨hS5, hS1, ⟨u0, u1, u2, u3, u4, u5⟩, v0, v1, v2, v3, v4, v5⟩ := hSw; go_simp; try with_reducible rfl)
  zput
  ztki 6 22
  · (intro w hSw; (try dsimp only at hSw); obtain ⟨hS5, hS1, ⟨u0, u1, u2, u3, u4, u5⟩, v0, v1, v2, v3, v4, v5⟩ := hSw; go_simp; try with_reducible rfl)
  zput
  ztki 7 22
  · (intro w hSw; (try dsimp only at hSw); obtain ⟨hS5, hS1, ⟨u0, u1, u2, u3, u4, u5⟩, v0, v1, v2, v3, v4, v5⟩ := hSw; go_simp; try with_reducible rfl)
  zput
  zstep 8
  go_simp
  go_at_call 59
  have CS := Lib.hid (HPW.out w1.drew b fp (HNP.out.later (Below.refl _ _).drew (Nat.le_refl _)))
  unfold ndV at CS
  refine CS.out.mono ?_
  rintro e w4 ⟨rfl, b4⟩
  have B4 := Lib.hid ((Below.refl w1.heap.size w1).drew.trans b4)
  have HR4 := Lib.hid (HR.out.later B4.out)
  have HNQ4 := Lib.hid (HNQ.out.later B4.out (Nat.le_refl _))
  have X54 : Hid (w4.cell? ⟨G, 5, none⟩ = some (.slice (some ⟨g, 0, none⟩) 2 f.kc)) := (World.cell?_of_block (B4.out.block G HR.out.a.X.lt)).trans X5.out
  have X14 : Hid (w4.cell? ⟨G, 1, none⟩ = some (.string ⟨x.tx.toArray⟩)) := (World.cell?_of_block (B4.out.block G HR.out.a.X.lt)).trans X1.out
  have HC04 := Lib.hid (HC0.out.block (B4.out.block g hgl))
  have HC14 := Lib.hid (HC1.out.block (B4.out.block g hgl))
  have hgl4 : g < w4.heap.size := Nat.lt_of_lt_of_le hgl B4.out.size
  refine hK.out _ _ (fun _ => ⟨X54.out, X14.out, HC04.out, HC14.out⟩) (fun hHeld2 => ?_)
  replace hHeld2 := hHeld2 rfl
  clear hK K hHeld b4 CS HR HNQ HC0 HC1 HNP X5 X1 B4
  obtain ⟨sb, hsb⟩ : ∃ sb, stillF p = sb := ⟨_, rfl⟩
  rw [hsb] at HRED ⊢
  clear hsb
  zput
  rcases sb with _ | _
  · have HRD : Hid (redF x = x) := HRED.out
    ztki 9 22
    · (intro w hSw; (try dsimp only at hSw); obtain ⟨hS5, hS1, ⟨u0, u1, u2, u3, u4, u5⟩, v0, v1, v2, v3, v4, v5⟩ := hSw; go_simp; try with_reducible rfl)
    zput
    refine anyZ_take (i := 10) (v := undef) rfl (by kernel_rfl) (by kernel_rfl) (by kernel_rfl) (by kernel_rfl) (by kernel_rfl) (fun k hk => by have hk2 : 22 ≤ k := hk; rfl) (fun _ _ _ h => h) (Or.inr ⟨by rfl, rfl⟩) (by assumption) ?_
    zput
    refine anyZ_take (i := 11) (v := undef) rfl (by kernel_rfl) (by kernel_rfl) (by kernel_rfl) (by kernel_rfl) (by kernel_rfl) (fun k hk => by have hk2 : 22 ≤ k := hk; rfl) (fun _ _ _ h => h) (Or.inr ⟨by rfl, rfl⟩) (by assumption) ?_
    zput
    refine anyZ_take (i := 12) (v := undef) rfl (by kernel_rfl) (by kernel_rfl) (by kernel_rfl) (by kernel_rfl) (by kernel_rfl) (fun k hk => by have hk2 : 22 ≤ k := hk; rfl) (fun _ _ _ h => h) (Or.inr ⟨by rfl, rfl⟩) (by assumption) ?_
    zput
    refine anyZ_take (i := 13) (v := undef) rfl (by kernel_rfl) (by kernel_rfl) (by kernel_rfl) (by kernel_rfl) (by kernel_rfl) (fun k hk => by have hk2 : 22 ≤ k := hk; rfl) (fun _ _ _ h => h) (Or.inr ⟨by rfl, rfl⟩) (by assumption) ?_
    zput
    refine anyZ_take (i := 14) (v := undef) rfl (by kernel_rfl) (by kernel_rfl) (by kernel_rfl) (by kernel_rfl) (by kernel_rfl) (fun k hk => by have hk2 : 22 ≤ k := hk; rfl) (fun _ _ _ h => h) (Or.inr ⟨by rfl, rfl⟩) (by assumption) ?_
    zput
    refine anyZ_take (i := 15) (v := undef) rfl (by kernel_rfl) (by kernel_rfl) (by kernel_rfl) (by kernel_rfl) (by kernel_rfl) (fun k hk => by have hk2 : 22 ≤ k := hk; rfl) (fun _ _ _ h => h) (Or.inr ⟨by rfl, rfl⟩) (by assumption) ?_
    zput
    refine anyZ_take (i := 16) (v := undef) rfl (by kernel_rfl) (by kernel_rfl) (by kernel_rfl) (by kernel_rfl) (by kernel_rfl) (fun k hk => by have hk2 : 22 ≤ k := hk; rfl) (fun _ _ _ h => h) (Or.inr ⟨by rfl, rfl⟩) (by assumption) ?_
    zput
    refine anyZ_take (i := 17) (v := undef) rfl (by kernel_rfl) (by kernel_rfl) (by kernel_rfl) (by kernel_rfl) (by kernel_rfl) (fun k hk => by have hk2 : 22 ≤ k := hk; rfl) (fun _ _ _ h => h) (Or.inr ⟨by rfl, rfl⟩) (by assumption) ?_
    zput
    refine anyZ_take (i := 18) (v := undef) rfl (by kernel_rfl) (by kernel_rfl) (by kernel_rfl) (by kernel_rfl) (by kernel_rfl) (fun k hk => by have hk2 : 22 ≤ k := hk; rfl) (fun _ _ _ h => h) (Or.inr ⟨by rfl, rfl⟩) (by assumption) ?_
    zput
    ztki 19 22
    · (intro w hSw; (try dsimp only at hSw); obtain ⟨hS5, hS1, ⟨u0, u1, u2, u3, u4, u5⟩, v0, v1, v2, v3, v4, v5⟩ := hSw; go_simp; try with_reducible rfl)
    zput
    zzero w4 (G + 1) (HR4.out.z)
    zfree (HR4.out.z)
    zstep 20
    go_simp
    have HZF : Hid (Whole (zP(w4, (G + 1), q, fq)) (G + 1) 25 zN(q, fq)) := put6 HR4.out.z _ _ _ _ _ _
    have HBF : Hid (But (G + 1) w4.heap.size w4 (zP(w4, (G + 1), q, fq))) := but6 _ _ _ _ _ _ _ _
    generalize (zP(w4, (G + 1), q, fq)) = wf at *
    refine hK.out _ _ (fun _ => ⟨(World.cell?_of_block (HBF.out.block G HR4.out.a.X.lt (by omega))).trans X54.out, (World.cell?_of_block (HBF.out.block G HR4.out.a.X.lt (by omega))).trans X14.out, HC04.out.block (HBF.out.block g hgl4 HGZ.out), HC14.out.block (HBF.out.block g hgl4 HGZ.out)⟩) (fun _ => ?_)
    clear hK K
    zput
    zstep 21
    go_simp
    refine hK.out _ _ (fun _ => ⟨(World.cell?_of_block (HBF.out.block G HR4.out.a.X.lt (by omega))).trans X54.out, (World.cell?_of_block (HBF.out.block G HR4.out.a.X.lt (by omega))).trans X14.out, HC04.out.block (HBF.out.block g hgl4 HGZ.out), HC14.out.block (HBF.out.block g hgl4 HGZ.out)⟩) (fun _ => ?_)
    clear hK K
    zput
    zdone
    go_wp2_with fail
    gcells
    exact bodyPost_ret (v := .tuple #[ndV q fq, .bool false]) (by simp [results, Try.results44, go_sem, ndV, Nd.kd, Nd.tx, Nd.nm, Nd.at_, Nd.ns, Nd.ks, fr0, nd0, g0, g1, g2, g3, g4, g5]) rfl ⟨q, false, fq, rfl, HR4.out.node HG.out HNQ4.out HBF.out, HR4.out.bel HG.out HBF.out, by simp [HRD.out]⟩
  · have HRD : Hid (redF x = if !occF q x.tx then q else x) := by show _ = _; rw [HRED.out]; simp
    obtain ⟨M, hM⟩ : ∃ M, freeF q [] [] = M := ⟨_, rfl⟩
    have HOC : Hid (hasB M x.tx = occF q x.tx) := by show _ = _; rw [← hM]; exact free_occ HQW.out x.tx
    have HML : Hid (M.length ≤ 100000) := by
      have h1 := freeF_len q [] []
      have h2 := HQT.out
      show _ ≤ _
      rw [hM] at h1
      simp only [List.length_nil] at h1; omega
    have CF := Lib.hid (frees_any q HQW.out HQT.out w4 b fq (fun a ha => Nat.lt_of_lt_of_le (HR4.out.hb a ha) HR4.out.a.bel.size) HNQ4.out)
    rw [hM] at CF
    unfold ndV at CF
    clear hM
    ztki 9 22
    · (intro w hSw; (try dsimp only at hSw); obtain ⟨hS5, hS1, ⟨u0, u1, u2, u3, u4, u5⟩, v0, v1, v2, v3, v4, v5⟩ := hSw; go_simp; try with_reducible rfl)
    zput
    ztki 10 22
    · (intro w hSw; (try dsimp only at hSw); obtain ⟨hS5, hS1, ⟨u0, u1, u2, u3, u4, u5⟩, v0, v1, v2, v3, v4, v5⟩ := hSw; go_simp; try with_reducible rfl)
    zput
    ztki 11 22
    · (intro w hSw; (try dsimp only at hSw); obtain ⟨hS5, hS1, ⟨u0, u1, u2, u3, u4, u5⟩, v0, v1, v2, v3, v4, v5⟩ := hSw; go_simp; try with_reducible rfl)
    zput
    ztki 12 22
    · (intro w hSw; (try dsimp only at hSw); obtain ⟨hS5, hS1, ⟨u0, u1, u2, u3, u4, u5⟩, v0, v1, v2, v3, v4, v5⟩ := hSw; go_simp; try with_reducible rfl)
    zput
    ztki 13 22
    · (intro w hSw; (try dsimp only at hSw); obtain ⟨hS5, hS1, ⟨u0, u1, u2, u3, u4, u5⟩, v0, v1, v2, v3, v4, v5⟩ := hSw; go_simp; try with_reducible rfl)
    zput
    ztki 15 22
    · (intro w hSw; (try dsimp only at hSw); obtain ⟨hS5, hS1, ⟨u0, u1, u2, u3, u4, u5⟩, v0, v1, v2, v3, v4, v5⟩ := hSw; go_simp; try with_reducible rfl)
    zput
    ztki 16 22
    · (intro w hSw; (try dsimp only at hSw); obtain ⟨hS5, hS1, ⟨u0, u1, u2, u3, u4, u5⟩, v0, v1, v2, v3, v4, v5⟩ := hSw; go_simp; try with_reducible rfl)
    zput
    zstep 14
    go_simp
    go_at_call 13
    refine CF.out.mono ?_
    rintro e w5 ⟨A9, k9, rfl, ho5, b5⟩
    have HO5 := Lib.hid ho5
    have B5 := Lib.hid b5
    have HR5 := Lib.hid (HR4.out.later b5)
    have HNQ5 := Lib.hid (HNQ4.out.later b5 (Nat.le_refl _))
    have X55 : Hid (w5.cell? ⟨G, 5, none⟩ = some (.slice (some ⟨g, 0, none⟩) 2 f.kc)) := (World.cell?_of_block (b5.block G HR4.out.a.X.lt)).trans X54.out
    have X15 : Hid (w5.cell? ⟨G, 1, none⟩ = some (.string ⟨x.tx.toArray⟩)) := (World.cell?_of_block (b5.block G HR4.out.a.X.lt)).trans X14.out
    have HC05 := Lib.hid (HC04.out.block (b5.block g hgl4))
    have HC15 := Lib.hid (HC14.out.block (b5.block g hgl4))
    have hgl5 : g < w5.heap.size := Nat.lt_of_lt_of_le hgl4 b5.size
    have CC := Lib.hid (contains_any M HML.out x.tx w5 _ A9 k9 (own_str ho5.row))
    refine hK.out _ _ (fun _ => ⟨X55.out, X15.out, HC05.out, HC15.out⟩) (fun hHeld3 => ?_)
    replace hHeld3 := hHeld3 rfl
    clear hK K hHeld2 b5 ho5 CF HR4 HNQ4 HC04 HC14 X54 X14 B5 hgl4
    zput
    zstep 17
    go_simp
    go_at_call 47
    refine CC.out.mono ?_
    rintro e w6 ⟨rfl, b6⟩
    have HR6 := Lib.hid (HR5.out.later b6)
    have HNQ6 := Lib.hid (HNQ5.out.later b6 (Nat.le_refl _))
    have X56 : Hid (w6.cell? ⟨G, 5, none⟩ = some (.slice (some ⟨g, 0, none⟩) 2 f.kc)) := (World.cell?_of_block (b6.block G HR5.out.a.X.lt)).trans X55.out
    have X16 : Hid (w6.cell? ⟨G, 1, none⟩ = some (.string ⟨x.tx.toArray⟩)) := (World.cell?_of_block (b6.block G HR5.out.a.X.lt)).trans X15.out
    have HC06 := Lib.hid (HC05.out.block (b6.block g hgl5))
    have HC16 := Lib.hid (HC15.out.block (b6.block g hgl5))
    refine hK.out _ _ (fun _ => ⟨X56.out, X16.out, HC06.out, HC16.out⟩) (fun hHeld4 => ?_)
    replace hHeld4 := hHeld4 rfl
    have hgl6 : g < w6.heap.size := Nat.lt_of_lt_of_le hgl5 b6.size
    clear hK K hHeld3 b6 CC HR5 HNQ5 HC05 HC15 X55 X15 hgl5
    obtain ⟨hb, hhb⟩ : ∃ hb, hasB M x.tx = hb := ⟨_, rfl⟩
    rw [hhb] at HOC ⊢
    clear hhb
    zput
    ztki 18 22
    · (intro w hSw; (try dsimp only at hSw); obtain ⟨hS5, hS1, ⟨u0, u1, u2, u3, u4, u5⟩, v0, v1, v2, v3, v4, v5⟩ := hSw; go_simp; try with_reducible rfl)
    zput
    ztki 19 22
    · (intro w hSw; (try dsimp only at hSw); obtain ⟨hS5, hS1, ⟨u0, u1, u2, u3, u4, u5⟩, v0, v1, v2, v3, v4, v5⟩ := hSw; go_simp; try with_reducible rfl)
    zput
    zzero w6 (G + 1) (HR6.out.z)
    zfree (HR6.out.z)
    zstep 20
    go_simp
    have HZF : Hid (Whole (zP(w6, (G + 1), q, fq)) (G + 1) 25 zN(q, fq)) := put6 HR6.out.z _ _ _ _ _ _
    have HBF : Hid (But (G + 1) w6.heap.size w6 (zP(w6, (G + 1), q, fq))) := but6 _ _ _ _ _ _ _ _
    generalize (zP(w6, (G + 1), q, fq)) = wf at *
    refine hK.out _ _ (fun _ => ⟨(World.cell?_of_block (HBF.out.block G HR6.out.a.X.lt (by omega))).trans X56.out, (World.cell?_of_block (HBF.out.block G HR6.out.a.X.lt (by omega))).trans X16.out, HC06.out.block (HBF.out.block g hgl6 HGZ.out), HC16.out.block (HBF.out.block g hgl6 HGZ.out)⟩) (fun _ => ?_)
    clear hK K
    zput
    zstep 21
    go_simp
    refine hK.out _ _ (fun _ => ⟨(World.cell?_of_block (HBF.out.block G HR6.out.a.X.lt (by omega))).trans X56.out, (World.cell?_of_block (HBF.out.block G HR6.out.a.X.lt (by omega))).trans X16.out, HC06.out.block (HBF.out.block g hgl6 HGZ.out), HC16.out.block (HBF.out.block g hgl6 HGZ.out)⟩) (fun _ => ?_)
    clear hK K
    zput
    zdone
    go_wp2_with fail
    gcells
    exact bodyPost_ret (v := .tuple #[ndV q fq, .bool (!hb)]) (by simp [results, Try.results44, go_sem, ndV, Nd.kd, Nd.tx, Nd.nm, Nd.at_, Nd.ns, Nd.ks, fr0, nd0, g0, g1, g2, g3, g4, g5]) rfl ⟨q, (!hb), fq, rfl, HR6.out.node HG.out HNQ6.out HBF.out, HR6.out.bel HG.out HBF.out, by rw [HRD.out, ← HOC.out]; cases hb <;> simp⟩
end Go.Proofs.Ytgjchgmlogbmmaa
/- The walks of layer 11: texts joined, truths, a branch. -/
namespace Go.Proofs.Ytgjchgmlogbmmaa
open Go.RowKit
set_option linter.unusedVariables false
set_option linter.unusedSimpArgs false
attribute [local go_sem ↓] Go.wp_at_zero Go.wp_at_succ

theorem red_if {x p q r : Nd} (h : x.kd = 10) (e : x.ks = [p, q, r]) : redF x = if p.kd == 5 && p.ks.isEmpty && p.tx == [84, 114, 117, 101] then q else if p.kd == 5 && p.ks.isEmpty && p.tx == [70, 97, 108, 115, 101] then r else x := by
  unfold redF; rw [e, h]; rfl
set_option maxRecDepth 100000 in
set_option maxHeartbeats 8000000 in
theorem branch_any (x : Nd) (hw : WfN x) (h10 : x.kd = 10) (w : World) (b : Nat → Prop) (f : Fr) (hb : ∀ a, b a → a < w.heap.size) (hn : NodeIn w b x f) : Calls Try.prog 43 #[ndV x f] w (FoldPost w b x) := by
  obtain ⟨p, q, r, hks⟩ := hw.three h10
  have HKS := Lib.hid hks
  have HRED := Lib.hid (red_if h10 hks)
  clear h10 hks
  have HR : Hid (Rg w ((w.alloc (.cells zN(x, f) 25)).alloc (.cells zZ 25)) b w.heap.size (w.heap.size + 1) x f) := Rg.start hn hb
  have HW := Lib.hid hw
  unfold ndV
  go_enter Try.func43, Try.ntmps43
  go_upto_region 1 with (fail)
  generalize ((w.alloc (.cells zN(x, f) 25)).alloc (.cells zZ 25)) = w1 at *
  obtain ⟨G, hG⟩ : ∃ G, w.heap.size = G := ⟨_, rfl⟩
  have HG := Lib.hid hG
  rw [hG] at HR
  simp only [hG]
  clear hG hn hb hw
  obtain ⟨g, fp, fq, fr, e, ⟨hgl, hgb⟩, hc0, hc1, hc2, np, nq, nr⟩ := kids3 HR.out.a.n HKS.out
  have HC0 := Lib.hid hc0
  have HC1 := Lib.hid hc1
  have HC2 := Lib.hid hc2
  have HNQ := Lib.hid nq
  have HNR := Lib.hid nr
  have c5 := HR.out.a.c5
  rw [e, HKS.out] at c5
  have X5 : Hid (w1.cell? ⟨G, 5, none⟩ = some (.slice (some ⟨g, 0, none⟩) 3 f.kc)) := c5
  clear e hc0 hc1 hc2 np nq nr hgb c5
  have c5 := X5.out
  obtain ⟨k0, k1, k2, k3, k4, k5⟩ := HC0.out
  go_upto_region 2 with (fail)
  clear k0 k1 k2 k3 k4 k5 c5
  have HBL : Hid (Below w1.heap.size w1 (w1.alloc (.cells zN(p, fp) 25))) := (Below.refl _ _).alloc (Nat.le_refl _) _
  have HKB : Hid (Whole (w1.alloc (.cells zN(p, fp) 25)) w1.heap.size 25 (ndL p fp).toArray) := Whole.made _ _ _
  generalize w1.alloc (.cells zN(p, fp) 25) = w2 at *
  have HR2 := Lib.hid (HR.out.later HBL.out)
  have X52 : Hid (w2.cell? ⟨G, 5, none⟩ = some (.slice (some ⟨g, 0, none⟩) 3 f.kc)) := (World.cell?_of_block (HBL.out.block G HR.out.a.X.lt)).trans X5.out
  have HC12 := Lib.hid (HC1.out.block (HBL.out.block g hgl))
  have HC22 := Lib.hid (HC2.out.block (HBL.out.block g hgl))
  have HNQ2 := Lib.hid (HNQ.out.later HBL.out (Nat.le_refl _))
  have HNR2 := Lib.hid (HNR.out.later HBL.out (Nat.le_refl _))
  clear HR HC0 HC1 HC2 HNQ HNR X5 HBL hgl
  generalize w1.heap.size = KB at *
  have d0 : w2.cell? ⟨KB, 0, none⟩ = some (.int .i64 p.kd) := HKB.out.cell 0
  have d1 : w2.cell? ⟨KB, 1, none⟩ = some (.string ⟨p.tx.toArray⟩) := HKB.out.cell 1
  have d5 : w2.cell? ⟨KB, 5, none⟩ = some (.slice fp.ka p.ks.length fp.kc) := HKB.out.cell 5
  by_cases h5 : p.kd = 5
  · have q5 : (p.kd == 5) = true := beq_iff_eq.2 h5
    rw [q5] at HRED
    rw [h5] at d0
    clear h5 q5
    by_cases hl : 0 < p.ks.length
    · have HRD : Hid (redF x = x) := by
        show _ = _
        have : p.ks.isEmpty = false := by cases hp : p.ks with
          | nil => rw [hp] at hl; simp at hl
          | cons a l => rfl
        rw [HRED.out, this]; rfl
      clear HRED
      have n0 : w2.cell? ⟨G, 0, none⟩ = some (.int .i64 x.kd) := HR2.out.a.X.cell 0
      have n1 : w2.cell? ⟨G, 1, none⟩ = some (.string ⟨x.tx.toArray⟩) := HR2.out.a.X.cell 1
      have n2 : w2.cell? ⟨G, 2, none⟩ = some (.int .i64 x.nm) := HR2.out.a.X.cell 2
      have n3 : w2.cell? ⟨G, 3, none⟩ = some (.int .i64 (x.at_ : Int)) := HR2.out.a.X.cell 3
      have n4 : w2.cell? ⟨G, 4, none⟩ = some (.slice f.na x.ns.length f.nc) := HR2.out.a.X.cell 4
      have n5 : w2.cell? ⟨G, 5, none⟩ = some (.slice f.ka x.ks.length f.kc) := HR2.out.a.X.cell 5
      zzero w2 (G + 1) (HR2.out.z)
      zfree (HR2.out.z)
      go_wp2_with fail
      have HZF : Hid (Whole (zP(w2, (G + 1), x, f)) (G + 1) 25 zN(x, f)) := put6 HR2.out.z _ _ _ _ _ _
      have HBF : Hid (But (G + 1) w2.heap.size w2 (zP(w2, (G + 1), x, f))) := but6 _ _ _ _ _ _ _ _
      generalize (zP(w2, (G + 1), x, f)) = wf at *
      gcells
      exact bodyPost_ret (v := .tuple #[ndV x f, .bool false]) (by simp [results, Try.results43, go_sem, ndV, Nd.kd, Nd.tx, Nd.nm, Nd.at_, Nd.ns, Nd.ks, fr0, nd0, g0, g1, g2, g3, g4, g5]) rfl ⟨x, false, f, rfl, HR2.out.node HG.out HR2.out.a.n HBF.out, HR2.out.bel HG.out HBF.out, by simp [HRD.out]⟩
    · have hz : p.ks = [] := List.length_eq_zero_iff.1 (by omega)
      rw [hz] at HRED
      have hl2 : p.ks.length = 0 := by rw [hz]; rfl
      rw [hl2] at d5
      clear hz hl hl2
      by_cases ht : p.tx = [84, 114, 117, 101]
      · have HRD : Hid (redF x = q) := by show _ = _; rw [HRED.out, ht]; rfl
        rw [ht] at d1
        clear ht HRED
        have c5 := X52.out
        obtain ⟨k0, k1, k2, k3, k4, k5⟩ := HC12.out
        zzero w2 (G + 1) (HR2.out.z)
        zfree (HR2.out.z)
        go_wp2_with fail
        have HZF : Hid (Whole (zP(w2, (G + 1), q, fq)) (G + 1) 25 zN(q, fq)) := put6 HR2.out.z _ _ _ _ _ _
        have HBF : Hid (But (G + 1) w2.heap.size w2 (zP(w2, (G + 1), q, fq))) := but6 _ _ _ _ _ _ _ _
        generalize (zP(w2, (G + 1), q, fq)) = wf at *
        gcells
        exact bodyPost_ret (v := .tuple #[ndV q fq, .bool true]) (by simp [results, Try.results43, go_sem, ndV, Nd.kd, Nd.tx, Nd.nm, Nd.at_, Nd.ns, Nd.ks, fr0, nd0, g0, g1, g2, g3, g4, g5]) rfl ⟨q, true, fq, rfl, HR2.out.node HG.out HNQ2.out HBF.out, HR2.out.bel HG.out HBF.out, by simp [HRD.out]⟩
      · by_cases hf : p.tx = [70, 97, 108, 115, 101]
        · have HRD : Hid (redF x = r) := by show _ = _; rw [HRED.out, hf]; rfl
          rw [hf] at d1
          clear ht hf HRED
          have c5 := X52.out
          obtain ⟨k0, k1, k2, k3, k4, k5⟩ := HC22.out
          zzero w2 (G + 1) (HR2.out.z)
          zfree (HR2.out.z)
          go_wp2_with fail
          have HZF : Hid (Whole (zP(w2, (G + 1), r, fr)) (G + 1) 25 zN(r, fr)) := put6 HR2.out.z _ _ _ _ _ _
          have HBF : Hid (But (G + 1) w2.heap.size w2 (zP(w2, (G + 1), r, fr))) := but6 _ _ _ _ _ _ _ _
          generalize (zP(w2, (G + 1), r, fr)) = wf at *
          gcells
          exact bodyPost_ret (v := .tuple #[ndV r fr, .bool true]) (by simp [results, Try.results43, go_sem, ndV, Nd.kd, Nd.tx, Nd.nm, Nd.at_, Nd.ns, Nd.ks, fr0, nd0, g0, g1, g2, g3, g4, g5]) rfl ⟨r, true, fr, rfl, HR2.out.node HG.out HNR2.out HBF.out, HR2.out.bel HG.out HBF.out, by simp [HRD.out]⟩
        · have e1 : (p.tx == [84, 114, 117, 101]) = false := beq_eq_false_iff_ne.2 ht
          have e2 : (p.tx == [70, 97, 108, 115, 101]) = false := beq_eq_false_iff_ne.2 hf
          have HRD : Hid (redF x = x) := by show _ = _; rw [HRED.out, e1, e2]; rfl
          clear ht hf HRED
          have n0 : w2.cell? ⟨G, 0, none⟩ = some (.int .i64 x.kd) := HR2.out.a.X.cell 0
          have n1 : w2.cell? ⟨G, 1, none⟩ = some (.string ⟨x.tx.toArray⟩) := HR2.out.a.X.cell 1
          have n2 : w2.cell? ⟨G, 2, none⟩ = some (.int .i64 x.nm) := HR2.out.a.X.cell 2
          have n3 : w2.cell? ⟨G, 3, none⟩ = some (.int .i64 (x.at_ : Int)) := HR2.out.a.X.cell 3
          have n4 : w2.cell? ⟨G, 4, none⟩ = some (.slice f.na x.ns.length f.nc) := HR2.out.a.X.cell 4
          have n5 : w2.cell? ⟨G, 5, none⟩ = some (.slice f.ka x.ks.length f.kc) := HR2.out.a.X.cell 5
          zzero w2 (G + 1) (HR2.out.z)
          zfree (HR2.out.z)
          go_wp2_with fail
          have HZF : Hid (Whole (zP(w2, (G + 1), x, f)) (G + 1) 25 zN(x, f)) := put6 HR2.out.z _ _ _ _ _ _
          have HBF : Hid (But (G + 1) w2.heap.size w2 (zP(w2, (G + 1), x, f))) := but6 _ _ _ _ _ _ _ _
          generalize (zP(w2, (G + 1), x, f)) = wf at *
          gcells
          exact bodyPost_ret (v := .tuple #[ndV x f, .bool false]) (by simp [results, Try.results43, go_sem, ndV, Nd.kd, Nd.tx, Nd.nm, Nd.at_, Nd.ns, Nd.ks, fr0, nd0, g0, g1, g2, g3, g4, g5]) rfl ⟨x, false, f, rfl, HR2.out.node HG.out HR2.out.a.n HBF.out, HR2.out.bel HG.out HBF.out, by simp [HRD.out]⟩
  · have q5 : (p.kd == 5) = false := beq_eq_false_iff_ne.2 h5
    have HRD : Hid (redF x = x) := by show _ = _; rw [HRED.out, q5]; rfl
    have q5n : (p.kd != 5) = true := bne_iff_ne.2 h5
    clear h5 HRED
    have n0 : w2.cell? ⟨G, 0, none⟩ = some (.int .i64 x.kd) := HR2.out.a.X.cell 0
    have n1 : w2.cell? ⟨G, 1, none⟩ = some (.string ⟨x.tx.toArray⟩) := HR2.out.a.X.cell 1
    have n2 : w2.cell? ⟨G, 2, none⟩ = some (.int .i64 x.nm) := HR2.out.a.X.cell 2
    have n3 : w2.cell? ⟨G, 3, none⟩ = some (.int .i64 (x.at_ : Int)) := HR2.out.a.X.cell 3
    have n4 : w2.cell? ⟨G, 4, none⟩ = some (.slice f.na x.ns.length f.nc) := HR2.out.a.X.cell 4
    have n5 : w2.cell? ⟨G, 5, none⟩ = some (.slice f.ka x.ks.length f.kc) := HR2.out.a.X.cell 5
    zzero w2 (G + 1) (HR2.out.z)
    zfree (HR2.out.z)
    go_wp2_with fail
    have HZF : Hid (Whole (zP(w2, (G + 1), x, f)) (G + 1) 25 zN(x, f)) := put6 HR2.out.z _ _ _ _ _ _
    have HBF : Hid (But (G + 1) w2.heap.size w2 (zP(w2, (G + 1), x, f))) := but6 _ _ _ _ _ _ _ _
    generalize (zP(w2, (G + 1), x, f)) = wf at *
    gcells
    exact bodyPost_ret (v := .tuple #[ndV x f, .bool false]) (by simp [results, Try.results43, go_sem, ndV, Nd.kd, Nd.tx, Nd.nm, Nd.at_, Nd.ns, Nd.ks, fr0, nd0, g0, g1, g2, g3, g4, g5]) rfl ⟨x, false, f, rfl, HR2.out.node HG.out HR2.out.a.n HBF.out, HR2.out.bel HG.out HBF.out, by simp [HRD.out]⟩
end Go.Proofs.Ytgjchgmlogbmmaa
/- The walks of layer 11: texts joined, truths. -/
namespace Go.Proofs.Ytgjchgmlogbmmaa
open Go.RowKit
set_option linter.unusedVariables false
set_option linter.unusedSimpArgs false
attribute [local go_sem ↓] Go.wp_at_zero Go.wp_at_succ

theorem bytes_app (a c : List UInt8) : (ByteArray.mk a.toArray ++ ByteArray.mk c.toArray) = ⟨(a ++ c).toArray⟩ := by
  apply ByteArray.ext
  rw [ByteArray.data_append]
  simp
theorem bytes_size (a : List UInt8) : (ByteArray.mk a.toArray).size = a.length := by simp [ByteArray.size]
set_option maxHeartbeats 1000000 in
theorem join_in (a c : List UInt8) (w : World) (h : a.length + c.length ≤ 60) :
    Calls Try.prog 56 #[.string ⟨a.toArray⟩, .string ⟨c.toArray⟩] w fun e w' => e = .returned (.tuple #[.string ⟨(a ++ c).toArray⟩, .int .i64 0]) ∧ w = w' := by
  rw [← bytes_app]
  have s1 := bytes_size a
  have s2 := bytes_size c
  generalize ByteArray.mk a.toArray = A at *
  generalize ByteArray.mk c.toArray = B at *
  rw [← s1, ← s2] at h
  clear s1 s2
  have h1 : (A.size : Int) ≤ 60 := by omega
  have h2 : (B.size : Int) ≤ 60 - A.size := by omega
  go_enter Try.func56, Try.ntmps56
  go_wp2
  go_ret2
  exact ⟨rfl, rfl⟩
set_option maxHeartbeats 1000000 in
theorem join_out (a c : List UInt8) (w : World) (ha : a.length ≤ 60) (hc : c.length ≤ 60) (h : 60 < a.length + c.length) :
    Calls Try.prog 56 #[.string ⟨a.toArray⟩, .string ⟨c.toArray⟩] w fun e w' => e = .returned (.tuple #[.string ⟨#[]⟩, .int .i64 12]) ∧ w = w' := by
  have s1 := bytes_size a
  have s2 := bytes_size c
  generalize ByteArray.mk a.toArray = A at *
  generalize ByteArray.mk c.toArray = B at *
  rw [← s1] at ha
  rw [← s2] at hc
  rw [← s1, ← s2] at h
  clear s1 s2
  have h1 : (A.size : Int) ≤ 60 := by omega
  have h2 : 60 - (A.size : Int) < B.size := by omega
  go_enter Try.func56, Try.ntmps56
  go_wp2
  go_ret2
  exact ⟨rfl, rfl⟩
set_option maxHeartbeats 1000000 in
theorem truth0 (w : World) (k : Nat) : Calls Try.prog 58 #[.int .i64 (k : Int), .int .i64 0] w fun e w' => e = .returned (ndV (.mk 5 [70, 97, 108, 115, 101] 0 k [] []) fr0) ∧ Below w.heap.size w w' := by
  have HZF : Hid (Whole ((w.alloc (.cells #[.int .i64 5, .string ⟨#[70, 97, 108, 115, 101]⟩, .int .i64 0, .int .i64 (k : Int), .slice none 0 0, .slice none 0 0] 25)).alloc (.cells #[.string ⟨#[70, 97, 108, 115, 101]⟩, .string ⟨#[84, 114, 117, 101]⟩] 9)) w.heap.size 25 #[.int .i64 5, .string ⟨#[70, 97, 108, 115, 101]⟩, .int .i64 0, .int .i64 (k : Int), .slice none 0 0, .slice none 0 0]) := (Whole.made w 25 _).alloc _
  have HB : Hid (Below w.heap.size w ((w.alloc (.cells #[.int .i64 5, .string ⟨#[70, 97, 108, 115, 101]⟩, .int .i64 0, .int .i64 (k : Int), .slice none 0 0, .slice none 0 0] 25)).alloc (.cells #[.string ⟨#[70, 97, 108, 115, 101]⟩, .string ⟨#[84, 114, 117, 101]⟩] 9))) := ((Below.refl _ _).alloc (Nat.le_refl _) _).alloc (by simp) _
  have z0 : ((w.alloc (.cells zZ 25)).alloc (.cells #[.string ⟨#[70, 97, 108, 115, 101]⟩, .string ⟨#[84, 114, 117, 101]⟩] 9)).cell? ⟨w.heap.size + 1, 0, none⟩ = some (.string ⟨([70, 97, 108, 115, 101] : List UInt8).toArray⟩) := by
    have := (Whole.made (w.alloc (.cells zZ 25)) 9 #[.string ⟨#[70, 97, 108, 115, 101]⟩, .string ⟨#[84, 114, 117, 101]⟩]).cell 0
    simpa using this
  go_enter Try.func58, Try.ntmps58
  go_upto_region 1 with (fail)
  go_wp2_with fail
  generalize (w.alloc (.cells #[.int .i64 5, .string ⟨#[70, 97, 108, 115, 101]⟩, .int .i64 0, .int .i64 (k : Int), .slice none 0 0, .slice none 0 0] 25)).alloc (.cells #[.string ⟨#[70, 97, 108, 115, 101]⟩, .string ⟨#[84, 114, 117, 101]⟩] 9) = wf at *
  gcells
  exact bodyPost_ret (v := ndV (.mk 5 [70, 97, 108, 115, 101] 0 k [] []) fr0) (by simp [results, Try.results58, go_sem, ndV, Nd.kd, Nd.tx, Nd.nm, Nd.at_, Nd.ns, Nd.ks, fr0, g0, g1, g2, g3, g4, g5]) rfl ⟨rfl, HB.out⟩
set_option maxHeartbeats 1000000 in
theorem truth1 (w : World) (k : Nat) : Calls Try.prog 58 #[.int .i64 (k : Int), .int .i64 1] w fun e w' => e = .returned (ndV (.mk 5 [84, 114, 117, 101] 0 k [] []) fr0) ∧ Below w.heap.size w w' := by
  have HZF : Hid (Whole ((w.alloc (.cells #[.int .i64 5, .string ⟨#[84, 114, 117, 101]⟩, .int .i64 0, .int .i64 (k : Int), .slice none 0 0, .slice none 0 0] 25)).alloc (.cells #[.string ⟨#[70, 97, 108, 115, 101]⟩, .string ⟨#[84, 114, 117, 101]⟩] 9)) w.heap.size 25 #[.int .i64 5, .string ⟨#[84, 114, 117, 101]⟩, .int .i64 0, .int .i64 (k : Int), .slice none 0 0, .slice none 0 0]) := (Whole.made w 25 _).alloc _
  have HB : Hid (Below w.heap.size w ((w.alloc (.cells #[.int .i64 5, .string ⟨#[84, 114, 117, 101]⟩, .int .i64 0, .int .i64 (k : Int), .slice none 0 0, .slice none 0 0] 25)).alloc (.cells #[.string ⟨#[70, 97, 108, 115, 101]⟩, .string ⟨#[84, 114, 117, 101]⟩] 9))) := ((Below.refl _ _).alloc (Nat.le_refl _) _).alloc (by simp) _
  have z0 : ((w.alloc (.cells zZ 25)).alloc (.cells #[.string ⟨#[70, 97, 108, 115, 101]⟩, .string ⟨#[84, 114, 117, 101]⟩] 9)).cell? ⟨w.heap.size + 1, 1, none⟩ = some (.string ⟨([84, 114, 117, 101] : List UInt8).toArray⟩) := by
    have := (Whole.made (w.alloc (.cells zZ 25)) 9 #[.string ⟨#[70, 97, 108, 115, 101]⟩, .string ⟨#[84, 114, 117, 101]⟩]).cell 1
    simpa using this
  go_enter Try.func58, Try.ntmps58
  go_upto_region 1 with (fail)
  go_wp2_with fail
  generalize (w.alloc (.cells #[.int .i64 5, .string ⟨#[84, 114, 117, 101]⟩, .int .i64 0, .int .i64 (k : Int), .slice none 0 0, .slice none 0 0] 25)).alloc (.cells #[.string ⟨#[70, 97, 108, 115, 101]⟩, .string ⟨#[84, 114, 117, 101]⟩] 9) = wf at *
  gcells
  exact bodyPost_ret (v := ndV (.mk 5 [84, 114, 117, 101] 0 k [] []) fr0) (by simp [results, Try.results58, go_sem, ndV, Nd.kd, Nd.tx, Nd.nm, Nd.at_, Nd.ns, Nd.ks, fr0, g0, g1, g2, g3, g4, g5]) rfl ⟨rfl, HB.out⟩
end Go.Proofs.Ytgjchgmlogbmmaa
/- The walks of layer 11: an operation. -/
namespace Go.Proofs.Ytgjchgmlogbmmaa
open Go.RowKit
set_option linter.unusedVariables false
set_option linter.unusedSimpArgs false
attribute [local go_sem ↓] Go.wp_at_zero Go.wp_at_succ

theorem two_new (w : World) (a b : Array Value) : Whole (((w.alloc (.cells a 25)).alloc (.cells b 25)).drew) (w.heap.size + 1) 25 b := by
  have := Whole.made (w.alloc (.cells a 25)) 25 b
  simpa [Whole, World.drew] using this
theorem bytes_list (l : List UInt8) : (ByteArray.mk l.toArray).toList = l := by simp [go_sem]
theorem do_tx (l : List UInt8) (a b : Int) (w : World) : Calls Try.prog 57 #[.string ⟨l.toArray⟩, .int .i64 a, .int .i64 b] w fun e w' => e = .returned (.tuple #[.int .i64 (I.doF l a b).1, .int .i64 (I.doF l a b).2]) ∧ w = w' := by
  have := I.do_any ⟨l.toArray⟩ a b w
  rw [bytes_list] at this
  exact this
theorem do_hat (a b : Int) : (I.doF [94] a b).2 = 1 := by
  unfold I.doF
  split <;> rfl
theorem do_tt {l : List UInt8} {a b : Int} (h : (l == [61] || l == [60]) = true) (he : (I.doF l a b).2 = 0) : (I.doF l a b).1 = 0 ∨ (I.doF l a b).1 = 1 := by
  simp only [Bool.or_eq_true, beq_iff_eq] at h
  unfold I.doF at he ⊢
  split at he
  · rename_i hi
    rw [if_pos hi]
    rcases h with rfl | rfl
    · simp only [show (([61] : List UInt8) == [43]) = false from rfl, show (([61] : List UInt8) == [45]) = false from rfl, show (([61] : List UInt8) == [42]) = false from rfl, show (([61] : List UInt8) == [47]) = false from rfl, show (([61] : List UInt8) == [37]) = false from rfl, show (([61] : List UInt8) == [61]) = true from rfl, Bool.false_eq_true, if_false, if_true]
      split
      · exact .inr rfl
      · exact .inl rfl
    · simp only [show (([60] : List UInt8) == [43]) = false from rfl, show (([60] : List UInt8) == [45]) = false from rfl, show (([60] : List UInt8) == [42]) = false from rfl, show (([60] : List UInt8) == [47]) = false from rfl, show (([60] : List UInt8) == [37]) = false from rfl, show (([60] : List UInt8) == [61]) = false from rfl, show (([60] : List UInt8) == [60]) = true from rfl, Bool.false_eq_true, if_false, if_true]
      split
      · exact .inr rfl
      · exact .inl rfl
  · cases he
theorem op_join {x p q : Nd} (h : (p.kd == 2 && q.kd == 2 && x.tx == [94]) = true) : opN x p q = if p.tx.length + q.tx.length ≤ 60 then .mk 2 (p.tx ++ q.tx) 0 x.at_ [] [] else x := by
  simp only [Bool.and_eq_true] at h
  unfold opN
  rw [if_pos h.2, h.1.1, h.1.2]
  by_cases hl : p.tx.length + q.tx.length ≤ 60
  · rw [if_pos hl, decide_eq_true hl]; rfl
  · rw [if_neg hl, decide_eq_false hl]; rfl
theorem op_stay {x p q : Nd} (h : (p.kd == 2 && q.kd == 2 && x.tx == [94]) = false) (h2 : (p.kd == 1 && q.kd == 1) = false) : opN x p q = x := by
  unfold opN
  by_cases ht : (x.tx == [94]) = true
  · rw [if_pos ht]
    rw [ht, Bool.and_true] at h
    rw [h]; rfl
  · rw [if_neg ht, h2]; rfl
theorem op_err {x p q : Nd} (h : (p.kd == 2 && q.kd == 2 && x.tx == [94]) = false) (h2 : (p.kd == 1 && q.kd == 1) = true) (h3 : ((I.doF x.tx p.nm q.nm).2 != 0 || decide ((I.doF x.tx p.nm q.nm).1 < 0)) = true) : opN x p q = x := by
  unfold opN
  by_cases ht : (x.tx == [94]) = true
  · rw [if_pos ht]
    rw [ht, Bool.and_true] at h
    rw [h]; rfl
  · rw [if_neg ht, if_pos h2]
    have : ((I.doF x.tx p.nm q.nm).2 == 0 && decide (0 ≤ (I.doF x.tx p.nm q.nm).1)) = false := by
      simp only [Bool.or_eq_true, bne_iff_ne, decide_eq_true_eq] at h3
      rw [Bool.and_eq_false_iff]
      rcases h3 with h3 | h3
      · exact .inl (beq_eq_false_iff_ne.2 h3)
      · exact .inr (decide_eq_false (by omega))
    rw [this]; rfl
theorem op_done {x p q : Nd} {v : Int} (h2 : (p.kd == 1 && q.kd == 1) = true) (h3 : I.doF x.tx p.nm q.nm = (v, 0)) (hv : 0 ≤ v) : opN x p q = if x.tx == [61] || x.tx == [60] then (if v == 1 then .mk 5 [84, 114, 117, 101] 0 x.at_ [] [] else .mk 5 [70, 97, 108, 115, 101] 0 x.at_ [] []) else .mk 1 [] v x.at_ [] [] := by
  have ht : ¬ (x.tx == [94]) = true := fun h => by
    have e : x.tx = [94] := by simpa using h
    have := do_hat p.nm q.nm
    rw [← e, h3] at this
    cases this
  unfold opN
  rw [if_neg ht, if_pos h2, h3]
  simp only [beq_self_eq_true, Bool.true_and]
  rw [if_pos (decide_eq_true hv)]
theorem red_op {x p q : Nd} (h : x.kd = 13) (e : x.ks = [p, q]) : redF x = opN x p q := by
  unfold redF; rw [e, h]; rfl
set_option maxRecDepth 100000 in
set_option maxHeartbeats 8000000 in
theorem op_any11 (x : Nd) (hw : WfN x) (h13 : x.kd = 13) (w : World) (b : Nat → Prop) (f : Fr) (hb : ∀ a, b a → a < w.heap.size) (hn : NodeIn w b x f) : Calls Try.prog 42 #[ndV x f] w (FoldPost w b x) := by
  obtain ⟨p, q, hks⟩ := hw.two (by omega)
  have HKS := Lib.hid hks
  have HRED := Lib.hid (red_op h13 hks)
  have HPT : Hid (p.tx.length ≤ 60) := (hw.ks p (by rw [hks]; simp)).tx
  have HQT : Hid (q.tx.length ≤ 60) := (hw.ks q (by rw [hks]; simp)).tx
  clear h13 hks
  have HR : Hid (Rg w ((w.alloc (.cells zN(x, f) 25)).alloc (.cells zZ 25)) b w.heap.size (w.heap.size + 1) x f) := Rg.start hn hb
  have HW := Lib.hid hw
  unfold ndV
  go_enter Try.func42, Try.ntmps42
  go_upto_region 1 with (fail)
  generalize ((w.alloc (.cells zN(x, f) 25)).alloc (.cells zZ 25)) = w1 at *
  obtain ⟨G, hG⟩ : ∃ G, w.heap.size = G := ⟨_, rfl⟩
  have HG := Lib.hid hG
  rw [hG] at HR
  simp only [hG]
  clear hG hn hb hw
  obtain ⟨g, fp, fq, e, ⟨hgl, hgb⟩, hc0, hc1, np, nq⟩ := kids2 HR.out.a.n HKS.out
  have HC0 := Lib.hid hc0
  have HC1 := Lib.hid hc1
  have HNP := Lib.hid np
  have HNQ := Lib.hid nq
  have c5 := HR.out.a.c5
  rw [e, HKS.out] at c5
  have X5 : Hid (w1.cell? ⟨G, 5, none⟩ = some (.slice (some ⟨g, 0, none⟩) 2 f.kc)) := c5
  have X1 := Lib.hid HR.out.a.c1
  have HGZ : Hid (g ≠ G + 1) := by show _ ≠ _; have := HR.out.hb g hgb; have := HG.out; omega
  clear e hc0 hc1 np nq c5 hgb
  have HS : Hid (∀ W, Below w1.heap.size w1 W → W.cell? ⟨G, 5, none⟩ = some (.slice (some ⟨g, 0, none⟩) 2 f.kc) ∧ C6 W g 0 1 2 3 4 5 p fp ∧ C6 W g 6 7 8 9 10 11 q fq) := fun W h => ⟨(World.cell?_of_block (h.block G HR.out.a.X.lt)).trans X5.out, HC0.out.block (h.block g hgl), HC1.out.block (h.block g hgl)⟩
  go_cut [4, 5] (fun u v wx => ∃ A B, u = .pointer (some ⟨A, 0, none⟩) ∧ v = .pointer (some ⟨B, 0, none⟩) ∧ Whole wx A 25 (ndL p fp).toArray ∧ Whole wx B 25 (ndL q fq).toArray ∧ Below w1.heap.size w1 wx)
  case first =>
    refine region_Z (fun W => W.cell? ⟨G, 5, none⟩ = some (.slice (some ⟨g, 0, none⟩) 2 f.kc) ∧ C6 W g 0 1 2 3 4 5 p fp ∧ C6 W g 6 7 8 9 10 11 q fq) (fun i => false) (by kernel_rfl) (HS.out _ (Below.refl _ _).drew) (fun hHeld => ?_)
    ztki 0 12
    · (intro w hSw; (try dsimp only at hSw); obtain ⟨hS5, ⟨u0, u1, u2, u3, u4, u5⟩, v0, v1, v2, v3, v4, v5⟩ := hSw; go_simp; try with_reducible rfl)
    zput
    ztki 1 12
    · (intro w hSw; (try dsimp only at hSw); obtain ⟨hS5, ⟨u0, u1, u2, u3, u4, u5⟩, v0, v1, v2, v3, v4, v5⟩ := hSw; go_simp; try with_reducible rfl)
    zput
    ztki 2 12
    · (intro w hSw; (try dsimp only at hSw); obtain ⟨hS5, ⟨u0, u1, u2, u3, u4, u5⟩, v0, v1, v2, v3, v4, v5⟩ := hSw; go_simp; try with_reducible rfl)
    zput
    ztki 3 12
    · (intro w hSw; (try dsimp only at hSw); obtain ⟨hS5, ⟨u0, u1, u2, u3, u4, u5⟩, v0, v1, v2, v3, v4, v5⟩ := hSw; go_simp; try with_reducible rfl)
    zput
    ztki 4 12
    · (intro w hSw; (try dsimp only at hSw); obtain ⟨hS5, ⟨u0, u1, u2, u3, u4, u5⟩, v0, v1, v2, v3, v4, v5⟩ := hSw; go_simp; try with_reducible rfl)
    zput
    ztki 5 12
    · (intro w hSw; (try dsimp only at hSw); obtain ⟨hS5, ⟨u0, u1, u2, u3, u4, u5⟩, v0, v1, v2, v3, v4, v5⟩ := hSw; go_simp; try with_reducible rfl)
    zput
    ztki 6 12
    · (intro w hSw; (try dsimp only at hSw); obtain ⟨hS5, ⟨u0, u1, u2, u3, u4, u5⟩, v0, v1, v2, v3, v4, v5⟩ := hSw; go_simp; try with_reducible rfl)
    zput
    ztki 7 12
    · (intro w hSw; (try dsimp only at hSw); obtain ⟨hS5, ⟨u0, u1, u2, u3, u4, u5⟩, v0, v1, v2, v3, v4, v5⟩ := hSw; go_simp; try with_reducible rfl)
    zput
    refine anyZ_split (i := 8) (j := 9) (by kernel_rfl) rfl rfl (fun K hK => ?_) (fun K hK => ?_)
    · go_simp
      refine hK.out _ _ (fun _ => HS.out _ (((Below.refl _ _).alloc (Nat.le_refl _) _).drew)) (fun _ => ?_)
      clear hK K hHeld
      zput
      zstep 9
      go_simp
      refine hK.out _ _ (fun _ => HS.out _ ((((Below.refl _ _).alloc (Nat.le_refl _) _).alloc (by simp) _).drew)) (fun _ => ?_)
      clear hK K
      zput
      zstep 10
      go_simp
      refine hK.out _ _ (fun _ => HS.out _ ((((Below.refl _ _).alloc (Nat.le_refl _) _).alloc (by simp) _).drew)) (fun _ => ?_)
      clear hK K
      zput
      zstep 11
      go_simp
      refine hK.out _ _ (fun _ => HS.out _ ((((Below.refl _ _).alloc (Nat.le_refl _) _).alloc (by simp) _).drew)) (fun _ => ?_)
      clear hK K
      zput
      zdone
      go_wp2_with fail
      go_meet
      refine ⟨w1.heap.size, w1.heap.size + 1, rfl, rfl, ?_, ?_, ((((Below.refl _ _).alloc (Nat.le_refl _) _).alloc (by simp) _).drew)⟩
      · exact ((Whole.made w1 25 _).alloc _)
      · exact (two_new w1 _ _)
    · go_simp
      refine hK.out _ _ (fun _ => HS.out _ (((Below.refl _ _).alloc (Nat.le_refl _) _).drew)) (fun _ => ?_)
      clear hK K hHeld
      zput
      zstep 8
      go_simp
      refine hK.out _ _ (fun _ => HS.out _ ((((Below.refl _ _).alloc (Nat.le_refl _) _).alloc (by simp) _).drew)) (fun _ => ?_)
      clear hK K
      zput
      zstep 10
      go_simp
      refine hK.out _ _ (fun _ => HS.out _ ((((Below.refl _ _).alloc (Nat.le_refl _) _).alloc (by simp) _).drew)) (fun _ => ?_)
      clear hK K
      zput
      zstep 11
      go_simp
      refine hK.out _ _ (fun _ => HS.out _ ((((Below.refl _ _).alloc (Nat.le_refl _) _).alloc (by simp) _).drew)) (fun _ => ?_)
      clear hK K
      zput
      zdone
      go_wp2_with fail
      go_meet
      refine ⟨w1.heap.size + 1, w1.heap.size, rfl, rfl, ?_, ?_, ((((Below.refl _ _).alloc (Nat.le_refl _) _).alloc (by simp) _).drew)⟩
      · exact (two_new w1 _ _)
      · exact ((Whole.made w1 25 _).alloc _)
  case rest =>
    obtain ⟨A, B, rfl, rfl, hpA, hqB, hbl⟩ := hcut
    have HR2 := Lib.hid (HR.out.later hbl)
    have HPA := Lib.hid hpA
    have HQB := Lib.hid hqB
    clear hpA hqB hbl HR HC0 HC1 HNP HNQ X5 X1 HS hgl HGZ
    have d0 : wc.cell? ⟨A, 0, none⟩ = some (.int .i64 p.kd) := HPA.out.cell 0
    have e0 : wc.cell? ⟨B, 0, none⟩ = some (.int .i64 q.kd) := HQB.out.cell 0
    have c1 := HR2.out.a.c1
    obtain ⟨tb, hTB⟩ : ∃ tb, (p.kd == 2 && q.kd == 2 && x.tx == [94]) = tb := ⟨_, rfl⟩
    have HTB := Lib.hid hTB
    clear hTB
    go_upto_region 2 with (fail)
    go_cut [18] (fun u wx => u = .bool tb ∧ wx = wc)
    case first =>
      have HF := HTB.out
      obtain ⟨q1, e1⟩ : ∃ q1, (p.kd == 2) = q1 := ⟨_, rfl⟩
      obtain ⟨q2, e2⟩ : ∃ q2, (q.kd == 2) = q2 := ⟨_, rfl⟩
      obtain ⟨q3, e3⟩ : ∃ q3, (x.tx == [94]) = q3 := ⟨_, rfl⟩
      rw [e1, e2, e3] at HF
      have HF2 := Lib.hid HF
      clear HF HTB
      rcases q1 with _ | _
      · go_wp2_with fail
        go_meet
        exact ⟨congrArg Value.bool HF2.out, rfl⟩
      rcases q2 with _ | _
      · go_wp2_with fail
        go_meet
        exact ⟨congrArg Value.bool HF2.out, rfl⟩
      · go_wp2_with fail
        go_meet
        exact ⟨congrArg Value.bool HF2.out, rfl⟩
    case rest =>
      obtain ⟨rfl, rfl⟩ := hcut
      rcases tb with _ | _
      · obtain ⟨td, hTD⟩ : ∃ td, (p.kd == 1 && q.kd == 1) = td := ⟨_, rfl⟩
        have HTD := Lib.hid hTD
        clear hTD
        have d0 : wc.cell? ⟨A, 0, none⟩ = some (.int .i64 p.kd) := HPA.out.cell 0
        have e0 : wc.cell? ⟨B, 0, none⟩ = some (.int .i64 q.kd) := HQB.out.cell 0
        go_upto_region 5 with (fail)
        go_cut [46] (fun u wx => u = .bool (!td) ∧ wx = wc)
        case first =>
          have HF := HTD.out
          obtain ⟨q1, e1⟩ : ∃ q1, (p.kd == 1) = q1 := ⟨_, rfl⟩
          obtain ⟨q2, e2⟩ : ∃ q2, (q.kd == 1) = q2 := ⟨_, rfl⟩
          have n1 : (p.kd != 1) = !q1 := by rw [← e1]; rfl
          have n2 : (q.kd != 1) = !q2 := by rw [← e2]; rfl
          rw [e1, e2] at HF
          have HF2 : Hid ((!q1 || !q2) = !td) := by show _ = _; rw [← HF]; cases q1 <;> cases q2 <;> rfl
          clear HF HTD e1 e2
          rcases q1 with _ | _
          · go_wp2_with fail
            go_meet
            exact ⟨congrArg Value.bool HF2.out, rfl⟩
          · go_wp2_with fail
            go_meet
            exact ⟨congrArg Value.bool HF2.out, rfl⟩
        case rest =>
          obtain ⟨rfl, rfl⟩ := hcut
          rcases td with _ | _
          · have HRD : Hid (redF x = x) := HRED.out.trans (op_stay HTB.out HTD.out)
            have n0 : wc.cell? ⟨G, 0, none⟩ = some (.int .i64 x.kd) := HR2.out.a.X.cell 0
            have n1 : wc.cell? ⟨G, 1, none⟩ = some (.string ⟨x.tx.toArray⟩) := HR2.out.a.X.cell 1
            have n2 : wc.cell? ⟨G, 2, none⟩ = some (.int .i64 x.nm) := HR2.out.a.X.cell 2
            have n3 : wc.cell? ⟨G, 3, none⟩ = some (.int .i64 (x.at_ : Int)) := HR2.out.a.X.cell 3
            have n4 : wc.cell? ⟨G, 4, none⟩ = some (.slice f.na x.ns.length f.nc) := HR2.out.a.X.cell 4
            have n5 : wc.cell? ⟨G, 5, none⟩ = some (.slice f.ka x.ks.length f.kc) := HR2.out.a.X.cell 5
            zzero wc (G + 1) (HR2.out.z)
            zfree (HR2.out.z)
            go_wp2_with fail
            have HZF : Hid (Whole (zP(wc, (G + 1), x, f)) (G + 1) 25 zN(x, f)) := put6 HR2.out.z _ _ _ _ _ _
            have HBF : Hid (But (G + 1) wc.heap.size wc (zP(wc, (G + 1), x, f))) := but6 _ _ _ _ _ _ _ _
            generalize (zP(wc, (G + 1), x, f)) = wf at *
            gcells
            exact bodyPost_ret (v := .tuple #[ndV x f, .bool false]) (by simp [results, Try.results42, go_sem, ndV, Nd.kd, Nd.tx, Nd.nm, Nd.at_, Nd.ns, Nd.ks, fr0, nd0, g0, g1, g2, g3, g4, g5]) rfl ⟨x, false, f, rfl, HR2.out.node HG.out HR2.out.a.n HBF.out, HR2.out.bel HG.out HBF.out, by simp [HRD.out]⟩
          · obtain ⟨v, er, hdo⟩ : ∃ v er, I.doF x.tx p.nm q.nm = (v, er) := ⟨_, _, rfl⟩
            have CD := Lib.hid (do_tx x.tx p.nm q.nm wc)
            have HDO := Lib.hid hdo
            rw [hdo] at CD
            clear hdo
            have c1 := HR2.out.a.c1
            have d2 : wc.cell? ⟨A, 2, none⟩ = some (.int .i64 p.nm) := HPA.out.cell 2
            have e2 : wc.cell? ⟨B, 2, none⟩ = some (.int .i64 q.nm) := HQB.out.cell 2
            go_wp2_with fail
            refine CD.out.mono ?_
            rintro e w3 ⟨rfl, rfl⟩
            clear CD d2 e2
            by_cases he : er = 0
            · subst he
              by_cases hv : v < 0
              · have HRD : Hid (redF x = x) := HRED.out.trans (op_err HTB.out HTD.out (by rw [HDO.out]; simp [hv]))
                clear HRED HTB HTD HDO
                have n0 : wc.cell? ⟨G, 0, none⟩ = some (.int .i64 x.kd) := HR2.out.a.X.cell 0
                have n1 : wc.cell? ⟨G, 1, none⟩ = some (.string ⟨x.tx.toArray⟩) := HR2.out.a.X.cell 1
                have n2 : wc.cell? ⟨G, 2, none⟩ = some (.int .i64 x.nm) := HR2.out.a.X.cell 2
                have n3 : wc.cell? ⟨G, 3, none⟩ = some (.int .i64 (x.at_ : Int)) := HR2.out.a.X.cell 3
                have n4 : wc.cell? ⟨G, 4, none⟩ = some (.slice f.na x.ns.length f.nc) := HR2.out.a.X.cell 4
                have n5 : wc.cell? ⟨G, 5, none⟩ = some (.slice f.ka x.ks.length f.kc) := HR2.out.a.X.cell 5
                zzero wc (G + 1) (HR2.out.z)
                zfree (HR2.out.z)
                go_wp2_with fail
                have HZF : Hid (Whole (zP(wc, (G + 1), x, f)) (G + 1) 25 zN(x, f)) := put6 HR2.out.z _ _ _ _ _ _
                have HBF : Hid (But (G + 1) wc.heap.size wc (zP(wc, (G + 1), x, f))) := but6 _ _ _ _ _ _ _ _
                generalize (zP(wc, (G + 1), x, f)) = wf at *
                gcells
                exact bodyPost_ret (v := .tuple #[ndV x f, .bool false]) (by simp [results, Try.results42, go_sem, ndV, Nd.kd, Nd.tx, Nd.nm, Nd.at_, Nd.ns, Nd.ks, fr0, nd0, g0, g1, g2, g3, g4, g5]) rfl ⟨x, false, f, rfl, HR2.out.node HG.out HR2.out.a.n HBF.out, HR2.out.bel HG.out HBF.out, by simp [HRD.out]⟩
              · have hv0 : 0 ≤ v := by omega
                have HRD : Hid (redF x = if x.tx == [61] || x.tx == [60] then (if v == 1 then .mk 5 [84, 114, 117, 101] 0 x.at_ [] [] else .mk 5 [70, 97, 108, 115, 101] 0 x.at_ [] []) else .mk 1 [] v x.at_ [] []) := HRED.out.trans (op_done HTD.out HDO.out hv0)
                have c3 := HR2.out.a.c3
                by_cases ht : (x.tx == [61] || x.tx == [60]) = true
                · have hv1 := do_tt ht (by rw [HDO.out] : (I.doF x.tx p.nm q.nm).2 = 0)
                  rw [HDO.out] at hv1
                  rw [ht] at HRD
                  obtain ⟨q1, e1⟩ : ∃ q1, (x.tx == [61]) = q1 := ⟨_, rfl⟩
                  obtain ⟨q2, e2⟩ : ∃ q2, (x.tx == [60]) = q2 := ⟨_, rfl⟩
                  rw [e1, e2] at ht
                  have HT := Lib.hid ht
                  clear HRED HTB HTD HDO ht hv hv0
                  rcases hv1 with hv1 | hv1
                  · have hv1 : v = 0 := hv1
                    subst hv1
                    have HRD2 : Hid (redF x = .mk 5 [70, 97, 108, 115, 101] 0 x.at_ [] []) := HRD.out
                    clear HRD
                    rcases q1 with _ | _
                    · rcases q2 with _ | _
                      · exact absurd HT.out (by decide)
                      · clear HT
                        go_wp2_with fail
                        refine (truth0 wc x.at_).mono ?_
                        rintro e w4 ⟨rfl, b4⟩
                        have HR4 := Lib.hid (HR2.out.later b4)
                        clear b4 HR2 c1 c3
                        simp only [ndV, kd_mk, tx_mk, nm_mk, at_mk, ns_mk, ks_mk, fr0, List.length_nil]
                        zzero w4 (G + 1) (HR4.out.z)
                        zfree (HR4.out.z)
                        go_wp2_with fail
                        have HZF : Hid (Whole ((((((w4.setCell ⟨(G + 1), 0, none⟩ (.int .i64 5)).setCell ⟨(G + 1), 1, none⟩ (.string ⟨([70, 97, 108, 115, 101] : List UInt8).toArray⟩)).setCell ⟨(G + 1), 2, none⟩ (.int .i64 0)).setCell ⟨(G + 1), 3, none⟩ (.int .i64 (x.at_ : Int))).setCell ⟨(G + 1), 4, none⟩ (.slice none 0 0)).setCell ⟨(G + 1), 5, none⟩ (.slice none 0 0)) (G + 1) 25 #[.int .i64 5, .string ⟨([70, 97, 108, 115, 101] : List UInt8).toArray⟩, .int .i64 0, .int .i64 (x.at_ : Int), .slice none 0 0, .slice none 0 0]) := put6 HR4.out.z _ _ _ _ _ _
                        have HBF : Hid (But (G + 1) w4.heap.size w4 ((((((w4.setCell ⟨(G + 1), 0, none⟩ (.int .i64 5)).setCell ⟨(G + 1), 1, none⟩ (.string ⟨([70, 97, 108, 115, 101] : List UInt8).toArray⟩)).setCell ⟨(G + 1), 2, none⟩ (.int .i64 0)).setCell ⟨(G + 1), 3, none⟩ (.int .i64 (x.at_ : Int))).setCell ⟨(G + 1), 4, none⟩ (.slice none 0 0)).setCell ⟨(G + 1), 5, none⟩ (.slice none 0 0))) := but6 _ _ _ _ _ _ _ _
                        generalize ((((((w4.setCell ⟨(G + 1), 0, none⟩ (.int .i64 5)).setCell ⟨(G + 1), 1, none⟩ (.string ⟨([70, 97, 108, 115, 101] : List UInt8).toArray⟩)).setCell ⟨(G + 1), 2, none⟩ (.int .i64 0)).setCell ⟨(G + 1), 3, none⟩ (.int .i64 (x.at_ : Int))).setCell ⟨(G + 1), 4, none⟩ (.slice none 0 0)).setCell ⟨(G + 1), 5, none⟩ (.slice none 0 0)) = wf at *
                        gcells
                        exact bodyPost_ret (v := .tuple #[ndV (Nd.mk 5 [70, 97, 108, 115, 101] 0 x.at_ [] []) fr0, .bool true]) (by simp [results, Try.results42, go_sem, ndV, Nd.kd, Nd.tx, Nd.nm, Nd.at_, Nd.ns, Nd.ks, fr0, nd0, g0, g1, g2, g3, g4, g5]) rfl ⟨(Nd.mk 5 [70, 97, 108, 115, 101] 0 x.at_ [] []), true, fr0, rfl, HR4.out.node HG.out (NodeIn.leaf w4 b (x := (Nd.mk 5 [70, 97, 108, 115, 101] 0 x.at_ [] [])) rfl rfl) HBF.out, HR4.out.bel HG.out HBF.out, by simp [HRD2.out]⟩
                    · clear HT
                      go_wp2_with fail
                      refine (truth0 wc x.at_).mono ?_
                      rintro e w4 ⟨rfl, b4⟩
                      have HR4 := Lib.hid (HR2.out.later b4)
                      clear b4 HR2 c1 c3
                      simp only [ndV, kd_mk, tx_mk, nm_mk, at_mk, ns_mk, ks_mk, fr0, List.length_nil]
                      zzero w4 (G + 1) (HR4.out.z)
                      zfree (HR4.out.z)
                      go_wp2_with fail
                      have HZF : Hid (Whole ((((((w4.setCell ⟨(G + 1), 0, none⟩ (.int .i64 5)).setCell ⟨(G + 1), 1, none⟩ (.string ⟨([70, 97, 108, 115, 101] : List UInt8).toArray⟩)).setCell ⟨(G + 1), 2, none⟩ (.int .i64 0)).setCell ⟨(G + 1), 3, none⟩ (.int .i64 (x.at_ : Int))).setCell ⟨(G + 1), 4, none⟩ (.slice none 0 0)).setCell ⟨(G + 1), 5, none⟩ (.slice none 0 0)) (G + 1) 25 #[.int .i64 5, .string ⟨([70, 97, 108, 115, 101] : List UInt8).toArray⟩, .int .i64 0, .int .i64 (x.at_ : Int), .slice none 0 0, .slice none 0 0]) := put6 HR4.out.z _ _ _ _ _ _
                      have HBF : Hid (But (G + 1) w4.heap.size w4 ((((((w4.setCell ⟨(G + 1), 0, none⟩ (.int .i64 5)).setCell ⟨(G + 1), 1, none⟩ (.string ⟨([70, 97, 108, 115, 101] : List UInt8).toArray⟩)).setCell ⟨(G + 1), 2, none⟩ (.int .i64 0)).setCell ⟨(G + 1), 3, none⟩ (.int .i64 (x.at_ : Int))).setCell ⟨(G + 1), 4, none⟩ (.slice none 0 0)).setCell ⟨(G + 1), 5, none⟩ (.slice none 0 0))) := but6 _ _ _ _ _ _ _ _
                      generalize ((((((w4.setCell ⟨(G + 1), 0, none⟩ (.int .i64 5)).setCell ⟨(G + 1), 1, none⟩ (.string ⟨([70, 97, 108, 115, 101] : List UInt8).toArray⟩)).setCell ⟨(G + 1), 2, none⟩ (.int .i64 0)).setCell ⟨(G + 1), 3, none⟩ (.int .i64 (x.at_ : Int))).setCell ⟨(G + 1), 4, none⟩ (.slice none 0 0)).setCell ⟨(G + 1), 5, none⟩ (.slice none 0 0)) = wf at *
                      gcells
                      exact bodyPost_ret (v := .tuple #[ndV (Nd.mk 5 [70, 97, 108, 115, 101] 0 x.at_ [] []) fr0, .bool true]) (by simp [results, Try.results42, go_sem, ndV, Nd.kd, Nd.tx, Nd.nm, Nd.at_, Nd.ns, Nd.ks, fr0, nd0, g0, g1, g2, g3, g4, g5]) rfl ⟨(Nd.mk 5 [70, 97, 108, 115, 101] 0 x.at_ [] []), true, fr0, rfl, HR4.out.node HG.out (NodeIn.leaf w4 b (x := (Nd.mk 5 [70, 97, 108, 115, 101] 0 x.at_ [] [])) rfl rfl) HBF.out, HR4.out.bel HG.out HBF.out, by simp [HRD2.out]⟩
                  · have hv1 : v = 1 := hv1
                    subst hv1
                    have HRD2 : Hid (redF x = .mk 5 [84, 114, 117, 101] 0 x.at_ [] []) := HRD.out
                    clear HRD
                    rcases q1 with _ | _
                    · rcases q2 with _ | _
                      · exact absurd HT.out (by decide)
                      · clear HT
                        go_wp2_with fail
                        refine (truth1 wc x.at_).mono ?_
                        rintro e w4 ⟨rfl, b4⟩
                        have HR4 := Lib.hid (HR2.out.later b4)
                        clear b4 HR2 c1 c3
                        simp only [ndV, kd_mk, tx_mk, nm_mk, at_mk, ns_mk, ks_mk, fr0, List.length_nil]
                        zzero w4 (G + 1) (HR4.out.z)
                        zfree (HR4.out.z)
                        go_wp2_with fail
                        have HZF : Hid (Whole ((((((w4.setCell ⟨(G + 1), 0, none⟩ (.int .i64 5)).setCell ⟨(G + 1), 1, none⟩ (.string ⟨([84, 114, 117, 101] : List UInt8).toArray⟩)).setCell ⟨(G + 1), 2, none⟩ (.int .i64 0)).setCell ⟨(G + 1), 3, none⟩ (.int .i64 (x.at_ : Int))).setCell ⟨(G + 1), 4, none⟩ (.slice none 0 0)).setCell ⟨(G + 1), 5, none⟩ (.slice none 0 0)) (G + 1) 25 #[.int .i64 5, .string ⟨([84, 114, 117, 101] : List UInt8).toArray⟩, .int .i64 0, .int .i64 (x.at_ : Int), .slice none 0 0, .slice none 0 0]) := put6 HR4.out.z _ _ _ _ _ _
                        have HBF : Hid (But (G + 1) w4.heap.size w4 ((((((w4.setCell ⟨(G + 1), 0, none⟩ (.int .i64 5)).setCell ⟨(G + 1), 1, none⟩ (.string ⟨([84, 114, 117, 101] : List UInt8).toArray⟩)).setCell ⟨(G + 1), 2, none⟩ (.int .i64 0)).setCell ⟨(G + 1), 3, none⟩ (.int .i64 (x.at_ : Int))).setCell ⟨(G + 1), 4, none⟩ (.slice none 0 0)).setCell ⟨(G + 1), 5, none⟩ (.slice none 0 0))) := but6 _ _ _ _ _ _ _ _
                        generalize ((((((w4.setCell ⟨(G + 1), 0, none⟩ (.int .i64 5)).setCell ⟨(G + 1), 1, none⟩ (.string ⟨([84, 114, 117, 101] : List UInt8).toArray⟩)).setCell ⟨(G + 1), 2, none⟩ (.int .i64 0)).setCell ⟨(G + 1), 3, none⟩ (.int .i64 (x.at_ : Int))).setCell ⟨(G + 1), 4, none⟩ (.slice none 0 0)).setCell ⟨(G + 1), 5, none⟩ (.slice none 0 0)) = wf at *
                        gcells
                        exact bodyPost_ret (v := .tuple #[ndV (Nd.mk 5 [84, 114, 117, 101] 0 x.at_ [] []) fr0, .bool true]) (by simp [results, Try.results42, go_sem, ndV, Nd.kd, Nd.tx, Nd.nm, Nd.at_, Nd.ns, Nd.ks, fr0, nd0, g0, g1, g2, g3, g4, g5]) rfl ⟨(Nd.mk 5 [84, 114, 117, 101] 0 x.at_ [] []), true, fr0, rfl, HR4.out.node HG.out (NodeIn.leaf w4 b (x := (Nd.mk 5 [84, 114, 117, 101] 0 x.at_ [] [])) rfl rfl) HBF.out, HR4.out.bel HG.out HBF.out, by simp [HRD2.out]⟩
                    · clear HT
                      go_wp2_with fail
                      refine (truth1 wc x.at_).mono ?_
                      rintro e w4 ⟨rfl, b4⟩
                      have HR4 := Lib.hid (HR2.out.later b4)
                      clear b4 HR2 c1 c3
                      simp only [ndV, kd_mk, tx_mk, nm_mk, at_mk, ns_mk, ks_mk, fr0, List.length_nil]
                      zzero w4 (G + 1) (HR4.out.z)
                      zfree (HR4.out.z)
                      go_wp2_with fail
                      have HZF : Hid (Whole ((((((w4.setCell ⟨(G + 1), 0, none⟩ (.int .i64 5)).setCell ⟨(G + 1), 1, none⟩ (.string ⟨([84, 114, 117, 101] : List UInt8).toArray⟩)).setCell ⟨(G + 1), 2, none⟩ (.int .i64 0)).setCell ⟨(G + 1), 3, none⟩ (.int .i64 (x.at_ : Int))).setCell ⟨(G + 1), 4, none⟩ (.slice none 0 0)).setCell ⟨(G + 1), 5, none⟩ (.slice none 0 0)) (G + 1) 25 #[.int .i64 5, .string ⟨([84, 114, 117, 101] : List UInt8).toArray⟩, .int .i64 0, .int .i64 (x.at_ : Int), .slice none 0 0, .slice none 0 0]) := put6 HR4.out.z _ _ _ _ _ _
                      have HBF : Hid (But (G + 1) w4.heap.size w4 ((((((w4.setCell ⟨(G + 1), 0, none⟩ (.int .i64 5)).setCell ⟨(G + 1), 1, none⟩ (.string ⟨([84, 114, 117, 101] : List UInt8).toArray⟩)).setCell ⟨(G + 1), 2, none⟩ (.int .i64 0)).setCell ⟨(G + 1), 3, none⟩ (.int .i64 (x.at_ : Int))).setCell ⟨(G + 1), 4, none⟩ (.slice none 0 0)).setCell ⟨(G + 1), 5, none⟩ (.slice none 0 0))) := but6 _ _ _ _ _ _ _ _
                      generalize ((((((w4.setCell ⟨(G + 1), 0, none⟩ (.int .i64 5)).setCell ⟨(G + 1), 1, none⟩ (.string ⟨([84, 114, 117, 101] : List UInt8).toArray⟩)).setCell ⟨(G + 1), 2, none⟩ (.int .i64 0)).setCell ⟨(G + 1), 3, none⟩ (.int .i64 (x.at_ : Int))).setCell ⟨(G + 1), 4, none⟩ (.slice none 0 0)).setCell ⟨(G + 1), 5, none⟩ (.slice none 0 0)) = wf at *
                      gcells
                      exact bodyPost_ret (v := .tuple #[ndV (Nd.mk 5 [84, 114, 117, 101] 0 x.at_ [] []) fr0, .bool true]) (by simp [results, Try.results42, go_sem, ndV, Nd.kd, Nd.tx, Nd.nm, Nd.at_, Nd.ns, Nd.ks, fr0, nd0, g0, g1, g2, g3, g4, g5]) rfl ⟨(Nd.mk 5 [84, 114, 117, 101] 0 x.at_ [] []), true, fr0, rfl, HR4.out.node HG.out (NodeIn.leaf w4 b (x := (Nd.mk 5 [84, 114, 117, 101] 0 x.at_ [] [])) rfl rfl) HBF.out, HR4.out.bel HG.out HBF.out, by simp [HRD2.out]⟩
                · have hf : (x.tx == [61] || x.tx == [60]) = false := by simpa using ht
                  rw [hf] at HRD
                  have HRD2 : Hid (redF x = .mk 1 [] v x.at_ [] []) := HRD.out
                  simp only [Bool.or_eq_false_iff] at hf
                  obtain ⟨f1, f2⟩ := hf
                  clear HRED HTB HTD HDO ht HRD hv
                  zzero wc (G + 1) (HR2.out.z)
                  zfree (HR2.out.z)
                  go_wp2_with fail
                  have HZF : Hid (Whole ((((((wc.setCell ⟨(G + 1), 0, none⟩ (.int .i64 1)).setCell ⟨(G + 1), 1, none⟩ (.string ⟨#[]⟩)).setCell ⟨(G + 1), 2, none⟩ (.int .i64 v)).setCell ⟨(G + 1), 3, none⟩ (.int .i64 (x.at_ : Int))).setCell ⟨(G + 1), 4, none⟩ (.slice none 0 0)).setCell ⟨(G + 1), 5, none⟩ (.slice none 0 0)) (G + 1) 25 #[.int .i64 1, .string ⟨#[]⟩, .int .i64 v, .int .i64 (x.at_ : Int), .slice none 0 0, .slice none 0 0]) := put6 HR2.out.z _ _ _ _ _ _
                  have HBF : Hid (But (G + 1) wc.heap.size wc ((((((wc.setCell ⟨(G + 1), 0, none⟩ (.int .i64 1)).setCell ⟨(G + 1), 1, none⟩ (.string ⟨#[]⟩)).setCell ⟨(G + 1), 2, none⟩ (.int .i64 v)).setCell ⟨(G + 1), 3, none⟩ (.int .i64 (x.at_ : Int))).setCell ⟨(G + 1), 4, none⟩ (.slice none 0 0)).setCell ⟨(G + 1), 5, none⟩ (.slice none 0 0))) := but6 _ _ _ _ _ _ _ _
                  generalize ((((((wc.setCell ⟨(G + 1), 0, none⟩ (.int .i64 1)).setCell ⟨(G + 1), 1, none⟩ (.string ⟨#[]⟩)).setCell ⟨(G + 1), 2, none⟩ (.int .i64 v)).setCell ⟨(G + 1), 3, none⟩ (.int .i64 (x.at_ : Int))).setCell ⟨(G + 1), 4, none⟩ (.slice none 0 0)).setCell ⟨(G + 1), 5, none⟩ (.slice none 0 0)) = wf at *
                  gcells
                  exact bodyPost_ret (v := .tuple #[ndV (Nd.mk 1 [] v x.at_ [] []) fr0, .bool true]) (by simp [results, Try.results42, go_sem, ndV, Nd.kd, Nd.tx, Nd.nm, Nd.at_, Nd.ns, Nd.ks, fr0, nd0, g0, g1, g2, g3, g4, g5]) rfl ⟨(Nd.mk 1 [] v x.at_ [] []), true, fr0, rfl, HR2.out.node HG.out (NodeIn.leaf wc b (x := (Nd.mk 1 [] v x.at_ [] [])) rfl rfl) HBF.out, HR2.out.bel HG.out HBF.out, by simp [HRD2.out]⟩
            · have n1 : (er != 0) = true := bne_iff_ne.2 he
              have HRD : Hid (redF x = x) := HRED.out.trans (op_err HTB.out HTD.out (by rw [HDO.out]; simp [he]))
              clear HRED HTB HTD HDO he
              have n0 : wc.cell? ⟨G, 0, none⟩ = some (.int .i64 x.kd) := HR2.out.a.X.cell 0
              have n1 : wc.cell? ⟨G, 1, none⟩ = some (.string ⟨x.tx.toArray⟩) := HR2.out.a.X.cell 1
              have n2 : wc.cell? ⟨G, 2, none⟩ = some (.int .i64 x.nm) := HR2.out.a.X.cell 2
              have n3 : wc.cell? ⟨G, 3, none⟩ = some (.int .i64 (x.at_ : Int)) := HR2.out.a.X.cell 3
              have n4 : wc.cell? ⟨G, 4, none⟩ = some (.slice f.na x.ns.length f.nc) := HR2.out.a.X.cell 4
              have n5 : wc.cell? ⟨G, 5, none⟩ = some (.slice f.ka x.ks.length f.kc) := HR2.out.a.X.cell 5
              zzero wc (G + 1) (HR2.out.z)
              zfree (HR2.out.z)
              go_wp2_with fail
              have HZF : Hid (Whole (zP(wc, (G + 1), x, f)) (G + 1) 25 zN(x, f)) := put6 HR2.out.z _ _ _ _ _ _
              have HBF : Hid (But (G + 1) wc.heap.size wc (zP(wc, (G + 1), x, f))) := but6 _ _ _ _ _ _ _ _
              generalize (zP(wc, (G + 1), x, f)) = wf at *
              gcells
              exact bodyPost_ret (v := .tuple #[ndV x f, .bool false]) (by simp [results, Try.results42, go_sem, ndV, Nd.kd, Nd.tx, Nd.nm, Nd.at_, Nd.ns, Nd.ks, fr0, nd0, g0, g1, g2, g3, g4, g5]) rfl ⟨x, false, f, rfl, HR2.out.node HG.out HR2.out.a.n HBF.out, HR2.out.bel HG.out HBF.out, by simp [HRD.out]⟩
      · have HRD : Hid (redF x = if p.tx.length + q.tx.length ≤ 60 then .mk 2 (p.tx ++ q.tx) 0 x.at_ [] [] else x) := HRED.out.trans (op_join HTB.out)
        have d1 : wc.cell? ⟨A, 1, none⟩ = some (.string ⟨p.tx.toArray⟩) := HPA.out.cell 1
        have e1 : wc.cell? ⟨B, 1, none⟩ = some (.string ⟨q.tx.toArray⟩) := HQB.out.cell 1
        clear HRED HTB d0 e0 c1
        go_wp2_with fail
        by_cases hl : p.tx.length + q.tx.length ≤ 60
        · refine (join_in p.tx q.tx wc hl).mono ?_
          rintro e w3 ⟨rfl, rfl⟩
          have HRD2 : Hid (redF x = .mk 2 (p.tx ++ q.tx) 0 x.at_ [] []) := by show _ = _; rw [HRD.out, if_pos hl]
          have c3 := HR2.out.a.c3
          clear HRD hl d1 e1
          generalize p.tx ++ q.tx = jt at *
          zzero wc (G + 1) (HR2.out.z)
          zfree (HR2.out.z)
          go_wp2_with fail
          have HZF : Hid (Whole ((((((wc.setCell ⟨(G + 1), 0, none⟩ (.int .i64 2)).setCell ⟨(G + 1), 1, none⟩ (.string ⟨jt.toArray⟩)).setCell ⟨(G + 1), 2, none⟩ (.int .i64 0)).setCell ⟨(G + 1), 3, none⟩ (.int .i64 (x.at_ : Int))).setCell ⟨(G + 1), 4, none⟩ (.slice none 0 0)).setCell ⟨(G + 1), 5, none⟩ (.slice none 0 0)) (G + 1) 25 #[.int .i64 2, .string ⟨jt.toArray⟩, .int .i64 0, .int .i64 (x.at_ : Int), .slice none 0 0, .slice none 0 0]) := put6 HR2.out.z _ _ _ _ _ _
          have HBF : Hid (But (G + 1) wc.heap.size wc ((((((wc.setCell ⟨(G + 1), 0, none⟩ (.int .i64 2)).setCell ⟨(G + 1), 1, none⟩ (.string ⟨jt.toArray⟩)).setCell ⟨(G + 1), 2, none⟩ (.int .i64 0)).setCell ⟨(G + 1), 3, none⟩ (.int .i64 (x.at_ : Int))).setCell ⟨(G + 1), 4, none⟩ (.slice none 0 0)).setCell ⟨(G + 1), 5, none⟩ (.slice none 0 0))) := but6 _ _ _ _ _ _ _ _
          generalize ((((((wc.setCell ⟨(G + 1), 0, none⟩ (.int .i64 2)).setCell ⟨(G + 1), 1, none⟩ (.string ⟨jt.toArray⟩)).setCell ⟨(G + 1), 2, none⟩ (.int .i64 0)).setCell ⟨(G + 1), 3, none⟩ (.int .i64 (x.at_ : Int))).setCell ⟨(G + 1), 4, none⟩ (.slice none 0 0)).setCell ⟨(G + 1), 5, none⟩ (.slice none 0 0)) = wf at *
          gcells
          exact bodyPost_ret (v := .tuple #[ndV (Nd.mk 2 jt 0 x.at_ [] []) fr0, .bool true]) (by simp [results, Try.results42, go_sem, ndV, Nd.kd, Nd.tx, Nd.nm, Nd.at_, Nd.ns, Nd.ks, fr0, nd0, g0, g1, g2, g3, g4, g5]) rfl ⟨(Nd.mk 2 jt 0 x.at_ [] []), true, fr0, rfl, HR2.out.node HG.out (NodeIn.leaf wc b (x := (Nd.mk 2 jt 0 x.at_ [] [])) rfl rfl) HBF.out, HR2.out.bel HG.out HBF.out, by simp [HRD2.out]⟩
        · refine (join_out p.tx q.tx wc HPT.out HQT.out (by omega)).mono ?_
          rintro e w3 ⟨rfl, rfl⟩
          have HRD2 : Hid (redF x = x) := by show _ = _; rw [HRD.out, if_neg hl]
          have c3 := HR2.out.a.c3
          clear HRD hl d1 e1
          zzero wc (G + 1) (HR2.out.z)
          zfree (HR2.out.z)
          go_wp2_with fail
          have HZF : Hid (Whole ((((((wc.setCell ⟨(G + 1), 0, none⟩ (.int .i64 2)).setCell ⟨(G + 1), 1, none⟩ (.string ⟨#[]⟩)).setCell ⟨(G + 1), 2, none⟩ (.int .i64 0)).setCell ⟨(G + 1), 3, none⟩ (.int .i64 (x.at_ : Int))).setCell ⟨(G + 1), 4, none⟩ (.slice none 0 0)).setCell ⟨(G + 1), 5, none⟩ (.slice none 0 0)) (G + 1) 25 #[.int .i64 2, .string ⟨#[]⟩, .int .i64 0, .int .i64 (x.at_ : Int), .slice none 0 0, .slice none 0 0]) := put6 HR2.out.z _ _ _ _ _ _
          have HBF : Hid (But (G + 1) wc.heap.size wc ((((((wc.setCell ⟨(G + 1), 0, none⟩ (.int .i64 2)).setCell ⟨(G + 1), 1, none⟩ (.string ⟨#[]⟩)).setCell ⟨(G + 1), 2, none⟩ (.int .i64 0)).setCell ⟨(G + 1), 3, none⟩ (.int .i64 (x.at_ : Int))).setCell ⟨(G + 1), 4, none⟩ (.slice none 0 0)).setCell ⟨(G + 1), 5, none⟩ (.slice none 0 0))) := but6 _ _ _ _ _ _ _ _
          generalize ((((((wc.setCell ⟨(G + 1), 0, none⟩ (.int .i64 2)).setCell ⟨(G + 1), 1, none⟩ (.string ⟨#[]⟩)).setCell ⟨(G + 1), 2, none⟩ (.int .i64 0)).setCell ⟨(G + 1), 3, none⟩ (.int .i64 (x.at_ : Int))).setCell ⟨(G + 1), 4, none⟩ (.slice none 0 0)).setCell ⟨(G + 1), 5, none⟩ (.slice none 0 0)) = wf at *
          gcells
          exact bodyPost_ret (v := .tuple #[ndV (Nd.mk 2 [] 0 x.at_ [] []) fr0, .bool false]) (by simp [results, Try.results42, go_sem, ndV, Nd.kd, Nd.tx, Nd.nm, Nd.at_, Nd.ns, Nd.ks, fr0, nd0, g0, g1, g2, g3, g4, g5]) rfl ⟨(Nd.mk 2 [] 0 x.at_ [] []), false, fr0, rfl, HR2.out.node HG.out (NodeIn.leaf wc b (x := (Nd.mk 2 [] 0 x.at_ [] [])) rfl rfl) HBF.out, HR2.out.bel HG.out HBF.out, by simp [HRD2.out]⟩
end Go.Proofs.Ytgjchgmlogbmmaa
/- The walks of layer 5, the document's: a leaf. -/
namespace Go.Proofs.Ytgjchgmlogbmmaa
open Go.RowKit
set_option linter.unusedVariables false
set_option linter.unusedSimpArgs false
attribute [local go_sem ↓] Go.wp_at_zero Go.wp_at_succ

set_option maxRecDepth 100000 in
set_option maxHeartbeats 2000000 in
theorem leaf_any (w : World) (R g c : Nat) (T : List Tok) (s : PS) (k : Int) (E : Ends T) (hp : PAt w R g c T s) :
    Calls Try.prog 82 #[.pointer (some ⟨R, 0, none⟩), .int .i64 k] w (Gives w R g c T (leafN T s k, stepF T s)) := by
  have HZ0 : Hid (Whole (w.alloc (.cells zZ 25)) w.heap.size 25 zZ) := Whole.made _ _ _
  have HB0 : Hid (Below w.heap.size w (w.alloc (.cells zZ 25))) := (Below.refl _ _).alloc (Nat.le_refl _) _
  have HP0 := Lib.hid (hp.alloc (.cells zZ 25))
  have HR := Lib.hid hp.rlt
  have HL := Lib.hid hp.tk.1
  clear hp
  obtain ⟨s', hs'⟩ : ∃ s', stepF T s = s' := ⟨_, rfl⟩
  have CS := Lib.hid (fun (wx : World) (h : PAt wx R g c T s) => step_any wx R g c T s E h)
  rw [hs'] at CS ⊢
  clear hs'
  unfold leafN
  generalize stepT T s = t at *
  go_enter Try.func82, Try.ntmps82
  go_upto_region 1 with (fail)
  generalize w.alloc (.cells zZ 25) = w1 at *
  go_wp2_with fail
  refine (CS.out w1 HP0.out).mono ?_
  rintro e w2 ⟨rfl, h2, b2⟩
  have HP := Lib.hid (h2.alloc (.cells #[.int .i64 t.kind, .string ⟨t.text.toArray⟩, .int .i64 t.num, .int .i64 (t.at_ : Int)] 67))
  have HZ := Lib.hid ((b2.whole HZ0.out HZ0.out.lt (Nat.ne_of_gt HR.out)).alloc (.cells #[.int .i64 t.kind, .string ⟨t.text.toArray⟩, .int .i64 t.num, .int .i64 (t.at_ : Int)] 67))
  have HB := Lib.hid (((But.of_below (H := R) HB0.out).trans (b2.mono HB0.out.size)).alloc (Nat.le_trans HB0.out.size b2.size) (.cells #[.int .i64 t.kind, .string ⟨t.text.toArray⟩, .int .i64 t.num, .int .i64 (t.at_ : Int)] 67))
  have HX : Hid (Whole (w2.alloc (.cells #[.int .i64 t.kind, .string ⟨t.text.toArray⟩, .int .i64 t.num, .int .i64 (t.at_ : Int)] 67)) w2.heap.size 67 #[.int .i64 t.kind, .string ⟨t.text.toArray⟩, .int .i64 t.num, .int .i64 (t.at_ : Int)]) := Whole.made _ _ _
  clear h2 b2 CS HZ0 HB0 HP0
  unfold tokV
  go_upto_region 2 with (fail)
  generalize w2.alloc (.cells #[.int .i64 t.kind, .string ⟨t.text.toArray⟩, .int .i64 t.num, .int .i64 (t.at_ : Int)] 67) = w3 at *
  generalize w2.heap.size = G at *
  have t1 : w3.cell? ⟨G, 1, none⟩ = some (.string ⟨t.text.toArray⟩) := HX.out.cell 1
  have t2 : w3.cell? ⟨G, 2, none⟩ = some (.int .i64 t.num) := HX.out.cell 2
  have t3 : w3.cell? ⟨G, 3, none⟩ = some (.int .i64 (t.at_ : Int)) := HX.out.cell 3
  zzero w3 (w.heap.size) (HZ.out)
  zfree (HZ.out)
  go_wp2_with fail
  have HZF : Hid (Whole ((((((w3.setCell ⟨w.heap.size, 0, none⟩ (.int .i64 k)).setCell ⟨w.heap.size, 1, none⟩ (.string ⟨t.text.toArray⟩)).setCell ⟨w.heap.size, 2, none⟩ (.int .i64 t.num)).setCell ⟨w.heap.size, 3, none⟩ (.int .i64 (t.at_ : Int))).setCell ⟨w.heap.size, 4, none⟩ (.slice none 0 0)).setCell ⟨w.heap.size, 5, none⟩ (.slice none 0 0)) w.heap.size 25 #[.int .i64 k, .string ⟨t.text.toArray⟩, .int .i64 t.num, .int .i64 (t.at_ : Int), .slice none 0 0, .slice none 0 0]) := put6 HZ.out _ _ _ _ _ _
  have HBF : Hid (But w.heap.size w3.heap.size w3 ((((((w3.setCell ⟨w.heap.size, 0, none⟩ (.int .i64 k)).setCell ⟨w.heap.size, 1, none⟩ (.string ⟨t.text.toArray⟩)).setCell ⟨w.heap.size, 2, none⟩ (.int .i64 t.num)).setCell ⟨w.heap.size, 3, none⟩ (.int .i64 (t.at_ : Int))).setCell ⟨w.heap.size, 4, none⟩ (.slice none 0 0)).setCell ⟨w.heap.size, 5, none⟩ (.slice none 0 0))) := but6 _ _ _ _ _ _ _ _
  generalize ((((((w3.setCell ⟨w.heap.size, 0, none⟩ (.int .i64 k)).setCell ⟨w.heap.size, 1, none⟩ (.string ⟨t.text.toArray⟩)).setCell ⟨w.heap.size, 2, none⟩ (.int .i64 t.num)).setCell ⟨w.heap.size, 3, none⟩ (.int .i64 (t.at_ : Int))).setCell ⟨w.heap.size, 4, none⟩ (.slice none 0 0)).setCell ⟨w.heap.size, 5, none⟩ (.slice none 0 0)) = wf at *
  gcells
  exact bodyPost_ret (v := ndV (.mk k t.text t.num t.at_ [] []) fr0) (by simp [results, Try.results82, go_sem, ndV, Nd.kd, Nd.tx, Nd.nm, Nd.at_, Nd.ns, Nd.ks, leafN, fr0, nd0, g0, g1, g2, g3, g4, g5]) rfl ⟨fr0, rfl, HP.out.but HBF.out (Nat.le_refl _) (Nat.ne_of_gt HR.out) (Nat.ne_of_gt HL.out), .leaf _ _ rfl rfl, HB.out.new HBF.out (Nat.le_refl _) HB.out.size⟩
end Go.Proofs.Ytgjchgmlogbmmaa
/- The walks of layer 5, the document's: an exp that has an end of its own. -/
namespace Go.Proofs.Ytgjchgmlogbmmaa
open Go.RowKit
set_option linter.unusedVariables false
set_option linter.unusedSimpArgs false
attribute [local go_sem ↓] Go.wp_at_zero Go.wp_at_succ

/-- What the rules that go deeper give. -/
structure Deep (R g c : Nat) (T : List Tok) (r : Rec) (n : Nat) : Prop where
  exp : ∀ (w : World) (s : PS), PAt w R g c T s → 41 ≤ s.deep + n → Calls Try.prog 39 #[.pointer (some ⟨R, 0, none⟩)] w (Gives w R g c T (r.exp s))
  pat : ∀ (w : World) (s : PS), PAt w R g c T s → 41 ≤ s.deep + n → Calls Try.prog 84 #[.pointer (some ⟨R, 0, none⟩)] w (Gives w R g c T (r.pat s))
  ty : ∀ (w : World) (s : PS), PAt w R g c T s → 41 ≤ s.deep + n → Calls Try.prog 67 #[.pointer (some ⟨R, 0, none⟩)] w (Gives w R g c T (r.ty s))
set_option maxRecDepth 100000 in
set_option maxHeartbeats 2000000 in
theorem whole_any (w : World) (R g c : Nat) (T : List Tok) (r : Rec) (n : Nat) (s : PS) (D : Deep R g c T r n) (hp : PAt w R g c T s) (hd : 41 ≤ s.deep + n) :
    Calls Try.prog 83 #[.pointer (some ⟨R, 0, none⟩)] w (Gives w R g c T (wholeF r s)) := by
  have HZ0 : Hid (Whole (w.alloc (.cells zZ 25)) w.heap.size 25 zZ) := Whole.made _ _ _
  have HB0 : Hid (Below w.heap.size w (w.alloc (.cells zZ 25))) := (Below.refl _ _).alloc (Nat.le_refl _) _
  have HP0 := Lib.hid (hp.alloc (.cells zZ 25))
  have HR := Lib.hid hp.rlt
  have HL := Lib.hid hp.tk.1
  have CE := Lib.hid (fun (wx : World) (h : PAt wx R g c T { s with flat := false }) => D.exp wx { s with flat := false } h hd)
  have HDP := Lib.hid hp.deep
  clear hp hd
  unfold wholeF
  generalize r.exp { s with flat := false } = q at *
  obtain ⟨x, s2⟩ := q
  dsimp only at CE ⊢
  go_enter Try.func83, Try.ntmps83
  go_upto_region 1 with (fail)
  generalize w.alloc (.cells zZ 25) = w1 at *
  have c4 := HP0.out.c4
  have f4 := HP0.out.free 4
  go_upto_region 3 with (fail)
  have HP1 : Hid (PAt (w1.setCell ⟨R, 4, none⟩ (.bool false)) R g c T { s with flat := false }) := HP0.out.upd 4 _ rfl HP0.out.lt HP0.out.deep
  have HZ1 := Lib.hid (HZ0.out.far (p := ⟨R, 4, none⟩) (Nat.ne_of_gt HR.out) (.bool false))
  have HB1 := Lib.hid ((But.of_below (H := R) HB0.out).set 4 (.bool false))
  clear HP0 HZ0 HB0 c4 f4
  generalize w1.setCell ⟨R, 4, none⟩ (.bool false) = w2 at *
  go_wp2_with fail
  refine (CE.out w2 HP1.out).mono ?_
  rintro e w3 ⟨f, rfl, h3, n3, b3⟩
  have HP3 := Lib.hid (h3.alloc (.cells zN(x, f) 25))
  have HN3 := Lib.hid (n3.later ((Below.refl _ _).alloc (Nat.le_refl _) (.cells zN(x, f) 25)) (Nat.le_refl _))
  have HZ3 := Lib.hid ((b3.whole HZ1.out HZ1.out.lt (Nat.ne_of_gt HR.out)).alloc (.cells zN(x, f) 25))
  have HB3 := Lib.hid ((HB1.out.trans (b3.mono HB1.out.size)).alloc (Nat.le_trans HB1.out.size b3.size) (.cells zN(x, f) 25))
  have HX3 : Hid (Whole (w3.alloc (.cells zN(x, f) 25)) w3.heap.size 25 zN(x, f)) := Whole.made _ _ _
  have HS3 : Hid (w.heap.size < w2.heap.size ∧ w2.heap.size ≤ w3.heap.size) := ⟨HZ1.out.lt, b3.size⟩
  clear h3 n3 b3 CE HP1 HZ1 HB1
  unfold ndV
  go_upto_region 4 with (fail)
  generalize w3.alloc (.cells zN(x, f) 25) = w4 at *
  generalize w3.heap.size = G at *
  have c4 := HP3.out.c4
  have f4 := HP3.out.free 4
  go_upto_region 5 with (fail)
  have HP5 : Hid (PAt (w4.setCell ⟨R, 4, none⟩ (.bool s.flat)) R g c T { s2 with flat := s.flat }) := HP3.out.upd 4 _ rfl HP3.out.lt HP3.out.deep
  have HZ5 := Lib.hid (HZ3.out.far (p := ⟨R, 4, none⟩) (Nat.ne_of_gt HR.out) (.bool s.flat))
  have HX5 := Lib.hid (HX3.out.far (p := ⟨R, 4, none⟩) (by show G ≠ R; have := HS3.out; have := HR.out; omega) (.bool s.flat))
  have HB5 := Lib.hid (HB3.out.set 4 (.bool s.flat))
  have HN5 := Lib.hid (HN3.out.but ((But.refl R w4.heap.size w4).set 4 (.bool s.flat)) (Nat.le_refl _) (fun a ha e => by have := HS3.out.1; have := HR.out; omega))
  clear HP3 HZ3 HX3 HB3 HN3 c4 f4
  generalize w4.setCell ⟨R, 4, none⟩ (.bool s.flat) = w5 at *
  have t0 : w5.cell? ⟨G, 0, none⟩ = some (.int .i64 x.kd) := HX5.out.cell 0
  have t1 : w5.cell? ⟨G, 1, none⟩ = some (.string ⟨x.tx.toArray⟩) := HX5.out.cell 1
  have t2 : w5.cell? ⟨G, 2, none⟩ = some (.int .i64 x.nm) := HX5.out.cell 2
  have t3 : w5.cell? ⟨G, 3, none⟩ = some (.int .i64 (x.at_ : Int)) := HX5.out.cell 3
  have t4 : w5.cell? ⟨G, 4, none⟩ = some (.slice f.na x.ns.length f.nc) := HX5.out.cell 4
  have t5 : w5.cell? ⟨G, 5, none⟩ = some (.slice f.ka x.ks.length f.kc) := HX5.out.cell 5
  zzero w5 (w.heap.size) (HZ5.out)
  zfree (HZ5.out)
  go_wp2_with fail
  have HZF : Hid (Whole (zP(w5, w.heap.size, x, f)) w.heap.size 25 zN(x, f)) := put6 HZ5.out _ _ _ _ _ _
  have HBF : Hid (But w.heap.size w5.heap.size w5 (zP(w5, w.heap.size, x, f))) := but6 _ _ _ _ _ _ _ _
  generalize (zP(w5, w.heap.size, x, f)) = wf at *
  gcells
  exact bodyPost_ret (v := ndV x f) (by simp [results, Try.results83, go_sem, ndV, Nd.kd, Nd.tx, Nd.nm, Nd.at_, Nd.ns, Nd.ks, leafN, fr0, nd0, g0, g1, g2, g3, g4, g5]) rfl ⟨f, rfl, HP5.out.but HBF.out (Nat.le_refl _) (Nat.ne_of_gt HR.out) (Nat.ne_of_gt HL.out), (HN5.out.but HBF.out (Nat.le_refl _) (fun a ha e => by have := HS3.out.1; omega)).mono (fun a ha _ => by have := HS3.out.1; omega), HB5.out.new HBF.out (Nat.le_refl _) HB5.out.size⟩
end Go.Proofs.Ytgjchgmlogbmmaa
/- Where a rule of the parser stands: the record, the result's block, what is as it was. -/
namespace Go.Proofs.Ytgjchgmlogbmmaa
open Go.RowKit
set_option linter.unusedVariables false
set_option linter.unusedSimpArgs false
attribute [local go_sem ↓] Go.wp_at_zero Go.wp_at_succ

structure St (w0 w : World) (R g c : Nat) (T : List Tok) (s : PS) : Prop where
  p : PAt w R g c T s
  z : Whole w w0.heap.size 25 zZ
  b : But R w0.heap.size w0 w
  r : R < w0.heap.size
  l : g < w0.heap.size
section
variable {w0 w w' : World} {R g c : Nat} {T : List Tok} {s s' : PS}
theorem St.start (h : PAt w R g c T s) : St w (w.alloc (.cells zZ 25)) R g c T s :=
  ⟨h.alloc _, Whole.made _ _ _, .of_below ((Below.refl _ _).alloc (Nat.le_refl _) _), h.rlt, h.tk.1⟩
theorem St.call (h : St w0 w R g c T s) (p : PAt w' R g c T s') (b : But R w.heap.size w w') : St w0 w' R g c T s' :=
  ⟨p, b.whole h.z h.z.lt (Nat.ne_of_gt h.r), h.b.trans (b.mono h.b.size), h.r, h.l⟩
theorem St.read (h : St w0 w R g c T s) (b : Below w.heap.size w w') : St w0 w' R g c T s := h.call (h.p.below b (Nat.le_refl _)) (.of_below b)
theorem St.alloc (h : St w0 w R g c T s) (o : Obj) : St w0 (w.alloc o) R g c T s := h.read ((Below.refl _ _).alloc (Nat.le_refl _) o)
theorem St.drew (h : St w0 w R g c T s) : St w0 w.drew R g c T s := h.read (Below.refl _ _).drew
theorem St.drewN (h : St w0 w R g c T s) (n : Nat) : St w0 (w.drewN n) R g c T s := h.read (below_drewN (Below.refl _ _) n)
theorem St.own (h : St w0 w R g c T s) {p : Addr} (hp : w0.heap.size < p.block) (u : Value) : St w0 (w.setCell p u) R g c T s :=
  ⟨h.p.setCell (by have := h.r; omega) (by have := h.l; omega) u, h.z.far (by omega) u, h.b.setCell (by omega) u, h.r, h.l⟩
theorem St.upd (h : St w0 w R g c T s) (o : Nat) (u : Value) (hs : (psA g c T s).setIfInBounds o u = psA g c T s') (hl : s'.i < T.length) (hd : s'.deep ≤ 40) : St w0 (w.setCell ⟨R, o, none⟩ u) R g c T s' :=
  ⟨h.p.upd o u hs hl hd, h.z.far (Nat.ne_of_gt h.r) u, h.b.set o u, h.r, h.l⟩
theorem St.size (h : St w0 w R g c T s) : w0.heap.size < w.heap.size := h.z.lt
/-- What lies low is as it was. -/
theorem St.low (h : St w0 w R g c T s) (b : Below (w0.heap.size + 1) w w') : St w0 w' R g c T s :=
  ⟨⟨(b.block R (by have := h.r; omega)).trans h.p.box, h.p.ne, h.p.tk.block b.size (b.block g (by have := h.l; omega)), h.p.lt, h.p.len, h.p.deep⟩, (b.block _ (Nat.lt_succ_self _)).trans h.z, h.b.trans (.of_below (b.mono (Nat.le_succ _))), h.r, h.l⟩
/-- The result is laid. -/
theorem St.done (h : St w0 w R g c T s) {x : Nd} {f : Fr} (n : NodeIn w (fun a => w0.heap.size < a) x f) (b : But w0.heap.size w.heap.size w w') : Gives w0 R g c T (x, s) (.returned (ndV x f)) w' :=
  ⟨f, rfl, h.p.but b (Nat.le_refl _) (Nat.ne_of_gt h.r) (Nat.ne_of_gt h.l), (n.but b (Nat.le_refl _) (fun a ha e => by omega)).mono (fun a ha _ => by omega), h.b.new b (Nat.le_refl _) h.b.size⟩
theorem NodeIn.gt {x : Nd} {f : Fr} (n : NodeIn w' (fun a => w.heap.size ≤ a) x f) (h : St w0 w R g c T s) : NodeIn w' (fun a => w0.heap.size < a) x f := n.mono fun a ha _ => by have := h.size; omega
theorem NodeIn.alloc {b : Nat → Prop} {x : Nd} {f : Fr} (n : NodeIn w b x f) (o : Obj) : NodeIn (w.alloc o) b x f := n.later ((Below.refl _ _).alloc (Nat.le_refl _) o) (Nat.le_refl _)
theorem NodeIn.drew {b : Nat → Prop} {x : Nd} {f : Fr} (n : NodeIn w b x f) : NodeIn w.drew b x f := n.later (Below.refl _ _).drew (Nat.le_refl _)
theorem NodeIn.call {x : Nd} {f : Fr} (n : NodeIn w (fun a => w0.heap.size < a) x f) (h : St w0 w R g c T s) (b : But R w.heap.size w w') : NodeIn w' (fun a => w0.heap.size < a) x f := n.but b (Nat.le_refl _) fun a ha e => by have := h.r; omega
theorem NodeIn.upd {x : Nd} {f : Fr} (n : NodeIn w (fun a => w0.heap.size < a) x f) (h : St w0 w R g c T s) (o : Nat) (u : Value) : NodeIn (w.setCell ⟨R, o, none⟩ u) (fun a => w0.heap.size < a) x f := n.call h ((But.refl R w.heap.size w).set o u)
/-- A block of the call's own is as it was behind a call. -/
theorem Whole.call {G : Nat} {t : TypeId} {cs : Array Value} (hw : Whole w G t cs) (h : St w0 w R g c T s) (hG : w0.heap.size < G) (b : But R w.heap.size w w') : Whole w' G t cs := b.whole hw hw.lt (by have := h.r; omega)
theorem Whole.updR {G : Nat} {t : TypeId} {cs : Array Value} (hw : Whole w G t cs) (h : St w0 w R g c T s) (hG : w0.heap.size < G) (o : Nat) (u : Value) : Whole (w.setCell ⟨R, o, none⟩ u) G t cs := hw.far (by show G ≠ R; have := h.r; omega) u
end
end Go.Proofs.Ytgjchgmlogbmmaa
/- The walks of layer 5, the document's: an exp, one deeper. -/
namespace Go.Proofs.Ytgjchgmlogbmmaa
open Go.RowKit
set_option linter.unusedVariables false
set_option linter.unusedSimpArgs false
attribute [local go_sem ↓] Go.wp_at_zero Go.wp_at_succ

set_option maxRecDepth 100000 in
set_option maxHeartbeats 2000000 in
theorem exp_any (w : World) (R g c : Nat) (T : List Tok) (r : Rec) (s : PS) (E : Ends T) (F : Fine T r) (hp : PAt w R g c T s)
    (CI : enterB T s = true → ∀ wx : World, PAt wx R g c T (enterF T s) → Calls Try.prog 55 #[.pointer (some ⟨R, 0, none⟩)] wx (Gives wx R g c T (innerF T r (enterF T s)))) :
    Calls Try.prog 39 #[.pointer (some ⟨R, 0, none⟩)] w (Gives w R g c T (expF T r s)) := by
  have H0 := Lib.hid (St.start hp)
  have CE := Lib.hid (fun wx (h : PAt wx R g c T s) => enter_any wx R g c T s h)
  have HI := Lib.hid CI
  have HG := Lib.hid (fun (h : enterB T s = true) => goes_inner E F (enter_lt hp.lt h))
  have HEI := Lib.hid (fun (h : enterB T s = true) => enter_in hp.lt h)
  obtain ⟨q, hq⟩ : ∃ q, expF T r s = q := ⟨_, rfl⟩
  rw [hq]
  have HQ := Lib.hid hq
  clear hp CI hq
  go_enter Try.func39, Try.ntmps39
  go_upto_region 1 with (fail)
  generalize w.alloc (.cells zZ 25) = w1 at *
  go_wp2_with fail
  refine (CE.out w1 H0.out.p).mono ?_
  rintro e w2 ⟨rfl, h2, b2⟩
  have H2 := Lib.hid (H0.out.call h2 b2)
  clear h2 b2 H0 CE
  by_cases hb : enterB T s = true
  · have hq : ((innerF T r (enterF T s)).1, up (innerF T r (enterF T s)).2) = q := by rw [← HQ.out]; unfold expF; rw [if_pos hb]
    have hi := HI.out hb
    have hg := HG.out hb
    obtain ⟨a1, a2, a3, _⟩ := HEI.out hb
    subst hq
    have HC := Lib.hid hi
    have HGG := Lib.hid hg
    rw [hb]
    clear HQ HI HG HEI hi hg hb
    generalize innerF T r (enterF T s) = q at *
    obtain ⟨x, s3⟩ := q
    dsimp only at HC HGG ⊢
    go_wp2_with fail
    refine (HC.out w2 H2.out.p).mono ?_
    rintro e w3 ⟨f, rfl, h3, n3, b3⟩
    have H3 := Lib.hid ((H2.out.call h3 b3).alloc (.cells zN(x, f) 25))
    have N3 := Lib.hid ((n3.gt H2.out).alloc (.cells zN(x, f) 25))
    have X3 : Hid (Whole (w3.alloc (.cells zN(x, f) 25)) w3.heap.size 25 zN(x, f)) := Whole.made _ _ _
    have S3 : Hid (w.heap.size < w3.heap.size) := (H2.out.call h3 b3).size
    clear h3 n3 b3 HC
    unfold ndV
    go_upto_region 5 with (fail)
    generalize w3.alloc (.cells zN(x, f) 25) = w4 at *
    generalize w3.heap.size = G at *
    have c2 := H3.out.p.c2
    have f2 := H3.out.p.free 2
    have d3 : s3.deep = s.deep + 1 := by rw [HGG.out.deep]; exact a2
    have d4 : (s3.deep : Int) - 1 = (s.deep : Int) := by omega
    have d5 : s3.deep - 1 = s.deep := by omega
    have d6 : (s3.deep : Int) ≤ 40 := by have := H3.out.p.deep; omega
    have HU : Hid (up s3 = { s3 with deep := s.deep }) := by show _ = _; unfold up; rw [d5]
    clear d5 d3 a1 a2 a3
    go_upto_region 6 with (fail)
    have H6 : Hid (St w (w4.setCell ⟨R, 2, none⟩ (.int .i64 (s.deep : Int))) R g c T (up s3)) := by
      show St _ _ _ _ _ _ _
      rw [HU.out]
      exact H3.out.upd (s' := { s3 with deep := s.deep }) 2 _ rfl H3.out.p.lt (by show s.deep ≤ 40; omega)
    have N6 := Lib.hid (N3.out.upd H3.out 2 (.int .i64 (s.deep : Int)))
    have X6 := Lib.hid (X3.out.updR H3.out S3.out 2 (.int .i64 (s.deep : Int)))
    clear c2 f2 H3 N3 X3
    generalize w4.setCell ⟨R, 2, none⟩ (.int .i64 (s.deep : Int)) = w6 at *
    have t0 : w6.cell? ⟨G, 0, none⟩ = some (.int .i64 x.kd) := X6.out.cell 0
    have t1 : w6.cell? ⟨G, 1, none⟩ = some (.string ⟨x.tx.toArray⟩) := X6.out.cell 1
    have t2 : w6.cell? ⟨G, 2, none⟩ = some (.int .i64 x.nm) := X6.out.cell 2
    have t3 : w6.cell? ⟨G, 3, none⟩ = some (.int .i64 (x.at_ : Int)) := X6.out.cell 3
    have t4 : w6.cell? ⟨G, 4, none⟩ = some (.slice f.na x.ns.length f.nc) := X6.out.cell 4
    have t5 : w6.cell? ⟨G, 5, none⟩ = some (.slice f.ka x.ks.length f.kc) := X6.out.cell 5
    zzero w6 (w.heap.size) (H6.out.z)
    zfree (H6.out.z)
    go_wp2_with fail
    have HZF : Hid (Whole (zP(w6, w.heap.size, x, f)) w.heap.size 25 zN(x, f)) := put6 H6.out.z _ _ _ _ _ _
    have HBF : Hid (But w.heap.size w6.heap.size w6 (zP(w6, w.heap.size, x, f))) := but6 _ _ _ _ _ _ _ _
    generalize (zP(w6, w.heap.size, x, f)) = wf at *
    gcells
    exact bodyPost_ret (v := ndV x f) (by simp [results, Try.results39, go_sem, ndV, Nd.kd, Nd.tx, Nd.nm, Nd.at_, Nd.ns, Nd.ks, leafN, fr0, nd0, g0, g1, g2, g3, g4, g5]) rfl (H6.out.done N6.out HBF.out)
  · have hq : (nd0, enterF T s) = q := by rw [← HQ.out]; unfold expF; rw [if_neg hb]
    subst hq
    have hb2 : enterB T s = false := by cases h : enterB T s <;> simp_all
    rw [hb2]
    clear HQ HI HG HEI hb hb2
    zzero w2 (w.heap.size) (H2.out.z)
    zfree (H2.out.z)
    go_wp2_with fail
    have HZF : Hid (Whole (zP0(w2, w.heap.size)) w.heap.size 25 zZ) := put6 H2.out.z _ _ _ _ _ _
    have HBF : Hid (But w.heap.size w2.heap.size w2 (zP0(w2, w.heap.size))) := but6 _ _ _ _ _ _ _ _
    generalize (zP0(w2, w.heap.size)) = wf at *
    gcells
    exact bodyPost_ret (v := ndV nd0 fr0) (by simp [results, Try.results39, go_sem, ndV, Nd.kd, Nd.tx, Nd.nm, Nd.at_, Nd.ns, Nd.ks, leafN, fr0, nd0, g0, g1, g2, g3, g4, g5]) rfl (H2.out.done (x := nd0) (f := fr0) (.leaf _ _ rfl rfl) HBF.out)
end Go.Proofs.Ytgjchgmlogbmmaa
/- The walks of layer 5, the document's: a pattern without anything behind it. -/
namespace Go.Proofs.Ytgjchgmlogbmmaa
open Go.RowKit
set_option linter.unusedVariables false
set_option linter.unusedSimpArgs false
attribute [local go_sem ↓] Go.wp_at_zero Go.wp_at_succ

set_option maxRecDepth 100000 in
set_option maxHeartbeats 4000000 in
theorem patom_any (w : World) (R g c : Nat) (T : List Tok) (r : Rec) (n : Nat) (s : PS) (E : Ends T) (F : Fine T r) (D : Deep R g c T r n) (hp : PAt w R g c T s) (hd : 41 ≤ s.deep + n) :
    Calls Try.prog 85 #[.pointer (some ⟨R, 0, none⟩)] w (Gives w R g c T (patomF T r s)) := by
  have H0 := Lib.hid (St.start hp)
  have CK := Lib.hid (fun wx (h : PAt wx R g c T s) => kind_any wx R g c T s h)
  have GS := Lib.hid (goes_step E hp.lt)
  have HD := Lib.hid hd
  obtain ⟨q, hq⟩ : ∃ q, patomF T r s = q := ⟨_, rfl⟩
  rw [hq]
  have HQ := Lib.hid hq
  clear hp hq hd
  unfold patomF at HQ
  obtain ⟨k, hk⟩ : ∃ k, kdF T s = k := ⟨_, rfl⟩
  rw [hk] at CK HQ
  clear hk
  go_enter Try.func85, Try.ntmps85
  go_upto_region 1 with (fail)
  generalize w.alloc (.cells zZ 25) = w1 at *
  go_wp2_with fail
  refine (CK.out w1 H0.out.p).mono ?_
  rintro e w2 ⟨rfl, b2⟩
  have H2 := Lib.hid (H0.out.read b2)
  clear b2 H0 CK
  by_cases k1 : k = 1
  · subst k1
    have hq : (leafN T s 1, stepF T s) = q := by rw [← HQ.out]; exact (if_pos rfl).symm
    subst hq
    have CL := Lib.hid (leaf_any w2 R g c T s 1 E H2.out.p)
    clear HQ
    generalize leafN T s 1 = x at *
    generalize stepF T s = s2 at *
    go_wp2_with fail
    refine CL.out.mono ?_
    rintro e w9 ⟨f, rfl, h9, n9, b9⟩
    have H9 := Lib.hid (H2.out.call h9 b9)
    have N9 := Lib.hid (n9.gt H2.out)
    clear h9 n9 b9 CL
    unfold ndV
    zzero w9 (w.heap.size) (H9.out.z)
    zfree (H9.out.z)
    go_wp2_with fail
    have HZF : Hid (Whole (zP(w9, w.heap.size, x, f)) w.heap.size 25 zN(x, f)) := put6 H9.out.z _ _ _ _ _ _
    have HBF : Hid (But w.heap.size w9.heap.size w9 (zP(w9, w.heap.size, x, f))) := but6 _ _ _ _ _ _ _ _
    generalize (zP(w9, w.heap.size, x, f)) = wf at *
    gcells
    exact bodyPost_ret (v := ndV x f) (by simp [results, Try.results85, go_sem, ndV, Nd.kd, Nd.tx, Nd.nm, Nd.at_, Nd.ns, Nd.ks, leafN, fr0, nd0, g0, g1, g2, g3, g4, g5]) rfl (H9.out.done N9.out HBF.out)
  by_cases k3 : k = 3
  · subst k3
    have hq : (leafN T s 4, stepF T s) = q := by rw [← HQ.out]; rw [if_neg (by decide), if_pos rfl]
    subst hq
    have CL := Lib.hid (leaf_any w2 R g c T s 4 E H2.out.p)
    clear HQ
    generalize leafN T s 4 = x at *
    generalize stepF T s = s2 at *
    go_wp2_with fail
    refine CL.out.mono ?_
    rintro e w9 ⟨f, rfl, h9, n9, b9⟩
    have H9 := Lib.hid (H2.out.call h9 b9)
    have N9 := Lib.hid (n9.gt H2.out)
    clear h9 n9 b9 CL
    unfold ndV
    zzero w9 (w.heap.size) (H9.out.z)
    zfree (H9.out.z)
    go_wp2_with fail
    have HZF : Hid (Whole (zP(w9, w.heap.size, x, f)) w.heap.size 25 zN(x, f)) := put6 H9.out.z _ _ _ _ _ _
    have HBF : Hid (But w.heap.size w9.heap.size w9 (zP(w9, w.heap.size, x, f))) := but6 _ _ _ _ _ _ _ _
    generalize (zP(w9, w.heap.size, x, f)) = wf at *
    gcells
    exact bodyPost_ret (v := ndV x f) (by simp [results, Try.results85, go_sem, ndV, Nd.kd, Nd.tx, Nd.nm, Nd.at_, Nd.ns, Nd.ks, leafN, fr0, nd0, g0, g1, g2, g3, g4, g5]) rfl (H9.out.done N9.out HBF.out)
  by_cases k4 : k = 4
  · subst k4
    have hq : (leafN T s 5, stepF T s) = q := by rw [← HQ.out]; rw [if_neg (by decide), if_neg (by decide), if_pos rfl]
    subst hq
    have CL := Lib.hid (leaf_any w2 R g c T s 5 E H2.out.p)
    clear HQ
    generalize leafN T s 5 = x at *
    generalize stepF T s = s2 at *
    go_wp2_with fail
    refine CL.out.mono ?_
    rintro e w9 ⟨f, rfl, h9, n9, b9⟩
    have H9 := Lib.hid (H2.out.call h9 b9)
    have N9 := Lib.hid (n9.gt H2.out)
    clear h9 n9 b9 CL
    unfold ndV
    zzero w9 (w.heap.size) (H9.out.z)
    zfree (H9.out.z)
    go_wp2_with fail
    have HZF : Hid (Whole (zP(w9, w.heap.size, x, f)) w.heap.size 25 zN(x, f)) := put6 H9.out.z _ _ _ _ _ _
    have HBF : Hid (But w.heap.size w9.heap.size w9 (zP(w9, w.heap.size, x, f))) := but6 _ _ _ _ _ _ _ _
    generalize (zP(w9, w.heap.size, x, f)) = wf at *
    gcells
    exact bodyPost_ret (v := ndV x f) (by simp [results, Try.results85, go_sem, ndV, Nd.kd, Nd.tx, Nd.nm, Nd.at_, Nd.ns, Nd.ks, leafN, fr0, nd0, g0, g1, g2, g3, g4, g5]) rfl (H9.out.done N9.out HBF.out)
  have q1 : (k == 1) = false := beq_eq_false_iff_ne.2 k1
  have q3 : (k == 3) = false := beq_eq_false_iff_ne.2 k3
  have q4 : (k == 4) = false := beq_eq_false_iff_ne.2 k4
  have HQ2 : Hid ((if isF T s [95] = true then (.mk 24 [] 0 (stepT T s).at_ [] [], stepF T s) else if isF T s [40] = true then ((r.pat (stepF T s)).1, wantF T (r.pat (stepF T s)).2 [41]) else (nd0, failF T s 14)) = q) := by
    show _ = _
    rw [← HQ.out, if_neg k1, if_neg k3, if_neg k4]
  have CI1 := Lib.hid (is_any w2 R g c T s [95] H2.out.p)
  have CI2 := Lib.hid (fun wx (h : PAt wx R g c T s) => is_any wx R g c T s [40] h)
  clear HQ k1 k3 k4
  generalize isF T s [95] = b1 at *
  generalize isF T s [40] = b2 at *
  go_wp2_with fail
  refine CI1.out.mono ?_
  rintro e w3 ⟨rfl, c3⟩
  have H3 := Lib.hid (H2.out.read c3)
  clear c3 H2 CI1
  go_wp2_with fail
  refine (CI2.out w3 H3.out.p).mono ?_
  rintro e w4 ⟨rfl, c4⟩
  have H4 := Lib.hid (H3.out.read c4)
  clear c4 H3 CI2
  rcases b1 with _ | _
  · rcases b2 with _ | _
    · have hq : (nd0, failF T s 14) = q := by rw [← HQ2.out, if_neg (by decide), if_neg (by decide)]
      subst hq
      clear HQ2
      go_wp2_with fail
      refine (fail_any w4 R g c T s 14 H4.out.p).mono ?_
      rintro e w5 ⟨rfl, h5, b5⟩
      have H5 := Lib.hid (H4.out.call h5 b5)
      clear h5 b5
      zzero w5 (w.heap.size) (H5.out.z)
      zfree (H5.out.z)
      go_wp2_with fail
      have HZF : Hid (Whole (zP0(w5, w.heap.size)) w.heap.size 25 zZ) := put6 H5.out.z _ _ _ _ _ _
      have HBF : Hid (But w.heap.size w5.heap.size w5 (zP0(w5, w.heap.size))) := but6 _ _ _ _ _ _ _ _
      generalize (zP0(w5, w.heap.size)) = wf at *
      gcells
      exact bodyPost_ret (v := ndV nd0 fr0) (by simp [results, Try.results85, go_sem, ndV, Nd.kd, Nd.tx, Nd.nm, Nd.at_, Nd.ns, Nd.ks, leafN, fr0, nd0, g0, g1, g2, g3, g4, g5]) rfl (H5.out.done (x := nd0) (f := fr0) (.leaf _ _ rfl rfl) HBF.out)
    · have hq : ((r.pat (stepF T s)).1, wantF T (r.pat (stepF T s)).2 [41]) = q := by rw [← HQ2.out, if_neg (by decide), if_pos rfl]
      subst hq
      clear HQ2
      have CS := Lib.hid (step_any w4 R g c T s E H4.out.p)
      have CP := Lib.hid (fun wx (h : PAt wx R g c T (stepF T s)) => D.pat wx (stepF T s) h (by rw [GS.out.deep]; exact HD.out))
      have GP := Lib.hid (F.pat (stepF T s) GS.out.lt)
      generalize stepT T s = t at *
      generalize stepF T s = s2 at *
      generalize r.pat s2 = q at *
      obtain ⟨x, s3⟩ := q
      dsimp only at CP GP
      go_wp2_with fail
      refine CS.out.mono ?_
      rintro e w5 ⟨rfl, h5, b5⟩
      have H5 := Lib.hid (H4.out.call h5 b5)
      clear h5 b5 CS H4
      go_wp2_with fail
      refine (CP.out w5 H5.out.p).mono ?_
      rintro e w6 ⟨f, rfl, h6, n6, b6⟩
      have H6 := Lib.hid ((H5.out.call h6 b6).alloc (.cells zN(x, f) 25))
      have N6 := Lib.hid ((n6.gt H5.out).alloc (.cells zN(x, f) 25))
      have X6 : Hid (Whole (w6.alloc (.cells zN(x, f) 25)) w6.heap.size 25 zN(x, f)) := Whole.made _ _ _
      have S6 : Hid (w.heap.size < w6.heap.size) := (H5.out.call h6 b6).size
      clear h6 n6 b6 CP H5
      unfold ndV
      go_upto_region 16 with (fail)
      generalize w6.alloc (.cells zN(x, f) 25) = w7 at *
      generalize w6.heap.size = G at *
      go_wp2_with fail
      refine (want_any w7 R g c T s3 [41] E H6.out.p).mono ?_
      rintro e w8 ⟨rfl, h8, b8⟩
      have H8 := Lib.hid (H6.out.call h8 b8)
      have N8 := Lib.hid (N6.out.call H6.out b8)
      have X8 := Lib.hid (X6.out.call H6.out S6.out b8)
      clear h8 b8 H6 N6 X6
      have t0 : w8.cell? ⟨G, 0, none⟩ = some (.int .i64 x.kd) := X8.out.cell 0
      have t1 : w8.cell? ⟨G, 1, none⟩ = some (.string ⟨x.tx.toArray⟩) := X8.out.cell 1
      have t2 : w8.cell? ⟨G, 2, none⟩ = some (.int .i64 x.nm) := X8.out.cell 2
      have t3 : w8.cell? ⟨G, 3, none⟩ = some (.int .i64 (x.at_ : Int)) := X8.out.cell 3
      have t4 : w8.cell? ⟨G, 4, none⟩ = some (.slice f.na x.ns.length f.nc) := X8.out.cell 4
      have t5 : w8.cell? ⟨G, 5, none⟩ = some (.slice f.ka x.ks.length f.kc) := X8.out.cell 5
      zzero w8 (w.heap.size) (H8.out.z)
      zfree (H8.out.z)
      go_wp2_with fail
      have HZF : Hid (Whole (zP(w8, w.heap.size, x, f)) w.heap.size 25 zN(x, f)) := put6 H8.out.z _ _ _ _ _ _
      have HBF : Hid (But w.heap.size w8.heap.size w8 (zP(w8, w.heap.size, x, f))) := but6 _ _ _ _ _ _ _ _
      generalize (zP(w8, w.heap.size, x, f)) = wf at *
      gcells
      exact bodyPost_ret (v := ndV x f) (by simp [results, Try.results85, go_sem, ndV, Nd.kd, Nd.tx, Nd.nm, Nd.at_, Nd.ns, Nd.ks, leafN, fr0, nd0, g0, g1, g2, g3, g4, g5]) rfl (H8.out.done N8.out HBF.out)
  · have hq : (.mk 24 [] 0 (stepT T s).at_ [] [], stepF T s) = q := by rw [← HQ2.out, if_pos rfl]
    subst hq
    clear HQ2
    have CS := Lib.hid (step_any w4 R g c T s E H4.out.p)
    generalize stepT T s = t at *
    generalize stepF T s = s2 at *
    go_wp2_with fail
    refine CS.out.mono ?_
    rintro e w5 ⟨rfl, h5, b5⟩
    have H5 := Lib.hid ((H4.out.call h5 b5).alloc (.cells #[.int .i64 t.kind, .string ⟨t.text.toArray⟩, .int .i64 t.num, .int .i64 (t.at_ : Int)] 67))
    have X5 : Hid (Whole (w5.alloc (.cells #[.int .i64 t.kind, .string ⟨t.text.toArray⟩, .int .i64 t.num, .int .i64 (t.at_ : Int)] 67)) w5.heap.size 67 #[.int .i64 t.kind, .string ⟨t.text.toArray⟩, .int .i64 t.num, .int .i64 (t.at_ : Int)]) := Whole.made _ _ _
    clear h5 b5 CS H4
    unfold tokV
    go_upto_region 12 with (fail)
    generalize w5.alloc (.cells #[.int .i64 t.kind, .string ⟨t.text.toArray⟩, .int .i64 t.num, .int .i64 (t.at_ : Int)] 67) = w6 at *
    generalize w5.heap.size = G at *
    have t3 : w6.cell? ⟨G, 3, none⟩ = some (.int .i64 (t.at_ : Int)) := X5.out.cell 3
    zzero w6 (w.heap.size) (H5.out.z)
    zfree (H5.out.z)
    go_wp2_with fail
    have HZF : Hid (Whole ((((((w6.setCell ⟨w.heap.size, 0, none⟩ (.int .i64 24)).setCell ⟨w.heap.size, 1, none⟩ (.string ⟨#[]⟩)).setCell ⟨w.heap.size, 2, none⟩ (.int .i64 0)).setCell ⟨w.heap.size, 3, none⟩ (.int .i64 (t.at_ : Int))).setCell ⟨w.heap.size, 4, none⟩ (.slice none 0 0)).setCell ⟨w.heap.size, 5, none⟩ (.slice none 0 0)) w.heap.size 25 #[.int .i64 24, .string ⟨#[]⟩, .int .i64 0, .int .i64 (t.at_ : Int), .slice none 0 0, .slice none 0 0]) := put6 H5.out.z _ _ _ _ _ _
    have HBF : Hid (But w.heap.size w6.heap.size w6 ((((((w6.setCell ⟨w.heap.size, 0, none⟩ (.int .i64 24)).setCell ⟨w.heap.size, 1, none⟩ (.string ⟨#[]⟩)).setCell ⟨w.heap.size, 2, none⟩ (.int .i64 0)).setCell ⟨w.heap.size, 3, none⟩ (.int .i64 (t.at_ : Int))).setCell ⟨w.heap.size, 4, none⟩ (.slice none 0 0)).setCell ⟨w.heap.size, 5, none⟩ (.slice none 0 0))) := but6 _ _ _ _ _ _ _ _
    generalize ((((((w6.setCell ⟨w.heap.size, 0, none⟩ (.int .i64 24)).setCell ⟨w.heap.size, 1, none⟩ (.string ⟨#[]⟩)).setCell ⟨w.heap.size, 2, none⟩ (.int .i64 0)).setCell ⟨w.heap.size, 3, none⟩ (.int .i64 (t.at_ : Int))).setCell ⟨w.heap.size, 4, none⟩ (.slice none 0 0)).setCell ⟨w.heap.size, 5, none⟩ (.slice none 0 0)) = wf at *
    gcells
    exact bodyPost_ret (v := ndV (.mk 24 [] 0 t.at_ [] []) fr0) (by simp [results, Try.results85, go_sem, ndV, Nd.kd, Nd.tx, Nd.nm, Nd.at_, Nd.ns, Nd.ks, leafN, fr0, nd0, g0, g1, g2, g3, g4, g5]) rfl (H5.out.done (f := fr0) (.leaf _ _ rfl rfl) HBF.out)
end Go.Proofs.Ytgjchgmlogbmmaa
