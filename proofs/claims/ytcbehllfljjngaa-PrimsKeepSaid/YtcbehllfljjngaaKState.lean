/- A collection from a closure that keeps two texts: its states. -/
import Derived.Test.YtcbehllfljjngaaKWalkC
namespace Go.Proofs.Ytcbehllfljjngaa
open Go.RowKit
set_option linter.unusedVariables false

/-- What is collected: a closure that keeps two texts and 9. -/
structure KIn (H : Hp) (c f2 b a : Int) (pt ps : List Int) : Prop where
  hc : blkF H c = some ⟨200, [f2, b, a, 9]⟩
  hb : blkF H b = some ⟨201, pt⟩
  ha : blkF H a = some ⟨201, ps⟩
  hf : blkF H f2 = none
  h9 : blkF H 9 = none
  d1 : b / 2 ≠ c / 2
  d2 : a / 2 ≠ c / 2
  d3 : a / 2 ≠ b / 2
  wf : WfI c ∧ WfI f2 ∧ WfI b ∧ WfI a
  few : pt.length ≤ 10 ∧ ps.length ≤ 10
section
variable (c f2 b a : Int) (pt ps : List Int)
def kT : Nat → Hp
  | 0 => [⟨200, [f2, b, a, 9]⟩]
  | 1 => [⟨200, [f2, b, a, 9]⟩]
  | 2 => [⟨200, [f2, 12, a, 9]⟩, ⟨201, pt⟩]
  | _ => [⟨200, [f2, 12, 2 * ((7 + pt.length : Nat) : Int), 9]⟩, ⟨201, pt⟩, ⟨201, ps⟩]
def kC : Nat → Nat
  | 0 => 1
  | 1 => 1
  | 2 => 2
  | _ => 3
def kF1 : Int → Int := fun y => if y = c / 2 then 1 else 0
def kF2 : Int → Int := fun y => if y = b / 2 then 6 else kF1 c y
def kF3 : Int → Int := fun y => if y = a / 2 then ((7 + pt.length : Nat) : Int) else kF2 c b y
def kF : Nat → Int → Int
  | 0 => kF1 c
  | 1 => kF1 c
  | 2 => kF2 c b
  | _ => kF3 c b a pt
def kZ : Nat → Int
  | 0 => f2
  | 1 => b
  | 2 => a
  | _ => 9
end
theorem kT_top1 (f2 b a : Int) (pt ps : List Int) : topN (kT f2 b a pt ps 1) = 6 := rfl
theorem kT_top2 (f2 b a : Int) (pt ps : List Int) : topN (kT f2 b a pt ps 2) = 7 + pt.length := by
  unfold kT topN sumSz Blk.sz; simp; omega
theorem kT_top4 (f2 b a : Int) (pt ps : List Int) : topN (kT f2 b a pt ps 4) = 8 + pt.length + ps.length := by
  unfold kT topN sumSz Blk.sz; simp; omega
/-- The state ahead of the field i of the closure that is copied. -/
structure KS (w0 : World) (s1 e1 h1 : Nat) (H : Hp) (s2 e2 h2 pb nb tb mb ob wb : Nat) (v : Value) (c f2 b a : Int) (pt ps : List Int) (i : Nat) (w : World) : Prop where
  mv : Mv w s1 e1 h1 200 H s2 e2 h2 (kT f2 b a pt ps i) pb nb tb mb (kC i) (kF c b a pt i)
  row : w.cell? ⟨h2, 0, none⟩ = some (.slice (some ⟨wb, 0, none⟩) 201 201)
  out : w.ownsRow ob 3 1 v 1 [.int .i64 2]
  below : Below s1 w0 w
  far : mb < ob ∧ s1 ≤ s2 ∧ s2 ≤ w0.heap.size
section
variable {w0 w w' : World} {s1 e1 h1 : Nat} {H : Hp} {s2 e2 h2 pb nb tb mb ob wb : Nat} {v : Value} {c f2 b a : Int} {pt ps : List Int} {i : Nat}
theorem own_fr {mb ob : Nat} {v : Value} {n : Nat} {xs : List Value} (h : w.ownsRow ob 3 1 v n xs) (hf : MvFr s2 e2 mb w w') (h1 : e2 ≤ ob) (h2 : mb < ob) : w'.ownsRow ob 3 1 v n xs :=
  own_of_block h (fun g hg => hf.block g (h.lt g hg).2 (.inr (by have := (h.lt g hg).1; omega)) (by have := (h.lt g hg).1; omega))
/-- A field is written back. -/
theorem KS.write {t : Nat} {fs : List Int} {R : Hp} {cnt' : Nat} {f' : Int → Int} (h : KS w0 s1 e1 h1 H s2 e2 h2 pb nb tb mb ob wb v c f2 b a pt ps i w) (hm : Mv w' s1 e1 h1 200 H s2 e2 h2 (⟨t, fs⟩ :: R) pb nb tb mb cnt' f') (hf : MvFr s2 e2 mb w w') (hr : w'.cell? ⟨h2, 0, none⟩ = w.cell? ⟨h2, 0, none⟩)
    {j : Nat} (hj : j < fs.length) {z : Int} (hz : WfI z) (hT : ⟨t, fs.set j z⟩ :: R = kT f2 b a pt ps (i + 1)) (hC : cnt' = kC (i + 1)) (hF : f' = kF c b a pt (i + 1)) :
    KS w0 s1 e1 h1 H s2 e2 h2 pb nb tb mb ob wb v c f2 b a pt ps (i + 1) (w'.setCell ⟨wb, 2 + j, none⟩ (.int .i64 z)) ∧ w'.frozen? ⟨wb, 2 + j, none⟩ = false ∧ ∃ u, w'.cell? ⟨wb, 2 + j, none⟩ = some u := by
  have hrow := hr.trans h.row
  obtain ⟨f1, f2', f3, f4, f5, f6⟩ := hm.far
  have hh := hm.dst.setF hrow hj hz
  have hm2 := hm.onDst hh.1 hh.2
  rw [hT, hC, hF] at hm2
  obtain ⟨wb', r0, rw1, rw2⟩ := hm.dst.row
  obtain rfl : wb = wb' := by rw [r0] at hrow; simpa using hrow.symm
  have hfr := hf.trans (MvFr.of_mid (mb := mb) hh.2)
  have hw0 : w0.heap.size ≤ w.heap.size := h.below.size
  obtain ⟨wb', mb', pad, hw, ho, _⟩ := hm.dst.ex
  have hwr := hw.cell 0
  obtain rfl : wb = wb' := by rw [r0] at hwr; simpa using hwr
  have ne1 : h2 ≠ wb := fun hh => by
    subst hh
    have hWB := (whole_of_own ho).1
    unfold Whole at hWB hw; rw [hw] at hWB
    simp only [Option.some.injEq, Obj.cells.injEq] at hWB
    exact absurd hWB.2.1 (by decide)
  have hl := ho.1
  rw [List.length_map, List.length_append, memL_len] at hl
  have htop : topN (⟨t, fs⟩ :: R) = 1 + (1 + fs.length + sumSz R) := by unfold topN sumSz Blk.sz; simp
  have hcu : ∃ u, w'.cell? ⟨wb, 2 + j, none⟩ = some u := by
    rw [(whole_of_own ho).1.cell]
    exact ⟨_, Array.getElem?_eq_getElem (by rw [List.size_toArray, List.length_map, List.length_append, memL_len]; omega)⟩
  exact ⟨⟨hm2, (World.cell?_of_block (a := ⟨h2, 0, none⟩) (Below.heap_setCell w' ⟨wb, 2 + j, none⟩ _ h2 (by simpa using ne1))).trans r0, own_fr h.out hfr (by have := h.far.1; omega) h.far.1, h.below.trans ((hfr.below (by have := h.far; omega) (by omega)).mono h.far.2.1), h.far⟩, (whole_of_own ho).1.free _, hcu⟩
def StepPost (w0 : World) (s1 e1 h1 : Nat) (H : Hp) (s2 e2 h2 pb nb tb mb ob wb : Nat) (v : Value) (c f2 b a : Int) (pt ps : List Int) (i : Nat) (ee : Ending) (w' : World) : Prop :=
  ∃ z', ee = .returned (.int .i64 z') ∧ KS w0 s1 e1 h1 H s2 e2 h2 pb nb tb mb ob wb v c f2 b a pt ps (i + 1) (w'.setCell ⟨wb, 2 + i, none⟩ (.int .i64 z')) ∧ w'.frozen? ⟨wb, 2 + i, none⟩ = false ∧ ∃ u, w'.cell? ⟨wb, 2 + i, none⟩ = some u
theorem step_any (hk : KIn H c f2 b a pt ps) (h : KS w0 s1 e1 h1 H s2 e2 h2 pb nb tb mb ob wb v c f2 b a pt ps i w) (hi : i < 4) :
    Calls Try.prog 64 #[.int .i64 (kZ f2 b a i), .pointer (some ⟨pb, 0, none⟩), .pointer (some ⟨nb, 0, none⟩), .pointer (some ⟨tb, 0, none⟩)] w (StepPost w0 s1 e1 h1 H s2 e2 h2 pb nb tb mb ob wb v c f2 b a pt ps i) := by
  obtain ⟨w1, w2, w3, w4⟩ := hk.wf
  obtain ⟨l1, l2⟩ := hk.few
  have w9 : WfI 9 := wf_i64.2 ⟨by omega, by omega⟩
  match i, hi with
  | 0, _ =>
    refine (move_old h.mv f2 w2 hk.hf).mono ?_
    rintro ee w' ⟨rfl, rfl⟩
    exact ⟨_, rfl, h.write (t := 200) (fs := [f2, b, a, 9]) (R := []) h.mv (MvFr.refl _ _ _ _) rfl (j := 0) (by simp) w2 rfl rfl rfl⟩
  | 1, _ =>
    refine (move_new h.mv b w3 _ hk.hb (by show kF1 c (b / 2) = 0; unfold kF1; exact if_neg hk.d1) (by show 6 + pt.length ≤ 200; omega) (by decide)).mono ?_
    rintro ee w' ⟨rfl, hm, hf, hr⟩
    exact ⟨_, rfl, h.write (t := 200) (fs := [f2, b, a, 9]) (R := [⟨201, pt⟩]) hm hf hr (j := 1) (by simp) (z := 12) (wf_i64.2 ⟨by omega, by omega⟩) rfl rfl rfl⟩
  | 2, _ =>
    have e := kT_top2 f2 b a pt ps
    refine (move_new h.mv a w4 _ hk.ha (by show kF2 c b (a / 2) = 0; unfold kF2 kF1; rw [if_neg hk.d3]; exact if_neg hk.d2) (by rw [e]; show _ + ps.length ≤ 200; omega) (by decide)).mono ?_
    rintro ee w' ⟨rfl, hm, hf, hr⟩
    rw [e] at hm ⊢
    exact ⟨_, rfl, h.write (t := 200) (fs := [f2, 12, a, 9]) (R := [⟨201, pt⟩, ⟨201, ps⟩]) hm hf hr (j := 2) (by simp) (z := 2 * ((7 + pt.length : Nat) : Int)) (wf_i64.2 ⟨by omega, by omega⟩) rfl rfl rfl⟩
  | 3, _ =>
    refine (move_old h.mv 9 w9 hk.h9).mono ?_
    rintro ee w' ⟨rfl, rfl⟩
    exact ⟨_, rfl, h.write (t := 200) (fs := [f2, 12, 2 * ((7 + pt.length : Nat) : Int), 9]) (R := [⟨201, pt⟩, ⟨201, ps⟩]) h.mv (MvFr.refl _ _ _ _) rfl (j := 3) (by simp) w9 rfl rfl rfl⟩
theorem KS.wb_eq (h : KS w0 s1 e1 h1 H s2 e2 h2 pb nb tb mb ob wb v c f2 b a pt ps i w) {k : Nat} {bk : Blk} (hb : blkAt (kT f2 b a pt ps i) k = some bk) :
    w.cell? ⟨wb, k, none⟩ = some (.int .i64 bk.hdr) ∧ (∀ j, j < bk.fs.length → w.cell? ⟨wb, k + 1 + j, none⟩ = some (.int .i64 (bk.fs.getD j 0))) ∧ k + bk.sz ≤ 201 ∧ 1 ≤ k := by
  obtain ⟨wb', mb', x0, _, _, _, _, hx⟩ := h.mv.dst.cells
  obtain rfl : wb = wb' := by have := h.row; rw [x0] at this; simpa using this.symm
  obtain ⟨k', ek, k1, k2, hc, _, hcs⟩ := hx _ _ hb
  obtain rfl : k = k' := by omega
  exact ⟨hc, hcs, k2, k1⟩
theorem KS.cells (h : KS w0 s1 e1 h1 H s2 e2 h2 pb nb tb mb ob wb v c f2 b a pt ps i w) (hi : i < 4) :
    w.cell? ⟨tb, 0, none⟩ = some (.pointer (some ⟨h2, 0, none⟩)) ∧ w.cell? ⟨wb, 1, none⟩ = some (.int .i64 1224) ∧ w.cell? ⟨wb, 2 + i, none⟩ = some (.int .i64 (kZ f2 b a i)) := by
  refine ⟨h.mv.tbox.cell 0, ?_⟩
  match i, hi with
  | 0, _ => have := h.wb_eq (k := 1) (bk := ⟨200, [f2, b, a, 9]⟩) rfl; exact ⟨by have q := this.1; simp [Blk.hdr] at q; exact q, this.2.1 0 (by simp)⟩
  | 1, _ => have := h.wb_eq (k := 1) (bk := ⟨200, [f2, b, a, 9]⟩) rfl; exact ⟨by have q := this.1; simp [Blk.hdr] at q; exact q, this.2.1 1 (by simp)⟩
  | 2, _ => have := h.wb_eq (k := 1) (bk := ⟨200, [f2, 12, a, 9]⟩) rfl; exact ⟨by have q := this.1; simp [Blk.hdr] at q; exact q, this.2.1 2 (by simp)⟩
  | 3, _ => have := h.wb_eq (k := 1) (bk := ⟨200, [f2, 12, 2 * ((7 + pt.length : Nat) : Int), 9]⟩) rfl; exact ⟨by have q := this.1; simp [Blk.hdr] at q; exact q, this.2.1 3 (by simp)⟩
theorem KS.top (h : KS w0 s1 e1 h1 H s2 e2 h2 pb nb tb mb ob wb v c f2 b a pt ps i w) : w.cell? ⟨h2, 1, none⟩ = some (.int .i64 (topN (kT f2 b a pt ps i) : Nat)) := by
  obtain ⟨wb', mb', _, x1, _⟩ := h.mv.dst.cells
  exact x1
end
end Go.Proofs.Ytcbehllfljjngaa
