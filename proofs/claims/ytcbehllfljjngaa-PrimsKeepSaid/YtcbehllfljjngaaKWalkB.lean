/- The walks of a collection: a word is moved. -/
import Derived.Test.YtcbehllfljjngaaKWalkA
import Derived.Test.YtcbehllfljjngaaKLay
import Derived.Test.YtcbehllfljjngaaPWalkA
import Derived.Deep.RegionHeld3
import Derived.Deep.DrawnRows
namespace Go.Proofs.Ytcbehllfljjngaa
open Go.RowKit
set_option linter.unusedVariables false
attribute [local go_sem ↓] Go.wp_at_zero Go.wp_at_succ

/-- What a move changes: the new half, and the map of places. -/
structure MvFr (s2 e2 mb : Nat) (w w' : World) : Prop where
  os : w'.os = w.os
  tape : w'.tape = w.tape
  output : w'.output = w.output
  size : w.heap.size ≤ w'.heap.size
  block : ∀ g, g < w.heap.size → (g < s2 ∨ e2 ≤ g) → g ≠ mb → w'.heap[g]? = w.heap[g]?
section
variable {s2 e2 mb : Nat} {w w1 w' : World}
theorem MvFr.refl (s2 e2 mb : Nat) (w : World) : MvFr s2 e2 mb w w := ⟨rfl, rfl, rfl, Nat.le_refl _, fun _ _ _ _ => rfl⟩
theorem MvFr.trans (h : MvFr s2 e2 mb w w1) (k : MvFr s2 e2 mb w1 w') : MvFr s2 e2 mb w w' :=
  ⟨k.os.trans h.os, k.tape.trans h.tape, k.output.trans h.output, Nat.le_trans h.size k.size, fun g hg h2 h3 => (k.block g (Nat.lt_of_lt_of_le hg h.size) h2 h3).trans (h.block g hg h2 h3)⟩
theorem MvFr.undrew (h : MvFr s2 e2 mb w.drew w') : MvFr s2 e2 mb w w' := ⟨h.os, h.tape, h.output, h.size, h.block⟩
theorem MvFr.of_mid (h : Mid s2 e2 w w') : MvFr s2 e2 mb w w' := ⟨h.os, h.tape, h.output, h.size, fun g hg h2 _ => h.block g hg h2⟩
theorem MvFr.of_grown (k : w.grownBy w' (some mb)) : MvFr s2 e2 mb w w' := ⟨k.os, k.tape, k.output, k.size, fun g hg _ h3 => k.block g hg (by simp; omega)⟩
theorem MvFr.below (h : MvFr s2 e2 mb w w') (h1 : s2 ≤ w.heap.size) (h2 : s2 ≤ mb) : Below s2 w w' := ⟨h.os, h.tape, h.output, h.size, fun g hg => h.block g (by omega) (.inl hg) (by omega)⟩
end
/-- The state of a collection. -/
structure Mv (w : World) (s1 e1 h1 N : Nat) (H : Hp) (s2 e2 h2 : Nat) (T : Hp) (pb nb tb mb cnt : Nat) (f : Int → Int) : Prop where
  src : HeapAt w s1 e1 h1 N H
  dst : HeapAt w s2 e2 h2 N T
  hbox : Whole w pb 31 #[.pointer (some ⟨h1, 0, none⟩)]
  nbox : Whole w nb 91 #[.map (some mb)]
  tbox : Whole w tb 31 #[.pointer (some ⟨h2, 0, none⟩)]
  now : NowAt w mb cnt f
  far : e1 ≤ s2 ∧ s2 ≤ e2 ∧ e2 ≤ mb ∧ (pb < s2 ∨ e2 ≤ pb) ∧ (nb < s2 ∨ e2 ≤ nb) ∧ (tb < s2 ∨ e2 ≤ tb)
section
variable {w w' : World} {s1 e1 h1 N : Nat} {H : Hp} {s2 e2 h2 : Nat} {T T' : Hp} {pb nb tb mb cnt : Nat} {f : Int → Int}
theorem Mv.ne {b : Nat} {t : TypeId} {cs : Array Value} (h : NowAt w mb cnt f) (hw : Whole w b t cs) : b ≠ mb := fun hh => by
  subst hh
  obtain ⟨D, ⟨es, cl, hh, _⟩, _⟩ := h
  unfold Whole at hw; rw [hw] at hh; cases hh
theorem Mv.drew (h : Mv w s1 e1 h1 N H s2 e2 h2 T pb nb tb mb cnt f) : Mv w.drew s1 e1 h1 N H s2 e2 h2 T pb nb tb mb cnt f := ⟨h.src.drew, h.dst.drew, h.hbox, h.nbox, h.tbox, h.now.same rfl, h.far⟩
theorem Mv.onDst (h : Mv w s1 e1 h1 N H s2 e2 h2 T pb nb tb mb cnt f) (hd : HeapAt w' s2 e2 h2 N T') (hm : Mid s2 e2 w w') : Mv w' s1 e1 h1 N H s2 e2 h2 T' pb nb tb mb cnt f := by
  obtain ⟨f1, f2, f3, f4, f5, f6⟩ := h.far
  exact ⟨h.src.keep hm.size (fun g _ hg => hm.block g (by have := h.src.size; omega) (.inl (by omega))), hd, (hm.block _ h.hbox.lt f4).trans h.hbox, (hm.block _ h.nbox.lt f5).trans h.nbox, (hm.block _ h.tbox.lt f6).trans h.tbox, h.now.same (hm.block _ h.now.lt (.inr f3)), h.far⟩
theorem Mv.onNow (h : Mv w s1 e1 h1 N H s2 e2 h2 T pb nb tb mb cnt f) {cnt' : Nat} {f' : Int → Int} (hn : NowAt w' mb cnt' f') (k : w.grownBy w' (some mb)) : Mv w' s1 e1 h1 N H s2 e2 h2 T pb nb tb mb cnt' f' := by
  obtain ⟨f1, f2, f3, f4, f5, f6⟩ := h.far
  have hne : ∀ g, g ≠ mb → g < w.heap.size → w'.heap[g]? = w.heap[g]? := fun g hg hl => k.block g hl (by simp; omega)
  exact ⟨h.src.keep k.size (fun g _ hg => hne g (by omega) (by have := h.src.size; omega)), h.dst.keep k.size (fun g _ hg => hne g (by omega) (by have := h.dst.size; omega)), (hne _ (Mv.ne h.now h.hbox) h.hbox.lt).trans h.hbox, (hne _ (Mv.ne h.now h.nbox) h.nbox.lt).trans h.nbox, (hne _ (Mv.ne h.now h.tbox) h.tbox.lt).trans h.tbox, hn, h.far⟩
theorem Mv.later (h : Mv w s1 e1 h1 N H s2 e2 h2 T pb nb tb mb cnt f) (hb : Below w.heap.size w w') : Mv w' s1 e1 h1 N H s2 e2 h2 T pb nb tb mb cnt f :=
  ⟨h.src.later hb, h.dst.later hb, h.hbox.below hb h.hbox.lt, h.nbox.below hb h.nbox.lt, h.tbox.below hb h.tbox.lt, h.now.same (hb.block _ h.now.lt), h.far⟩
set_option maxHeartbeats 400000 in
theorem move_old (h : Mv w s1 e1 h1 N H s2 e2 h2 T pb nb tb mb cnt f) (z : Int) (hz : WfI z) (hb : blkF H z = none) :
    Calls Try.prog 64 #[.int .i64 z, .pointer (some ⟨pb, 0, none⟩), .pointer (some ⟨nb, 0, none⟩), .pointer (some ⟨tb, 0, none⟩)] w fun ee w' => ee = .returned (.int .i64 z) ∧ w = w' := by
  have HP := Lib.hid (place_any h.src z hz)
  have x0 : w.cell? ⟨pb, 0, none⟩ = some (.pointer (some ⟨h1, 0, none⟩)) := h.hbox.cell 0
  have HF := Lib.hid (placeF_none hb)
  clear h hz hb
  go_enter Try.func64, Try.ntmps64
  go_wp2_with fail
  refine HP.out.mono ?_
  rintro ee w1 ⟨rfl, rfl⟩
  rw [HF.out]
  go_wp2_with fail
  go_ret
  exact ⟨rfl, rfl⟩
def MovePost (w : World) (s1 e1 h1 N : Nat) (H : Hp) (s2 e2 h2 : Nat) (T : Hp) (pb nb tb mb cnt : Nat) (f : Int → Int) (z : Int) (b : Blk) (ee : Ending) (w' : World) : Prop :=
  ee = .returned (.int .i64 (2 * (topN T : Nat))) ∧ Mv w' s1 e1 h1 N H s2 e2 h2 (T ++ [b]) pb nb tb mb (cnt + 1) (fun y => if y = z / 2 then (topN T : Nat) else f y) ∧ MvFr s2 e2 mb w w' ∧ w'.cell? ⟨h2, 0, none⟩ = w.cell? ⟨h2, 0, none⟩
/-- What a move loads. -/
def MvCells (pb nb tb mb h1 h2 wb N k : Nat) (y : Int) (w : World) : Prop :=
  w.cell? ⟨pb, 0, none⟩ = some (.pointer (some ⟨h1, 0, none⟩)) ∧ w.cell? ⟨nb, 0, none⟩ = some (.map (some mb)) ∧ w.cell? ⟨tb, 0, none⟩ = some (.pointer (some ⟨h2, 0, none⟩)) ∧ w.cell? ⟨h1, 0, none⟩ = some (.slice (some ⟨wb, 0, none⟩) (N + 1) (N + 1)) ∧ w.cell? ⟨wb, k, none⟩ = some (.int .i64 y)
theorem htm {b : Blk} (h : b.tag ≤ 201) : b.hdr.tmod 256 = b.tag := by
  have h1 : 0 ≤ b.hdr := by unfold Blk.hdr; omega
  rw [Int.tmod_eq_emod_of_nonneg h1]
  exact hdr_rem h
theorem lay_mv (h : Mv w s1 e1 h1 N H s2 e2 h2 T pb nb tb mb cnt f) {b : Blk} {wb k : Nat} (hc : MvCells pb nb tb mb h1 h2 wb N k b.hdr w) (hl1 : h1 < e1) (hwe : wb < e1) (hcs : ∀ j, j < b.fs.length → w.cell? ⟨wb, k + 1 + j, none⟩ = some (.int .i64 (b.fs.getD j 0)))
    (hb6 : b.tag ≤ 201 ∧ b.fs.length ≤ 60 ∧ ∀ z ∈ b.fs, WfI z) (hroom : topN T + b.fs.length ≤ N) (hcn : cnt < 1000000) (hwk : WfI (k : Int)) {tz : Int} (htz : tz = b.tag) {ad : Addr} (had : 0 < b.fs.length → ad = ⟨wb, k + 1, none⟩) :
    Calls Try.prog 65 #[.pointer (some ⟨h2, 0, none⟩), .int .i64 tz, .slice (some ad) b.fs.length b.fs.length] w fun ee w' => ee = .returned (.int .i64 (topN T : Nat)) ∧ MvCells pb nb tb mb h1 h2 wb N k b.hdr w' ∧
      ∃ w3, (Instr.mapUpdate 91 (.map (some mb)) (.int .i64 k) (.int .i64 (topN T : Nat))).run Try.prog w' = .ok () w3 ∧ Mv w3 s1 e1 h1 N H s2 e2 h2 (T ++ [b]) pb nb tb mb (cnt + 1) (fun y => if y = k then (topN T : Nat) else f y) ∧ MvFr s2 e2 mb w w3 ∧ w3.cell? ⟨h2, 0, none⟩ = w.cell? ⟨h2, 0, none⟩ ∧ MvCells pb nb tb mb h1 h2 wb N k b.hdr w3 := by
  subst htz
  obtain ⟨f1, f2, f3, f4, f5, f6⟩ := h.far
  have hsz := h.src.size
  have hI : Ints w w.heap.size (some ad) b.fs.length b.fs := by
    refine ⟨rfl, fun h0 => ?_⟩
    rw [had h0]
    exact ⟨wb, k + 1, rfl, by omega, hcs⟩
  refine (lay_row h.dst b.tag hb6.1 (some ad) b.fs.length b.fs.length b.fs hI hb6.2.1 (fun a ha h0 => by cases ha; rw [had h0]; exact .inl (by show wb < s2; omega)) hroom hb6.2.2).mono ?_
  rintro ee w' ⟨rfl, hd, hm, hrw⟩
  have hM := h.onDst hd hm
  have hq : WfI ((topN T : Nat) : Int) := wf_i64.2 ⟨by omega, by have := h.dst.n.2; omega⟩
  obtain ⟨w3, hrun, hn, hg⟩ := hM.now.put hcn hwk hq
  have hM3 := hM.onNow hn hg
  have a1 := (World.cell?_of_block (a := ⟨h1, 0, none⟩) (hm.block h1 (by omega) (.inl (by omega)))).trans hc.2.2.2.1
  have a2 := (World.cell?_of_block (a := ⟨wb, k, none⟩) (hm.block wb (by omega) (.inl (by omega)))).trans hc.2.2.2.2
  have hs' := hm.size
  have b1 := (World.cell?_of_block (a := ⟨h1, 0, none⟩) (hg.block h1 (by omega) (by simp; omega))).trans a1
  have b2 := (World.cell?_of_block (a := ⟨wb, k, none⟩) (hg.block wb (by omega) (by simp; omega))).trans a2
  exact ⟨rfl, ⟨hM.hbox.cell 0, hM.nbox.cell 0, hM.tbox.cell 0, a1, a2⟩, w3, hrun, hM3, (MvFr.of_mid hm).trans (MvFr.of_grown hg), (World.cell?_of_block (a := ⟨h2, 0, none⟩) (hg.block h2 (by have := hd.hbs; have := hd.size; omega) (by have := hd.hbs; simp; omega))).trans hrw, hM3.hbox.cell 0, hM3.nbox.cell 0, hM3.tbox.cell 0, b1, b2⟩
set_option maxRecDepth 100000 in
set_option maxHeartbeats 1000000 in
theorem move_new (h : Mv w s1 e1 h1 N H s2 e2 h2 T pb nb tb mb cnt f) (z : Int) (hz : WfI z) (b : Blk) (hb : blkF H z = some b) (hf : f (z / 2) = 0) (hroom : topN T + b.fs.length ≤ N) (hc : cnt < 1000000) :
    Calls Try.prog 64 #[.int .i64 z, .pointer (some ⟨pb, 0, none⟩), .pointer (some ⟨nb, 0, none⟩), .pointer (some ⟨tb, 0, none⟩)] w (MovePost w s1 e1 h1 N H s2 e2 h2 T pb nb tb mb cnt f z b) := by
  have hp := place_any h.src z hz
  obtain ⟨p1, p2, p3⟩ := placeF_some hb
  obtain ⟨wb, r0, rw1, rw2⟩ := h.src.row
  obtain ⟨wb', mb', y0, _, _, _, _, hx⟩ := h.src.cells
  obtain rfl : wb = wb' := by rw [r0] at y0; simpa using y0
  obtain ⟨k, ek, hk1, hk2, hcell, hwb, hcs⟩ := hx _ _ p2
  have hb6 := h.src.wf b (blkF_in hb)
  have hN := h.src.n
  have hwk : WfI (k : Int) := wf_i64.2 ⟨by omega, by unfold Blk.sz at hk2; omega⟩
  have HEK := Lib.hid ek
  rw [ek] at p1 p2 hf
  rw [p1] at hp
  have HP := Lib.hid hp
  clear hp
  have HMC : Hid (MvCells pb nb tb mb h1 h2 wb N k b.hdr w) := ⟨h.hbox.cell 0, h.nbox.cell 0, h.tbox.cell 0, r0, hcell⟩
  have ask0 := h.now.ask hwk
  rw [hf] at ask0
  have HM := Lib.hid h
  have CS := Lib.hid (span_at h.drew.src r0 p2 ⟨hb6.1, hb6.2.1⟩)
  have CL := Lib.hid (fun (ad : Addr) => lay_mv (ad := ad) h.drew HMC.out h.src.hbs.2 rw2 hcs hb6 hroom hc hwk (htm hb6.1))
  have hT := hdr_rem hb6.1
  have hh : 0 ≤ b.hdr := by unfold Blk.hdr; omega
  have hh2 : b.hdr ≤ 20000 := by unfold Blk.hdr; omega
  have hkb : ((k : Int) == 0) = false := beq_eq_false_iff_ne.2 (by omega)
  have hkN : k < N + 1 := by unfold Blk.sz at hk2; omega
  have hk0 : (0 : Int) ≤ (k : Int) := by omega
  have hkI : (k : Int) < (N : Int) + 1 := by omega
  have hq1 : 1 ≤ topN T := by unfold topN; omega
  have hqN : topN T ≤ 65536 := by omega
  have HPT : Hid (∀ w3 : World, Mv w3 s1 e1 h1 N H s2 e2 h2 (T ++ [b]) pb nb tb mb (cnt + 1) (fun y => if y = (k : Int) then ((topN T : Nat) : Int) else f y) → MvFr s2 e2 mb w w3 → w3.cell? ⟨h2, 0, none⟩ = w.cell? ⟨h2, 0, none⟩ → MovePost w s1 e1 h1 N H s2 e2 h2 T pb nb tb mb cnt f z b (.returned (.int .i64 ((topN T : Nat) * 2))) w3) := fun w3 hm hfr hrw => by
    unfold MovePost
    rw [ek, Int.mul_comm]
    exact ⟨rfl, hm, hfr, hrw⟩
  have HASK : Hid (∀ w3 : World, NowAt w3 mb (cnt + 1) (fun y => if y = (k : Int) then ((topN T : Nat) : Int) else f y) → (Instr.lookup 91 (.map (some mb)) (.int .i64 k) false).run Try.prog w3 = .ok (.int .i64 (topN T : Nat)) w3) := fun w3 hn => by
    have := hn.ask hwk
    rw [if_pos rfl] at this
    exact this
  clear h hz hb p1 p2 p3 hx hcs r0 y0 rw1 rw2 hk2 hcell hb6 hf ek hwk hc hroom
  unfold MvCells at HMC CL
  generalize b.hdr = y at *
  generalize b.fs.length = n at *
  generalize hbt : b.tag = tg at *
  have HBT := Lib.hid hbt
  clear hbt
  generalize topN T = q at *
  have x0 := HMC.out.1
  go_enter Try.func64, Try.ntmps64
  go_wp2_with fail
  refine HP.out.mono ?_
  rintro ee w1 ⟨rfl, rfl⟩
  have x1 := HMC.out.2.1
  have x2 := HMC.out.2.2.1
  have x3 := HMC.out.2.2.2.1
  have x4 := HMC.out.2.2.2.2
  go_upto_region 5 with (fail)
  go_region_held3 (fun W => W.cell? ⟨pb, 0, none⟩ = some (.pointer (some ⟨h1, 0, none⟩)) ∧ W.cell? ⟨nb, 0, none⟩ = some (.map (some mb)) ∧ W.cell? ⟨tb, 0, none⟩ = some (.pointer (some ⟨h2, 0, none⟩)) ∧ W.cell? ⟨h1, 0, none⟩ = some (.slice (some ⟨wb, 0, none⟩) (N + 1) (N + 1)) ∧ W.cell? ⟨wb, k, none⟩ = some (.int .i64 y))
    (first | go_keep)
    (first
      | ((go_at_call 51; with_reducible refine (CS.out).mono ?_); rintro e wm ⟨ad, rfl, had, rfl⟩)
      | ((go_at_call 65; with_reducible refine (CL.out ad had).mono ?_); rintro e wm ⟨rfl, ⟨m1, m2, m3, m4, m5⟩, w3, hrun, hm3, hf3, hrw3, n1, n2, n3, n4, n5⟩))
  all_goals
    have ask3 := HASK.out w3 hm3.now
    have HE := Lib.hid (HPT.out w3 hm3 hf3.undrew hrw3)
    clear hm3 hf3 hrw3 hrun m1 m2 m3 m4 m5 HASK HPT CL CS HM HMC ask0 x0 x1 x2 x3 x4
    go_wp2_with fail
    refine (I.point_in (q : Int) w3 (by omega) (by omega)).mono ?_
    rintro ee w6 ⟨rfl, rfl⟩
    go_wp2_with fail
    go_ret
    exact HE.out
end
end Go.Proofs.Ytcbehllfljjngaa
