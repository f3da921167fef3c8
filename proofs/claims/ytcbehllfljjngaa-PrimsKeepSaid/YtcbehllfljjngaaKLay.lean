/- The walks of a collection: a block is laid; the words stay where they are. (Printed from HWalkC.) -/
import Derived.Test.YtcbehllfljjngaaHWalkC
namespace Go.Proofs.Ytcbehllfljjngaa
open Go.RowKit
set_option linter.unusedVariables false
section
variable {w : World} {s e hb N : Nat} {H : Hp}
set_option maxRecDepth 100000 in
set_option maxHeartbeats 1000000 in
theorem lay_row (h : HeapAt w s e hb N H) (tag : Nat) (ht : tag ≤ 201) (A : Option Addr) (n c : Nat) (fs : List Int) (hz : Ints w w.heap.size A n fs) (hn : n ≤ 60) (hsep : ∀ ad, A = some ad → 0 < n → ad.block < s ∨ e ≤ ad.block) (hroom : topN H + n ≤ N) (hwf : ∀ z ∈ fs, WfI z) :
    Calls Try.prog 65 #[.pointer (some ⟨hb, 0, none⟩), .int .i64 tag, .slice A n c] w fun ee w' => ee = .returned (.int .i64 (topN H : Nat)) ∧ HeapAt w' s e hb N (H ++ [⟨tag, fs⟩]) ∧ Mid s e w w' ∧ w'.cell? ⟨hb, 0, none⟩ = w.cell? ⟨hb, 0, none⟩ := by
  obtain ⟨wb, mb, pad, hw, ho, hm, h1, h2, h3⟩ := h.ex
  have hfl : fs.length = n := hz.1
  have hN := h.n.2
  obtain ⟨hWB, hwb⟩ := whole_of_own ho
  have e1 := ho.1
  rw [List.length_map, List.length_append, memL_len] at e1
  have ne1 : hb ≠ wb := fun hh => by
    subst hh
    have := hWB; unfold Whole at this hw; rw [hw] at this
    simp only [Option.some.injEq, Obj.cells.injEq] at this
    exact absurd this.2.1 (by decide)
  have ne2 : hb ≠ mb := fun hh => by
    subst hh
    obtain ⟨D, ⟨es, cl, hh, _⟩, _⟩ := hm
    unfold Whole at hw; rw [hw] at hh; cases hh
  have ne3 : wb ≠ mb := fun hh => by
    subst hh
    obtain ⟨D, ⟨es, cl, hh, _⟩, _⟩ := hm
    unfold Whole at hWB; rw [hWB] at hh; cases hh
  have hqN : topN H < N + 1 := by omega
  have x0 : w.cell? ⟨hb, 0, none⟩ = some (.slice (some ⟨wb, 0, none⟩) (N + 1) (N + 1)) := hw.cell 0
  have x1 : w.cell? ⟨hb, 1, none⟩ = some (.int .i64 (topN H : Nat)) := hw.cell 1
  have x2 : w.cell? ⟨hb, 2, none⟩ = some (.map (some mb)) := hw.cell 2
  have xf := hWB.free (topN H)
  obtain ⟨u0, xc⟩ : ∃ u, w.cell? ⟨wb, topN H, none⟩ = some u := by
    rw [hWB.cell]
    exact ⟨_, Array.getElem?_eq_getElem (by rw [List.size_toArray, List.length_map, List.length_append, memL_len]; omega)⟩
  -- behind the store of the first word
  have HK1 : Hid (∀ w2 : World, Whole w2 wb 3 ((laidL H pad ⟨tag, fs⟩).map (Value.int .i64)).toArray → w.grownBy w2 (some wb) → ∃ w3, (Instr.mapUpdate 69 (.map (some mb)) (.int .i64 (topN H : Nat)) (.bool true)).run Try.prog w2 = .ok () w3 ∧ w2.cell? ⟨hb, 2, none⟩ = some (.map (some mb)) ∧ w3.cell? ⟨hb, 1, none⟩ = some (.int .i64 (topN H : Nat)) ∧ w3.frozen? ⟨hb, 1, none⟩ = false ∧
      HeapAt (w3.setCell ⟨hb, 1, none⟩ (.int .i64 (topN H + (1 + n) : Nat))) s e hb N (H ++ [⟨tag, fs⟩]) ∧ Mid s e w (w3.setCell ⟨hb, 1, none⟩ (.int .i64 (topN H + (1 + n) : Nat))) ∧ (w3.setCell ⟨hb, 1, none⟩ (.int .i64 (topN H + (1 + n) : Nat))).cell? ⟨hb, 0, none⟩ = w.cell? ⟨hb, 0, none⟩) := fun w2 k1 k2 => by
    have w2h : Whole w2 hb 71 #[.slice (some ⟨wb, 0, none⟩) (N + 1) (N + 1), .int .i64 (topN H : Nat), .map (some mb)] := (k2.block hb hw.lt (by simpa using ne1)).trans hw
    have w2m := hm.same (k2.block mb hm.lt (by simpa using fun hh : mb = wb => ne3 hh.symm))
    have hcnt : H.length ≤ topN H := by
      have : ∀ H : Hp, H.length ≤ sumSz H := fun H => by
        induction H with
        | nil => simp
        | cons b H ih => have : sumSz (b :: H) = b.sz + sumSz H := by simp [sumSz]
                         rw [this, List.length_cons]; unfold Blk.sz; omega
      have := this H; unfold topN; omega
    obtain ⟨w3, hrun, k3, k4⟩ := w2m.put (by omega) (z := (topN H : Nat)) (wf_i64.2 ⟨by omega, by omega⟩)
    have w3h : Whole w3 hb 71 #[.slice (some ⟨wb, 0, none⟩) (N + 1) (N + 1), .int .i64 (topN H : Nat), .map (some mb)] := (k4.block hb w2h.lt (by simpa using ne2)).trans w2h
    have fin := lay_end (b := ⟨tag, fs⟩) h hw ho hm h1 h2 h3 ⟨ht, by show fs.length ≤ 60; omega, hwf⟩ (by show topN H + fs.length ≤ N; omega) k1 k2 k3 k4
    rw [topN_snoc, show (Blk.mk tag fs).sz = 1 + n from by unfold Blk.sz; rw [hfl]] at fin
    exact ⟨w3, hrun, w2h.cell 2, w3h.cell 1, w3h.free 1, fin.1, fin.2, ((w3h.put 1 _).cell 0).trans x0.symm⟩
  have HSET : Hid (w.grownBy (w.setCell ⟨wb, topN H, none⟩ (.int .i64 ((n : Int) * 256 + tag))) (some wb) ∧ Whole (w.setCell ⟨wb, topN H, none⟩ (.int .i64 ((n : Int) * 256 + tag))) wb 3 (((memL H ++ pad).set (topN H) ((n : Int) * 256 + tag)).map (Value.int .i64)).toArray) := by
    refine ⟨grown_setCell _ _ _ _, ?_⟩
    have := hWB.put (topN H) (.int .i64 ((n : Int) * 256 + tag))
    rw [List.setIfInBounds_toArray, ← List.map_set] at this
    exact this
  have HLS := Lib.hid (laid_set H pad ⟨tag, fs⟩ (by unfold Blk.sz; show 1 + fs.length ≤ _; omega))
  have HH : Hid ((Blk.mk tag fs).hdr = (n : Int) * 256 + tag) := by show _ = _; unfold Blk.hdr; rw [hfl]
  have HSP := Lib.hid hsep
  have HZ := Lib.hid hz
  have HFL := Lib.hid hfl
  have HX : Hid (∀ w1 : World, w.grownBy w1 (some wb) → w1.cell? ⟨hb, 0, none⟩ = some (.slice (some ⟨wb, 0, none⟩) (N + 1) (N + 1))) := fun w1 k => (World.cell?_of_block (a := ⟨hb, 0, none⟩) (k.block hb hw.lt (by simpa using ne1))).trans x0
  have HLEN : Hid ((memL H ++ pad).length = N + 1) := by show _ = _; rw [List.length_append, memL_len]; omega
  have HWS : Hid (s ≤ wb ∧ wb < e) := ⟨hwb, h3⟩
  clear h hw ho hm h1 h2 h3 hWB hwb e1 ne1 ne2 ne3 hsep hz hfl hwf
  generalize topN H = q at *
  go_enter Try.func65, Try.ntmps65
  go_upto_region 3 with (fail)
  have KG := Lib.hid HSET.out.1
  have KW := Lib.hid HSET.out.2
  clear HSET x1 x2 xf xc x0
  generalize w.setCell ⟨wb, q, none⟩ (.int .i64 ((n : Int) * 256 + tag)) = w1 at *
  have y0 := HX.out w1 KG.out
  have HEQ : Hid (∀ w2 : World, w1.grownBy w2 (some wb) → Whole w2 wb 3 ((((memL H ++ pad).set q ((n : Int) * 256 + tag)).map (Value.int .i64)).take (q + 1) ++ (fs.map (Value.int .i64) ++ (((memL H ++ pad).set q ((n : Int) * 256 + tag)).map (Value.int .i64)).drop (q + 1 + (fs.map (Value.int .i64)).length))).toArray →
      w.grownBy w2 (some wb) ∧ Whole w2 wb 3 ((laidL H pad ⟨tag, fs⟩).map (Value.int .i64)).toArray) := fun w2 k1 k2 => by
    refine ⟨grown_trans KG.out k1, ?_⟩
    have := HLS.out
    rw [HH.out] at this
    rw [← this, List.map_append, List.map_append, List.map_take, List.map_drop]
    rw [List.length_map] at k2
    exact k2
  by_cases h0 : n = 0
  · have KK := Lib.hid (HK1.out w1)
    have HF : Hid (fs = []) := List.eq_nil_of_length_eq_zero (by rw [HFL.out, h0])
    have K1 := HEQ.out w1 ⟨rfl, rfl, rfl, Nat.le_refl _, fun _ _ _ => rfl⟩ (by
      rw [HF.out, List.map_nil, List.length_nil, List.nil_append, Nat.add_zero, List.take_append_drop]; exact KW.out)
    obtain ⟨w3, hrun, z2, z1, zf, HE1, HE2⟩ := KK.out K1.2 K1.1
    have HEND := Lib.hid (And.intro HE1 HE2)
    clear HK1 HEQ KK K1 HE1 HE2 HX HLS HH HSP HZ HFL HF HLEN HWS KG KW
    subst h0
    by_cases hqe : q + 1 = N + 1
    · obtain rfl : N = q := by omega
      go_wp2_with (with_reducible refine copy_none rfl _ _ rfl _ _ _ _ _ _ rfl rfl (by simp) ?_)
      all_goals
        go_ret
        exact ⟨rfl, HEND.out⟩
    · have hqe2 : q + 1 < N + 1 := by omega
      clear hqe
      go_wp2_with (with_reducible refine copy_none rfl _ _ rfl _ _ _ _ _ _ rfl rfl (by simp) ?_)
      all_goals
        go_ret
        exact ⟨rfl, HEND.out⟩
  · have hqe2 : q + 1 < N + 1 := by omega
    obtain ⟨b, off, rfl, hlt, hcs⟩ := HZ.out.2 (by omega)
    have hbw : b ≠ wb := by have h1 := HSP.out ⟨b, off, none⟩ rfl (by omega); have h2 := HWS.out; simp only at h1; omega
    have HSRC : Hid (∀ j v, (fs.map (Value.int .i64))[j]? = some v → w1.cell? ((⟨b, off, none⟩ : Addr).add j) = some v) := fun j v hj => by
      have := ints_news HZ.out (Below.refl _ _) j v hj
      rw [← this]
      have e : ((⟨b, off, none⟩ : Addr).add j).block = b := by unfold Addr.add; split <;> rfl
      exact World.cell?_of_block (by rw [e]; exact KG.out.block b hlt (by simpa using hbw))
    have HMIN : Hid ((fs.map (Value.int .i64)).length = Nat.min n (N - q)) := by show _ = _; rw [List.length_map, HFL.out]; exact (Nat.min_eq_left (by omega)).symm
    have HFIT : Hid (q + 1 + (fs.map (Value.int .i64)).length ≤ (((memL H ++ pad).set q ((n : Int) * 256 + tag)).map (Value.int .i64)).length) := by show _ ≤ _; rw [List.length_map, List.length_map, List.length_set, HFL.out, HLEN.out]; omega
    have H1C : Hid (∀ v ∈ fs.map (Value.int .i64), v.oneCell' = true) := fun v hv => by obtain ⟨z, _, rfl⟩ := List.mem_map.1 hv; rfl
    clear HX HLS HH HSP HZ HFL HLEN HWS KG hcs hbw hlt
    go_wp2_with ((with_reducible refine at_op (o := ⟨some 31, _, _, _, _, _⟩) ?_); (refine copy_grown rfl (.tmp 29) (.tmp 30) rfl wb (q + 1) (N - q) (N - q) ⟨b, off, none⟩ n c rfl rfl _ 3 KW.out _ HMIN.out HSRC.out HFIT.out H1C.out ?_); intro w2 k1 k2; have K1 := HEQ.out w2 k1 k2; have KK := HK1.out w2 K1.2 K1.1; clear k1 k2 K1 HK1 HEQ; obtain ⟨w3, hrun, z2, z1, zf, HE1, HE2⟩ := KK; have HEND := Lib.hid (And.intro HE1 HE2); clear HE1 HE2)
    go_ret
    exact ⟨rfl, HEND.out⟩
end
end Go.Proofs.Ytcbehllfljjngaa
