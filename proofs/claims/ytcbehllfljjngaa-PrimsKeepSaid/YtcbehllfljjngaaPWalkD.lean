/- The walks of layer 16: closures. -/
import Derived.Test.YtcbehllfljjngaaPWalkC
namespace Go.Proofs.Ytcbehllfljjngaa
open Go.RowKit
set_option linter.unusedVariables false

theorem ints_of_whole {w : World} {g : Nat} {zs : List Int} (h : Whole w g 3 (zs.map (Value.int .i64)).toArray) : Ints w w.heap.size (some ⟨g, 0, none⟩) zs.length zs :=
  ⟨rfl, fun _ => ⟨g, 0, rfl, h.lt, fun j hj => by
    rw [Nat.zero_add, h.cell]
    rw [List.getElem?_toArray, List.getElem?_map, List.getElem?_eq_getElem hj, List.getD_eq_getElem?_getD, List.getElem?_eq_getElem hj]; rfl⟩⟩
def closeOk (f : Int) : Bool := decide (0 ≤ f) && decide (f ≤ 2147483647)
def closeH (N : Nat) (H : Hp) (f : Int) (kept : List Int) : Hp := if closeOk f = true then mkH N H 200 ((2 * f + 1) :: kept) else H
def closeR (N : Nat) (H : Hp) (f : Int) (kept : List Int) : Int := if closeOk f = true then mkR N H 200 ((2 * f + 1) :: kept) else 0
def closeE (N : Nat) (H : Hp) (f : Int) (kept : List Int) : Int := if closeOk f = true then mkE N H 200 ((2 * f + 1) :: kept) else 1
def ClosePost (w : World) (s e hb N : Nat) (H : Hp) (f : Int) (kept : List Int) (ee : Ending) (w' : World) : Prop :=
  ee = .returned (.tuple #[.int .i64 (closeR N H f kept), .int .i64 (closeE N H f kept)]) ∧ HeapAt w' s e hb N (closeH N H f kept) ∧ Mid s e w w'
section
variable {w : World} {s e hb N : Nat} {H : Hp}
set_option maxRecDepth 100000 in
set_option maxHeartbeats 1000000 in
theorem close_any (h : HeapAt w s e hb N H) (f : Int) (hf : WfI f) (A : Option Addr) (n c : Nat) (kept : List Int) (hz : Ints w w.heap.size A n kept) (hn : n ≤ 100) (hwf : ∀ z ∈ kept, WfI z) :
    Calls Try.prog 32 #[.pointer (some ⟨hb, 0, none⟩), .int .i64 f, .slice A n c] w (ClosePost w s e hb N H f kept) := by
  obtain ⟨hf1, hf2⟩ := wf_i64.1 hf
  by_cases hok : closeOk f = true
  · have HC : Hid (closeH N H f kept = mkH N H 200 ((2 * f + 1) :: kept) ∧ closeR N H f kept = mkR N H 200 ((2 * f + 1) :: kept) ∧ closeE N H f kept = mkE N H 200 ((2 * f + 1) :: kept)) := ⟨if_pos hok, if_pos hok, if_pos hok⟩
    unfold closeOk at hok
    simp only [Bool.and_eq_true, decide_eq_true_eq] at hok
    obtain ⟨q, rfl⟩ := Int.eq_ofNat_of_zero_le hok.1
    have hq : q ≤ 2147483647 := by omega
    obtain ⟨i0, hi, hz0, hz1, hz2⟩ := info_parts2 (show (Try.prog.info? 3).map (fun i => (i.zero, i.size, i.bytes)) = some (some (.int .i64 0), 1, 8) by kernel_rfl)
    have HI := Lib.hid hi
    have HI0 := Lib.hid hz0
    have HI1 := Lib.hid hz1
    have HI2 := Lib.hid hz2
    have HH := Lib.hid h
    have HZ := Lib.hid hz
    have HL : Hid (kept.length = n) := hz.1
    have HW : Hid (∀ z ∈ (2 * (q : Int) + 1) :: kept, WfI z) := fun z hz' => by
      rcases List.mem_cons.1 hz' with rfl | h'
      · exact wf_i64.2 ⟨by omega, by omega⟩
      · exact hwf z h'
    have hes := h.size
    clear hi hz0 hz1 hz2 h hz hwf hf hf1 hf2 hok
    go_enter Try.func32, Try.ntmps32
    go_upto_region 4 with (at_make; refine wpList_make_full _ rfl _ _ 36 rfl w.heap.size 3 i0 (.int .i64 0) 1 Try.underlying36 HI.out HI0.out HI1.out .i64 .i64 _ _ (n + 1) rfl rfl (by omega) (by omega) (by rw [HI2.out]; omega) (by unfold maxLen; omega) (Nat.le_refl _) ?_; intro w1 ho hg; have HO := Lib.hid ho; have HG := Lib.hid hg; clear ho hg)
    have ho : w1.ownsRow w.heap.size 3 1 (.slice (some ⟨w.heap.size, 0, none⟩) (n + 1) (n + 1)) (n + 1) ((List.replicate (n + 1) (0 : Int)).map (Value.int .i64)) := by
      have := HO.out
      rw [show (Go.madeCells (Value.int .i64 0).cells ((n + 1) * 1)).toList = (List.replicate (n + 1) (0 : Int)).map (Value.int .i64) from by
        show (Go.madeCells #[.int .i64 0] ((n + 1) * 1)).toList = _
        rw [toList_madeCells_one, Nat.mul_one, List.map_replicate]] at this
      exact this
    have B1 : Hid (Below w.heap.size w w1) := ⟨HG.out.os, HG.out.tape, HG.out.output, HG.out.size, fun g hg => HG.out.block g hg (by simp)⟩
    have hW := (whole_of_own ho).1
    have xf := hW.free 0
    have x0 : w1.cell? ⟨w.heap.size, 0, none⟩ = some (.int .i64 0) := by rw [hW.cell]; simp [List.replicate_succ]
    have HW1 := Lib.hid hW
    clear ho hW HO HG HI HI0 HI1 HI2
    go_upto_region 5 with (go_at_call 37; refine (I.tag_any (q : Int) _).mono ?_; rintro e' w' ⟨rfl, rfl⟩)
    rw [I.cw_id (q : Int) (by omega) (by omega)]
    have HW2 : Hid (Whole (w1.setCell ⟨w.heap.size, 0, none⟩ (.int .i64 (2 * (q : Int) + 1))) w.heap.size 3 (((2 * (q : Int) + 1) :: List.replicate n 0).map (Value.int .i64)).toArray) := by
      have := HW1.out.put 0 (.int .i64 (2 * (q : Int) + 1))
      rw [List.setIfInBounds_toArray, List.replicate_succ] at this
      exact this
    have B2 : Hid (Below w.heap.size w (w1.setCell ⟨w.heap.size, 0, none⟩ (.int .i64 (2 * (q : Int) + 1)))) := B1.out.setCell (Nat.le_refl _) _
    clear x0 xf HW1 B1
    generalize w1.setCell ⟨w.heap.size, 0, none⟩ (.int .i64 (2 * (q : Int) + 1)) = w2 at *
    by_cases h0 : n = 0
    · have hk0 : kept = [] := List.eq_nil_of_length_eq_zero (by rw [HL.out, h0])
      obtain ⟨w3, hw3⟩ : ∃ w3 : World, w3 = w2 := ⟨_, rfl⟩
      rw [← hw3] at HW2 B2
      rw [← hw3]
      clear hw3
      have B3 := B2
      have HW3 : Hid (Whole w3 w.heap.size 3 (((2 * (q : Int) + 1) :: kept).map (Value.int .i64)).toArray) := by
        have := HW2.out; rw [h0] at this; rw [hk0]; exact this
      have H3 := Lib.hid (HH.out.later B3.out)
      have HI3 := Lib.hid (ints_of_whole HW3.out)
      have M3 : Hid (Mid s e w w3) := Mid.of_below B3.out
      have HLN : Hid (((2 * (q : Int) + 1) :: kept).length = n + 1) := by show _ = _; rw [List.length_cons, HL.out]
      rw [HLN.out] at HI3
      have HSEP : Hid (∀ ad, (some (⟨w.heap.size, 0, none⟩ : Addr)) = some ad → 0 < n + 1 → ad.block < s ∨ e ≤ ad.block) := fun ad hA _ => by
        cases hA
        exact .inr hes
      clear HW3 B3
      clear HW2 B2 HZ HL hk0
      subst h0
      go_wp2_with (with_reducible refine copy_none rfl _ _ rfl _ _ _ _ _ _ rfl rfl (by simp) ?_)
      refine (make_any H3.out 200 _ 1 1 _ HI3.out (by decide) HW.out HSEP.out).mono ?_
      rintro ee w4 ⟨rfl, h4, m4⟩
      have H4 := Lib.hid h4
      have M4 := Lib.hid (M3.out.trans m4)
      clear h4 m4
      go_wp2_with fail
      go_ret2
      exact ⟨by rw [HC.out.2.1, HC.out.2.2]; rfl, by rw [HC.out.1]; exact H4.out, M4.out⟩
    · obtain ⟨b, off, rfl, hlt, hcs⟩ := HZ.out.2 (by omega)
      have HZ2 := Lib.hid (HZ.out.below B2.out)
      have HSRC : Hid (∀ j v, (kept.map (Value.int .i64))[j]? = some v → w2.cell? ((⟨b, off, none⟩ : Addr).add j) = some v) := fun j v hj => ints_news HZ.out B2.out j v hj
      have HMIN : Hid ((kept.map (Value.int .i64)).length = Nat.min n n) := by show _ = _; rw [List.length_map, HL.out]; exact (Nat.min_self n).symm
      have HFIT : Hid (1 + (kept.map (Value.int .i64)).length ≤ (((2 * (q : Int) + 1) :: List.replicate n 0).map (Value.int .i64)).length) := by show _ ≤ _; rw [List.length_map, List.length_map, List.length_cons, List.length_replicate, HL.out]; omega
      have H1C : Hid (∀ v ∈ kept.map (Value.int .i64), v.oneCell' = true) := fun v hv => by obtain ⟨z, _, rfl⟩ := List.mem_map.1 hv; rfl
      have HEQ : Hid (∀ w3 : World, w2.grownBy w3 (some w.heap.size) → Whole w3 w.heap.size 3 ((((2 * (q : Int) + 1) :: List.replicate n 0).map (Value.int .i64)).take 1 ++ (kept.map (Value.int .i64) ++ (((2 * (q : Int) + 1) :: List.replicate n 0).map (Value.int .i64)).drop (1 + (kept.map (Value.int .i64)).length))).toArray →
          Whole w3 w.heap.size 3 (((2 * (q : Int) + 1) :: kept).map (Value.int .i64)).toArray ∧ Below w.heap.size w w3) := fun w3 k1 k2 => by
        refine ⟨?_, B2.out.grown k1 B2.out.size (fun k hk => by simp at hk; omega)⟩
        rw [List.length_map, HL.out, Nat.add_comm 1 n, List.map_cons, List.drop_succ_cons, List.drop_of_length_le (by rw [List.length_map, List.length_replicate]; exact Nat.le_refl _), List.append_nil] at k2
        exact k2
      clear HZ HZ2 hcs hlt
      go_wp2_with ((with_reducible refine at_op (o := ⟨some 26, _, _, _, _, _⟩) ?_); (refine copy_grown rfl (.tmp 24) (.tmp 25) rfl w.heap.size 1 n n ⟨b, off, none⟩ n c rfl rfl _ 3 HW2.out _ HMIN.out HSRC.out HFIT.out H1C.out ?_); intro w3 k1 k2; have KK := Lib.hid (HEQ.out w3 k1 k2); clear k1 k2)
      have HW3 := Lib.hid KK.out.1
      have B3 := Lib.hid KK.out.2
      have H3 := Lib.hid (HH.out.later B3.out)
      have HI3 := Lib.hid (ints_of_whole HW3.out)
      have M3 : Hid (Mid s e w w3) := Mid.of_below B3.out
      have HLN : Hid (((2 * (q : Int) + 1) :: kept).length = n + 1) := by show _ = _; rw [List.length_cons, HL.out]
      rw [HLN.out] at HI3
      have HSEP : Hid (∀ ad, (some (⟨w.heap.size, 0, none⟩ : Addr)) = some ad → 0 < n + 1 → ad.block < s ∨ e ≤ ad.block) := fun ad hA _ => by
        cases hA
        exact .inr hes
      clear HW3 B3
      clear HW2 B2 HL HSRC HMIN HFIT H1C HEQ KK
      refine (make_any H3.out 200 _ (n + 1) (n + 1) _ HI3.out (by omega) HW.out HSEP.out).mono ?_
      rintro ee w4 ⟨rfl, h4, m4⟩
      have H4 := Lib.hid h4
      have M4 := Lib.hid (M3.out.trans m4)
      clear h4 m4
      go_wp2_with fail
      go_ret2
      exact ⟨by rw [HC.out.2.1, HC.out.2.2]; rfl, by rw [HC.out.1]; exact H4.out, M4.out⟩
  · have HC : Hid (closeH N H f kept = H ∧ closeR N H f kept = 0 ∧ closeE N H f kept = 1) := ⟨if_neg hok, if_neg hok, if_neg hok⟩
    unfold closeOk at hok
    simp only [Bool.and_eq_true, decide_eq_true_eq] at hok
    have HH := Lib.hid h
    rcases (by omega : f < 0 ∨ (0 ≤ f ∧ 2147483647 < f)) with h1 | ⟨h1, h2⟩
    all_goals
      clear hok h hf hz hwf
      go_enter Try.func32, Try.ntmps32
      go_wp2_with fail
      go_ret2
      exact ⟨by rw [HC.out.2.1, HC.out.2.2]; rfl, by rw [HC.out.1]; exact HH.out, Mid.refl _ _ _⟩
end
end Go.Proofs.Ytcbehllfljjngaa
