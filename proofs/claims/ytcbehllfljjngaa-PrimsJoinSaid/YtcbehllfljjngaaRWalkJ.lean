/- The walk of the law's deed: the function. -/
import Derived.Test.YtcbehllfljjngaaRWalkI
namespace Go.Proofs.Ytcbehllfljjngaa
open Go.RowKit
set_option linter.unusedVariables false
attribute [local go_sem ↓] Go.wp_at_zero Go.wp_at_succ

theorem cut70_size (s : ByteArray) (h : s.size ≤ maxLen) : (cut70 s).size ≤ maxLen := by
  unfold cut70
  split
  · rw [ByteArray.size_extract]; omega
  · exact h
section
theorem wordsF_wf {w : World} {B rb N : Nat} {H : Hp} (h : RefAt w B rb N H) {zs : List Int} (hz : ∀ z ∈ zs, WfI z) : ∀ z ∈ wordsF H zs, WfI z := by
  intro z h1
  unfold wordsF at h1
  obtain ⟨y, hy, rfl⟩ := List.mem_map.1 h1
  exact wordF_wf h (hz y (List.mem_of_mem_take hy))
variable {w : World} {s e hb N B rb : Nat} {H : Hp}
set_option maxRecDepth 100000 in
set_option maxHeartbeats 2000000 in
theorem does_any (d : Deed) (hd : d.s.size ≤ maxLen) (hk : WfI d.k) (ha : WfI d.a) (hbw : WfI d.b) (A : Option Addr) (n c : Nat) (hz : Ints w w.heap.size A n d.ws) (hn : n ≤ 9223372036854775807) (hwf : ∀ z ∈ d.ws, WfI z) (h : HeapAt w s e hb N H) (hr : RefAt w B rb N H) (hl : s ≤ e ∧ e ≤ B) :
    Calls Try.prog 16 #[.pointer (some ⟨hb, 0, none⟩), .pointer (some ⟨rb, 0, none⟩), .agg #[.int .i64 d.k, .string d.s, .int .i64 d.a, .int .i64 d.b, .slice A n c]] w (Did w s e hb N B rb (doH N H d)) := by
  obtain ⟨k, t, a, b, ws⟩ := d
  dsimp only at *
  have hD : (k = 0 → doH N H ⟨k, t, a, b, ws⟩ = textH N H (cut70 t).data.toList) ∧ (k = 1 → doH N H ⟨k, t, a, b, ws⟩ = joinH N H (wordF H a) (wordF H b)) ∧ (k = 2 → doH N H ⟨k, t, a, b, ws⟩ = closeH N H a (wordsF H ws)) ∧ (k = 3 → doH N H ⟨k, t, a, b, ws⟩ = mkH N H a (wordsF H ws)) ∧ (k ≠ 0 ∧ k ≠ 1 ∧ k ≠ 2 ∧ k ≠ 3 → doH N H ⟨k, t, a, b, ws⟩ = H) :=
    ⟨fun h => by subst h; rfl, fun h => by subst h; rfl, fun h => by subst h; rfl, fun h => by subst h; rfl, fun h => by unfold doH; rw [if_neg h.1, if_neg h.2.1, if_neg h.2.2.1, if_neg h.2.2.2]⟩
  have HD := Lib.hid hD
  clear hD
  generalize doH N H ⟨k, t, a, b, ws⟩ = R at *
  have HM0 := Whole.made w 38 #[.int .i64 k, .string t, .int .i64 a, .int .i64 b, .slice A n c]
  have hB0 : Below w.heap.size w (w.alloc (.cells #[.int .i64 k, .string t, .int .i64 a, .int .i64 b, .slice A n c] 38)) := (Below.refl _ _).alloc (Nat.le_refl _) _
  have hT := (Two.start h hr hl).later hB0
  have HCS := Lib.hid (cut70_size t hd)
  have HZ := Lib.hid hz
  have HW := Lib.hid hwf
  have HA := Lib.hid ha
  have HBW := Lib.hid hbw
  have HN := Lib.hid hn
  have HT := Lib.hid hT
  have HH := Lib.hid h
  have HR := Lib.hid hr
  have HBX := Lib.hid HM0
  have HLE : Hid (e ≤ w.heap.size) := h.size
  have HB0 := Lib.hid hB0
  obtain ⟨k1, k2⟩ := wf_i64.1 hk
  clear hk ha hbw hz hwf h hr hT HM0 hn hB0
  go_enter Try.func16, Try.ntmps16
  go_upto_if 17 with (fail)
  go_cut [5] (fun p wx => p = .pointer (some ⟨w.heap.size, 0, none⟩) ∧ Whole wx w.heap.size 38 #[.int .i64 k, .string (cut70 t), .int .i64 a, .int .i64 b, .slice A n c] ∧ Below w.heap.size w wx)
  case first =>
    by_cases h70 : 70 < t.size
    · have HC : Hid (cut70 t = t.extract 0 70) := if_pos h70
      go_wp2_with fail
      go_meet
      rw [HC.out]
      exact ⟨rfl, Whole.made w 38 _, (Below.refl _ _).alloc (Nat.le_refl _) _⟩
    · have HC : Hid (cut70 t = t) := if_neg h70
      go_wp2_with fail
      go_meet
      rw [HC.out]
      exact ⟨rfl, HBX.out, HB0.out⟩
  case rest =>
    obtain ⟨rfl, hbx, hbw⟩ := hcut
    have HX := Lib.hid hbx
    have HBB := Lib.hid hbw
    have HT1 : Hid (Two w s e hb N B rb H H wc) := (Two.start HH.out HR.out hl).later hbw
    have x0 : wc.cell? ⟨w.heap.size, 0, none⟩ = some (.int .i64 k) := hbx.cell 0
    have x1 : wc.cell? ⟨w.heap.size, 1, none⟩ = some (.string (cut70 t)) := hbx.cell 1
    have x2 : wc.cell? ⟨w.heap.size, 2, none⟩ = some (.int .i64 a) := hbx.cell 2
    have x3 : wc.cell? ⟨w.heap.size, 3, none⟩ = some (.int .i64 b) := hbx.cell 3
    have x4 : wc.cell? ⟨w.heap.size, 4, none⟩ = some (.slice A n c) := hbx.cell 4
    generalize cut70 t = t' at *
    clear hbx hbw HT HBX HB0
    clear x0 x1 x3 x4
    go_wp2_with fail
    refine (word_any HT1.out.ref a HA.out).mono ?_
    rintro ee w1 ⟨rfl, b1⟩
    have T1 := Lib.hid (HT1.out.later b1)
    have X1 := Lib.hid (HX.out.below b1 HX.out.lt)
    have B1 := Lib.hid (HBB.out.trans (b1.mono HBB.out.size))
    have x3 : w1.cell? ⟨w.heap.size, 3, none⟩ = some (.int .i64 b) := X1.out.cell 3
    have HWA := Lib.hid (wordF_wf HT1.out.ref HA.out)
    have HWB := Lib.hid (wordF_wf HT1.out.ref HBW.out)
    clear x2 b1 HX HT1 HBB
    go_wp2_with fail
    refine (word_any T1.out.ref b HBW.out).mono ?_
    rintro ee w2 ⟨rfl, b2⟩
    have T2 := Lib.hid (T1.out.later b2)
    have X2 := Lib.hid (X1.out.below b2 X1.out.lt)
    have B2 := Lib.hid (B1.out.trans (b2.mono B1.out.size))
    have x4 : w2.cell? ⟨w.heap.size, 4, none⟩ = some (.slice A n c) := X2.out.cell 4
    clear x3 b2 X1 T1 B1
    go_wp2_with fail
    refine (words_any T2.out.ref A n c ws ((HZ.out.below B2.out).more B2.out.size) HN.out HW.out).mono ?_
    rintro ee w3 ⟨A', n', c', rfl, ho, h61, b3⟩
    have hl61 := wordsF_wf T2.out.ref HW.out
    have D3 : Hid (DS w s e hb N B rb w.heap.size #[.int .i64 k, .string t', .int .i64 a, .int .i64 b, .slice A n c] A' n' c' (wordsF H ws) H H w3) :=
      ⟨T2.out.later b3, X2.out.below b3 X2.out.lt, HLE.out, own_more ho (by have := X2.out.lt; omega), h61, hl61⟩
    have x0 : w3.cell? ⟨w.heap.size, 0, none⟩ = some (.int .i64 k) := D3.out.box.cell 0
    clear x4 b3 X2 T2 B2 ho hl61 HZ HN HW
    generalize wordF H a = a' at *
    generalize wordF H b = b' at *
    generalize wordsF H ws = zs at *
    have HA0 : Hid (A' = none → c' = 0) := fun hA => by
      subst hA
      have := D3.out.row
      rcases this.2 with ⟨h1, _⟩ | ⟨g1, c1, cu, h1, _⟩
      · exact (by simpa using h1 : n' = 0 ∧ c' = 0).2
      · simp at h1
    rcases (by omega : k = 0 ∨ k = 1 ∨ k = 2 ∨ k = 3 ∨ (k ≠ 0 ∧ k ≠ 1 ∧ k ≠ 2 ∧ k ≠ 3)) with hk | hk | hk | hk | hk
    · subst hk
      have HR2 := Lib.hid (HD.out.1 rfl)
      clear HD
      have x1 : w3.cell? ⟨w.heap.size, 1, none⟩ = some (.string t') := D3.out.box.cell 1
      go_wp2_with fail
      refine (text_any D3.out.two.heap t' HCS.out).mono ?_
      rintro ee w4 ⟨rfl, hh, hm⟩
      have D4 := Lib.hid (D3.out.onHeap hh hm)
      have y1 : w4.cell? ⟨w.heap.size, 1, none⟩ = some (.string t') := D4.out.box.cell 1
      clear x1
      clear hh hm x0
      go_wp2_with fail
      refine (rtext_any D4.out.two.ref t' HCS.out).mono ?_
      rintro ee w5 ⟨rfl, hr, hb5⟩
      have T5 := Lib.hid (D4.out.two.onRef hr hb5)
      clear hr hb5 D3 D4 y1
      generalize textR N H t'.data.toList = x1 at *
      generalize textE N H t'.data.toList = x2 at *
      go_wp2_with fail
      go_ret
      exact ⟨rt_b (by simp), by rw [HR2.out]; exact T5.out⟩
    · subst hk
      have HR2 := Lib.hid (HD.out.2.1 rfl)
      clear HD
      go_wp2_with fail
      refine (join_any D3.out.two.heap a' b' HWA.out HWB.out).mono ?_
      rintro ee w4 ⟨rfl, hh, hm⟩
      have D4 := Lib.hid (D3.out.onHeap hh hm)
      clear hh hm x0
      go_wp2_with fail
      refine (rjoin_any D4.out.two.ref a' b' HWA.out HWB.out).mono ?_
      rintro ee w5 ⟨rfl, hr, hb5⟩
      have T5 := Lib.hid (D4.out.two.onRef hr hb5)
      clear hr hb5 D3 D4
      generalize joinR N H a' b' = x1 at *
      generalize joinE N H a' b' = x2 at *
      go_wp2_with fail
      go_ret
      exact ⟨rt_b (by simp), by rw [HR2.out]; exact T5.out⟩
    · subst hk
      have HR2 := Lib.hid (HD.out.2.2.1 rfl)
      clear HD
      have x2 : w3.cell? ⟨w.heap.size, 2, none⟩ = some (.int .i64 a) := D3.out.box.cell 2
      go_wp2_with fail
      refine (close_any D3.out.two.heap a HA.out A' n' c' zs D3.out.ints (Nat.le_trans D3.out.few (by omega)) D3.out.wf).mono ?_
      rintro ee w4 ⟨rfl, hh, hm⟩
      have D4 := Lib.hid (D3.out.onHeap hh hm)
      have y2 : w4.cell? ⟨w.heap.size, 2, none⟩ = some (.int .i64 a) := D4.out.box.cell 2
      clear x2
      clear hh hm x0
      go_wp2_with fail
      refine (rclose_any D4.out.two.ref a HA.out A' n' c' zs D4.out.ints HA0.out (Nat.le_trans D4.out.few (by omega)) D4.out.wf).mono ?_
      rintro ee w5 ⟨rfl, hr, hb5⟩
      have T5 := Lib.hid (D4.out.two.onRef hr hb5)
      clear hr hb5 D3 D4 y2
      generalize closeR N H a zs = x1 at *
      generalize closeE N H a zs = x2 at *
      go_wp2_with fail
      go_ret
      exact ⟨rt_b (by simp), by rw [HR2.out]; exact T5.out⟩
    · subst hk
      have HR2 := Lib.hid (HD.out.2.2.2.1 rfl)
      clear HD
      have x2 : w3.cell? ⟨w.heap.size, 2, none⟩ = some (.int .i64 a) := D3.out.box.cell 2
      go_wp2_with fail
      refine (make_any D3.out.two.heap a A' n' c' zs D3.out.ints (Nat.le_trans D3.out.few (by omega)) D3.out.wf D3.out.sep).mono ?_
      rintro ee w4 ⟨rfl, hh, hm⟩
      have D4 := Lib.hid (D3.out.onHeap hh hm)
      have y2 : w4.cell? ⟨w.heap.size, 2, none⟩ = some (.int .i64 a) := D4.out.box.cell 2
      clear x2
      clear hh hm x0
      go_wp2_with fail
      refine (rmake_any D4.out.two.ref a A' n' c' zs D4.out.ints (Nat.le_trans D4.out.few (by omega)) D4.out.wf).mono ?_
      rintro ee w5 ⟨rfl, hr, hb5⟩
      have T5 := Lib.hid (D4.out.two.onRef hr hb5)
      clear hr hb5 D3 D4 y2
      generalize mkR N H a zs = x1 at *
      generalize mkE N H a zs = x2 at *
      go_wp2_with fail
      go_ret
      exact ⟨rt_b (by simp), by rw [HR2.out]; exact T5.out⟩
    · have HR2 := Lib.hid (HD.out.2.2.2.2 hk)
      have t0 : (k == 0) = false := by simp; exact hk.1
      have t1 : (k == 1) = false := by simp; exact hk.2.1
      have t2 : (k == 2) = false := by simp; exact hk.2.2.1
      have t3 : (k == 3) = false := by simp; exact hk.2.2.2
      clear HD hk
      go_wp2_with fail
      go_ret
      exact ⟨rt_b (by simp), by rw [HR2.out]; exact D3.out.two⟩
end
end Go.Proofs.Ytcbehllfljjngaa
