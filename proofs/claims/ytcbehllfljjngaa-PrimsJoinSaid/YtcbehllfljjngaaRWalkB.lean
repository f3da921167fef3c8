/- The walks of layer 2's reference: points, what a word is. -/
import Derived.Test.YtcbehllfljjngaaRWalkA
import Derived.Test.YtcbehllfljjngaaPWalkG
namespace Go.Proofs.Ytcbehllfljjngaa
open Go.RowKit
set_option linter.unusedVariables false
attribute [local go_sem ↓] Go.wp_at_zero Go.wp_at_succ

section
variable {w : World} {B rb N : Nat} {H : Hp}
set_option maxHeartbeats 1000000 in
theorem point_any (h : RefAt w B rb N H) (m : Nat) (hm : m ≤ H.length) : Calls Try.prog 21 #[.pointer (some ⟨rb, 0, none⟩), .int .i64 m] w fun e w' => e = .returned (.int .i64 (2 * (posn H m : Nat))) ∧ Below w.heap.size w w' := by
  have HH := Lib.hid h
  have HL := Lib.hid h.len
  have hN := h.n
  have HTP := Lib.hid h.top
  have hpm := posn_le H hm
  have htp := h.top
  clear h
  go_enter Try.func21, Try.ntmps21
  go_wp2_with fail
  go_loopw [5, 6] (fun nn i wr => ∃ k : Nat, k ≤ m ∧ i = .int .i64 k ∧ nn = .int .i64 (posn H k : Nat) ∧ Below w.heap.size w wr) (fun _ i _ => m - (intOf i).toNat)
  case atStart => exact ⟨0, Nat.zero_le _, rfl, rfl, Below.refl _ _⟩
  case round =>
    obtain ⟨k, hk, rfl, rfl, hb⟩ := hrel
    have HR := Lib.hid (HH.out.later hb)
    have HB := Lib.hid hb
    obtain ⟨A, c, x0, x1, hx⟩ := HR.out.form
    have hlN := HL.out
    clear hb
    by_cases hlt : k < m
    · obtain ⟨g, rfl, _, A1, n1, c1, A2, n2, c2, y0, y1, y2, hsz, _⟩ := hx k (by omega)
      have HP := posn_succ (show k < H.length by omega)
      have hpl := posn_le H (i := k + 1) (by omega)
      have HPS : Hid (posn H (k + 1) = posn H k + (1 + n1 + n2)) := by show _ = _; omega
      have hs1 : posn H k + (1 + n1 + n2) ≤ 65537 := by omega
      have hkL : k < H.length := by omega
      clear hx HP hpl hsz hpm htp hm
      generalize posn H k = q at *
      generalize (H.getD k blk0).tag = t at *
      generalize H.length = L at *
      go_wp2_with fail
      refine (size_any wr t A1 A2 n1 c1 n2 c2 (by omega) (by omega)).mono ?_
      rintro ee w2 ⟨rfl, b2⟩
      have HB2 : Hid (Below w.heap.size w w2) := HB.out.trans (b2.mono HB.out.size)
      clear b2 x0 x1 y0 y1 y2
      go_wp2_with fail
      go_roundw
      case rel => exact ⟨k + 1, by omega, by go_num, by rw [HPS.out]; go_num, HB2.out⟩
      case measure => simp [intOf]; omega
    · obtain rfl : k = m := by omega
      clear hx
      have hpk : posn H k ≤ 65537 := by omega
      clear hpm htp
      generalize hpq : posn H k = q at *
      have HPQ := Lib.hid hpq
      clear hpq
      go_wp2_with fail
      go_ret
      exact ⟨by rw [HPQ.out]; rfl, HB.out⟩
def FindPost (w : World) (H : Hp) (z : Int) (e : Ending) (w' : World) : Prop := e = .returned (.tuple #[.agg #[.bool (wdF H z).1, .int .i64 (wdF H z).2.1], .bool (wdF H z).2.2]) ∧ Below w.heap.size w w'
theorem find_post {w w' : World} {H : Hp} {z i : Int} {a b : Bool} (h : wdF H z = (a, i, b)) (hb : Below w.heap.size w w') : FindPost w H z (.returned (.tuple #[.agg #[.bool a, .int .i64 i], .bool b])) w' := by
  unfold FindPost; rw [h]; exact ⟨rfl, hb⟩
theorem tmod2n (z : Int) : (Int.tmod z 2 != 0) = decide (z % 2 = 1) := by
  have := tmod2 z
  rw [bne, this]; simp
set_option maxHeartbeats 1000000 in
theorem find_any (h : RefAt w B rb N H) (z : Int) (hz : WfI z) : Calls Try.prog 72 #[.pointer (some ⟨rb, 0, none⟩), .int .i64 z] w (FindPost w H z) := by
  obtain ⟨hz1, hz2⟩ := wf_i64.1 hz
  have tz := tmod2n z
  have HW0 := Lib.hid (Whole.made w 84 #[.bool false, .int .i64 0])
  have hB0 : Below w.heap.size w (w.alloc (.cells #[.bool false, .int .i64 0] 84)) := (Below.refl _ _).alloc (Nat.le_refl _) _
  have HB0 := Lib.hid hB0
  by_cases hodd : z % 2 = 1
  · rw [decide_eq_true hodd] at tz
    have HF := Lib.hid (wdF_odd (H := H) hodd)
    have HE : Hid (Below w.heap.size w (w.alloc (.cells #[.bool false, .int .i64 z] 84))) := (Below.refl _ _).alloc (Nat.le_refl _) _
    clear hB0 h hz hodd
    go_enter Try.func72, Try.ntmps72
    go_wp2_with fail
    exact bodyPost_ret (v := .tuple #[.agg #[.bool false, .int .i64 z], .bool true]) (by simp [results, Try.results72, go_sem]) rfl (find_post HF.out HE.out)
  · rw [decide_eq_false hodd] at tz
    have h0 : z % 2 = 0 := by omega
    have HZ0 := Lib.hid h0
    have HH := Lib.hid h
    have HL := Lib.hid h.len
    have hN := h.n
    have HTP := Lib.hid h.top
    clear h hz hodd hB0 h0
    go_enter Try.func72, Try.ntmps72
    go_wp2_with fail
    generalize w.alloc (.cells #[.bool false, .int .i64 0] 84) = w1 at *
    go_loopw [6, 7] (fun nn i wr => ∃ k : Nat, k ≤ H.length ∧ i = .int .i64 k ∧ nn = .int .i64 (posn H k : Nat) ∧ (∀ j, j < k → z ≠ 2 * (posn H j : Nat)) ∧ Below w.heap.size w wr ∧ Whole wr w.heap.size 84 #[.bool false, .int .i64 0]) (fun _ i _ => H.length - (intOf i).toNat)
    case atStart => exact ⟨0, Nat.zero_le _, rfl, rfl, fun j hj => absurd hj (by omega), HB0.out, HW0.out⟩
    case round =>
      obtain ⟨k, hk, rfl, rfl, hno, hb, hw⟩ := hrel
      have HR := Lib.hid (HH.out.later hb)
      have HB := Lib.hid hb
      have HW := Lib.hid hw
      have HNO := Lib.hid hno
      obtain ⟨A, c, x0, x1, hx⟩ := HR.out.form
      have hlN := HL.out
      have hpk := posn_le H hk
      have htp := HTP.out
      clear hb hw hno HB0 HW0
      by_cases hlt : k < H.length
      · obtain ⟨g, rfl, hgl, A1, n1, c1, A2, n2, c2, y0, y1, y2, hsz, _⟩ := hx k hlt
        by_cases hz : z = 2 * (posn H k : Nat)
        · have HF := Lib.hid (wdF_yes hlt hz)
          have hzb : (z == 2 * (posn H k : Nat)) = true := beq_iff_eq.2 hz
          have HC := (HW.out.put 0 (.bool true)).put 1 (.int .i64 (k : Int))
          have v0 := HC.cell 0
          have v1 := HC.cell 1
          have u0 := HW.out.cell 0
          have u1 := HW.out.cell 1
          have f0 := HW.out.free 0
          have f1 := HW.out.free 1
          have HE := Lib.hid ((HB.out.setCell (p := ⟨w.heap.size, 0, none⟩) (Nat.le_refl _) (.bool true)).setCell (p := ⟨w.heap.size, 1, none⟩) (Nat.le_refl _) (.int .i64 (k : Int)))
          clear hx hz HC y0 y1 y2
          generalize posn H k = q at *
          generalize H.length = L at *
          go_wp2_with fail
          exact bodyPost_ret (v := .tuple #[.agg #[.bool true, .int .i64 k], .bool true]) (by simp [results, Try.results72, go_sem, v0, v1]) rfl (find_post HF.out HE.out)
        · have hzb : (z == 2 * (posn H k : Nat)) = false := beq_eq_false_iff_ne.2 hz
          have HP := posn_succ hlt
          have hpl := posn_le H (i := k + 1) (by omega)
          have HPS : Hid (posn H (k + 1) = posn H k + (1 + n1 + n2)) := by show _ = _; omega
          have hs1 : posn H k + (1 + n1 + n2) ≤ 65537 := by omega
          have HNX : Hid (∀ j, j < k + 1 → z ≠ 2 * (posn H j : Nat)) := fun j hj => by
            rcases Nat.lt_or_ge j k with h | h
            · exact HNO.out j h
            · rw [show j = k from by omega]; exact hz
          clear hx HP hpl hsz hpk htp hz
          generalize posn H k = q at *
          generalize (H.getD k blk0).tag = t at *
          generalize H.length = L at *
          go_wp2_with fail
          refine (size_any wr t A1 A2 n1 c1 n2 c2 (by omega) (by omega)).mono ?_
          rintro ee w2 ⟨rfl, b2⟩
          have HB2 : Hid (Below w.heap.size w w2) := HB.out.trans (b2.mono HB.out.size)
          have HW2 := Lib.hid (HW.out.below b2 HW.out.lt)
          clear b2 x0 x1 y0 y1 y2
          go_wp2_with fail
          go_roundw
          case rel => exact ⟨k + 1, by omega, by go_num, by rw [HPS.out]; go_num, HNX.out, HB2.out, HW2.out⟩
          case measure => simp [intOf]; omega
      · obtain rfl : k = H.length := by omega
        have HF := Lib.hid (wdF_no HZ0.out HNO.out)
        have HC := (HW.out.put 0 (.bool false)).put 1 (.int .i64 0)
        have v0 := HC.cell 0
        have v1 := HC.cell 1
        have u0 := HW.out.cell 0
        have u1 := HW.out.cell 1
        have f0 := HW.out.free 0
        have f1 := HW.out.free 1
        have HE := Lib.hid ((HB.out.setCell (p := ⟨w.heap.size, 0, none⟩) (Nat.le_refl _) (.bool false)).setCell (p := ⟨w.heap.size, 1, none⟩) (Nat.le_refl _) (.int .i64 0))
        clear hx HC hpk htp
        generalize H.length = L at *
        go_wp2_with fail
        exact bodyPost_ret (v := .tuple #[.agg #[.bool false, .int .i64 0], .bool false]) (by simp [results, Try.results72, go_sem, v0, v1]) rfl (find_post HF.out HE.out)
end
end Go.Proofs.Ytcbehllfljjngaa
