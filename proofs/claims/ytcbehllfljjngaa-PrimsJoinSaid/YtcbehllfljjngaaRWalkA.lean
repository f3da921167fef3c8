/- The walks of layer 2's reference: sizes, points, what is used, what a word is. -/
import Derived.Test.YtcbehllfljjngaaRMemB
namespace Go.Proofs.Ytcbehllfljjngaa
open Go.RowKit
set_option linter.unusedVariables false
attribute [local go_sem ↓] Go.wp_at_zero Go.wp_at_succ

set_option maxHeartbeats 400000 in
theorem size_any (w : World) (t : Int) (A1 A2 : Option Addr) (n1 c1 n2 c2 : Nat) (h1 : n1 ≤ 100000) (h2 : n2 ≤ 100000) :
    Calls Try.prog 48 #[.agg #[.int .i64 t, .slice A1 n1 c1, .slice A2 n2 c2]] w fun e w' => e = .returned (.int .i64 (1 + n1 + n2 : Nat)) ∧ Below w.heap.size w w' := by
  go_enter Try.func48, Try.ntmps48
  go_wp2_with fail
  go_ret
  exact ⟨rt_i (by omega), (Below.refl _ _).alloc (Nat.le_refl _) _⟩
section
variable {w : World} {B rb N : Nat} {H : Hp}
set_option maxHeartbeats 1000000 in
theorem rused_any (h : RefAt w B rb N H) : Calls Try.prog 18 #[.pointer (some ⟨rb, 0, none⟩)] w fun e w' => e = .returned (.int .i64 (sumSz H : Nat)) ∧ Below w.heap.size w w' := by
  have HH := Lib.hid h
  have HL := Lib.hid h.len
  have hN := h.n
  have HTP := Lib.hid h.top
  clear h
  go_enter Try.func18, Try.ntmps18
  go_wp2_with fail
  go_loopw [3, 4] (fun nn i wr => ∃ k : Nat, k ≤ H.length ∧ i = .int .i64 k ∧ nn = .int .i64 (sumSz (H.take k) : Nat) ∧ Below w.heap.size w wr) (fun _ i _ => H.length - (intOf i).toNat)
  case atStart => exact ⟨0, Nat.zero_le _, rfl, rfl, Below.refl _ _⟩
  case round =>
    obtain ⟨k, hk, rfl, rfl, hb⟩ := hrel
    have HR := Lib.hid (HH.out.later hb)
    have HB := Lib.hid hb
    obtain ⟨A, c, x0, x1, hx⟩ := HR.out.form
    have hlN := HL.out
    clear hb
    by_cases hlt : k < H.length
    · obtain ⟨g, rfl, _, A1, n1, c1, A2, n2, c2, y0, y1, y2, hsz, _⟩ := hx k hlt
      have HP := posn_succ hlt
      have hpl := posn_le H (i := k + 1) (by omega)
      have htp := HTP.out
      have HPS : Hid (sumSz (H.take (k + 1)) = sumSz (H.take k) + (1 + n1 + n2)) := by show _ = _; unfold posn at HP; omega
      have hs1 : sumSz (H.take k) + (1 + n1 + n2) ≤ 65537 := by unfold posn at HP hpl; omega
      clear hx HP hpl htp hsz
      generalize sumSz (H.take k) = q at *
      generalize (H.getD k blk0).tag = t at *
      generalize H.length = L at *
      go_wp2_with fail
      refine (size_any wr t A1 A2 n1 c1 n2 c2 (by omega) (by omega)).mono ?_
      rintro ee w2 ⟨rfl, b2⟩
      have HB2 : Hid (Below w.heap.size w w2) := HB.out.trans (b2.mono HB.out.size)
      clear b2 x0 x1 y0 y1 y2
      go_wp2_with fail
      go_roundw
      case rel => exact ⟨k + 1, by omega, by go_num, by rw [HPS.out]; go_num, HB2.out⟩
      case measure => simp [intOf]; omega
    · have HE : Hid (sumSz (H.take k) = sumSz H) := by show _ = _; rw [List.take_of_length_le (by omega)]
      clear hx
      generalize sumSz (H.take k) = q at *
      generalize H.length = L at *
      go_wp2_with fail
      go_ret
      exact ⟨rt_i (by rw [HE.out]), HB.out⟩
end
end Go.Proofs.Ytcbehllfljjngaa
