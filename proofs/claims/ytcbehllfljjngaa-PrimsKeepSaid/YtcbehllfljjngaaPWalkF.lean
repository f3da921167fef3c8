/- The walks of layer 16: the document's examples; what a sum is by the document. -/
import Derived.Test.YtcbehllfljjngaaPWalkE
namespace Go.Proofs.Ytcbehllfljjngaa
open Go.RowKit
set_option linter.unusedVariables false

def lvH1 : Hp := [⟨201, [2, 25185]⟩]
def lvH2 : Hp := [⟨201, [2, 25185]⟩, ⟨200, [5, 7]⟩]
theorem lv_text : textH 64 [] [97, 98] = lvH1 ∧ textR 64 [] [97, 98] = 2 ∧ textE 64 [] [97, 98] = 0 := ⟨by kernel_rfl, by kernel_rfl, by kernel_rfl⟩
theorem lv_fields : fieldsF lvH1 2 = [2, 25185] := by decide +kernel
theorem lv_sum : sumF 0 3 5 = (7, 0) := by decide +kernel
theorem lv_close : closeH 64 lvH1 2 [7] = lvH2 ∧ closeR 64 lvH1 2 [7] = 8 ∧ closeE 64 lvH1 2 [7] = 0 := ⟨by kernel_rfl, by kernel_rfl, by kernel_rfl⟩
theorem lv_open : openF lvH2 8 = (2, [7], 0) := by decide +kernel
set_option maxRecDepth 100000 in
set_option maxHeartbeats 2000000 in
theorem lives_any (w : World) : Calls Try.prog 11 #[] w fun e w' => e = .returned (.bool true) ∧ Below w.heap.size w w' := by
  go_enter Try.func11, Try.ntmps11
  go_wp2_with fail
  refine (heapNew_any 64 (by decide) (by decide) w).mono ?_
  rintro ee w1 ⟨hb, rfl, h1, b1⟩
  have H1 := Lib.hid h1
  have B1 := Lib.hid b1
  clear h1 b1
  generalize w1.heap.size = e at *
  go_wp2_with fail
  refine (text_any H1.out ⟨#[97, 98]⟩ (by decide)).mono ?_
  rintro ee w2 ⟨hee, h2, m2⟩
  rw [show (⟨#[97, 98]⟩ : ByteArray).data.toList = [97, 98] from rfl, lv_text.2.1, lv_text.2.2] at hee
  rw [show (⟨#[97, 98]⟩ : ByteArray).data.toList = [97, 98] from rfl, lv_text.1] at h2
  subst hee
  have H2 := Lib.hid h2
  have B2 : Hid (Below w.heap.size w w2) := B1.out.trans (m2.below B1.out.size)
  clear h2 m2 H1 B1
  go_wp2_with fail
  refine (fields_any H2.out 2 (wf_i64.2 (by decide))).mono ?_
  rintro ee w3 ⟨A, n, c, rfl, ho, _, b3⟩
  rw [lv_fields] at ho
  have H3 := Lib.hid (H2.out.later b3)
  have B3 : Hid (Below w.heap.size w w3) := B2.out.trans (b3.mono B2.out.size)
  obtain rfl : 2 = n := own_len ho
  obtain ⟨A', c', e1, hI⟩ := Ints.of_own ho
  simp only [Value.slice.injEq] at e1
  obtain ⟨rfl, _, rfl⟩ := e1
  have hal : Below w3.heap.size w3 (w3.alloc (.cells #[.int .i64 2, .int .i64 25185] 3)) := (Below.refl _ _).alloc (Nat.le_refl _) _
  have HI := Lib.hid ((hI.below hal).more hal.size)
  have HJ := Lib.hid (ints_of_whole (zs := [2, 25185]) (Whole.made w3 3 #[.int .i64 2, .int .i64 25185]))
  have H3' := Lib.hid (H3.out.later hal)
  have B3' : Hid (Below w.heap.size w (w3.alloc (.cells #[.int .i64 2, .int .i64 25185] 3))) := B3.out.trans (hal.mono B3.out.size)
  clear ho b3 hI hal H2 B2 H3 B3
  go_wp2_with fail
  generalize w3.alloc (.cells #[.int .i64 2, .int .i64 25185] 3) = w4 at *
  refine (same_any w4 w4.heap.size _ _ 2 2 _ _ [2, 25185] [2, 25185] HI.out HJ.out (by decide) (by decide)).mono ?_
  rintro ee w5 ⟨rfl, b5⟩
  have H5 := Lib.hid (H3'.out.later b5)
  have B5 : Hid (Below w.heap.size w w5) := B3'.out.trans (b5.mono B3'.out.size)
  rw [show (([2, 25185] : List Int) == [2, 25185]) = true from rfl]
  clear b5 HI HJ H3' B3'
  go_wp2_with fail
  refine (sum_any 0 3 5 w5 (wf_i64.2 (by decide)) (wf_i64.2 (by decide)) (wf_i64.2 (by decide))).mono ?_
  rintro ee w6 ⟨hee, b6⟩
  rw [lv_sum] at hee
  subst hee
  have H6 := Lib.hid (H5.out.later b6)
  have B6 : Hid (Below w.heap.size w w6) := B5.out.trans (b6.mono B5.out.size)
  clear b6 H5 B5
  have hal : Below w6.heap.size w6 (w6.alloc (.cells #[.int .i64 7] 3)) := (Below.refl _ _).alloc (Nat.le_refl _) _
  have HJ := Lib.hid (ints_of_whole (zs := [7]) (Whole.made w6 3 #[.int .i64 7]))
  have H7 := Lib.hid (H6.out.later hal)
  have B7 : Hid (Below w.heap.size w (w6.alloc (.cells #[.int .i64 7] 3))) := B6.out.trans (hal.mono B6.out.size)
  clear hal H6 B6
  go_wp2_with fail
  generalize w6.alloc (.cells #[.int .i64 7] 3) = w7 at *
  refine (close_any H7.out 2 (wf_i64.2 (by decide)) _ 1 1 [7] HJ.out (by decide) (fun z hz => by simp only [List.mem_singleton] at hz; subst hz; exact wf_i64.2 (by decide))).mono ?_
  rintro ee w8 ⟨hee, h8, m8⟩
  rw [lv_close.2.1, lv_close.2.2] at hee
  rw [lv_close.1] at h8
  subst hee
  have H8 := Lib.hid h8
  have B8 : Hid (Below w.heap.size w w8) := B7.out.trans (m8.below (by have := H7.out.hbs; have := H7.out.size; omega))
  clear h8 m8 H7 B7 HJ
  go_wp2_with fail
  refine (open_any H8.out 8 (wf_i64.2 (by decide))).mono ?_
  rintro ee w9 ⟨A9, n9, c9, rfl, hi9, hn9, b9⟩
  rw [lv_open] at hi9 ⊢
  have B9 : Hid (Below w.heap.size w w9) := B8.out.trans (b9.mono B8.out.size)
  obtain rfl : 1 = n9 := hi9.1
  obtain ⟨g, off, rfl, _, x0⟩ := hi9.at_ (k := 0) (by decide)
  rw [Nat.add_zero] at x0
  have x0 : w9.cell? ⟨g, off, none⟩ = some (.int .i64 7) := x0
  clear hi9 b9 H8 B8
  go_wp2_with fail
  go_ret
  exact ⟨rfl, B9.out⟩
end Go.Proofs.Ytcbehllfljjngaa
