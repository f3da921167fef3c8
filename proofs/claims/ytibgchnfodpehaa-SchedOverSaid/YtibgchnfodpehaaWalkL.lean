/- The walks of layer 19: the document's example. -/
import Derived.Test.YtibgchnfodpehaaWalkK
namespace Go.Proofs.Ytibgchnfodpehaa
open Go.RowKit
set_option linter.unusedVariables false

def l1 : Tb := [thr0]
def l2 : Tb := [thr0, thr0]
def l3 : Tb := [⟨.waits, [5]⟩, thr0]
theorem fr_b {p q : TypeId} {b B : Nat} {w w' : World} (h : Fr p q b w w') (hb : B ≤ b) : Below B w w' := h.below.mono hb
set_option maxHeartbeats 2000000 in
theorem lives_any (w : World) : Calls Try.prog 14 #[] w fun e w' => e = .returned (.bool true) ∧ Below w.heap.size w w' := by
  have T0 := Lib.hid (tab_new w w.heap.size (by omega))
  have B0 : Hid (Below w.heap.size w (w.alloc (.cells #[.slice none 0 0] 52))) := (Below.refl _ _).alloc (Nat.le_refl _) _
  go_enter Try.func14, Try.ntmps14
  go_wp2_with (go_at_call 8; refine (new_any _).mono ?_; rintro e w' ⟨rfl, rfl⟩)
  generalize w.alloc (.cells #[.slice none 0 0] 52) = w1 at *
  have C1 : Calls Try.prog 9 #[.pointer (some ⟨w.heap.size, 0, none⟩)] w1 fun e w' => e = .returned (.tuple #[.int .i64 0, .int .i64 0]) ∧ TabAt w' w.heap.size w.heap.size l1 ∧ Fr 52 54 w.heap.size w1 w' := add_any w1 w.heap.size w.heap.size [] T0.out
  refine C1.mono ?_
  rintro e w2 ⟨rfl, t2, f2⟩
  have T2 := Lib.hid t2
  have B2 := Lib.hid (B0.out.trans f2.below)
  clear t2 f2 C1 T0 B0
  go_wp2_with fail
  have C1 : Calls Try.prog 9 #[.pointer (some ⟨w.heap.size, 0, none⟩)] w2 fun e w' => e = .returned (.tuple #[.int .i64 1, .int .i64 0]) ∧ TabAt w' w.heap.size w.heap.size l2 ∧ Fr 52 54 w.heap.size w2 w' := add_any w2 w.heap.size w.heap.size l1 T2.out
  refine C1.mono ?_
  rintro e w3 ⟨rfl, t2, f2⟩
  have T3 := Lib.hid t2
  have B3 := Lib.hid (B2.out.trans f2.below)
  clear t2 f2 C1 T2 B2
  go_wp2_with fail
  have C1 : Calls Try.prog 16 #[.pointer (some ⟨w.heap.size, 0, none⟩), .int .i64 3] w3 fun e w' => e = .returned (.tuple #[.int .i64 1, .bool true]) ∧ Below w3.heap.size w3 w' := pick_any w3 w.heap.size w.heap.size l2 3 T3.out (by decide) (by decide)
  refine C1.mono ?_
  rintro e w4 ⟨rfl, b4⟩
  have T4 := Lib.hid (T3.out.below b4)
  have B4 : Hid (Below w.heap.size w w4) := B3.out.trans (b4.mono B3.out.size)
  clear b4 C1 T3 B3
  have HW := Lib.hid (Whole.made w4 3 #[.int .i64 5])
  have B5 : Hid (Below w.heap.size w (w4.alloc (.cells #[.int .i64 5] 3))) := B4.out.alloc B4.out.size _
  have T5 := Lib.hid (T4.out.below ((Below.refl _ _).alloc (Nat.le_refl _) (.cells #[.int .i64 5] 3)))
  have A5 : Hid (Arg (w4.alloc (.cells #[.int .i64 5] 3)) (some ⟨w4.heap.size, 0, none⟩) 1 1 [5]) := ⟨⟨rfl, fun _ => ⟨w4.heap.size, 0, rfl, by simp, fun j hj => by
    obtain rfl : j = 0 := by omega
    exact HW.out.cell 0⟩⟩, by decide, .inr (by decide)⟩
  go_wp2_with fail
  generalize w4.alloc (.cells #[.int .i64 5] 3) = w5 at *
  clear HW
  have C1 : Calls Try.prog 11 #[.pointer (some ⟨w.heap.size, 0, none⟩), .int .i64 0, .slice (some ⟨w4.heap.size, 0, none⟩) 1 1] w5 fun e w' => e = .returned (.int .i64 0) ∧ TabAt w' w.heap.size w.heap.size l3 ∧ Fr 52 54 w.heap.size w5 w' := wait_any w5 w.heap.size w.heap.size l2 0 _ 1 1 [5] T5.out A5.out
  refine C1.mono ?_
  rintro e w6 ⟨rfl, t2, f2⟩
  have T6 := Lib.hid t2
  have B6 := Lib.hid (B5.out.trans f2.below)
  clear t2 f2 C1 T5 B5 A5 T4 B4
  go_wp2_with fail
  have C1 : Calls Try.prog 13 #[.pointer (some ⟨w.heap.size, 0, none⟩)] w6 fun e w' => ∃ A n c, e = .returned (.slice A n c) ∧ w'.ownsRow w6.heap.size 3 1 (.slice A n c) n (([1] : List Int).map (Value.int .i64)) ∧ Below w6.heap.size w6 w' := ready_any w6 w.heap.size w.heap.size l3 T6.out
  refine C1.mono ?_
  rintro e w7 ⟨A, n, c, rfl, o7, b7⟩
  have T7 := Lib.hid (T6.out.below b7)
  have B7 : Hid (Below w.heap.size w w7) := B6.out.trans (b7.mono B6.out.size)
  obtain rfl : 1 = n := own_len o7
  obtain ⟨g, rfl, hg1, hg2, hc⟩ := own_at o7 (k := 0) (by decide)
  have HC : Hid (g < w7.heap.size ∧ w7.cell? ⟨g, 0, none⟩ = some (.int .i64 1)) := ⟨hg2, hc⟩
  have HO := Lib.hid o7
  clear o7 b7 C1 T6 B6 hg1 hg2 hc
  go_wp2_with fail
  have C1 : Calls Try.prog 12 #[.pointer (some ⟨w.heap.size, 0, none⟩), .int .i64 5] w7 fun e w' => ∃ A n c, e = .returned (.slice A n c) ∧ w'.ownsRow w7.heap.size 3 1 (.slice A n c) n (([0] : List Int).map (Value.int .i64)) ∧ TabAt w' w.heap.size w.heap.size l2 ∧ Fr 52 54 w.heap.size w7 w' := wake_any w7 w.heap.size w.heap.size l3 5 T7.out
  refine C1.mono ?_
  rintro e w8 ⟨A2, n2, c2, rfl, o8, t8, f8⟩
  have T8 := Lib.hid t8
  have B8 : Hid (Below w.heap.size w w8) := B7.out.trans f8.below
  obtain rfl : 1 = n2 := own_len o8
  obtain ⟨g2, rfl, _, hg2, hc2⟩ := own_at o8 (k := 0) (by decide)
  obtain ⟨g', e', _, _, hc1⟩ := own_at (f8.kt.own HO.out (by decide) (by decide)) (k := 0) (by decide)
  obtain rfl : g = g' := by simpa using e'
  have hc1 : w8.cell? ⟨g, 0, none⟩ = some (.int .i64 1) := hc1
  have hc2 : w8.cell? ⟨g2, 0, none⟩ = some (.int .i64 0) := hc2
  clear o8 t8 f8 C1 T7 B7 HC HO e'
  go_wp2_with fail
  have C1 : Calls Try.prog 20 #[.pointer (some ⟨w.heap.size, 0, none⟩)] w8 fun e w' => e = .returned (.int .i64 0) ∧ Below w8.heap.size w8 w' := status_any w8 w.heap.size w.heap.size l2 T8.out
  refine C1.mono ?_
  rintro e w9 ⟨rfl, b9⟩
  have B9 : Hid (Below w.heap.size w w9) := B8.out.trans (b9.mono B8.out.size)
  clear b9 C1 T8 B8 hc1 hc2
  go_wp2_with fail
  go_ret
  exact ⟨rfl, B9.out⟩
end Go.Proofs.Ytibgchnfodpehaa
