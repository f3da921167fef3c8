/- The walks of layer 1: the document's examples. -/
import Derived.Test.YtihenoielkkdkaaWalkE
namespace Go.Proofs.Ytihenoielkkdkaa
open Go.RowKit
set_option maxHeartbeats 400000 in
theorem lives_any (w : World) :
    Calls Try.prog 15 #[] w fun e w' => e = .returned (.bool true) ∧ Below w.heap.size w w' := by
  go_enter Try.func15, Try.ntmps15
  go_wp2_with fail
  refine (do_any _ _ _ _).mono ?_
  rintro e w' ⟨rfl, rfl⟩
  rw [show doF (⟨#[43]⟩ : ByteArray).toList 4611686018427387903 1 = (-4611686018427387904, 0) from by decide +kernel]
  go_wp2_with fail
  refine (do_any _ _ _ _).mono ?_
  rintro e w' ⟨rfl, rfl⟩
  rw [show doF (⟨#[47]⟩ : ByteArray).toList (-7) 2 = (-3, 0) from by decide +kernel]
  go_wp2_with fail
  refine (do_any _ _ _ _).mono ?_
  rintro e w' ⟨rfl, rfl⟩
  rw [show doF (⟨#[37]⟩ : ByteArray).toList (-7) 2 = (-1, 0) from by decide +kernel]
  go_wp2_with fail
  refine (tag_any _ _).mono ?_
  rintro e w' ⟨rfl, rfl⟩
  rw [show 2 * cw 3 + 1 = 7 from by decide +kernel]
  go_wp2_with fail
  refine (point_in _ _ (by decide) (by decide)).mono ?_
  rintro e w' ⟨rfl, rfl⟩
  go_wp2_with fail
  refine (show_any _ _).mono ?_
  rintro e w' ⟨rfl, hb⟩
  rw [show shw (cw (-4611686018427387904)) = [45, 52, 54, 49, 49, 54, 56, 54, 48, 49, 56, 52, 50, 55, 51, 56, 55, 57, 48, 52] from by decide +kernel]
  go_wp2_with fail
  go_ret
  exact ⟨rfl, hb⟩
end Go.Proofs.Ytihenoielkkdkaa
