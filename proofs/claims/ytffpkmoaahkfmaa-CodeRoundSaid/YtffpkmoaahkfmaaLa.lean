/- The laws of layer 13: how many of A and B an Op uses. -/
import Derived.Test.YtffpkmoaahkfmaaWalkL
namespace Go.Proofs.Ytffpkmoaahkfmaa
open Go.RowKit
set_option linter.unusedVariables false

theorem codeUses_walk (op : Int) (w : World) (hw : (Lit.int .i64 op).wf = true) : Calls Try.prog 4 #[.int .i64 op] w fun e w' => e = .returned (.bool true) ∧ Below w.heap.size w w' := by
  clear hw
  go_enter Try.func4, Try.ntmps4
  go_wp2_with (first
    | (go_at_call 16; refine (uses_any _ _).mono ?_; rintro e w' ⟨rfl, rfl⟩)
    | (go_at_call 17; refine (ruses_any _ _).mono ?_; rintro e w2 ⟨rfl, hb2⟩)
    | (go_at_call 15; refine (lives_any _).mono ?_; rintro e w3 ⟨rfl, hb3⟩))
  go_ret
  exact ⟨rfl, hb2.trans (hb3.mono hb2.size)⟩
end Go.Proofs.Ytffpkmoaahkfmaa
