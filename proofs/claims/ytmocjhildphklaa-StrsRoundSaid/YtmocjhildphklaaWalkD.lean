/- The walks of layer 3: which bytes are written as themselves; the digits of sixteen. -/
import Derived.Test.YtmocjhildphklaaWalkC
namespace Go.Proofs.Ytmocjhildphklaa
open Go.RowKit
set_option linter.unusedVariables false

/-- Bytes that are written as themselves. -/
def plainB (c : UInt8) : Bool := decide (32 ≤ (c.toNat : Int)) && decide ((c.toNat : Int) ≤ 126) && ((c.toNat : Int) != 34) && ((c.toNat : Int) != 92)
set_option maxHeartbeats 400000 in
theorem plain_any (c : UInt8) (w : World) :
    Calls Try.prog 26 #[.int .u8 (c.toNat : Int)] w fun e w' => e = .returned (.bool (plainB c)) ∧ w = w' := by
  generalize hv : plainB c = v
  have HV := Lib.hid hv
  clear hv
  go_enter Try.func26, Try.ntmps26
  go_wp2
  all_goals go_ret
  all_goals exact ⟨ret_b (by rw [← HV.out]; first | (simp [plainB, *]; done) | (simp [plainB, *]; omega)), rfl⟩
def hexL : List UInt8 := [48, 49, 50, 51, 52, 53, 54, 55, 56, 57, 97, 98, 99, 100, 101, 102]
def u8v (c : UInt8) : Value := .int .u8 (c.toNat : Int)
set_option maxHeartbeats 400000 in
theorem sixteen_any (w : World) :
    Calls Try.prog 25 #[] w fun e w' => e = .returned (.agg #[.int .u8 48, .int .u8 49, .int .u8 50, .int .u8 51, .int .u8 52, .int .u8 53, .int .u8 54, .int .u8 55, .int .u8 56, .int .u8 57, .int .u8 97, .int .u8 98, .int .u8 99, .int .u8 100, .int .u8 101, .int .u8 102]) ∧ Below w.heap.size w w' := by
  go_enter Try.func25, Try.ntmps25
  go_wp2
  exact bodyPost_ret (v := .agg #[.int .u8 48, .int .u8 49, .int .u8 50, .int .u8 51, .int .u8 52, .int .u8 53, .int .u8 54, .int .u8 55, .int .u8 56, .int .u8 57, .int .u8 97, .int .u8 98, .int .u8 99, .int .u8 100, .int .u8 101, .int .u8 102]) (by simp [results, Try.results25, go_sem]) rfl ⟨rfl, (Below.refl _ _).alloc (Nat.le_refl _) _⟩
end Go.Proofs.Ytmocjhildphklaa
