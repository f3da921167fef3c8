/- The walks of layer 4, the document's: a sign, a key. -/
import Derived.Test.YtmjjjnmfkdidgaaDoorWalkK
namespace Go.Proofs.YtmjjjnmfkdidgaaDoor
open Go.RowKit
set_option linter.unusedVariables false
attribute [local go_sem ↓] Go.wp_at_zero Go.wp_at_succ

def sgnS : ByteArray := ⟨#[61, 60, 43, 45, 42, 47, 37, 94, 59, 124, 40, 41, 44, 95]⟩
theorem rsign_any (c : UInt8) (w : World) : Calls Tryd.prog 36 #[.int .u8 (c.toNat : Int)] w fun e w' => e = .returned (.bool (signL.contains c)) ∧ w = w' := by
  obtain ⟨r, hr⟩ : ∃ r, signL.contains c = r := ⟨_, rfl⟩
  rw [hr]
  have HRR := Lib.hid hr
  clear hr
  go_enter Tryd.func36, Tryd.ntmps36
  go_wp2_with fail
  go_loopg [4] 14 (fun gk ks wr => ∃ k : Nat, ks = .int .i64 (k : Int) ∧ k + gk = 14 ∧ (∀ j, j < k → signL[j]? ≠ some c) ∧ w = wr)
  case atStart => exact ⟨0, rfl, rfl, fun j h => by omega, rfl⟩
  case round =>
    obtain ⟨k, rfl, hkg, hp, rfl⟩ := hrel
    have HP := Lib.hid hp
    clear hp
    by_cases hlt : k < 14
    · have d1 : decide ((k : Int) < 14) = true := decide_eq_true (by omega)
      have i1 : (0 : Int) ≤ (k : Int) := by omega
      have i2 : (k : Int) < 14 := by omega
      have hks : k < sgnS.size := hlt
      have HQ : Hid (signL[k]? = some sgnS[k]) := get_list sgnS k hks
      by_cases hq : sgnS[k] = c
      · have e1 := u8_eq sgnS[k] c hq
        have hc : r = true := by
          rw [hq] at HQ
          rw [← HRR.out]
          exact List.contains_iff_mem.2 (List.mem_of_getElem? HQ.out)
        subst hc
        clear HRR HQ hq HP
        unfold sgnS at e1
        go_wp2_with fail
        go_ret
        exact ⟨rfl, rfl⟩
      · have e1 := u8_ne sgnS[k] c hq
        have HP2 : Hid (∀ j, j < k + 1 → signL[j]? ≠ some c) := fun j h hj => by
          rcases Nat.lt_or_ge j k with h1 | h1
          · exact HP.out j h1 hj
          · obtain rfl : j = k := by omega
            rw [HQ.out] at hj
            exact hq (Option.some.inj hj)
        clear HP HQ hq
        unfold sgnS at e1
        go_wp2_with fail
        go_roundg (gk - 1)
        case measure => omega
        case rel => exact ⟨k + 1, rfl, by omega, HP2.out, rfl⟩
    · have d1 : decide ((k : Int) < 14) = false := decide_eq_false (by omega)
      have hc : r = false := by
        rw [← HRR.out, Bool.eq_false_iff]
        intro h
        obtain ⟨j, hj, hh⟩ := List.getElem_of_mem (List.contains_iff_mem.1 h)
        exact HP.out j (by have : j < 14 := hj; omega) (by rw [List.getElem?_eq_getElem hj, hh])
      subst hc
      clear HRR HP
      go_wp2_with fail
      go_ret
      exact ⟨rfl, rfl⟩
end Go.Proofs.YtmjjjnmfkdidgaaDoor
