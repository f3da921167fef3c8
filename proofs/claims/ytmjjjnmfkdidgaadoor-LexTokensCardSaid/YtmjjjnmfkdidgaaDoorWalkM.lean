/- The walks of layer 4, the document's: a key. -/
import Derived.Test.YtmjjjnmfkdidgaaDoorWalkL
namespace Go.Proofs.YtmjjjnmfkdidgaaDoor
open Go.RowKit
set_option linter.unusedVariables false
attribute [local go_sem ↓] Go.wp_at_zero Go.wp_at_succ

def keyV : List Value := keyL.map fun l => .string ⟨l.toArray⟩
theorem keyV_get (k : Nat) (l : List UInt8) (h : keyL[k]? = some l) : keyV.toArray[k]? = some (.string ⟨l.toArray⟩) := by
  unfold keyV; simp [h]
theorem rkey_any (s : ByteArray) (w : World) : Calls Tryd.prog 16 #[.string s] w fun e w' => e = .returned (.bool (keyB s.data.toList)) ∧ Below w.heap.size w w' := by
  obtain ⟨r, hr⟩ : ∃ r, keyB s.data.toList = r := ⟨_, rfl⟩
  rw [hr]
  have HRR := Lib.hid hr
  clear hr
  go_enter Tryd.func16, Tryd.ntmps16
  go_wp2_with fail
  have HK : Hid (Whole (w.alloc (.cells keyV.toArray 9)) w.heap.size 9 keyV.toArray) := Whole.made _ _ _
  have HB : Hid (Below w.heap.size w (w.alloc (.cells keyV.toArray 9))) := (Below.refl _ _).alloc (Nat.le_refl _) _
  go_loopg [4] 23 (fun gk ks wr => ∃ k : Nat, ks = .int .i64 (k : Int) ∧ k + gk = 23 ∧ (∀ j, j < k → keyL[j]? ≠ some s.data.toList) ∧ Whole wr w.heap.size 9 keyV.toArray ∧ Below w.heap.size w wr)
  case atStart => exact ⟨0, rfl, rfl, fun j h => by omega, HK.out, HB.out⟩
  case round =>
    obtain ⟨k, rfl, hkg, hp, hk, hb⟩ := hrel
    have HP := Lib.hid hp
    have HK1 := Lib.hid hk
    have HB1 := Lib.hid hb
    clear hp hk hb HK HB
    by_cases hlt : k < 23
    · have d1 : decide ((k : Int) < 23) = true := decide_eq_true (by omega)
      have i1 : (0 : Int) ≤ (k : Int) := by omega
      have i2 : (k : Int) < 23 := by omega
      have i2n : k < 23 := hlt
      obtain ⟨x, hx⟩ : ∃ x, keyL[k]? = some x := ⟨_, List.getElem?_eq_getElem (by exact hlt)⟩
      have HX := Lib.hid hx
      have c0 : wr.cell? ⟨w.heap.size, k, none⟩ = some (.string ⟨x.toArray⟩) := (HK1.out.cell k).trans (keyV_get k x hx)
      clear hx
      by_cases hq : x = s.data.toList
      · have hc : r = true := by
          rw [← HRR.out]
          unfold keyB
          rw [hq] at HX
          exact List.contains_iff_mem.2 (List.mem_of_getElem? HX.out)
        subst hc
        have e1 : (x == s.toList) = true := by rw [ByteArray.toList_eq]; exact beq_iff_eq.2 hq
        clear HRR HX hq HP
        go_wp2_with fail
        go_ret
        exact ⟨rfl, HB1.out⟩
      · have e1 : (x == s.toList) = false := by rw [ByteArray.toList_eq]; exact beq_eq_false_iff_ne.2 hq
        have HP2 : Hid (∀ j, j < k + 1 → keyL[j]? ≠ some s.data.toList) := fun j h hj => by
          rcases Nat.lt_or_ge j k with h1 | h1
          · exact HP.out j h1 hj
          · obtain rfl : j = k := by omega
            rw [HX.out] at hj
            exact hq (Option.some.inj hj)
        clear HP HX hq
        go_wp2_with fail
        go_roundg (gk - 1)
        case measure => omega
        case rel => exact ⟨k + 1, rfl, by omega, HP2.out, HK1.out, HB1.out⟩
    · have d1 : decide ((k : Int) < 23) = false := decide_eq_false (by omega)
      have hc : r = false := by
        rw [← HRR.out, Bool.eq_false_iff]
        intro h
        unfold keyB at h
        obtain ⟨j, hj, hh⟩ := List.getElem_of_mem (List.contains_iff_mem.1 h)
        exact HP.out j (by have : j < 23 := hj; omega) (by rw [List.getElem?_eq_getElem hj, hh])
      subst hc
      clear HRR HP
      go_wp2_with fail
      go_ret
      exact ⟨rfl, HB1.out⟩
end Go.Proofs.YtmjjjnmfkdidgaaDoor
