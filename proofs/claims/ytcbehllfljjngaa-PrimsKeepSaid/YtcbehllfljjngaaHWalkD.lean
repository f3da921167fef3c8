/- The walks of layer 2: a block is made. -/
import Derived.Test.YtcbehllfljjngaaHWalkC
import Derived.Deep.RegionHeld3
import Derived.Deep.DrawnRows
namespace Go.Proofs.Ytcbehllfljjngaa
open Go.RowKit
set_option linter.unusedVariables false
attribute [local go_sem ↓] Go.wp_at_zero Go.wp_at_succ

section
variable {w : World} {s e hb N : Nat} {H : Hp}
set_option maxHeartbeats 400000 in
theorem makeOdd_any (h : HeapAt w s e hb N H) (z : Int) (hz : WfI z) (p : Nat) (hp : w.cell? ⟨p, 0, none⟩ = some (.pointer (some ⟨hb, 0, none⟩))) :
    Calls Try.prog 71 #[.int .i64 z, .pointer (some ⟨p, 0, none⟩)] w fun ee w' => ee = .returned (.bool (!mayF H z)) ∧ w = w' := by
  have HC := Lib.hid (may_any h z hz)
  clear h hz
  generalize mayF H z = b at *
  go_enter Try.func71, Try.ntmps71
  go_wp2_with (go_at_call 62; refine HC.out.mono ?_; rintro e w' ⟨rfl, rfl⟩)
  go_ret
  exact ⟨rfl, rfl⟩
set_option maxHeartbeats 400000 in
theorem collOdd_any (h : HeapAt w s e hb N H) (z : Int) (hz : WfI z) (p : Nat) (hp : w.cell? ⟨p, 0, none⟩ = some (.pointer (some ⟨hb, 0, none⟩))) :
    Calls Try.prog 61 #[.int .i64 z, .pointer (some ⟨p, 0, none⟩)] w fun ee w' => ee = .returned (.bool (!mayF H z)) ∧ w = w' := by
  have HC := Lib.hid (may_any h z hz)
  clear h hz
  generalize mayF H z = b at *
  go_enter Try.func61, Try.ntmps61
  go_wp2_with (go_at_call 62; refine HC.out.mono ?_; rintro e w' ⟨rfl, rfl⟩)
  go_ret
  exact ⟨rfl, rfl⟩
end
/-- Some number is none that may stand. -/
def oddF (H : Hp) (zs : List Int) : Bool := zs.any fun z => !mayF H z
theorem oddF_true {H : Hp} {zs : List Int} {k : Nat} (hk : k < zs.length) (h : (!mayF H (zs.getD k 0)) = true) : oddF H zs = true := by
  unfold oddF
  rw [List.any_eq_true]
  refine ⟨zs[k], List.getElem_mem hk, ?_⟩
  rw [List.getD_eq_getElem?_getD, List.getElem?_eq_getElem hk] at h
  exact h
theorem oddF_false {H : Hp} {zs : List Int} (h : ∀ j, j < zs.length → (!mayF H (zs.getD j 0)) = false) : oddF H zs = false := by
  unfold oddF
  rw [List.any_eq_false]
  intro z hz
  obtain ⟨j, hj, rfl⟩ := List.getElem_of_mem hz
  have := h j hj
  rw [List.getD_eq_getElem?_getD, List.getElem?_eq_getElem hj] at this
  simpa using this
section
variable {w : World} {H : Hp}
set_option maxHeartbeats 1000000 in
theorem indexfM_any (p : Nat) (A : Option Addr) (n c : Nat) (zs : List Int) (hz : Ints w w.heap.size A n zs) (hn : n ≤ 1000) (hwf : ∀ z ∈ zs, WfI z)
    (HF : ∀ (wx : World) (z : Int), Below w.heap.size w wx → WfI z → Calls Try.prog 71 #[.int .i64 z, .pointer (some ⟨p, 0, none⟩)] wx fun ee w' => ee = .returned (.bool (!mayF H z)) ∧ wx = w') :
    Calls Try.prog 75 #[.slice A n c, .func (.func 71) #[] #[.pointer (some ⟨p, 0, none⟩)]] w fun ee w' => ∃ r, ee = .returned (.int .i64 r) ∧ (decide (0 ≤ r) = oddF H zs) ∧ Below w.heap.size w w' := by
  have HZ := Lib.hid hz
  have HL : Hid (zs.length = n) := hz.1
  have HW := Lib.hid hwf
  have HG := Lib.hid HF
  clear hz hwf HF
  go_enter Try.func75, Try.ntmps75
  go_wp2
  go_loopw [5, 8] (fun _ i wr => ∃ k : Nat, i = .int .i64 (k : Int) ∧ k ≤ n ∧ (∀ j, j < k → (!mayF H (zs.getD j 0)) = false) ∧ Below w.heap.size w wr) (fun _ i _ => n - (intOf i).toNat)
  case atStart => exact ⟨0, rfl, by omega, fun j hj => absurd hj (by omega), Below.refl _ _⟩
  case round =>
    obtain ⟨k, rfl, hk, hp, hb⟩ := hrel
    have HP := Lib.hid hp
    have HB := Lib.hid hb
    clear hp hb
    by_cases hlt : k < n
    · obtain ⟨b, off, rfl, _, x0⟩ := (HZ.out.below HB.out).at_ hlt
      have HNX : Hid ((!mayF H (zs.getD k 0)) = false → ∀ j, j < k + 1 → (!mayF H (zs.getD j 0)) = false) := fun hx j hj => by
        rcases Nat.lt_or_ge j k with h | h
        · exact HP.out j h
        · rw [show j = k from by omega]; exact hx
      have HYE : Hid ((!mayF H (zs.getD k 0)) = true → oddF H zs = true) := fun hx => oddF_true (by rw [HL.out]; exact hlt) hx
      have HWK : Hid (WfI (zs.getD k 0)) := HW.out _ (by rw [List.getD_eq_getElem?_getD, List.getElem?_eq_getElem (by rw [HL.out]; exact hlt)]; exact List.getElem_mem _)
      generalize zs.getD k 0 = z at *
      go_wp2_with fail
      refine (HG.out _ z (by first | exact HB.out | exact HB.out.drew) HWK.out).mono ?_
      rintro e w1 ⟨rfl, rfl⟩
      clear x0
      rcases hm : (!mayF H z) with _ | _
      · have H2 := Lib.hid (HNX.out hm)
        clear hm
        go_wp2_with fail
        exact ⟨⟨k + 1, by go_num, by omega, H2.out, by first | exact HB.out | exact HB.out.drew⟩, by simp [intOf]; omega⟩
      · have H2 := Lib.hid (HYE.out hm)
        clear hm
        go_wp2_with fail
        go_ret
        exact ⟨_, rfl, by rw [H2.out]; simp, by first | exact HB.out | exact HB.out.drew⟩
    · have H2 := Lib.hid (oddF_false (H := H) (zs := zs) (fun j hj => HP.out j (by have := HL.out; omega)))
      go_wp2
      go_ret
      exact ⟨_, rfl, by rw [H2.out]; rfl, HB.out⟩
set_option maxHeartbeats 400000 in
theorem containsfM_any (p : Nat) (A : Option Addr) (n c : Nat) (zs : List Int) (hz : Ints w w.heap.size A n zs) (hn : n ≤ 1000) (hwf : ∀ z ∈ zs, WfI z)
    (HF : ∀ (wx : World) (z : Int), Below w.heap.size w wx → WfI z → Calls Try.prog 71 #[.int .i64 z, .pointer (some ⟨p, 0, none⟩)] wx fun ee w' => ee = .returned (.bool (!mayF H z)) ∧ wx = w') :
    Calls Try.prog 60 #[.slice A n c, .func (.func 71) #[] #[.pointer (some ⟨p, 0, none⟩)]] w fun ee w' => ee = .returned (.bool (oddF H zs)) ∧ Below w.heap.size w w' := by
  have HI := Lib.hid (indexfM_any p A n c zs hz hn hwf HF)
  clear hz hwf HF
  go_enter Try.func60, Try.ntmps60
  go_wp2_with fail
  refine HI.out.mono ?_
  rintro e w' ⟨r, rfl, hr, hb⟩
  have H2 := Lib.hid hr
  have HB := Lib.hid hb
  clear hr hb
  go_wp2_with fail
  go_ret
  exact ⟨rt_b H2.out, HB.out⟩
set_option maxHeartbeats 1000000 in
theorem indexfC_any (p : Nat) (A : Option Addr) (n c : Nat) (zs : List Int) (hz : Ints w w.heap.size A n zs) (hn : n ≤ 1000) (hwf : ∀ z ∈ zs, WfI z)
    (HF : ∀ (wx : World) (z : Int), Below w.heap.size w wx → WfI z → Calls Try.prog 61 #[.int .i64 z, .pointer (some ⟨p, 0, none⟩)] wx fun ee w' => ee = .returned (.bool (!mayF H z)) ∧ wx = w') :
    Calls Try.prog 75 #[.slice A n c, .func (.func 61) #[] #[.pointer (some ⟨p, 0, none⟩)]] w fun ee w' => ∃ r, ee = .returned (.int .i64 r) ∧ (decide (0 ≤ r) = oddF H zs) ∧ Below w.heap.size w w' := by
  have HZ := Lib.hid hz
  have HL : Hid (zs.length = n) := hz.1
  have HW := Lib.hid hwf
  have HG := Lib.hid HF
  clear hz hwf HF
  go_enter Try.func75, Try.ntmps75
  go_wp2
  go_loopw [5, 8] (fun _ i wr => ∃ k : Nat, i = .int .i64 (k : Int) ∧ k ≤ n ∧ (∀ j, j < k → (!mayF H (zs.getD j 0)) = false) ∧ Below w.heap.size w wr) (fun _ i _ => n - (intOf i).toNat)
  case atStart => exact ⟨0, rfl, by omega, fun j hj => absurd hj (by omega), Below.refl _ _⟩
  case round =>
    obtain ⟨k, rfl, hk, hp, hb⟩ := hrel
    have HP := Lib.hid hp
    have HB := Lib.hid hb
    clear hp hb
    by_cases hlt : k < n
    · obtain ⟨b, off, rfl, _, x0⟩ := (HZ.out.below HB.out).at_ hlt
      have HNX : Hid ((!mayF H (zs.getD k 0)) = false → ∀ j, j < k + 1 → (!mayF H (zs.getD j 0)) = false) := fun hx j hj => by
        rcases Nat.lt_or_ge j k with h | h
        · exact HP.out j h
        · rw [show j = k from by omega]; exact hx
      have HYE : Hid ((!mayF H (zs.getD k 0)) = true → oddF H zs = true) := fun hx => oddF_true (by rw [HL.out]; exact hlt) hx
      have HWK : Hid (WfI (zs.getD k 0)) := HW.out _ (by rw [List.getD_eq_getElem?_getD, List.getElem?_eq_getElem (by rw [HL.out]; exact hlt)]; exact List.getElem_mem _)
      generalize zs.getD k 0 = z at *
      go_wp2_with fail
      refine (HG.out _ z (by first | exact HB.out | exact HB.out.drew) HWK.out).mono ?_
      rintro e w1 ⟨rfl, rfl⟩
      clear x0
      rcases hm : (!mayF H z) with _ | _
      · have H2 := Lib.hid (HNX.out hm)
        clear hm
        go_wp2_with fail
        exact ⟨⟨k + 1, by go_num, by omega, H2.out, by first | exact HB.out | exact HB.out.drew⟩, by simp [intOf]; omega⟩
      · have H2 := Lib.hid (HYE.out hm)
        clear hm
        go_wp2_with fail
        go_ret
        exact ⟨_, rfl, by rw [H2.out]; simp, by first | exact HB.out | exact HB.out.drew⟩
    · have H2 := Lib.hid (oddF_false (H := H) (zs := zs) (fun j hj => HP.out j (by have := HL.out; omega)))
      go_wp2
      go_ret
      exact ⟨_, rfl, by rw [H2.out]; rfl, HB.out⟩
set_option maxHeartbeats 400000 in
theorem containsfC_any (p : Nat) (A : Option Addr) (n c : Nat) (zs : List Int) (hz : Ints w w.heap.size A n zs) (hn : n ≤ 1000) (hwf : ∀ z ∈ zs, WfI z)
    (HF : ∀ (wx : World) (z : Int), Below w.heap.size w wx → WfI z → Calls Try.prog 61 #[.int .i64 z, .pointer (some ⟨p, 0, none⟩)] wx fun ee w' => ee = .returned (.bool (!mayF H z)) ∧ wx = w') :
    Calls Try.prog 60 #[.slice A n c, .func (.func 61) #[] #[.pointer (some ⟨p, 0, none⟩)]] w fun ee w' => ee = .returned (.bool (oddF H zs)) ∧ Below w.heap.size w w' := by
  have HI := Lib.hid (indexfC_any p A n c zs hz hn hwf HF)
  clear hz hwf HF
  go_enter Try.func60, Try.ntmps60
  go_wp2_with fail
  refine HI.out.mono ?_
  rintro e w' ⟨r, rfl, hr, hb⟩
  have H2 := Lib.hid hr
  have HB := Lib.hid hb
  clear hr hb
  go_wp2_with fail
  go_ret
  exact ⟨rt_b H2.out, HB.out⟩
end
end Go.Proofs.Ytcbehllfljjngaa
