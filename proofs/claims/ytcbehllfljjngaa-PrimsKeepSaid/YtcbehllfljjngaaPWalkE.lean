/- The walks of layer 16: what a closure keeps. -/
import Derived.Test.YtcbehllfljjngaaPWalkD
namespace Go.Proofs.Ytcbehllfljjngaa
open Go.RowKit
set_option linter.unusedVariables false

def ClipPost (w : World) (n : Nat) (zs : List Int) (e : Ending) (w' : World) : Prop := ∃ A c, e = .returned (.slice A n c) ∧ Ints w w.heap.size A n zs ∧ w = w'
set_option maxHeartbeats 400000 in
theorem clip_any (w : World) (ad : Addr) (n c : Nat) (zs : List Int) (hz : Ints w w.heap.size (some ad) n zs) (hn : n ≤ c) (hc : c ≤ maxLen) : Calls Try.prog 59 #[.slice (some ad) n c] w (ClipPost w n zs) := by
  unfold maxLen at hc
  by_cases h0 : n = 0
  · subst h0
    obtain rfl : zs = [] := List.eq_nil_of_length_eq_zero hz.1
    have HP : Hid (∀ A c', ClipPost w 0 [] (.returned (.slice A 0 c')) w) := fun A c' => ⟨A, c', rfl, ⟨rfl, fun h => absurd h (by omega)⟩, rfl⟩
    clear hz
    go_enter Try.func59, Try.ntmps59
    go_wp2_with fail
    all_goals
      go_ret
      exact HP.out _ _
  · have HP : Hid (∀ c', ClipPost w n zs (.returned (.slice (some ad) n c')) w) := fun c' => ⟨_, c', rfl, hz, rfl⟩
    obtain ⟨b, off, e1, _, _⟩ := hz.2 (by omega)
    obtain rfl : ad = ⟨b, off, none⟩ := by simpa using e1
    have h1 : 0 < n := by omega
    clear hz e1
    go_enter Try.func59, Try.ntmps59
    go_wp2_with fail
    all_goals
      go_ret
      exact HP.out _
def openOk (H : Hp) (z : Int) : Bool := decide (tagF H z = 200) && decide (0 < (fieldsF H z).length) && decide ((fieldsF H z).getD 0 0 % 2 = 1) && decide (0 ≤ (fieldsF H z).getD 0 0 / 2) && decide ((fieldsF H z).getD 0 0 / 2 ≤ 2147483647)
def openF (H : Hp) (z : Int) : Int × List Int × Int := if openOk H z = true then ((fieldsF H z).getD 0 0 / 2, (fieldsF H z).tail, 0) else (0, [], 4)
def OpenPost (w : World) (r : Int × List Int × Int) (e : Ending) (w' : World) : Prop :=
  ∃ A n c, e = .returned (.tuple #[.int .i64 r.1, .slice A n c, .int .i64 r.2.2]) ∧ Ints w' w'.heap.size A n r.2.1 ∧ n ≤ 60 ∧ Below w.heap.size w w'
theorem open_bad {w w' : World} {H : Hp} {z : Int} (h : openOk H z = false) (hb : Below w.heap.size w w') : OpenPost w (openF H z) (.returned (.tuple #[.int .i64 0, .slice none 0 0, .int .i64 4])) w' := by
  have : openF H z = (0, [], 4) := by unfold openF; rw [h]; rfl
  rw [this]
  exact ⟨none, 0, 0, rfl, Ints.nil_ _ _, by omega, hb⟩
theorem ints_tail {w : World} {b off n : Nat} {zs : List Int} {B : Nat} (h : Ints w B (some ⟨b, off, none⟩) (n + 1) zs) : Ints w B (some ⟨b, off + 1, none⟩) n zs.tail := by
  refine ⟨by rw [List.length_tail, h.1]; rfl, fun hn => ?_⟩
  obtain ⟨b', off', e, hlt, hc⟩ := h.2 (by omega)
  obtain ⟨rfl, rfl⟩ : b = b' ∧ off = off' := by simpa using e
  refine ⟨b, off + 1, rfl, hlt, fun j hj => ?_⟩
  have := hc (j + 1) (by omega)
  rw [show off + (j + 1) = off + 1 + j from by omega] at this
  rw [this]
  match zs with
  | [] => rfl
  | z :: zs => rfl
section
variable {w : World} {s e hb N : Nat} {H : Hp}
set_option maxHeartbeats 1000000 in
theorem open_any (h : HeapAt w s e hb N H) (z : Int) (hz : WfI z) : Calls Try.prog 28 #[.pointer (some ⟨hb, 0, none⟩), .int .i64 z] w (OpenPost w (openF H z)) := by
  have HF := Lib.hid (fields_any h z hz)
  have HT : Hid (∀ w1 : World, Below w.heap.size w w1 → Calls Try.prog 55 #[.pointer (some ⟨hb, 0, none⟩), .int .i64 z] w1 fun ee w' => ee = .returned (.int .i64 (tagF H z)) ∧ w1 = w') := fun w1 hb1 => tag_any (h.later hb1) z hz
  have HOK : Hid (openOk H z = (decide (tagF H z = 200) && decide (0 < (fieldsF H z).length) && decide ((fieldsF H z).getD 0 0 % 2 = 1) && decide (0 ≤ (fieldsF H z).getD 0 0 / 2) && decide ((fieldsF H z).getD 0 0 / 2 ≤ 2147483647))) := rfl
  have HR : Hid (openOk H z = true → openF H z = ((fieldsF H z).getD 0 0 / 2, (fieldsF H z).tail, 0)) := fun h => by unfold openF; rw [h]; rfl
  have HBAD : Hid (∀ w' : World, openOk H z = false → Below w.heap.size w w' → OpenPost w (openF H z) (.returned (.tuple #[.int .i64 0, .slice none 0 0, .int .i64 4])) w') := fun w' h1 h2 => open_bad h1 h2
  clear h hz
  generalize tagF H z = tg at *
  generalize fieldsF H z = zs at *
  go_enter Try.func28, Try.ntmps28
  go_wp2_with fail
  refine HF.out.mono ?_
  rintro ee w1 ⟨A, n, c, rfl, ho, hn, hb1⟩
  have HL : Hid (zs.length = n) := own_len ho
  obtain ⟨A', c', e1, hI⟩ := Ints.of_own ho
  simp only [Value.slice.injEq] at e1
  obtain ⟨rfl, _, rfl⟩ := e1
  obtain ⟨A'', c'', e2, hform, hc1, hc2⟩ := own_form ho
  simp only [Value.slice.injEq] at e2
  obtain ⟨rfl, _, rfl⟩ := e2
  have HI := Lib.hid hI
  have HB := Lib.hid hb1
  have HTT := Lib.hid (HT.out w1 hb1)
  clear ho hI hb1 HT HF hform
  go_wp2_with fail
  refine HTT.out.mono ?_
  rintro ee w2 ⟨rfl, rfl⟩
  clear HTT
  by_cases ht : tg = 200
  · subst ht
    by_cases h0 : n = 0
    · have HX := Lib.hid (HBAD.out w1 (by rw [HOK.out, HL.out, h0]; rfl) HB.out)
      clear HBAD HOK HR HI
      subst h0
      go_wp2_with fail
      go_ret3
      exact HX.out
    · obtain ⟨b, off, rfl, hlt, x0⟩ := HI.out.at_ (k := 0) (by omega)
      obtain ⟨m, rfl⟩ : ∃ m, n = m + 1 := ⟨n - 1, by omega⟩
      have HIT := Lib.hid (ints_tail HI.out)
      rw [Nat.add_zero] at x0
      have hn0 : 0 < m + 1 := by omega
      generalize zs.getD 0 0 = x at *
      by_cases hx : x % 2 = 1
      · have CX := fun (wx : World) => I.untag_odd x wx hx
        by_cases hx2 : x / 2 < 0
        · have HX := Lib.hid (HBAD.out w1 (by rw [HOK.out, decide_eq_false (show ¬ 0 ≤ x / 2 by omega)]; simp) HB.out)
          clear HBAD HOK HR HI HIT hx h0
          generalize x / 2 = y at *
          go_wp2_with fail
          refine (CX w1).mono ?_
          rintro ee w3 ⟨rfl, rfl⟩
          go_wp2_with fail
          go_ret3
          exact HX.out
        · by_cases hx3 : 2147483647 < x / 2
          · have HX := Lib.hid (HBAD.out w1 (by rw [HOK.out, decide_eq_false (show ¬ x / 2 ≤ 2147483647 by omega)]; simp) HB.out)
            clear HBAD HOK HR HI HIT hx h0
            generalize x / 2 = y at *
            go_wp2_with fail
            refine (CX w1).mono ?_
            rintro ee w3 ⟨rfl, rfl⟩
            go_wp2_with fail
            go_ret3
            exact HX.out
          · have HX := Lib.hid (HR.out (by rw [HOK.out, HL.out, decide_eq_true (show 0 ≤ x / 2 by omega), decide_eq_true (show x / 2 ≤ 2147483647 by omega), decide_eq_true hx, decide_eq_true hn0]; rfl))
            clear HBAD HOK HR HI hx h0
            unfold maxLen at hc1
            have hc0 : 1 ≤ c := by omega
            generalize x / 2 = y at *
            go_wp2_with fail
            refine (CX w1).mono ?_
            rintro ee w3 ⟨rfl, rfl⟩
            clear CX x0
            by_cases hc11 : c = 1
            · subst hc11
              obtain rfl : m = 0 := by omega
              have HIN := Lib.hid (show ∀ ad, Ints w1 w1.heap.size (some ad) 0 zs.tail from fun ad => ⟨HIT.out.1, fun h => absurd h (by omega)⟩)
              go_wp2_with fail
              refine (clip_any w1 _ 0 _ zs.tail (HIN.out _) (Nat.zero_le _) (by unfold maxLen; omega)).mono ?_
              rintro ee w4 ⟨A2, c2, rfl, hi2, rfl⟩
              have HI2 := Lib.hid hi2
              clear hi2
              go_wp2_with fail
              go_ret3
              exact ⟨A2, 0, c2, by rw [HX.out]; rfl, by rw [HX.out]; exact HI2.out, by omega, HB.out⟩
            · have hc12 : 1 < c := by omega
              clear hc11
              go_wp2_with fail
              refine (clip_any w1 _ m _ zs.tail HIT.out (by omega) (by unfold maxLen; omega)).mono ?_
              rintro ee w4 ⟨A2, c2, rfl, hi2, rfl⟩
              have HI2 := Lib.hid hi2
              clear hi2
              go_wp2_with fail
              go_ret3
              exact ⟨A2, m, c2, by rw [HX.out]; rfl, by rw [HX.out]; exact HI2.out, by omega, HB.out⟩
      · have CX := fun (wx : World) => I.untag_even x wx (by omega)
        have HX := Lib.hid (HBAD.out w1 (by rw [HOK.out, decide_eq_false hx]; simp) HB.out)
        clear HBAD HOK HR HI HIT hx h0
        go_wp2_with fail
        refine (CX w1).mono ?_
        rintro ee w3 ⟨rfl, rfl⟩
        go_wp2_with fail
        go_ret3
        exact HX.out
  · have HX := Lib.hid (HBAD.out w1 (by rw [HOK.out, decide_eq_false ht]; rfl) HB.out)
    have hb2 : (tg != 200) = true := bne_iff_ne.2 ht
    clear HBAD HOK HR HI ht
    go_wp2_with fail
    go_ret3
    exact HX.out
end
end Go.Proofs.Ytcbehllfljjngaa
