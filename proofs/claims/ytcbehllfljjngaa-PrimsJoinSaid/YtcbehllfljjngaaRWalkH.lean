/- The walks of the law's own words: words as they are meant. -/
import Derived.Test.YtcbehllfljjngaaRWalkG
namespace Go.Proofs.Ytcbehllfljjngaa
open Go.RowKit
set_option linter.unusedVariables false

def wordF (H : Hp) (z : Int) : Int := if z < 0 ∧ 0 < H.length then 2 * (posn H (-(z + 1) % (H.length : Nat)).toNat : Nat) else z
def wordsF (H : Hp) (zs : List Int) : List Int := (zs.take 61).map (wordF H)
section
variable {w : World} {B rb N : Nat} {H : Hp}
theorem wordF_wf (h : RefAt w B rb N H) {z : Int} (hz : WfI z) : WfI (wordF H z) := by
  unfold wordF
  split
  · rename_i h1
    have := Int.emod_lt_of_pos (-(z + 1)) (show (0 : Int) < (H.length : Nat) by omega)
    have := Int.emod_nonneg (-(z + 1)) (show ((H.length : Nat) : Int) ≠ 0 by omega)
    have h2 := posn_le H (i := (-(z + 1) % (H.length : Nat)).toNat) (by omega)
    have := h.top
    have := h.n
    exact wf_i64.2 ⟨by omega, by omega⟩
  · exact hz
set_option maxHeartbeats 1000000 in
theorem word_any (h : RefAt w B rb N H) (z : Int) (hz : WfI z) : Calls Try.prog 26 #[.pointer (some ⟨rb, 0, none⟩), .int .i64 z] w fun e w' => e = .returned (.int .i64 (wordF H z)) ∧ Below w.heap.size w w' := by
  obtain ⟨hz1, hz2⟩ := wf_i64.1 hz
  obtain ⟨A, c, _, x1, _⟩ := h.form
  have HH := Lib.hid h
  have hlN := h.len
  have hN := h.n
  by_cases hneg : z < 0
  · by_cases hl : 0 < H.length
    · have HW : Hid (wordF H z = 2 * (posn H (-(z + 1) % (H.length : Nat)).toNat : Nat)) := if_pos ⟨hneg, hl⟩
      have he1 := Int.emod_lt_of_pos (-(z + 1)) (show (0 : Int) < (H.length : Nat) by omega)
      have he2 := Int.emod_nonneg (-(z + 1)) (show ((H.length : Nat) : Int) ≠ 0 by omega)
      have s1 : IntKind.i64.wrap (z + 1) = z + 1 := IntWalk.i64_in _ (by omega)
      have s2 : IntKind.i64.wrap (-(z + 1)) = -(z + 1) := IntWalk.i64_in _ (by omega)
      have hk0 : 0 ≤ -(z + 1) := by omega
      obtain ⟨r, hr⟩ := Int.eq_ofNat_of_zero_le he2
      rw [hr, Int.toNat_natCast] at HW
      rw [hr] at he1 he2
      have HP := Lib.hid (point_any HH.out r (by omega))
      have ht : Int.tmod (-(z + 1)) (H.length : Nat) = r := by rw [Int.tmod_eq_emod_of_nonneg hk0]; exact hr
      generalize hkk : -(z + 1) = kk at *
      have hlb : decide (0 < (H.length : Int)) = true := decide_eq_true (by omega)
      clear h hz he2
      generalize H.length = L at *
      go_enter Try.func26, Try.ntmps26
      go_wp2_with fail
      refine HP.out.mono ?_
      rintro ee w1 ⟨rfl, b1⟩
      have HB := Lib.hid b1
      clear b1
      go_wp2_with fail
      go_ret
      exact ⟨rt_i (by rw [HW.out]), HB.out⟩
    · have HW : Hid (wordF H z = z) := if_neg (fun h => hl h.2)
      obtain ⟨L, hL⟩ : ∃ L, L = H.length := ⟨_, rfl⟩
      rw [← hL] at x1 hl
      obtain rfl : L = 0 := by omega
      clear h hz hL
      go_enter Try.func26, Try.ntmps26
      go_wp2_with fail
      go_ret
      exact ⟨rt_i HW.out.symm, Below.refl _ _⟩
  · have HW : Hid (wordF H z = z) := if_neg (fun h => hneg h.1)
    clear h hz x1
    go_enter Try.func26, Try.ntmps26
    go_wp2_with fail
    go_ret
    exact ⟨rt_i HW.out.symm, Below.refl _ _⟩
theorem wordsF_snoc {zs : List Int} {k : Nat} (h : k < zs.length) : (zs.take (k + 1)).map (wordF H) = (zs.take k).map (wordF H) ++ [wordF H (zs.getD k 0)] := by
  rw [take_snoc' h, List.map_append]; rfl
set_option maxHeartbeats 1000000 in
theorem words_any (h : RefAt w B rb N H) (A : Option Addr) (n c : Nat) (zs : List Int) (hz : Ints w w.heap.size A n zs) (hn : n ≤ 9223372036854775807) (hwf : ∀ z ∈ zs, WfI z) :
    Calls Try.prog 42 #[.pointer (some ⟨rb, 0, none⟩), .slice A n c] w fun e w' => ∃ A' n' c', e = .returned (.slice A' n' c') ∧ w'.ownsRow w.heap.size 3 1 (.slice A' n' c') n' ((wordsF H zs).map (Value.int .i64)) ∧ n' ≤ 61 ∧ Below w.heap.size w w' := by
  have HH := Lib.hid h
  have HZ := Lib.hid hz
  have HL : Hid (zs.length = n) := hz.1
  have HW := Lib.hid hwf
  clear h hz hwf
  go_enter Try.func42, Try.ntmps42
  go_wp2_with fail
  go_loopw [5, 6] (fun v i wr => ∃ k : Nat, k ≤ n ∧ k ≤ 61 ∧ i = .int .i64 k ∧ wr.ownsRow w.heap.size 3 1 v k (((zs.take k).map (wordF H)).map (Value.int .i64)) ∧ Below w.heap.size w wr) (fun _ i _ => 61 - (intOf i).toNat)
  case atStart => exact ⟨0, Nat.zero_le _, Nat.zero_le _, rfl, World.ownsRow_nil _ _ _ _, Below.refl _ _⟩
  case round =>
    obtain ⟨k, hk, hk61, rfl, hown, hb⟩ := hrel
    have HO := Lib.hid hown
    have HB := Lib.hid hb
    have HR := Lib.hid (HH.out.later hb)
    clear hown hb
    by_cases hlt : k < n
    · by_cases hlt2 : k < 61
      · obtain ⟨b, off, rfl, _, x0⟩ := (HZ.out.below HB.out).at_ hlt
        have HWZ : Hid (WfI (zs.getD k 0)) := HW.out _ (by rw [List.getD_eq_getElem?_getD, List.getElem?_eq_getElem (by have := HL.out; omega)]; exact List.getElem_mem _)
        have HS := Lib.hid (wordsF_snoc (H := H) (zs := zs) (k := k) (by have := HL.out; omega))
        generalize zs.getD k 0 = z at *
        go_wp2_with fail
        refine (word_any HR.out z HWZ.out).mono ?_
        rintro ee w2 ⟨rfl, b2⟩
        have HB2 := Lib.hid (HB.out.trans (b2.mono HB.out.size))
        have HO2 := Lib.hid (own_below HO.out b2 (Nat.le_refl _))
        generalize wordF H z = y at *
        clear b2 HO x0
        go_wp2_with (at_builtin; refine list_app ty_ints (v := u5) rfl _ _ rfl rfl (HO2.out.alloc _) w2.heap.size 1 [.int .i64 y] rfl (Whole.made w2 3 _) rfl (by simp [Value.oneCell']) (by decide) (by omega) (by decide) (by have := HB2.out.size; simp; omega) ?_; intro gv cv w7 hap; have HA := Lib.hid hap.own; have HB7 := Lib.hid (hap.below (HO2.out.alloc _) (HB2.out.alloc HB2.out.size _) (Nat.le_refl _) (by have := HB2.out.size; simp; omega)); clear hap)
        go_roundw
        case rel => exact ⟨k + 1, by omega, by omega, by go_num, by rw [HS.out, List.map_append]; exact HA.out, HB7.out⟩
        case measure => simp [intOf]; omega
      · obtain rfl : k = 61 := by omega
        obtain ⟨A5, c5, rfl, _⟩ := own_form HO.out
        go_wp2_with fail
        go_ret
        exact ⟨A5, 61, c5, rfl, HO.out, by omega, HB.out⟩
    · obtain rfl : k = n := by omega
      have HE : Hid (wordsF H zs = (zs.take k).map (wordF H)) := by show _ = _; unfold wordsF; rw [List.take_of_length_le (by have := HL.out; omega), List.take_of_length_le (by have := HL.out; omega)]
      obtain ⟨A5, c5, rfl, _⟩ := own_form HO.out
      go_wp2_with fail
      go_ret
      exact ⟨A5, k, c5, rfl, by rw [HE.out]; exact HO.out, hk61, HB.out⟩
end
end Go.Proofs.Ytcbehllfljjngaa
