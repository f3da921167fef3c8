/- The walks of layer 19: Pick, of both; few; whether two lists are the same. -/
import Derived.Test.YtibgchnfodpehaaWalkF
namespace Go.Proofs.Ytibgchnfodpehaa
open Go.RowKit
set_option linter.unusedVariables false
attribute [local go_sem ↓] Go.wp_at_zero Go.wp_at_succ

def wrap64 (z : Int) : Int := (z + 9223372036854775808) % 18446744073709551616 - 9223372036854775808
theorem wrap_eq (z : Int) : IntKind.i64.wrap z = wrap64 z := by simp [IntKind.wrap, IntKind.bits, IntKind.signed, wrap64]; omega
def pickK (k : Int) : Int := if k < 0 then -(k + 1) else k
def pickN (L : Tb) (k : Int) : Int := if (readyL L).length = 0 then 0 else (readyL L).getD (pickK k % ((readyL L).length : Nat)).toNat 0
def pickB (L : Tb) : Bool := decide (0 < (readyL L).length)
theorem own_at {w : World} {base n c k : Nat} {A : Option Addr} {zs : List Int} (h : w.ownsRow base 3 1 (.slice A n c) n (zs.map (Value.int .i64))) (hk : k < n) : ∃ g, A = some ⟨g, 0, none⟩ ∧ base ≤ g ∧ g < w.heap.size ∧ w.cell? ⟨g, k, none⟩ = some (.int .i64 (zs.getD k 0)) := by
  have hl := own_len h
  obtain ⟨g, c', e, hb, hg, hcell, _⟩ := own_cell h (k := k) (by omega)
  simp only [Value.slice.injEq] at e
  refine ⟨g, e.1, hb, hg, ?_⟩
  rw [hcell, List.getElem?_map, List.getElem?_eq_getElem (by omega), List.getD_eq_getElem?_getD, List.getElem?_eq_getElem (by omega)]; rfl
theorem pick_rem (k : Int) (n : Nat) (h0 : 0 < n) (h1 : -9223372036854775808 ≤ k) (h2 : k ≤ 9223372036854775807) :
    (pickK k % (n : Nat)).toNat < n ∧ Int.tmod (pickK k) n = ((pickK k % (n : Nat)).toNat : Int) ∧ 0 ≤ pickK k ∧ pickK k ≤ 9223372036854775807 := by
  have hp : 0 ≤ pickK k ∧ pickK k ≤ 9223372036854775807 := by unfold pickK; split <;> omega
  have hn : (0 : Int) < n := by omega
  have h3 := Int.emod_nonneg (pickK k) (Int.ne_of_gt hn)
  have h4 := Int.emod_lt_of_pos (pickK k) hn
  rw [Int.tmod_eq_emod_of_nonneg hp.1]
  exact ⟨by omega, by omega, hp.1, hp.2⟩
set_option maxHeartbeats 1000000 in
theorem pick_any (w : World) (b D : Nat) (L : Tb) (k : Int) (h : TabAt w b D L) (h1 : -9223372036854775808 ≤ k) (h2 : k ≤ 9223372036854775807) :
    Calls Try.prog 16 #[.pointer (some ⟨b, 0, none⟩), .int .i64 k] w fun e w' => e = .returned (.tuple #[.int .i64 (pickN L k), .bool (pickB L)]) ∧ Below w.heap.size w w' := by
  have HT := Lib.hid h
  clear h
  go_enter Try.func16, Try.ntmps16
  go_wp2_with fail
  refine (ready_any w b D L HT.out).mono ?_
  rintro e w1 ⟨A, n, c, rfl, ho, hb⟩
  have HN : Hid ((readyL L).length = n) := own_len ho
  have HO := Lib.hid ho
  have HB := Lib.hid hb
  have hn8 : n ≤ 8 := by have := readyL_len L; have h2 := HT.out.len; rw [HN.out] at this; omega
  clear ho hb
  by_cases h0 : 0 < n
  · have HR := Lib.hid (pick_rem k n h0 h1 h2)
    have HS : Hid (pickN L k = (readyL L).getD (pickK k % (n : Nat)).toNat 0 ∧ pickB L = true) := by show _ ∧ _; unfold pickN pickB; rw [HN.out, if_neg (by omega), decide_eq_true h0]; exact ⟨rfl, rfl⟩
    obtain ⟨g, rfl, _, _, x0⟩ := own_at HO.out HR.out.1
    have hr1 := HR.out.1
    have hr2 := HR.out.2.1
    have hr3 := HR.out.2.2
    have hdp : pickK k = if k < 0 then -(k + 1) else k := rfl
    generalize (pickK k % (n : Nat)).toNat = r at *
    generalize (readyL L).getD r 0 = res at *
    by_cases hk : k < 0
    · rw [if_pos hk] at hdp
      rw [hdp] at hr2 hr3
      have s1 : IntKind.i64.wrap (k + 1) = k + 1 := by rw [wrap_eq]; unfold wrap64; omega
      have s2 : IntKind.i64.wrap (-(k + 1)) = -(k + 1) := by rw [wrap_eq]; unfold wrap64; omega
      clear HR hdp
      generalize hkk : -(k + 1) = kk at *
      go_wp2_with fail
      go_ret2
      exact ⟨by rw [HS.out.1, HS.out.2]; first | done | rfl, HB.out⟩
    · rw [if_neg hk] at hdp
      rw [hdp] at hr2 hr3
      clear HR hdp
      go_wp2_with fail
      go_ret2
      exact ⟨by rw [HS.out.1, HS.out.2]; first | done | rfl, HB.out⟩
  · obtain rfl : n = 0 := by omega
    have HS : Hid (pickN L k = 0 ∧ pickB L = false) := by show _ ∧ _; unfold pickN pickB; rw [HN.out, if_pos rfl]; exact ⟨rfl, rfl⟩
    go_wp2_with fail
    go_ret2
    exact ⟨by rw [HS.out.1, HS.out.2]; first | done | rfl, HB.out⟩
set_option maxHeartbeats 1000000 in
theorem few_any (w : World) (A : Option Addr) (n c : Nat) (zs : List Int) (hz : Ints w w.heap.size A n zs) (hn : n ≤ 9223372036854775807) :
    Calls Try.prog 10 #[.slice A n c] w fun e w' => ∃ A' n' c', e = .returned (.slice A' n' c') ∧ w'.ownsRow w.heap.size 3 1 (.slice A' n' c') n' ((zs.take 12).map (Value.int .i64)) ∧ Arg w' A' n' c' (zs.take 12) ∧ Below w.heap.size w w' := by
  have HZ := Lib.hid hz
  have HL := Lib.hid hz.1
  clear hz
  go_enter Try.func10, Try.ntmps10
  go_wp2_with fail
  go_loopw [4, 3] (fun i o wr => ∃ k, i = .int .i64 (k : Nat) ∧ k ≤ n ∧ k ≤ 12 ∧ wr.ownsRow w.heap.size 3 1 o k ((zs.take k).map (Value.int .i64)) ∧ (k = 0 → o = .slice none 0 0) ∧ Below w.heap.size w wr) (fun i _ _ => 12 - (intOf i).toNat)
  case atStart => exact ⟨0, rfl, by omega, by omega, World.ownsRow_nil _ _ _ _, fun _ => rfl, Below.refl _ _⟩
  case round =>
    obtain ⟨k, rfl, hk, hk12, hown, hnil, hb⟩ := hrel
    have HN := Lib.hid hown
    have HX := Lib.hid hnil
    have HB := Lib.hid hb
    clear hown hnil hb
    by_cases hlt : k < n ∧ k < 12
    · obtain ⟨h1, h2⟩ := hlt
      obtain ⟨b, off, e1, hbl, c1⟩ := (HZ.out.below HB.out).at_ h1
      subst e1
      have HTK := Lib.hid (take_snoc' (zs := zs) (k := k) (by rw [HL.out]; exact h1))
      generalize zs.getD k 0 = x at *
      go_wp2_with (at_builtin; refine list_app ty_ints (v := u3) rfl _ _ rfl rfl (HN.out.alloc _) wr.heap.size 1 [.int .i64 x] rfl (Whole.made wr 3 _) rfl (by simp [Value.oneCell']) (by decide) (by omega) (by decide) (by have := HB.out.size; simp; omega) ?_; intro gv cv w7 hap; have HA := Lib.hid hap.own; have HB7 := Lib.hid (hap.below (HN.out.alloc _) (HB.out.alloc HB.out.size _) (Nat.le_refl _) (by have := HB.out.size; simp; omega)); clear hap)
      exact ⟨⟨k + 1, by go_num, by omega, by omega, by rw [HTK.out, List.map_append]; exact HA.out, fun h => by omega, HB7.out⟩, by simp [intOf]; omega⟩
    · have e : zs.take k = zs.take 12 := by
        rcases Nat.lt_or_ge k 12 with h | h
        · have : n = k := by omega
          rw [List.take_of_length_le (by rw [HL.out]; omega), List.take_of_length_le (by rw [HL.out]; omega)]
        · rw [show k = 12 from by omega]
      rw [e] at HN
      obtain ⟨A3, c3, rfl, _⟩ := own_form HN.out
      have HAR : Hid (Arg wr A3 k c3 (zs.take 12)) := by
        obtain ⟨A4, c4, e4, hi⟩ := Ints.of_own HN.out
        simp only [Value.slice.injEq] at e4
        obtain ⟨rfl, _, rfl⟩ := e4
        refine ⟨hi, hk12, ?_⟩
        rcases Nat.eq_zero_or_pos k with rfl | h0
        · have := HX.out rfl
          simp only [Value.slice.injEq] at this
          refine .inl ⟨this.1, rfl, this.2.2, ?_⟩
          have h6 := own_len HN.out
          exact List.eq_nil_of_length_eq_zero h6
        · exact .inr h0
      rcases Nat.lt_or_ge k n with hkn | hkn
      · obtain rfl : k = 12 := by omega
        go_wp2_with fail
        go_ret
        exact ⟨A3, 12, c3, rfl, by first | exact HN.out | (have := HN.out; rwa [List.map_take] at this), HAR.out, HB.out⟩
      · go_wp2_with fail
        go_ret
        exact ⟨A3, k, c3, rfl, HN.out, HAR.out, HB.out⟩
set_option maxHeartbeats 1000000 in
theorem same_any (w : World) (A B : Option Addr) (n c m d : Nat) (zs : List Int) (hz : Ints w w.heap.size A n zs) (hy : Ints w w.heap.size B m zs) (hn : n ≤ 1000) :
    Calls Try.prog 17 #[.slice A n c, .slice B m d] w fun e w' => e = .returned (.bool true) ∧ Below w.heap.size w w' := by
  obtain rfl : m = n := by rw [← hz.1, ← hy.1]
  have HZ := Lib.hid hz
  have HY := Lib.hid hy
  clear hz hy
  go_enter Try.func17, Try.ntmps17
  go_wp2_with fail
  go_loopw [5] (fun i wr => ∃ k : Nat, i = .int .i64 (k : Int) ∧ k ≤ m ∧ Below w.heap.size w wr) (fun i _ => m - (intOf i).toNat)
  case atStart => exact ⟨0, rfl, by omega, Below.refl _ _⟩
  case round =>
    obtain ⟨k, rfl, hk, hb⟩ := hrel
    have HB := Lib.hid hb
    by_cases hlt : k < m
    · obtain ⟨bA, oA, rfl, _, x1⟩ := (HZ.out.below hb).at_ hlt
      obtain ⟨bB, oB, rfl, _, y1⟩ := (HY.out.below hb).at_ hlt
      clear hb
      go_wp2_with fail
      go_quiet (fail)
      go_wp2_with fail
      exact ⟨⟨k + 1, by go_num, by omega, below_drewN HB.out _⟩, by simp [intOf]; omega⟩
    · go_wp2_with fail
      go_ret
      exact ⟨rfl, HB.out⟩
end Go.Proofs.Ytibgchnfodpehaa
