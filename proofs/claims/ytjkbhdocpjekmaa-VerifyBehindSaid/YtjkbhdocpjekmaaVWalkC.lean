/- The walks of layer 14: a state without its last mark; is there a mark of begin. -/
import Derived.Test.YtjkbhdocpjekmaaVWalkA
namespace Go.Proofs.Ytjkbhdocpjekmaa
open Go.RowKit
set_option linter.unusedVariables false
attribute [local go_sem ↓] Go.wp_at_zero Go.wp_at_succ

set_option maxHeartbeats 1000000 in
theorem without_good (w : World) (d k : Int) (A : Option Addr) (n c : Nat) (ms : List (Int × Int)) (hm : Mks 89 w A (n + 1) ms) (hn : n ≤ 1000000) (hc : n + 1 ≤ c) (hc2 : c ≤ 9223372036854775807) (hk : (ms.getD n mk0).1 = k) :
    Calls Try.prog 43 #[.agg #[.int .i64 d, .slice A (n + 1) c], .int .i64 k] w fun e w' => e = .returned (.tuple #[.agg #[.int .i64 d, .slice A n c], .bool true]) ∧ Below w.heap.size w w' := by
  obtain ⟨g, rfl, hg, c1, c2⟩ := hm.at_ (k := n) (by omega)
  have ht : ((ms.getD n mk0).1 != k) = false := by rw [hk]; simp
  generalize (ms.getD n mk0).1 = x at *
  generalize (ms.getD n mk0).2 = y at *
  clear hm hk
  go_enter Try.func43, Try.ntmps43
  go_wp2
  exact bodyPost_ret (v := .tuple #[.agg #[.int .i64 d, .slice (some ⟨g, 0, none⟩) n c], .bool true]) (by simp [results, Try.results43, go_sem]) rfl ⟨rfl, ((Below.refl _ _).alloc (Nat.le_refl _) _).alloc (by simp) _⟩
set_option maxHeartbeats 1000000 in
theorem without_bad (w : World) (d k : Int) (A : Option Addr) (n c : Nat) (ms : List (Int × Int)) (hm : Mks 89 w A n ms) (hn : n ≤ 1000000) (hk : ∀ m, n = m + 1 → (ms.getD m mk0).1 ≠ k) :
    Calls Try.prog 43 #[.agg #[.int .i64 d, .slice A n c], .int .i64 k] w fun e w' => e = .returned (.tuple #[.agg #[.int .i64 d, .slice A n c], .bool false]) ∧ Below w.heap.size w w' := by
  cases n with
  | zero =>
    clear hm hk
    go_enter Try.func43, Try.ntmps43
    go_wp2
    exact bodyPost_ret (v := .tuple #[.agg #[.int .i64 d, .slice A 0 c], .bool false]) (by simp [results, Try.results43, go_sem]) rfl ⟨rfl, ((Below.refl _ _).alloc (Nat.le_refl _) _).alloc (by simp) _⟩
  | succ n =>
    obtain ⟨g, rfl, hg, c1, c2⟩ := hm.at_ (k := n) (by omega)
    have ht : ((ms.getD n mk0).1 != k) = true := bne_iff_ne.2 (hk n rfl)
    generalize (ms.getD n mk0).1 = x at *
    generalize (ms.getD n mk0).2 = y at *
    clear hm hk
    go_enter Try.func43, Try.ntmps43
    go_wp2
    exact bodyPost_ret (v := .tuple #[.agg #[.int .i64 d, .slice (some ⟨g, 0, none⟩) (n + 1) c], .bool false]) (by simp [results, Try.results43, go_sem]) rfl ⟨rfl, ((Below.refl _ _).alloc (Nat.le_refl _) _).alloc (by simp) _⟩
theorem isbegin_any (w : World) (k d : Int) : Calls Try.prog 42 #[.agg #[.int .i64 k, .int .i64 d]] w fun e w' => e = .returned (.bool (k == 26)) ∧ Below w.heap.size w w' := by
  go_enter Try.func42, Try.ntmps42
  go_wp2
  go_ret
  exact ⟨rfl, (Below.refl _ _).alloc (Nat.le_refl _) _⟩
theorem index_mark (w : World) (A : Option Addr) (n c : Nat) (ms : List (Int × Int)) (hz : Mks 89 w A n ms) (hn : n ≤ 1000000) :
    Calls Try.prog 62 #[.slice A n c, .func (.func 42) #[] #[]] w fun e w' => ∃ r, e = .returned (.int .i64 r) ∧ IdxPost (fun j => (ms.getD j mk0).1 == 26) n r ∧ Below w.heap.size w w' := by
  have HZ := Lib.hid hz
  clear hz
  go_enter Try.func62, Try.ntmps62
  go_wp2
  go_loopw [5, 8] (fun _ i wr => ∃ k : Nat, i = .int .i64 (k : Int) ∧ k ≤ n ∧ (∀ j, j < k → ((ms.getD j mk0).1 == 26) = false) ∧ Below w.heap.size w wr) (fun _ i _ => n - (intOf i).toNat)
  case atStart => exact ⟨0, rfl, by omega, fun j hj => absurd hj (by omega), Below.refl _ _⟩
  case round =>
    obtain ⟨k, rfl, hk, hp, hw⟩ := hrel
    have HP := Lib.hid hp
    clear hp
    by_cases hlt : k < n
    · obtain ⟨g, e1, hg, c1, c2⟩ := (HZ.out.below hw).at_ hlt
      subst e1
      generalize hx : (ms.getD k mk0).1 = x at *
      generalize hy : (ms.getD k mk0).2 = y at *
      have HX := Lib.hid hx
      clear hx hy
      rcases ho : (x == 26) with _ | _
      · have H2 : Hid (∀ j, j < k + 1 → ((ms.getD j mk0).1 == 26) = false) := fun j hj => by
          rcases Nat.lt_or_ge j k with h | h
          · exact HP.out j h
          · rw [show j = k from by omega, HX.out]; exact ho
        go_wp2_with (go_at_call 42; refine (isbegin_any _ _ _).mono ?_; rintro e w' ⟨rfl, hb⟩; rw [ho])
        exact ⟨⟨k + 1, by go_num, by omega, H2.out, hw.trans (hb.mono hw.size)⟩, by simp [intOf]; omega⟩
      · have H2 : Hid (IdxPost (fun j => (ms.getD j mk0).1 == 26) n (k : Int)) := .inr ⟨by omega, k, hlt, by show ((ms.getD k mk0).1 == 26) = true; rw [HX.out]; exact ho⟩
        go_wp2_with (go_at_call 42; refine (isbegin_any _ _ _).mono ?_; rintro e w' ⟨rfl, hb⟩; rw [ho])
        go_ret
        exact ⟨_, rfl, H2.out, hw.trans (hb.mono hw.size)⟩
    · have H2 : Hid (IdxPost (fun j => (ms.getD j mk0).1 == 26) n (-1)) := .inl ⟨rfl, fun j hj => HP.out j (by omega)⟩
      go_wp2
      go_ret
      exact ⟨_, rfl, H2.out, hw⟩
theorem idx_any {ms : List (Int × Int)} {n : Nat} {r : Int} (hl : ms.length = n) (h : IdxPost (fun j => (ms.getD j mk0).1 == 26) n r) : decide (0 ≤ r) = ms.any (fun x => x.1 == 26) := by
  subst hl
  rcases h with ⟨rfl, h⟩ | ⟨h0, j, hj, h⟩
  · have : ms.any (fun x => x.1 == 26) = false := by
      rw [List.any_eq_false]; intro x hx
      obtain ⟨j, hj, e⟩ := List.getElem_of_mem hx
      have h1 := h j hj
      dsimp only at h1
      rw [List.getD_eq_getElem?_getD, List.getElem?_eq_getElem hj, Option.getD_some, e] at h1
      simpa using h1
    rw [this]; rfl
  · have : ms.any (fun x => x.1 == 26) = true := by
      rw [List.any_eq_true]
      refine ⟨_, List.getElem_mem hj, ?_⟩
      dsimp only at h
      rw [List.getD_eq_getElem?_getD, List.getElem?_eq_getElem hj, Option.getD_some] at h
      exact h
    rw [this]; simp [h0]
theorem begun_any (w : World) (A : Option Addr) (n c : Nat) (ms : List (Int × Int)) (hz : Mks 89 w A n ms) (hn : n ≤ 1000000) :
    Calls Try.prog 41 #[.slice A n c, .func (.func 42) #[] #[]] w fun e w' => e = .returned (.bool (ms.any (fun x => x.1 == 26))) ∧ Below w.heap.size w w' := by
  have HZ := Lib.hid hz
  clear hz
  go_enter Try.func41, Try.ntmps41
  go_wp2_with fail
  refine (index_mark w A n c ms HZ.out hn).mono ?_
  rintro e w' ⟨r, rfl, hr, hb⟩
  have H2 := Lib.hid (idx_any HZ.out.1 hr)
  clear hr
  go_wp2
  go_ret
  exact ⟨ret_b H2.out, hb⟩
end Go.Proofs.Ytjkbhdocpjekmaa
