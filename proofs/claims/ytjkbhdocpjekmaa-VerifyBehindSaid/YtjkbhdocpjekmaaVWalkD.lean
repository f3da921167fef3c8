/- The walks of layer 14: whether two lists of marks, two states, are the same. -/
import Derived.Test.YtjkbhdocpjekmaaVWalkA
namespace Go.Proofs.Ytjkbhdocpjekmaa
open Go.RowKit
set_option linter.unusedVariables false
attribute [local go_sem ↓] Go.wp_at_zero Go.wp_at_succ

abbrev Mk := Int × Int
theorem mbeq_take {xs ys : List Mk} (h : xs.length = ys.length) {k : Nat} (hk : ¬ k < xs.length) (ht : xs.take k = ys.take k) : (xs == ys) = true := by
  rw [List.take_of_length_le (by omega), List.take_of_length_le (by omega)] at ht
  rw [ht]; exact beq_self_eq_true _
theorem mbeq_part {xs ys : List Mk} {k : Nat} (h : xs.getD k mk0 ≠ ys.getD k mk0) : (xs == ys) = false := by
  rw [beq_eq_false_iff_ne]; rintro rfl; exact h rfl
theorem mtake_more {xs ys : List Mk} {k : Nat} (h1 : k < xs.length) (h2 : k < ys.length) (ht : xs.take k = ys.take k) (h : xs.getD k mk0 = ys.getD k mk0) : xs.take (k + 1) = ys.take (k + 1) := by
  rw [List.take_add_one, List.take_add_one, ht]
  simp only [List.getD, List.getElem?_eq_getElem h1, List.getElem?_eq_getElem h2, Option.getD_some] at h
  rw [List.getElem?_eq_getElem h1, List.getElem?_eq_getElem h2, h]
theorem mbeq_len {xs ys : List Mk} (h : xs.length ≠ ys.length) : (xs == ys) = false := by
  rw [beq_eq_false_iff_ne]; rintro rfl; exact h rfl
set_option maxHeartbeats 1000000 in
theorem equal_any (w : World) (A1 A2 : Option Addr) (n1 n2 c1 c2 : Nat) (xs ys : List Mk) (hx : Mks 89 w A1 n1 xs) (hy : Mks 89 w A2 n2 ys) (hn1 : n1 ≤ 1000000) (hn2 : n2 ≤ 1000000) :
    Calls Try.prog 44 #[.slice A1 n1 c1, .slice A2 n2 c2] w fun e w' => e = .returned (.bool (xs == ys)) ∧ Below w.heap.size w w' := by
  have HX := Lib.hid hx; have HY := Lib.hid hy
  have HL1 := Lib.hid hx.1; have HL2 := Lib.hid hy.1
  clear hx hy
  by_cases hn : n1 = n2
  · have ht : ((n1 : Int) != (n2 : Int)) = false := by subst hn; simp
    have HN := Lib.hid hn
    clear hn
    go_enter Try.func44, Try.ntmps44
    go_wp2
    go_loopw [5, 13] (fun _ i wr => ∃ k d : Nat, k ≤ n1 ∧ i = .int .i64 k ∧ wr = w.drewN d ∧ xs.take k = ys.take k) (fun _ i _ => n1 - (intOf i).toNat)
    case atStart => exact ⟨0, 0, by omega, rfl, rfl, rfl⟩
    case round =>
      obtain ⟨k, d, hk, rfl, rfl, hp⟩ := hrel
      have HP := Lib.hid hp; clear hp
      by_cases hlt : k < n1
      · obtain ⟨g1, e1, _, p1, p2⟩ := HX.out.at_ hlt
        have hlt2 : k < n2 := by have := HN.out; omega
        obtain ⟨g2, e2, _, q1, q2⟩ := HY.out.at_ hlt2
        subst e1 e2
        have x1 : k < xs.length := by have := HL1.out; omega
        have x2 : k < ys.length := by have := HL2.out; omega
        have HPA := Lib.hid (fun h => mbeq_part (xs := xs) (ys := ys) (k := k) h); have HMO := Lib.hid (fun h => mtake_more x1 x2 HP.out h)
        clear x1 x2
        generalize xs.getD k mk0 = x at *
        generalize ys.getD k mk0 = y at *
        obtain ⟨xa, xb⟩ := x
        obtain ⟨ya, yb⟩ := y
        dsimp only at p1 p2 q1 q2
        by_cases hab : xa = ya ∧ xb = yb
        · obtain ⟨rfl, rfl⟩ := hab
          have H2 := Lib.hid (HMO.out rfl)
          clear HPA HMO
          go_wp2
          go_quiet (fail)
          go_wp2
          exact ⟨⟨k + 1, _, by omega, by go_num, rfl, H2.out⟩, by simp [intOf]; omega⟩
        · have H2 := Lib.hid (HPA.out (fun h => hab (by simpa using h)))
          clear HPA HMO
          by_cases ha : xa = ya
          · subst ha
            have t1 : (xb == yb) = false := by rw [beq_eq_false_iff_ne]; exact fun h => hab ⟨rfl, h⟩
            clear hab
            go_wp2
            go_quiet (fail)
            go_wp2
            go_ret
            exact ⟨ret_b H2.out.symm, below_drewN (below_drewN (Below.refl _ _) _) _⟩
          · have t1 : (xa == ya) = false := by rw [beq_eq_false_iff_ne]; exact ha
            clear hab ha
            go_wp2
            go_quiet (fail)
            go_wp2
            go_ret
            exact ⟨ret_b H2.out.symm, below_drewN (below_drewN (Below.refl _ _) _) _⟩
      · have H2 := Lib.hid (mbeq_take (xs := xs) (ys := ys) (by rw [HL1.out, HL2.out]; exact HN.out) (by rw [HL1.out]; exact hlt) HP.out)
        go_wp2
        go_ret
        exact ⟨ret_b H2.out.symm, below_drewN (Below.refl _ _) _⟩
  · have ht : ((n1 : Int) != (n2 : Int)) = true := by rw [bne_iff_ne]; omega
    have H2 := Lib.hid (mbeq_len (xs := xs) (ys := ys) (by rw [HL1.out, HL2.out]; exact hn))
    clear hn
    go_enter Try.func44, Try.ntmps44
    go_wp2
    go_ret
    exact ⟨ret_b H2.out.symm, Below.refl _ _⟩
/-- Are two states the same? -/
def stEq (d1 d2 : Int) (xs ys : List Mk) : Bool := d1 == d2 && xs == ys
theorem stEq_iff {d1 d2 : Int} {xs ys : List Mk} : stEq d1 d2 xs ys = true ↔ (⟨d1, xs⟩ : St) = ⟨d2, ys⟩ := by
  unfold stEq; simp
set_option maxHeartbeats 1000000 in
theorem same_any (w : World) (d1 d2 : Int) (A1 A2 : Option Addr) (n1 n2 c1 c2 : Nat) (xs ys : List Mk) (hx : Mks 89 w A1 n1 xs) (hy : Mks 89 w A2 n2 ys) (hn1 : n1 ≤ 1000000) (hn2 : n2 ≤ 1000000) :
    Calls Try.prog 30 #[.agg #[.int .i64 d1, .slice A1 n1 c1], .agg #[.int .i64 d2, .slice A2 n2 c2]] w fun e w' => e = .returned (.bool (stEq d1 d2 xs ys)) ∧ Below w.heap.size w w' := by
  have CE := fun (wx : World) (h : Below w.heap.size w wx) => equal_any wx A1 A2 n1 n2 c1 c2 xs ys (hx.below h) (hy.below h) hn1 hn2
  clear hx hy
  rcases hd : (d1 == d2) with _ | _
  · have HE : Hid (stEq d1 d2 xs ys = false) := by show _ = _; unfold stEq; rw [hd]; rfl
    go_enter Try.func30, Try.ntmps30
    go_wp2_with fail
    go_ret
    exact ⟨ret_b HE.out.symm, ((Below.refl _ _).alloc (Nat.le_refl _) _).alloc (by simp) _⟩
  · have HE : Hid (stEq d1 d2 xs ys = (xs == ys)) := by show _ = _; unfold stEq; rw [hd]; rfl
    go_enter Try.func30, Try.ntmps30
    go_wp2_with (go_at_call 44; refine (CE _ (((Below.refl _ _).alloc (Nat.le_refl _) _).alloc (by simp) _)).mono ?_; rintro e w' ⟨rfl, hb⟩)
    go_ret
    exact ⟨ret_b HE.out.symm, (((Below.refl _ _).alloc (Nat.le_refl _) _).alloc (by simp) _).trans (hb.mono (by simp; omega))⟩
end Go.Proofs.Ytjkbhdocpjekmaa
