/- Whether two slices of integers are the same. -/
import Derived.Test.YtjkbhdocpjekmaaWalkF
namespace Go.Proofs.Ytjkbhdocpjekmaa
open Go.RowKit
set_option linter.unusedVariables false

theorem beq_take {xs ys : List Int} (h : xs.length = ys.length) {k : Nat} (hk : ¬ k < xs.length) (ht : xs.take k = ys.take k) : (xs == ys) = true := by
  rw [List.take_of_length_le (by omega), List.take_of_length_le (by omega)] at ht
  rw [ht]; exact beq_self_eq_true _
theorem beq_part {xs ys : List Int} {k : Nat} (h1 : k < xs.length) (h2 : k < ys.length) (h : xs.getD k 0 ≠ ys.getD k 0) : (xs == ys) = false := by
  rw [beq_eq_false_iff_ne]; rintro rfl; exact h rfl
theorem take_more {xs ys : List Int} {k : Nat} (h1 : k < xs.length) (h2 : k < ys.length) (ht : xs.take k = ys.take k) (h : xs.getD k 0 = ys.getD k 0) : xs.take (k + 1) = ys.take (k + 1) := by
  rw [List.take_add_one, List.take_add_one, ht]
  simp only [List.getD, List.getElem?_eq_getElem h1, List.getElem?_eq_getElem h2, Option.getD_some] at h
  rw [List.getElem?_eq_getElem h1, List.getElem?_eq_getElem h2, h]
theorem beq_len {xs ys : List Int} (h : xs.length ≠ ys.length) : (xs == ys) = false := by
  rw [beq_eq_false_iff_ne]; rintro rfl; exact h rfl

set_option maxHeartbeats 400000 in
theorem sameints_any (w : World) (B : Nat) (A1 A2 : Option Addr) (n1 n2 c1 c2 : Nat) (xs ys : List Int) (hx : Ints w B A1 n1 xs) (hy : Ints w B A2 n2 ys) (hn1 : n1 ≤ 140737488355328) (hn2 : n2 ≤ 140737488355328) :
    Calls Try.prog 14 #[.slice A1 n1 c1, .slice A2 n2 c2] w fun e w' => e = .returned (.bool (xs == ys)) ∧ Below w.heap.size w w' := by
  by_cases hn : n1 = n2
  · have ht : ((n1 : Int) != (n2 : Int)) = false := by subst hn; simp
    have hl1 := hx.1
    have hl2 := hy.1
    have HX := Lib.hid hx; have HY := Lib.hid hy; have HL1 := Lib.hid hl1; have HL2 := Lib.hid hl2; have HN := Lib.hid hn
    clear hx hy hl1 hl2 hn
    go_enter Try.func14, Try.ntmps14
    go_wp2
    go_loopw [5] (fun i wr => ∃ k d : Nat, k ≤ n1 ∧ i = .int .i64 k ∧ wr = w.drewN d ∧ xs.take k = ys.take k) (fun i _ => n1 - (intOf i).toNat)
    case atStart => exact ⟨0, 0, by omega, rfl, rfl, rfl⟩
    case round =>
      obtain ⟨k, d, hk, rfl, rfl, hp⟩ := hrel
      have HP := Lib.hid hp; clear hp
      by_cases hlt : k < n1
      · obtain ⟨b1, o1, e1, _, hc1⟩ := HX.out.at_ hlt
        have hlt2 : k < n2 := by have := HN.out; omega
        obtain ⟨b2, o2, e2, _, hc2⟩ := HY.out.at_ hlt2
        subst e1 e2
        have x1 : k < xs.length := by have := HL1.out; omega
        have x2 : k < ys.length := by have := HL2.out; omega
        have HPA := Lib.hid (fun h => beq_part x1 x2 h); have HMO := Lib.hid (fun h => take_more x1 x2 HP.out h)
        clear x1 x2
        generalize xs.getD k 0 = x at *
        generalize ys.getD k 0 = y at *
        by_cases hxy : x = y
        · have H2 := Lib.hid (HMO.out hxy)
          have ht2 : (x != y) = false := by simp [hxy]
          clear hxy HPA HMO
          go_wp2
          go_quiet (fail)
          go_wp2
          exact ⟨⟨k + 1, _, by omega, by go_num, rfl, H2.out⟩, by simp [intOf]; omega⟩
        · have H2 := Lib.hid (HPA.out hxy)
          have ht2 : (x != y) = true := by simp [hxy]
          clear hxy HPA HMO
          go_wp2
          go_quiet (fail)
          go_wp2
          go_ret
          exact ⟨ret_b H2.out.symm, below_drewN (below_drewN (Below.refl _ _) _) _⟩
      · have H2 := Lib.hid (beq_take (by rw [HL1.out, HL2.out, HN.out]) (by rw [HL1.out]; exact hlt) HP.out)
        go_wp2
        go_ret
        exact ⟨ret_b H2.out.symm, below_drewN (Below.refl _ _) _⟩
  · have ht : ((n1 : Int) != (n2 : Int)) = true := by rw [bne_iff_ne]; omega
    have H2 := Lib.hid (beq_len (xs := xs) (ys := ys) (by rw [hx.1, hy.1]; exact hn))
    clear hn hx hy
    go_enter Try.func14, Try.ntmps14
    go_wp2
    go_ret
    exact ⟨ret_b H2.out.symm, Below.refl _ _⟩
end Go.Proofs.Ytjkbhdocpjekmaa
