/- The walks of layer 14's document: whether two states are the same. -/
import Derived.Test.YtjkbhdocpjekmaaVWalkD
namespace Go.Proofs.Ytjkbhdocpjekmaa
open Go.RowKit
set_option linter.unusedVariables false
attribute [local go_sem ↓] Go.wp_at_zero Go.wp_at_succ

set_option maxHeartbeats 1000000 in
theorem rsame_any (w : World) (b1 b2 : Bool) (d1 d2 : Int) (A1 A2 : Option Addr) (n1 n2 c1 c2 : Nat) (xs ys : List Mk) (hx : Mks 97 w A1 n1 xs) (hy : Mks 97 w A2 n2 ys) (hn1 : n1 ≤ 1000000) (hn2 : n2 ≤ 1000000) :
    Calls Try.prog 63 #[.agg #[.bool b1, .int .i64 d1, .slice A1 n1 c1], .agg #[.bool b2, .int .i64 d2, .slice A2 n2 c2]] w fun e w' => e = .returned (.bool (stEq d1 d2 xs ys)) ∧ Below w.heap.size w w' := by
  have HB0 : Hid (Below w.heap.size w ((w.alloc (.cells #[.bool b1, .int .i64 d1, .slice A1 n1 c1] 59)).alloc (.cells #[.bool b2, .int .i64 d2, .slice A2 n2 c2] 59))) := ((Below.refl _ _).alloc (Nat.le_refl _) _).alloc (by simp) _
  by_cases hd : d1 = d2
  · by_cases hn : n1 = n2
    · have hdt : (d1 != d2) = false := by simp [hd]
      have hnt : ((n1 : Int) != (n2 : Int)) = false := by subst hn; simp
      have HE : Hid (stEq d1 d2 xs ys = (xs == ys)) := by show _ = _; unfold stEq; simp [hd]
      obtain ⟨w2, hw2⟩ : ∃ w2, w2 = (w.alloc (.cells #[.bool b1, .int .i64 d1, .slice A1 n1 c1] 59)).alloc (.cells #[.bool b2, .int .i64 d2, .slice A2 n2 c2] 59) := ⟨_, rfl⟩
      have HB : Hid (Below w.heap.size w w2) := by show Below _ _ _; rw [hw2]; exact HB0.out
      have HX : Hid (Mks 97 w2 A1 n1 xs) := hx.below HB.out
      have HY : Hid (Mks 97 w2 A2 n2 ys) := hy.below HB.out
      have HW1 : Hid (Whole w2 w.heap.size 59 #[.bool b1, .int .i64 d1, .slice A1 n1 c1]) := by show Whole _ _ _ _; rw [hw2]; exact (Whole.made _ _ _).alloc _
      have HW2 : Hid (Whole w2 (w.heap.size + 1) 59 #[.bool b2, .int .i64 d2, .slice A2 n2 c2]) := by
        show Whole _ _ _ _; rw [hw2]
        have := Whole.made (w.alloc (.cells #[.bool b1, .int .i64 d1, .slice A1 n1 c1] 59)) 59 #[.bool b2, .int .i64 d2, .slice A2 n2 c2]
        simpa using this
      have HL1 := Lib.hid hx.1; have HL2 := Lib.hid hy.1
      have HN := Lib.hid hn
      clear hx hy hd hn HB0
      have p0 : w2.cell? ⟨w.heap.size, 2, none⟩ = some (.slice A1 n1 c1) := HW1.out.cell 2
      have q0 : w2.cell? ⟨w.heap.size + 1, 2, none⟩ = some (.slice A2 n2 c2) := HW2.out.cell 2
      have HW := Lib.hid hw2
      clear hw2
      go_enter Try.func63, Try.ntmps63
      go_wp2
      rw [← HW.out]
      clear HW
      go_loopw [5] (fun i wr => ∃ k d : Nat, k ≤ n1 ∧ i = .int .i64 k ∧ wr = w2.drewN d ∧ xs.take k = ys.take k) (fun i _ => n1 - (intOf i).toNat)
      case atStart => exact ⟨0, 0, by omega, rfl, rfl, rfl⟩
      case round =>
        obtain ⟨k, d, hk, rfl, rfl, hp⟩ := hrel
        have HP := Lib.hid hp; clear hp
        by_cases hlt : k < n1
        · obtain ⟨g1, e1, _, r1, r2⟩ := HX.out.at_ hlt
          have hlt2 : k < n2 := by have := HN.out; omega
          obtain ⟨g2, e2, _, s1, s2⟩ := HY.out.at_ hlt2
          subst e1 e2
          have x1 : k < xs.length := by have := HL1.out; omega
          have x2 : k < ys.length := by have := HL2.out; omega
          have HPA := Lib.hid (fun h => mbeq_part (xs := xs) (ys := ys) (k := k) h); have HMO := Lib.hid (fun h => mtake_more x1 x2 HP.out h)
          clear x1 x2
          generalize xs.getD k mk0 = x at *
          generalize ys.getD k mk0 = y at *
          obtain ⟨xa, xb⟩ := x
          obtain ⟨ya, yb⟩ := y
          dsimp only at r1 r2 s1 s2
          by_cases hab : xa = ya ∧ xb = yb
          · obtain ⟨rfl, rfl⟩ := hab
            have H2 := Lib.hid (HMO.out rfl)
            clear HPA HMO
            go_wp2
            go_quiet (fail)
            go_wp2
            exact ⟨⟨k + 1, _, by omega, by go_num, rfl, H2.out⟩, by simp [intOf]; omega⟩
          · have H2 := Lib.hid (HPA.out (fun h => hab (by simpa using h)))
            clear HPA HMO
            by_cases ha : xa = ya
            · subst ha
              have t1 : (xb == yb) = false := by rw [beq_eq_false_iff_ne]; exact fun h => hab ⟨rfl, h⟩
              clear hab
              go_wp2
              go_quiet (fail)
              go_wp2
              go_ret
              exact ⟨ret_b (by rw [HE.out]; exact H2.out.symm), below_drewN (below_drewN HB.out _) _⟩
            · have t1 : (xa == ya) = false := by rw [beq_eq_false_iff_ne]; exact ha
              clear hab ha
              go_wp2
              go_quiet (fail)
              go_wp2
              go_ret
              exact ⟨ret_b (by rw [HE.out]; exact H2.out.symm), below_drewN (below_drewN HB.out _) _⟩
        · have H2 := Lib.hid (mbeq_take (xs := xs) (ys := ys) (by rw [HL1.out, HL2.out]; exact HN.out) (by rw [HL1.out]; exact hlt) HP.out)
          go_wp2
          go_ret
          exact ⟨ret_b (by rw [HE.out]; exact H2.out.symm), below_drewN HB.out _⟩
    · have hdt : (d1 != d2) = false := by simp [hd]
      have hnt : ((n1 : Int) != (n2 : Int)) = true := by rw [bne_iff_ne]; omega
      have HE : Hid (stEq d1 d2 xs ys = false) := by show _ = _; unfold stEq; rw [mbeq_len (by rw [hx.1, hy.1]; exact hn)]; simp
      clear hx hy hd hn
      go_enter Try.func63, Try.ntmps63
      go_wp2
      go_ret
      exact ⟨ret_b HE.out.symm, HB0.out⟩
  · have hdt : (d1 != d2) = true := by rw [bne_iff_ne]; exact hd
    have HE : Hid (stEq d1 d2 xs ys = false) := by show _ = _; unfold stEq; simp [hd]
    clear hx hy hd
    go_enter Try.func63, Try.ntmps63
    go_wp2
    go_ret
    exact ⟨ret_b HE.out.symm, HB0.out⟩
end Go.Proofs.Ytjkbhdocpjekmaa
