/- The walks of layer 4: a run of bytes. -/
import Derived.Test.YtmjjjnmfkdidgaaDoorWalkA
import Derived.Deep.LoopGhost
namespace Go.Proofs.YtmjjjnmfkdidgaaDoor
open Go.RowKit
set_option linter.unusedVariables false
attribute [local go_sem ↓] Go.wp_at_zero Go.wp_at_succ

theorem inner_any (c : UInt8) (w : World) : Calls Tryd.prog 42 #[.int .u8 (c.toNat : Int)] w fun e w' => e = .returned (.bool (innB c)) ∧ w = w' := by
  have C1 := Lib.hid (small_any c)
  have C2 := Lib.hid (large_any c)
  have C3 := Lib.hid (digit_any c)
  have HI : Hid (innB c = (smaB c || larB c || digB c || c == 95)) := rfl
  have h5 : ((c.toNat : Int) == 95) = (c == 95) := by
    rw [Bool.eq_iff_iff, beq_iff_eq, beq_iff_eq]
    constructor
    · intro h; have h2 : c.toNat = 95 := by omega
      exact UInt8.toNat_inj.1 (by rw [h2]; rfl)
    · rintro rfl; rfl
  have H5 := Lib.hid h5
  clear h5
  generalize innB c = r at *
  rcases h1 : smaB c with _ | _
  all_goals rcases h2 : larB c with _ | _
  all_goals rcases h3 : digB c with _ | _
  all_goals
    rw [h1] at C1 HI
    rw [h2] at C2 HI
    rw [h3] at C3 HI
    have t5 := H5.out
    clear h1 h2 h3
    rw [HI.out]
    clear HI H5
    generalize (c == 95) = b5 at *
    go_enter Tryd.func42, Tryd.ntmps42
    go_wp2_with (first
      | (go_at_call 27; refine (C1.out _).mono ?_; rintro e w' ⟨rfl, rfl⟩)
      | (go_at_call 28; refine (C2.out _).mono ?_; rintro e w' ⟨rfl, rfl⟩)
      | (go_at_call 24; refine (C3.out _).mono ?_; rintro e w' ⟨rfl, rfl⟩))
    go_ret
    exact ⟨rt_b (by simp), rfl⟩
/-- How many bytes of a kind stand at i. -/
def runN (P : UInt8 → Bool) (s : ByteArray) (i : Nat) : Nat := ((s.data.toList.drop i).takeWhile P).length
theorem size_list (s : ByteArray) : s.data.toList.length = s.size := by simp
theorem get_list (s : ByteArray) (k : Nat) (h : k < s.size) : s.data.toList[k]? = some s[k] := by
  rw [Array.getElem?_toList, Array.getElem?_eq_getElem (by simpa using h)]; rfl
theorem tw_len {P : UInt8 → Bool} : ∀ {l : List UInt8} {n : Nat}, n ≤ l.length → (∀ j (c : UInt8), j < n → l[j]? = some c → P c = true) → (n = l.length ∨ ∃ c, l[n]? = some c ∧ P c = false) → (l.takeWhile P).length = n
  | [], n, h, _, _ => by simp at h; subst h; rfl
  | x :: l, 0, _, _, h => by
    rcases h with h | ⟨c, h1, h2⟩
    · simp at h
    · simp at h1; subst h1; rw [List.takeWhile_cons, h2]; rfl
  | x :: l, n + 1, h, hp, he => by
    have hx := hp 0 x (by omega) rfl
    rw [List.takeWhile_cons, hx]
    simp only [if_true, List.length_cons]
    rw [tw_len (n := n) (by simpa using h) (fun j c hj hc => hp (j + 1) c (by omega) (by simpa using hc)) (by simpa using he)]
theorem run_len {P : UInt8 → Bool} {s : ByteArray} {i k : Nat} (h1 : i ≤ k) (h2 : k ≤ s.size) (hp : ∀ j, i ≤ j → j < k → ∀ h : j < s.size, P s[j] = true) (he : ∀ h : k < s.size, P s[k] = false) : k = i + runN P s i := by
  have hl := size_list s
  have := tw_len (P := P) (l := s.data.toList.drop i) (n := k - i) (by rw [List.length_drop]; omega) (fun j c hj hc => by
      rw [List.getElem?_drop, get_list s (i + j) (by omega)] at hc
      cases hc; exact hp _ (by omega) (by omega) _) (by
      rcases Nat.lt_or_ge k s.size with h | h
      · right
        refine ⟨s[k], ?_, he h⟩
        rw [List.getElem?_drop, show i + (k - i) = k from by omega]; exact get_list s k h
      · left; rw [List.length_drop]; omega)
  unfold runN; omega
theorem runN_le (P : UInt8 → Bool) (s : ByteArray) (i : Nat) (h : i ≤ s.size) : i + runN P s i ≤ s.size := by
  have := (List.takeWhile_sublist P (l := s.data.toList.drop i)).length_le
  rw [List.length_drop, size_list] at this
  unfold runN; omega
/-- A reader's box: a source, and where in it. -/
def RdAt (w : World) (R : Nat) (s : ByteArray) (i : Nat) : Prop := Whole w R 40 #[.string s, .int .i64 (i : Int)]
set_option maxHeartbeats 4000000 in
theorem run_any (w : World) (R : Nat) (s : ByteArray) (i : Nat) (F : Nat) (P : UInt8 → Bool) (hF : F = 24 ∧ P = digB ∨ F = 42 ∧ P = innB) (hR : RdAt w R s i) (hi : i ≤ s.size) (hs : s.size ≤ 10000) :
    Calls Tryd.prog 39 #[.pointer (some ⟨R, 0, none⟩), .func (.func F) #[] #[]] w fun e w' => e = .returned (.string (s.extract i (i + runN P s i))) ∧ RdAt w' R s (i + runN P s i) ∧ But R w.heap.size w w' := by
  have HR : Hid (Whole w R 40 #[.string s, .int .i64 (i : Int)]) := hR
  have CP : Hid (∀ (c : UInt8) w, Calls Tryd.prog F #[.int .u8 (c.toNat : Int)] w fun e w' => e = .returned (.bool (P c)) ∧ w = w') := by
    rcases hF with ⟨rfl, rfl⟩ | ⟨rfl, rfl⟩
    · exact digit_any
    · exact inner_any
  have HF : Hid (F = 24 ∨ F = 42) := by exact hF.imp (fun h => h.1) (fun h => h.1)
  clear hF hR
  have r1 : w.cell? ⟨R, 1, none⟩ = some (.int .i64 (i : Int)) := HR.out.cell 1
  rcases HF.out with rfl | rfl
  · go_enter Tryd.func39, Tryd.ntmps39
    go_wp2_with fail
    go_loopg [32] (s.size - i) (fun gk f wr => ∃ k : Nat, i ≤ k ∧ k + gk = s.size ∧ (∀ j, i ≤ j → j < k → ∀ h : j < s.size, P s[j] = true) ∧ Whole wr R 40 #[.string s, .int .i64 (k : Int)] ∧ But R w.heap.size w wr)
    case atStart => exact ⟨i, Nat.le_refl _, by omega, fun j h1 h2 => by omega, HR.out, But.refl _ _ _⟩
    case round =>
      obtain ⟨k, hik, hkg, hp, hx, hbw⟩ := hrel
      have HP := Lib.hid hp
      have HX := Lib.hid hx
      have HB := Lib.hid hbw
      clear hp hx hbw r1
      have q0 : wr.cell? ⟨R, 0, none⟩ = some (.string s) := HX.out.cell 0
      have q1 : wr.cell? ⟨R, 1, none⟩ = some (.int .i64 (k : Int)) := HX.out.cell 1
      have q2 := HX.out.free 1
      by_cases hlt : k < s.size
      · have d1 : decide ((k : Int) < (s.size : Int)) = true := decide_eq_true (by omega)
        have d1n : decide (k < s.size) = true := decide_eq_true hlt
        have i1 : (0 : Int) ≤ (k : Int) := by omega
        have i2 : (k : Int) < (s.size : Int) := by omega
        rcases hpk : P s[k] with _ | _
        · have HE : Hid (k = i + runN P s i) := run_len hik (by omega) HP.out (fun h => hpk)
          have CK : Hid (∀ d, Calls Tryd.prog 24 #[.int .u8 (s[k].toNat : Int)] (wr.drewN d) fun e w' => e = .returned (.bool false) ∧ w' = wr.drewN d) := fun d => (CP.out s[k] (wr.drewN d)).mono fun e w' ⟨h1, h2⟩ => ⟨by rw [h1, hpk], h2.symm⟩
          clear hpk
          go_wp2_with fail
          go_quiet ((exact Calls.quiet_of_same (CK.out _)))
          go_wp2_with fail
          go_quiet (fail)
          go_wp2_with fail
          go_ret
          exact ⟨by rw [← HE.out]; rfl, by rw [← HE.out]; exact HX.out, HB.out.trans (.of_below (below_drewN (below_drewN (Below.refl _ _) _) _))⟩
        · have CK : Hid (∀ d, Calls Tryd.prog 24 #[.int .u8 (s[k].toNat : Int)] (wr.drewN d) fun e w' => e = .returned (.bool true) ∧ w' = wr.drewN d) := fun d => (CP.out s[k] (wr.drewN d)).mono fun e w' ⟨h1, h2⟩ => ⟨by rw [h1, hpk], h2.symm⟩
          have HP2 : Hid (∀ j, i ≤ j → j < k + 1 → ∀ h : j < s.size, P s[j] = true) := fun j h1 h2 h => by
            rcases Nat.lt_or_ge j k with h3 | h3
            · exact HP.out j h1 h3 h
            · obtain rfl : j = k := by omega
              exact hpk
          clear hpk
          go_wp2_with fail
          go_quiet ((exact Calls.quiet_of_same (CK.out _)))
          have HX2 : Hid (Whole ((wr.drewN nq).setCell ⟨R, 1, none⟩ (.int .i64 ((k : Int) + 1))) R 40 #[.string s, .int .i64 ((k + 1 : Nat) : Int)]) := Whole.put (w := wr.drewN nq) HX.out 1 (.int .i64 ((k : Int) + 1))
          have HB2 : Hid (But R w.heap.size w ((wr.drewN nq).setCell ⟨R, 1, none⟩ (.int .i64 ((k : Int) + 1)))) := (HB.out.trans (.of_below (below_drewN (Below.refl _ _) nq))).set 1 _
          go_wp2_with fail
          go_roundg (gk - 1)
          case measure => omega
          case rel => exact ⟨k + 1, by omega, by omega, HP2.out, HX2.out, HB2.out⟩
      · have d1 : decide ((k : Int) < (s.size : Int)) = false := decide_eq_false (by omega)
        have d1n : decide (k < s.size) = false := decide_eq_false hlt
        have HE : Hid (k = i + runN P s i) := run_len hik (by omega) HP.out (fun h => absurd h hlt)
        go_wp2_with fail
        go_quiet (fail)
        go_wp2_with fail
        go_quiet (fail)
        go_wp2_with fail
        go_ret
        exact ⟨by rw [← HE.out]; rfl, by rw [← HE.out]; exact HX.out, HB.out.trans (.of_below (below_drewN (below_drewN (Below.refl _ _) _) _))⟩
  · go_enter Tryd.func39, Tryd.ntmps39
    go_wp2_with fail
    go_loopg [32] (s.size - i) (fun gk f wr => ∃ k : Nat, i ≤ k ∧ k + gk = s.size ∧ (∀ j, i ≤ j → j < k → ∀ h : j < s.size, P s[j] = true) ∧ Whole wr R 40 #[.string s, .int .i64 (k : Int)] ∧ But R w.heap.size w wr)
    case atStart => exact ⟨i, Nat.le_refl _, by omega, fun j h1 h2 => by omega, HR.out, But.refl _ _ _⟩
    case round =>
      obtain ⟨k, hik, hkg, hp, hx, hbw⟩ := hrel
      have HP := Lib.hid hp
      have HX := Lib.hid hx
      have HB := Lib.hid hbw
      clear hp hx hbw r1
      have q0 : wr.cell? ⟨R, 0, none⟩ = some (.string s) := HX.out.cell 0
      have q1 : wr.cell? ⟨R, 1, none⟩ = some (.int .i64 (k : Int)) := HX.out.cell 1
      have q2 := HX.out.free 1
      by_cases hlt : k < s.size
      · have d1 : decide ((k : Int) < (s.size : Int)) = true := decide_eq_true (by omega)
        have d1n : decide (k < s.size) = true := decide_eq_true hlt
        have i1 : (0 : Int) ≤ (k : Int) := by omega
        have i2 : (k : Int) < (s.size : Int) := by omega
        rcases hpk : P s[k] with _ | _
        · have HE : Hid (k = i + runN P s i) := run_len hik (by omega) HP.out (fun h => hpk)
          have CK : Hid (∀ d, Calls Tryd.prog 42 #[.int .u8 (s[k].toNat : Int)] (wr.drewN d) fun e w' => e = .returned (.bool false) ∧ w' = wr.drewN d) := fun d => (CP.out s[k] (wr.drewN d)).mono fun e w' ⟨h1, h2⟩ => ⟨by rw [h1, hpk], h2.symm⟩
          clear hpk
          go_wp2_with fail
          go_quiet ((exact Calls.quiet_of_same (CK.out _)))
          go_wp2_with fail
          go_quiet (fail)
          go_wp2_with fail
          go_ret
          exact ⟨by rw [← HE.out]; rfl, by rw [← HE.out]; exact HX.out, HB.out.trans (.of_below (below_drewN (below_drewN (Below.refl _ _) _) _))⟩
        · have CK : Hid (∀ d, Calls Tryd.prog 42 #[.int .u8 (s[k].toNat : Int)] (wr.drewN d) fun e w' => e = .returned (.bool true) ∧ w' = wr.drewN d) := fun d => (CP.out s[k] (wr.drewN d)).mono fun e w' ⟨h1, h2⟩ => ⟨by rw [h1, hpk], h2.symm⟩
          have HP2 : Hid (∀ j, i ≤ j → j < k + 1 → ∀ h : j < s.size, P s[j] = true) := fun j h1 h2 h => by
            rcases Nat.lt_or_ge j k with h3 | h3
            · exact HP.out j h1 h3 h
            · obtain rfl : j = k := by omega
              exact hpk
          clear hpk
          go_wp2_with fail
          go_quiet ((exact Calls.quiet_of_same (CK.out _)))
          have HX2 : Hid (Whole ((wr.drewN nq).setCell ⟨R, 1, none⟩ (.int .i64 ((k : Int) + 1))) R 40 #[.string s, .int .i64 ((k + 1 : Nat) : Int)]) := Whole.put (w := wr.drewN nq) HX.out 1 (.int .i64 ((k : Int) + 1))
          have HB2 : Hid (But R w.heap.size w ((wr.drewN nq).setCell ⟨R, 1, none⟩ (.int .i64 ((k : Int) + 1)))) := (HB.out.trans (.of_below (below_drewN (Below.refl _ _) nq))).set 1 _
          go_wp2_with fail
          go_roundg (gk - 1)
          case measure => omega
          case rel => exact ⟨k + 1, by omega, by omega, HP2.out, HX2.out, HB2.out⟩
      · have d1 : decide ((k : Int) < (s.size : Int)) = false := decide_eq_false (by omega)
        have d1n : decide (k < s.size) = false := decide_eq_false hlt
        have HE : Hid (k = i + runN P s i) := run_len hik (by omega) HP.out (fun h => absurd h hlt)
        go_wp2_with fail
        go_quiet (fail)
        go_wp2_with fail
        go_quiet (fail)
        go_wp2_with fail
        go_ret
        exact ⟨by rw [← HE.out]; rfl, by rw [← HE.out]; exact HX.out, HB.out.trans (.of_below (below_drewN (below_drewN (Below.refl _ _) _) _))⟩
end Go.Proofs.YtmjjjnmfkdidgaaDoor
