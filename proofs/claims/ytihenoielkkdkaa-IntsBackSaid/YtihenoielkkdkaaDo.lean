/- Walks of the laws of layer 1: IntsDo, IntsWrap, IntsRing, IntsDivides, IntsOrder, IntsBack. -/
import Derived.Test.YtihenoielkkdkaaWalkF
import Derived.OpenShut
namespace Go.Proofs.Ytihenoielkkdkaa
open Go.RowKit
set_option maxHeartbeats 400000 in
theorem intsDo_walk (op : ByteArray) (a b : Int) (w : World) (_w0 : op.size ≤ maxLen) (_w1 : (Lit.int .i64 a).wf = true) (_w2 : (Lit.int .i64 b).wf = true) :
    Calls Try.prog 3 #[.string op, .int .i64 a, .int .i64 b] w fun e w' => e = .returned (.bool true) ∧ Below w.heap.size w w' := by
  go_enter Try.func3, Try.ntmps3
  go_wp2_with fail
  refine (do_any _ _ _ _).mono ?_
  rintro e w' ⟨rfl, rfl⟩
  go_wp2_with fail
  refine (rdo_any _ _ _ _).mono ?_
  rintro e w' ⟨rfl, rfl⟩
  generalize (doF op.toList a b).1 = x
  generalize (doF op.toList a b).2 = y
  go_wp2_with fail
  refine (lives_any _).mono ?_
  rintro e w' ⟨rfl, hb⟩
  go_wp2_with fail
  go_ret
  exact ⟨rfl, hb⟩
theorem isI_cw (n : Int) : isI (cw n) = true := isI_t (cw_lo n) (cw_hi n)
set_option maxHeartbeats 400000 in
theorem intsWrap_walk (n : Int) (w : World) (w1 : (Lit.int .i64 n).wf = true) :
    Calls Try.prog 4 #[.int .i64 n] w fun e w' => e = .returned (.bool true) ∧ Below w.heap.size w w' := by
  obtain ⟨h0, h1⟩ := bounds_i64 w1
  clear w1
  have he : ((cw n == n) == isI n) = true := by
    rw [beq_iff_eq, Bool.eq_iff_iff]
    simp only [isI, beq_iff_eq, Bool.and_eq_true, decide_eq_true_eq]
    constructor
    · intro h; rw [← h]; exact ⟨cw_lo n, cw_hi n⟩
    · rintro ⟨h, h'⟩; exact cw_id n h h'
  have hi := isI_cw n
  go_enter Try.func4, Try.ntmps4
  go_wp2_with (first | (go_at_call 16; refine (wrap_any _ _).mono ?_; rintro e w' ⟨rfl, rfl⟩) | (go_at_call 17; refine (rwrap_any _ _ (by omega) (by omega)).mono ?_; rintro e w' ⟨rfl, rfl⟩) | (go_at_call 18; refine (ris_any _ _).mono ?_; rintro e w' ⟨rfl, rfl⟩) | (go_at_call 15; refine (lives_any _).mono ?_; rintro e w' ⟨rfl, hb⟩))
  go_ret
  exact ⟨rfl, hb⟩
theorem doF_in {p : List UInt8} {a b : Int} (a0 : -4611686018427387904 ≤ a) (a1 : a ≤ 4611686018427387903) (b0 : -4611686018427387904 ≤ b) (b1 : b ≤ 4611686018427387903) :
    doF p a b = (if p == [43] then (cw (a + b), 0)
    else if p == [45] then (cw (a - b), 0)
    else if p == [42] then (cw (a * b), 0)
    else if p == [47] then (if b == 0 then (0, 3) else (cw (a.tdiv b), 0))
    else if p == [37] then (if b == 0 then (0, 3) else (a.tmod b, 0))
    else if p == [61] then (if a == b then (1, 0) else (0, 0))
    else if p == [60] then (if a < b then (1, 0) else (0, 0))
    else (0, 1)) := by
  unfold doF; rw [if_pos (by rw [isI_t a0 a1, isI_t b0 b1]; rfl)]
theorem do_add (a b : Int) (w : World) (a0 : -4611686018427387904 ≤ a) (a1 : a ≤ 4611686018427387903) (b0 : -4611686018427387904 ≤ b) (b1 : b ≤ 4611686018427387903) :
    Calls Try.prog 13 #[.string ⟨#[43]⟩, .int .i64 a, .int .i64 b] w fun e w' => e = .returned (.tuple #[.int .i64 (cw (a + b)), .int .i64 0]) ∧ w = w' := by
  have h := do_any ⟨#[43]⟩ a b w
  rw [doF_in a0 a1 b0 b1, if_pos (by decide +kernel)] at h
  exact h
theorem do_sub (a b : Int) (w : World) (a0 : -4611686018427387904 ≤ a) (a1 : a ≤ 4611686018427387903) (b0 : -4611686018427387904 ≤ b) (b1 : b ≤ 4611686018427387903) :
    Calls Try.prog 13 #[.string ⟨#[45]⟩, .int .i64 a, .int .i64 b] w fun e w' => e = .returned (.tuple #[.int .i64 (cw (a - b)), .int .i64 0]) ∧ w = w' := by
  have h := do_any ⟨#[45]⟩ a b w
  rw [doF_in a0 a1 b0 b1, if_neg (by decide +kernel), if_pos (by decide +kernel)] at h
  exact h
theorem do_mul (a b : Int) (w : World) (a0 : -4611686018427387904 ≤ a) (a1 : a ≤ 4611686018427387903) (b0 : -4611686018427387904 ≤ b) (b1 : b ≤ 4611686018427387903) :
    Calls Try.prog 13 #[.string ⟨#[42]⟩, .int .i64 a, .int .i64 b] w fun e w' => e = .returned (.tuple #[.int .i64 (cw (a * b)), .int .i64 0]) ∧ w = w' := by
  have h := do_any ⟨#[42]⟩ a b w
  rw [doF_in a0 a1 b0 b1, if_neg (by decide +kernel), if_neg (by decide +kernel), if_pos (by decide +kernel)] at h
  exact h
/-- The quotient and what is left, and the error. -/
def quoF (a b : Int) : Int × Int := if b == 0 then (0, 3) else (cw (a.tdiv b), 0)
def remF (a b : Int) : Int × Int := if b == 0 then (0, 3) else (a.tmod b, 0)
theorem do_quo (a b : Int) (w : World) (a0 : -4611686018427387904 ≤ a) (a1 : a ≤ 4611686018427387903) (b0 : -4611686018427387904 ≤ b) (b1 : b ≤ 4611686018427387903) :
    Calls Try.prog 13 #[.string ⟨#[47]⟩, .int .i64 a, .int .i64 b] w fun e w' => e = .returned (.tuple #[.int .i64 (quoF a b).1, .int .i64 (quoF a b).2]) ∧ w = w' := by
  have h := do_any ⟨#[47]⟩ a b w
  rw [doF_in a0 a1 b0 b1, if_neg (by decide +kernel), if_neg (by decide +kernel), if_neg (by decide +kernel), if_pos (by decide +kernel)] at h
  exact h
theorem do_rem (a b : Int) (w : World) (a0 : -4611686018427387904 ≤ a) (a1 : a ≤ 4611686018427387903) (b0 : -4611686018427387904 ≤ b) (b1 : b ≤ 4611686018427387903) :
    Calls Try.prog 13 #[.string ⟨#[37]⟩, .int .i64 a, .int .i64 b] w fun e w' => e = .returned (.tuple #[.int .i64 (remF a b).1, .int .i64 (remF a b).2]) ∧ w = w' := by
  have h := do_any ⟨#[37]⟩ a b w
  rw [doF_in a0 a1 b0 b1, if_neg (by decide +kernel), if_neg (by decide +kernel), if_neg (by decide +kernel), if_neg (by decide +kernel), if_pos (by decide +kernel)] at h
  exact h
def eqF (a b : Int) : Int := if a = b then 1 else 0
def ltF (a b : Int) : Int := if a < b then 1 else 0
theorem do_eq (a b : Int) (w : World) (a0 : -4611686018427387904 ≤ a) (a1 : a ≤ 4611686018427387903) (b0 : -4611686018427387904 ≤ b) (b1 : b ≤ 4611686018427387903) :
    Calls Try.prog 13 #[.string ⟨#[61]⟩, .int .i64 a, .int .i64 b] w fun e w' => e = .returned (.tuple #[.int .i64 (eqF a b), .int .i64 0]) ∧ w = w' := by
  have h := do_any ⟨#[61]⟩ a b w
  rw [doF_in a0 a1 b0 b1, if_neg (by decide +kernel), if_neg (by decide +kernel), if_neg (by decide +kernel), if_neg (by decide +kernel), if_neg (by decide +kernel), if_pos (by decide +kernel)] at h
  unfold eqF
  by_cases hab : a = b
  · rw [if_pos hab]; rw [if_pos (by simp [hab])] at h; exact h
  · rw [if_neg hab]; rw [if_neg (by simp [hab])] at h; exact h
theorem do_lt (a b : Int) (w : World) (a0 : -4611686018427387904 ≤ a) (a1 : a ≤ 4611686018427387903) (b0 : -4611686018427387904 ≤ b) (b1 : b ≤ 4611686018427387903) :
    Calls Try.prog 13 #[.string ⟨#[60]⟩, .int .i64 a, .int .i64 b] w fun e w' => e = .returned (.tuple #[.int .i64 (ltF a b), .int .i64 0]) ∧ w = w' := by
  have h := do_any ⟨#[60]⟩ a b w
  rw [doF_in a0 a1 b0 b1, if_neg (by decide +kernel), if_neg (by decide +kernel), if_neg (by decide +kernel), if_neg (by decide +kernel), if_neg (by decide +kernel), if_neg (by decide +kernel), if_pos (by decide +kernel)] at h
  unfold ltF
  by_cases hab : a < b
  · rw [if_pos hab]; rw [if_pos hab] at h; exact h
  · rw [if_neg hab]; rw [if_neg hab] at h; exact h
theorem cw_ring (a b c : Int) : cw (cw (a + b) * c) = cw (cw (a * c) + cw (b * c)) := by
  rw [cw_mul_l, cw_add_l, cw_add_r, Int.add_mul]


set_option maxHeartbeats 1000000 in
theorem intsRing_walk (a b c : Int) (w : World) (w0 : (Lit.int .i64 a).wf = true) (w1 : (Lit.int .i64 b).wf = true) (w2 : (Lit.int .i64 c).wf = true) :
    Calls Try.prog 5 #[.int .i64 a, .int .i64 b, .int .i64 c] w fun e w' => e = .returned (.bool true) ∧ Below w.heap.size w w' := by
  obtain ⟨la, ma⟩ := bounds_i64 w0
  obtain ⟨lb, mb⟩ := bounds_i64 w1
  obtain ⟨lc, mc⟩ := bounds_i64 w2
  clear w0 w1 w2
  obtain ⟨A, hA⟩ : ∃ X, X = cw a := ⟨_, rfl⟩
  have A0 : -4611686018427387904 ≤ A := by rw [hA]; exact cw_lo _
  have A1 : A ≤ 4611686018427387903 := by rw [hA]; exact cw_hi _
  have HA := Lib.hid hA; clear hA
  obtain ⟨B, hB⟩ : ∃ X, X = cw b := ⟨_, rfl⟩
  have B0 : -4611686018427387904 ≤ B := by rw [hB]; exact cw_lo _
  have B1 : B ≤ 4611686018427387903 := by rw [hB]; exact cw_hi _
  have HB := Lib.hid hB; clear hB
  obtain ⟨C, hC⟩ : ∃ X, X = cw c := ⟨_, rfl⟩
  have C0 : -4611686018427387904 ≤ C := by rw [hC]; exact cw_lo _
  have C1 : C ≤ 4611686018427387903 := by rw [hC]; exact cw_hi _
  have HC := Lib.hid hC; clear hC
  have r0 := cw_lo (A + B)
  have s0 := cw_hi (A + B)
  have r1 := cw_lo (B + A)
  have s1 := cw_hi (B + A)
  have r2 := cw_lo (B + C)
  have s2 := cw_hi (B + C)
  have r3 := cw_lo (A * C)
  have s3 := cw_hi (A * C)
  have r4 := cw_lo (B * C)
  have s4 := cw_hi (B * C)
  have e1 : (cw (A + B) == cw (B + A)) = true := by rw [Int.add_comm B A]; exact beq_self_eq_true _
  have e2 : (cw (cw (A + B) + C) == cw (A + cw (B + C))) = true := by rw [cw_add_l, cw_add_r, Int.add_assoc]; exact beq_self_eq_true _
  have e3 : (cw (cw (A + B) * C) == cw (cw (A * C) + cw (B * C))) = true := by rw [cw_ring]; exact beq_self_eq_true _
  have e4 : (cw (A * B) == cw (B * A)) = true := by rw [Int.mul_comm B A]; exact beq_self_eq_true _
  have e5 : (cw (cw (A + B) - B) == A) = true := by rw [cw_sub_l, show A + B - B = A from by omega, cw_id A A0 A1]; exact beq_self_eq_true _
  go_enter Try.func5, Try.ntmps5
  go_wp2_with fail
  refine (rwrap_any a _ la ma).mono ?_
  rintro e w' ⟨rfl, rfl⟩
  rw [← HA.out]
  go_wp2_with fail
  refine (rwrap_any b _ lb mb).mono ?_
  rintro e w' ⟨rfl, rfl⟩
  rw [← HB.out]
  go_wp2_with fail
  refine (rwrap_any c _ lc mc).mono ?_
  rintro e w' ⟨rfl, rfl⟩
  rw [← HC.out]
  clear HA HB HC
  go_wp2_with (first | (go_at_call 13; ((with_reducible refine (do_add _ _ _ (by first | assumption | decide) (by first | assumption | decide) (by first | assumption | decide) (by first | assumption | decide)).mono ?_); rintro e w' ⟨rfl, rfl⟩)) | (go_at_call 13; ((with_reducible refine (do_mul _ _ _ (by first | assumption | decide) (by first | assumption | decide) (by first | assumption | decide) (by first | assumption | decide)).mono ?_); rintro e w' ⟨rfl, rfl⟩)) | (go_at_call 13; ((with_reducible refine (do_sub _ _ _ (by first | assumption | decide) (by first | assumption | decide) (by first | assumption | decide) (by first | assumption | decide)).mono ?_); rintro e w' ⟨rfl, rfl⟩)) | (go_at_call 15; refine (lives_any _).mono ?_; rintro e w' ⟨rfl, hb⟩))
  go_ret
  exact ⟨rfl, hb⟩

set_option maxHeartbeats 1000000 in
theorem intsBack_walk (a b : Int) (w : World) (w0 : (Lit.int .i64 a).wf = true) (w1 : (Lit.int .i64 b).wf = true) :
    Calls Try.prog 8 #[.int .i64 a, .int .i64 b] w fun e w' => e = .returned (.bool true) ∧ Below w.heap.size w w' := by
  obtain ⟨la, ma⟩ := bounds_i64 w0
  obtain ⟨lb, mb⟩ := bounds_i64 w1
  clear w0 w1
  obtain ⟨A, hA⟩ : ∃ X, X = cw a := ⟨_, rfl⟩
  have A0 : -4611686018427387904 ≤ A := by rw [hA]; exact cw_lo _
  have A1 : A ≤ 4611686018427387903 := by rw [hA]; exact cw_hi _
  have HA := Lib.hid hA; clear hA
  obtain ⟨B, hB⟩ : ∃ X, X = cw b := ⟨_, rfl⟩
  have B0 : -4611686018427387904 ≤ B := by rw [hB]; exact cw_lo _
  have B1 : B ≤ 4611686018427387903 := by rw [hB]; exact cw_hi _
  have HB := Lib.hid hB; clear hB
  have r0 := cw_lo (A - B)
  have s0 := cw_hi (A - B)
  have e1 : (cw (cw (A - B) + B) == A) = true := by rw [cw_add_l, show A - B + B = A from by omega, cw_id A A0 A1]; exact beq_self_eq_true _
  have e2 : (cw (B - A) == cw (-cw (A - B))) = true := by rw [cw_neg, show -(A - B) = B - A from by omega]; exact beq_self_eq_true _
  have e3 : (cw (cw (A - B) * -1) == cw (-cw (A - B))) = true := by rw [show cw (A - B) * -1 = -cw (A - B) from by omega]; exact beq_self_eq_true _
  go_enter Try.func8, Try.ntmps8
  go_wp2_with fail
  refine (rwrap_any a _ la ma).mono ?_
  rintro e w' ⟨rfl, rfl⟩
  rw [← HA.out]
  go_wp2_with fail
  refine (rwrap_any b _ lb mb).mono ?_
  rintro e w' ⟨rfl, rfl⟩
  rw [← HB.out]
  clear HA HB
  go_wp2_with (first | (go_at_call 13; ((with_reducible refine (do_add _ _ _ (by first | assumption | decide) (by first | assumption | decide) (by first | assumption | decide) (by first | assumption | decide)).mono ?_); rintro e w' ⟨rfl, rfl⟩)) | (go_at_call 13; ((with_reducible refine (do_mul _ _ _ (by first | assumption | decide) (by first | assumption | decide) (by first | assumption | decide) (by first | assumption | decide)).mono ?_); rintro e w' ⟨rfl, rfl⟩)) | (go_at_call 13; ((with_reducible refine (do_sub _ _ _ (by first | assumption | decide) (by first | assumption | decide) (by first | assumption | decide) (by first | assumption | decide)).mono ?_); rintro e w' ⟨rfl, rfl⟩)) | (go_at_call 15; refine (lives_any _).mono ?_; rintro e w' ⟨rfl, hb⟩))
  go_ret
  exact ⟨rfl, hb⟩

set_option maxHeartbeats 1000000 in
theorem intsOrder_walk (a b c : Int) (w : World) (w0 : (Lit.int .i64 a).wf = true) (w1 : (Lit.int .i64 b).wf = true) (w2 : (Lit.int .i64 c).wf = true) :
    Calls Try.prog 7 #[.int .i64 a, .int .i64 b, .int .i64 c] w fun e w' => e = .returned (.bool true) ∧ Below w.heap.size w w' := by
  obtain ⟨la, ma⟩ := bounds_i64 w0
  obtain ⟨lb, mb⟩ := bounds_i64 w1
  obtain ⟨lc, mc⟩ := bounds_i64 w2
  clear w0 w1 w2
  obtain ⟨A, hA⟩ : ∃ X, X = cw a := ⟨_, rfl⟩
  have A0 : -4611686018427387904 ≤ A := by rw [hA]; exact cw_lo _
  have A1 : A ≤ 4611686018427387903 := by rw [hA]; exact cw_hi _
  have HA := Lib.hid hA; clear hA
  obtain ⟨B, hB⟩ : ∃ X, X = cw b := ⟨_, rfl⟩
  have B0 : -4611686018427387904 ≤ B := by rw [hB]; exact cw_lo _
  have B1 : B ≤ 4611686018427387903 := by rw [hB]; exact cw_hi _
  have HB := Lib.hid hB; clear hB
  obtain ⟨C, hC⟩ : ∃ X, X = cw c := ⟨_, rfl⟩
  have C0 : -4611686018427387904 ≤ C := by rw [hC]; exact cw_lo _
  have C1 : C ≤ 4611686018427387903 := by rw [hC]; exact cw_hi _
  have HC := Lib.hid hC; clear hC
  have f1 : (eqF A B == 1) = (A == B) := by unfold eqF; by_cases h : A = B <;> simp [h]
  have f2 : (ltF A B + ltF B A + eqF A B == 1) = true := by
    unfold eqF ltF
    rcases (by omega : A < B ∨ B < A ∨ A = B) with h | h | h
    · rw [if_pos h, if_neg (by omega), if_neg (by omega)]; rfl
    · rw [if_neg (by omega), if_pos h, if_neg (by omega)]; rfl
    · rw [if_neg (by omega), if_neg (by omega), if_pos h]; rfl
  have g1 : 0 ≤ ltF A B ∧ ltF A B ≤ 1 := by unfold ltF; split <;> omega
  have g2 : 0 ≤ ltF B A ∧ ltF B A ≤ 1 := by unfold ltF; split <;> omega
  have g3 : 0 ≤ eqF A B ∧ eqF A B ≤ 1 := by unfold eqF; split <;> omega
  obtain ⟨g10, g11⟩ := g1
  obtain ⟨g20, g21⟩ := g2
  obtain ⟨g30, g31⟩ := g3
  have f3 : (ltF A B == 0) = true ∨ (ltF A B == 0) = false ∧ (ltF B C == 0) = true ∨ (ltF A B == 0) = false ∧ (ltF B C == 0) = false ∧ (ltF A C == 1) = true := by
    unfold ltF
    by_cases h : A < B <;> by_cases h' : B < C
    · rw [if_pos h, if_pos h', if_pos (by omega)]; simp
    all_goals simp [h, h']
  rcases f3 with h1 | ⟨h1, h2⟩ | ⟨h1, h2, h3⟩
  · go_enter Try.func7, Try.ntmps7
    go_wp2_with fail
    refine (rwrap_any a _ la ma).mono ?_
    rintro e w' ⟨rfl, rfl⟩
    rw [← HA.out]
    go_wp2_with fail
    refine (rwrap_any b _ lb mb).mono ?_
    rintro e w' ⟨rfl, rfl⟩
    rw [← HB.out]
    go_wp2_with fail
    refine (rwrap_any c _ lc mc).mono ?_
    rintro e w' ⟨rfl, rfl⟩
    rw [← HC.out]
    clear HA HB HC
    go_wp2_with (first | (go_at_call 13; ((with_reducible refine (do_lt _ _ _ (by first | assumption | decide) (by first | assumption | decide) (by first | assumption | decide) (by first | assumption | decide)).mono ?_); rintro e w' ⟨rfl, rfl⟩)) | (go_at_call 13; ((with_reducible refine (do_eq _ _ _ (by first | assumption | decide) (by first | assumption | decide) (by first | assumption | decide) (by first | assumption | decide)).mono ?_); rintro e w' ⟨rfl, rfl⟩)) | (go_at_call 15; refine (lives_any _).mono ?_; rintro e w' ⟨rfl, hb⟩))
    go_ret
    exact ⟨rfl, hb⟩
  · go_enter Try.func7, Try.ntmps7
    go_wp2_with fail
    refine (rwrap_any a _ la ma).mono ?_
    rintro e w' ⟨rfl, rfl⟩
    rw [← HA.out]
    go_wp2_with fail
    refine (rwrap_any b _ lb mb).mono ?_
    rintro e w' ⟨rfl, rfl⟩
    rw [← HB.out]
    go_wp2_with fail
    refine (rwrap_any c _ lc mc).mono ?_
    rintro e w' ⟨rfl, rfl⟩
    rw [← HC.out]
    clear HA HB HC
    go_wp2_with (first | (go_at_call 13; ((with_reducible refine (do_lt _ _ _ (by first | assumption | decide) (by first | assumption | decide) (by first | assumption | decide) (by first | assumption | decide)).mono ?_); rintro e w' ⟨rfl, rfl⟩)) | (go_at_call 13; ((with_reducible refine (do_eq _ _ _ (by first | assumption | decide) (by first | assumption | decide) (by first | assumption | decide) (by first | assumption | decide)).mono ?_); rintro e w' ⟨rfl, rfl⟩)) | (go_at_call 15; refine (lives_any _).mono ?_; rintro e w' ⟨rfl, hb⟩))
    go_ret
    exact ⟨rfl, hb⟩
  · go_enter Try.func7, Try.ntmps7
    go_wp2_with fail
    refine (rwrap_any a _ la ma).mono ?_
    rintro e w' ⟨rfl, rfl⟩
    rw [← HA.out]
    go_wp2_with fail
    refine (rwrap_any b _ lb mb).mono ?_
    rintro e w' ⟨rfl, rfl⟩
    rw [← HB.out]
    go_wp2_with fail
    refine (rwrap_any c _ lc mc).mono ?_
    rintro e w' ⟨rfl, rfl⟩
    rw [← HC.out]
    clear HA HB HC
    go_wp2_with (first | (go_at_call 13; ((with_reducible refine (do_lt _ _ _ (by first | assumption | decide) (by first | assumption | decide) (by first | assumption | decide) (by first | assumption | decide)).mono ?_); rintro e w' ⟨rfl, rfl⟩)) | (go_at_call 13; ((with_reducible refine (do_eq _ _ _ (by first | assumption | decide) (by first | assumption | decide) (by first | assumption | decide) (by first | assumption | decide)).mono ?_); rintro e w' ⟨rfl, rfl⟩)) | (go_at_call 15; refine (lives_any _).mono ?_; rintro e w' ⟨rfl, hb⟩))
    go_ret
    exact ⟨rfl, hb⟩

theorem do_quo0 (a : Int) (w : World) (a0 : -4611686018427387904 ≤ a) (a1 : a ≤ 4611686018427387903) :
    Calls Try.prog 13 #[.string ⟨#[47]⟩, .int .i64 a, .int .i64 0] w fun e w' => e = .returned (.tuple #[.int .i64 0, .int .i64 3]) ∧ w = w' := do_quo a 0 w a0 a1 (by decide) (by decide)
theorem do_rem0 (a : Int) (w : World) (a0 : -4611686018427387904 ≤ a) (a1 : a ≤ 4611686018427387903) :
    Calls Try.prog 13 #[.string ⟨#[37]⟩, .int .i64 a, .int .i64 0] w fun e w' => e = .returned (.tuple #[.int .i64 0, .int .i64 3]) ∧ w = w' := do_rem a 0 w a0 a1 (by decide) (by decide)
/-- The quotient, as an integer. -/
def quoI (a b : Int) : Int := cw (a.tdiv b)
/-- What is left. -/
def remI (a b : Int) : Int := a.tmod b
theorem do_quo1 (a b : Int) (w : World) (a0 : -4611686018427387904 ≤ a) (a1 : a ≤ 4611686018427387903) (b0 : -4611686018427387904 ≤ b) (b1 : b ≤ 4611686018427387903) (h : (b == 0) = false) :
    Calls Try.prog 13 #[.string ⟨#[47]⟩, .int .i64 a, .int .i64 b] w fun e w' => e = .returned (.tuple #[.int .i64 (quoI a b), .int .i64 0]) ∧ w = w' := by
  have := do_quo a b w a0 a1 b0 b1
  unfold quoF at this
  rw [h] at this
  exact this
theorem do_rem1 (a b : Int) (w : World) (a0 : -4611686018427387904 ≤ a) (a1 : a ≤ 4611686018427387903) (b0 : -4611686018427387904 ≤ b) (b1 : b ≤ 4611686018427387903) (h : (b == 0) = false) :
    Calls Try.prog 13 #[.string ⟨#[37]⟩, .int .i64 a, .int .i64 b] w fun e w' => e = .returned (.tuple #[.int .i64 (remI a b), .int .i64 0]) ∧ w = w' := by
  have := do_rem a b w a0 a1 b0 b1
  unfold remF at this
  rw [h] at this
  exact this
theorem div_whole (a b : Int) (a0 : -4611686018427387904 ≤ a) (a1 : a ≤ 4611686018427387903) : cw (cw (quoI a b * b) + remI a b) = a := by
  unfold quoI remI
  rw [cw_mul_l, cw_add_l, Int.mul_comm, Int.mul_tdiv_add_tmod, cw_id a a0 a1]
theorem rem_ways (a b : Int) (h : b ≠ 0) : (remI a b < b ∧ -remI a b < b ∨ b < remI a b ∧ b < -remI a b) ∧ (remI a b = 0 ∨ 0 < remI a b ∧ 0 < a ∨ remI a b < 0 ∧ a < 0) := by
  unfold remI
  have hs := Int.natAbs_tmod a b
  have hl : a.natAbs % b.natAbs < b.natAbs := Nat.mod_lt _ (by omega)
  rcases (by omega : 0 ≤ a ∨ a < 0) with ha | ha
  · have := Int.tmod_nonneg b ha
    have hz : a = 0 → a.tmod b = 0 := by rintro rfl; exact Int.zero_tmod b
    rcases (by omega : a = 0 ∨ 0 < a) with h0 | h0
    · have := hz h0; omega
    · omega
  · obtain ⟨c, rfl⟩ : ∃ c : Int, a = -c := ⟨-a, by omega⟩
    have e : (-c).tmod b = -(c.tmod b) := Int.neg_tmod ..
    have := Int.tmod_nonneg b (show 0 ≤ c by omega)
    omega

set_option maxHeartbeats 1000000 in
theorem intsDivides_walk (a b : Int) (w : World) (w0 : (Lit.int .i64 a).wf = true) (w1 : (Lit.int .i64 b).wf = true) :
    Calls Try.prog 6 #[.int .i64 a, .int .i64 b] w fun e w' => e = .returned (.bool true) ∧ Below w.heap.size w w' := by
  obtain ⟨la, ma⟩ := bounds_i64 w0
  obtain ⟨lb, mb⟩ := bounds_i64 w1
  clear w0 w1
  obtain ⟨A, hA⟩ : ∃ X, X = cw a := ⟨_, rfl⟩
  have A0 : -4611686018427387904 ≤ A := by rw [hA]; exact cw_lo _
  have A1 : A ≤ 4611686018427387903 := by rw [hA]; exact cw_hi _
  have HA := Lib.hid hA; clear hA
  obtain ⟨B, hB⟩ : ∃ X, X = cw b := ⟨_, rfl⟩
  have B0 : -4611686018427387904 ≤ B := by rw [hB]; exact cw_lo _
  have B1 : B ≤ 4611686018427387903 := by rw [hB]; exact cw_hi _
  have HB := Lib.hid hB; clear hB
  by_cases hz : B = 0
  · subst hz
    go_enter Try.func6, Try.ntmps6
    go_wp2_with fail
    refine (rwrap_any a _ la ma).mono ?_
    rintro e w' ⟨rfl, rfl⟩
    rw [← HA.out]
    go_wp2_with fail
    refine (rwrap_any b _ lb mb).mono ?_
    rintro e w' ⟨rfl, rfl⟩
    rw [← HB.out]
    clear HA HB
    go_wp2_with (first | (go_at_call 13; ((with_reducible refine (do_quo0 _ _ (by first | assumption | decide) (by first | assumption | decide)).mono ?_); rintro e w' ⟨rfl, rfl⟩)) | (go_at_call 13; ((with_reducible refine (do_rem0 _ _ (by first | assumption | decide) (by first | assumption | decide)).mono ?_); rintro e w' ⟨rfl, rfl⟩)) | (go_at_call 13; ((with_reducible refine (do_quo1 _ _ _ (by first | assumption | decide) (by first | assumption | decide) (by first | assumption | decide) (by first | assumption | decide) (by assumption)).mono ?_); rintro e w' ⟨rfl, rfl⟩)) | (go_at_call 13; ((with_reducible refine (do_rem1 _ _ _ (by first | assumption | decide) (by first | assumption | decide) (by first | assumption | decide) (by first | assumption | decide) (by assumption)).mono ?_); rintro e w' ⟨rfl, rfl⟩)) | (go_at_call 13; ((with_reducible refine (do_add _ _ _ (by first | assumption | decide) (by first | assumption | decide) (by first | assumption | decide) (by first | assumption | decide)).mono ?_); rintro e w' ⟨rfl, rfl⟩)) | (go_at_call 13; ((with_reducible refine (do_mul _ _ _ (by first | assumption | decide) (by first | assumption | decide) (by first | assumption | decide) (by first | assumption | decide)).mono ?_); rintro e w' ⟨rfl, rfl⟩)) | (go_at_call 15; refine (lives_any _).mono ?_; rintro e w' ⟨rfl, hb⟩))
    go_ret
    exact ⟨rfl, hb⟩
  · have hb0 : (B == 0) = false := by simp [hz]
    have r0 := cw_lo (A.tdiv B)
    have s0 := cw_hi (A.tdiv B)
    have r1 := cw_lo (quoI A B * B)
    have s1 := cw_hi (quoI A B * B)
    have tm := tmod_in A B A0 A1
    obtain ⟨t0, t1⟩ := tm
    change -4611686018427387904 ≤ quoI A B at r0
    change quoI A B ≤ 4611686018427387903 at s0
    change -4611686018427387904 ≤ remI A B at t0
    change remI A B ≤ 4611686018427387903 at t1
    have e1 : (cw (cw (quoI A B * B) + remI A B) == A) = true := by rw [div_whole A B A0 A1]; exact beq_self_eq_true _
    obtain ⟨hw, hs⟩ := rem_ways A B hz
    clear hz
    rcases hw with ⟨k1, k2⟩ | ⟨k1, k2⟩ <;> rcases hs with k3 | ⟨k3, k4⟩ | ⟨k3, k4⟩
    · have k5 : (remI A B == 0) = true := by simp [k3]
      clear k3
      go_enter Try.func6, Try.ntmps6
      go_wp2_with fail
      refine (rwrap_any a _ la ma).mono ?_
      rintro e w' ⟨rfl, rfl⟩
      rw [← HA.out]
      go_wp2_with fail
      refine (rwrap_any b _ lb mb).mono ?_
      rintro e w' ⟨rfl, rfl⟩
      rw [← HB.out]
      clear HA HB
      go_wp2_with (first | (go_at_call 13; ((with_reducible refine (do_quo0 _ _ (by first | assumption | decide) (by first | assumption | decide)).mono ?_); rintro e w' ⟨rfl, rfl⟩)) | (go_at_call 13; ((with_reducible refine (do_rem0 _ _ (by first | assumption | decide) (by first | assumption | decide)).mono ?_); rintro e w' ⟨rfl, rfl⟩)) | (go_at_call 13; ((with_reducible refine (do_quo1 _ _ _ (by first | assumption | decide) (by first | assumption | decide) (by first | assumption | decide) (by first | assumption | decide) (by assumption)).mono ?_); rintro e w' ⟨rfl, rfl⟩)) | (go_at_call 13; ((with_reducible refine (do_rem1 _ _ _ (by first | assumption | decide) (by first | assumption | decide) (by first | assumption | decide) (by first | assumption | decide) (by assumption)).mono ?_); rintro e w' ⟨rfl, rfl⟩)) | (go_at_call 13; ((with_reducible refine (do_add _ _ _ (by first | assumption | decide) (by first | assumption | decide) (by first | assumption | decide) (by first | assumption | decide)).mono ?_); rintro e w' ⟨rfl, rfl⟩)) | (go_at_call 13; ((with_reducible refine (do_mul _ _ _ (by first | assumption | decide) (by first | assumption | decide) (by first | assumption | decide) (by first | assumption | decide)).mono ?_); rintro e w' ⟨rfl, rfl⟩)) | (go_at_call 15; refine (lives_any _).mono ?_; rintro e w' ⟨rfl, hb⟩))
      go_ret
      exact ⟨rfl, hb⟩
    · have k5 : (remI A B == 0) = false := by simp; omega
      go_enter Try.func6, Try.ntmps6
      go_wp2_with fail
      refine (rwrap_any a _ la ma).mono ?_
      rintro e w' ⟨rfl, rfl⟩
      rw [← HA.out]
      go_wp2_with fail
      refine (rwrap_any b _ lb mb).mono ?_
      rintro e w' ⟨rfl, rfl⟩
      rw [← HB.out]
      clear HA HB
      go_wp2_with (first | (go_at_call 13; ((with_reducible refine (do_quo0 _ _ (by first | assumption | decide) (by first | assumption | decide)).mono ?_); rintro e w' ⟨rfl, rfl⟩)) | (go_at_call 13; ((with_reducible refine (do_rem0 _ _ (by first | assumption | decide) (by first | assumption | decide)).mono ?_); rintro e w' ⟨rfl, rfl⟩)) | (go_at_call 13; ((with_reducible refine (do_quo1 _ _ _ (by first | assumption | decide) (by first | assumption | decide) (by first | assumption | decide) (by first | assumption | decide) (by assumption)).mono ?_); rintro e w' ⟨rfl, rfl⟩)) | (go_at_call 13; ((with_reducible refine (do_rem1 _ _ _ (by first | assumption | decide) (by first | assumption | decide) (by first | assumption | decide) (by first | assumption | decide) (by assumption)).mono ?_); rintro e w' ⟨rfl, rfl⟩)) | (go_at_call 13; ((with_reducible refine (do_add _ _ _ (by first | assumption | decide) (by first | assumption | decide) (by first | assumption | decide) (by first | assumption | decide)).mono ?_); rintro e w' ⟨rfl, rfl⟩)) | (go_at_call 13; ((with_reducible refine (do_mul _ _ _ (by first | assumption | decide) (by first | assumption | decide) (by first | assumption | decide) (by first | assumption | decide)).mono ?_); rintro e w' ⟨rfl, rfl⟩)) | (go_at_call 15; refine (lives_any _).mono ?_; rintro e w' ⟨rfl, hb⟩))
      go_ret
      exact ⟨rfl, hb⟩
    · have k5 : (remI A B == 0) = false := by simp; omega
      go_enter Try.func6, Try.ntmps6
      go_wp2_with fail
      refine (rwrap_any a _ la ma).mono ?_
      rintro e w' ⟨rfl, rfl⟩
      rw [← HA.out]
      go_wp2_with fail
      refine (rwrap_any b _ lb mb).mono ?_
      rintro e w' ⟨rfl, rfl⟩
      rw [← HB.out]
      clear HA HB
      go_wp2_with (first | (go_at_call 13; ((with_reducible refine (do_quo0 _ _ (by first | assumption | decide) (by first | assumption | decide)).mono ?_); rintro e w' ⟨rfl, rfl⟩)) | (go_at_call 13; ((with_reducible refine (do_rem0 _ _ (by first | assumption | decide) (by first | assumption | decide)).mono ?_); rintro e w' ⟨rfl, rfl⟩)) | (go_at_call 13; ((with_reducible refine (do_quo1 _ _ _ (by first | assumption | decide) (by first | assumption | decide) (by first | assumption | decide) (by first | assumption | decide) (by assumption)).mono ?_); rintro e w' ⟨rfl, rfl⟩)) | (go_at_call 13; ((with_reducible refine (do_rem1 _ _ _ (by first | assumption | decide) (by first | assumption | decide) (by first | assumption | decide) (by first | assumption | decide) (by assumption)).mono ?_); rintro e w' ⟨rfl, rfl⟩)) | (go_at_call 13; ((with_reducible refine (do_add _ _ _ (by first | assumption | decide) (by first | assumption | decide) (by first | assumption | decide) (by first | assumption | decide)).mono ?_); rintro e w' ⟨rfl, rfl⟩)) | (go_at_call 13; ((with_reducible refine (do_mul _ _ _ (by first | assumption | decide) (by first | assumption | decide) (by first | assumption | decide) (by first | assumption | decide)).mono ?_); rintro e w' ⟨rfl, rfl⟩)) | (go_at_call 15; refine (lives_any _).mono ?_; rintro e w' ⟨rfl, hb⟩))
      go_ret
      exact ⟨rfl, hb⟩
    · have k5 : (remI A B == 0) = true := by simp [k3]
      clear k3
      go_enter Try.func6, Try.ntmps6
      go_wp2_with fail
      refine (rwrap_any a _ la ma).mono ?_
      rintro e w' ⟨rfl, rfl⟩
      rw [← HA.out]
      go_wp2_with fail
      refine (rwrap_any b _ lb mb).mono ?_
      rintro e w' ⟨rfl, rfl⟩
      rw [← HB.out]
      clear HA HB
      go_wp2_with (first | (go_at_call 13; ((with_reducible refine (do_quo0 _ _ (by first | assumption | decide) (by first | assumption | decide)).mono ?_); rintro e w' ⟨rfl, rfl⟩)) | (go_at_call 13; ((with_reducible refine (do_rem0 _ _ (by first | assumption | decide) (by first | assumption | decide)).mono ?_); rintro e w' ⟨rfl, rfl⟩)) | (go_at_call 13; ((with_reducible refine (do_quo1 _ _ _ (by first | assumption | decide) (by first | assumption | decide) (by first | assumption | decide) (by first | assumption | decide) (by assumption)).mono ?_); rintro e w' ⟨rfl, rfl⟩)) | (go_at_call 13; ((with_reducible refine (do_rem1 _ _ _ (by first | assumption | decide) (by first | assumption | decide) (by first | assumption | decide) (by first | assumption | decide) (by assumption)).mono ?_); rintro e w' ⟨rfl, rfl⟩)) | (go_at_call 13; ((with_reducible refine (do_add _ _ _ (by first | assumption | decide) (by first | assumption | decide) (by first | assumption | decide) (by first | assumption | decide)).mono ?_); rintro e w' ⟨rfl, rfl⟩)) | (go_at_call 13; ((with_reducible refine (do_mul _ _ _ (by first | assumption | decide) (by first | assumption | decide) (by first | assumption | decide) (by first | assumption | decide)).mono ?_); rintro e w' ⟨rfl, rfl⟩)) | (go_at_call 15; refine (lives_any _).mono ?_; rintro e w' ⟨rfl, hb⟩))
      go_ret
      exact ⟨rfl, hb⟩
    · have k5 : (remI A B == 0) = false := by simp; omega
      go_enter Try.func6, Try.ntmps6
      go_wp2_with fail
      refine (rwrap_any a _ la ma).mono ?_
      rintro e w' ⟨rfl, rfl⟩
      rw [← HA.out]
      go_wp2_with fail
      refine (rwrap_any b _ lb mb).mono ?_
      rintro e w' ⟨rfl, rfl⟩
      rw [← HB.out]
      clear HA HB
      go_wp2_with (first | (go_at_call 13; ((with_reducible refine (do_quo0 _ _ (by first | assumption | decide) (by first | assumption | decide)).mono ?_); rintro e w' ⟨rfl, rfl⟩)) | (go_at_call 13; ((with_reducible refine (do_rem0 _ _ (by first | assumption | decide) (by first | assumption | decide)).mono ?_); rintro e w' ⟨rfl, rfl⟩)) | (go_at_call 13; ((with_reducible refine (do_quo1 _ _ _ (by first | assumption | decide) (by first | assumption | decide) (by first | assumption | decide) (by first | assumption | decide) (by assumption)).mono ?_); rintro e w' ⟨rfl, rfl⟩)) | (go_at_call 13; ((with_reducible refine (do_rem1 _ _ _ (by first | assumption | decide) (by first | assumption | decide) (by first | assumption | decide) (by first | assumption | decide) (by assumption)).mono ?_); rintro e w' ⟨rfl, rfl⟩)) | (go_at_call 13; ((with_reducible refine (do_add _ _ _ (by first | assumption | decide) (by first | assumption | decide) (by first | assumption | decide) (by first | assumption | decide)).mono ?_); rintro e w' ⟨rfl, rfl⟩)) | (go_at_call 13; ((with_reducible refine (do_mul _ _ _ (by first | assumption | decide) (by first | assumption | decide) (by first | assumption | decide) (by first | assumption | decide)).mono ?_); rintro e w' ⟨rfl, rfl⟩)) | (go_at_call 15; refine (lives_any _).mono ?_; rintro e w' ⟨rfl, hb⟩))
      go_ret
      exact ⟨rfl, hb⟩
    · have k5 : (remI A B == 0) = false := by simp; omega
      go_enter Try.func6, Try.ntmps6
      go_wp2_with fail
      refine (rwrap_any a _ la ma).mono ?_
      rintro e w' ⟨rfl, rfl⟩
      rw [← HA.out]
      go_wp2_with fail
      refine (rwrap_any b _ lb mb).mono ?_
      rintro e w' ⟨rfl, rfl⟩
      rw [← HB.out]
      clear HA HB
      go_wp2_with (first | (go_at_call 13; ((with_reducible refine (do_quo0 _ _ (by first | assumption | decide) (by first | assumption | decide)).mono ?_); rintro e w' ⟨rfl, rfl⟩)) | (go_at_call 13; ((with_reducible refine (do_rem0 _ _ (by first | assumption | decide) (by first | assumption | decide)).mono ?_); rintro e w' ⟨rfl, rfl⟩)) | (go_at_call 13; ((with_reducible refine (do_quo1 _ _ _ (by first | assumption | decide) (by first | assumption | decide) (by first | assumption | decide) (by first | assumption | decide) (by assumption)).mono ?_); rintro e w' ⟨rfl, rfl⟩)) | (go_at_call 13; ((with_reducible refine (do_rem1 _ _ _ (by first | assumption | decide) (by first | assumption | decide) (by first | assumption | decide) (by first | assumption | decide) (by assumption)).mono ?_); rintro e w' ⟨rfl, rfl⟩)) | (go_at_call 13; ((with_reducible refine (do_add _ _ _ (by first | assumption | decide) (by first | assumption | decide) (by first | assumption | decide) (by first | assumption | decide)).mono ?_); rintro e w' ⟨rfl, rfl⟩)) | (go_at_call 13; ((with_reducible refine (do_mul _ _ _ (by first | assumption | decide) (by first | assumption | decide) (by first | assumption | decide) (by first | assumption | decide)).mono ?_); rintro e w' ⟨rfl, rfl⟩)) | (go_at_call 15; refine (lives_any _).mono ?_; rintro e w' ⟨rfl, hb⟩))
      go_ret
      exact ⟨rfl, hb⟩

end Go.Proofs.Ytihenoielkkdkaa
