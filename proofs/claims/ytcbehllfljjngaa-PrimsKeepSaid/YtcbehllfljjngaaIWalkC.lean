/- The walks of layer 1: what is done by an operation's text, in the program and in the reference. -/
import Derived.Test.YtcbehllfljjngaaIWalkB
namespace Go.Proofs.Ytcbehllfljjngaa.I
open Go.RowKit

/-- What an operation's text and two numbers come to, and the error. -/
def doF (p : List UInt8) (a b : Int) : Int × Int :=
  if isI a && isI b then
    if p == [43] then (cw (a + b), 0)
    else if p == [45] then (cw (a - b), 0)
    else if p == [42] then (cw (a * b), 0)
    else if p == [47] then (if b == 0 then (0, 3) else (cw (a.tdiv b), 0))
    else if p == [37] then (if b == 0 then (0, 3) else (a.tmod b, 0))
    else if p == [61] then (if a == b then (1, 0) else (0, 0))
    else if p == [60] then (if a < b then (1, 0) else (0, 0))
    else (0, 1)
  else (0, 1)

theorem ret2_ii {k l : IntKind} {a b c d : Int} (h : a = b) (h' : c = d) : Ending.returned (.tuple #[.int k a, .int l c]) = .returned (.tuple #[.int k b, .int l d]) := by rw [h, h']
theorem b_tf (b : Bool) (h : b = true) (h' : b = false) : False := by rw [h] at h'; cases h'
theorem tdiv_in (a b : Int) (a0 : -4611686018427387904 ≤ a) (a1 : a ≤ 4611686018427387903) : -4611686018427387904 ≤ a.tdiv b ∧ a.tdiv b ≤ 4611686018427387904 := by
  have h := Int.natAbs_tdiv_le_natAbs a b
  omega
theorem tmod_in (a b : Int) (a0 : -4611686018427387904 ≤ a) (a1 : a ≤ 4611686018427387903) : -4611686018427387904 ≤ a.tmod b ∧ a.tmod b ≤ 4611686018427387903 := by
  rcases (by omega : 0 ≤ a ∨ a < 0) with h | h
  · have := Int.tmod_nonneg b h
    have h2 : (a.tmod b).natAbs = a.natAbs % b.natAbs := Int.natAbs_tmod a b
    have := Nat.mod_le a.natAbs b.natAbs
    omega
  · have h2 : (a.tmod b).natAbs = a.natAbs % b.natAbs := Int.natAbs_tmod a b
    have := Nat.mod_le a.natAbs b.natAbs
    obtain ⟨c, rfl⟩ : ∃ c : Int, a = -c := ⟨-a, by omega⟩
    have e : (-c).tmod b = -(c.tmod b) := Int.neg_tmod ..
    have := Int.tmod_nonneg b (show 0 ≤ c by omega)
    omega
theorem left_eq (a b : Int) (a0 : -4611686018427387904 ≤ a) (a1 : a ≤ 4611686018427387903) : wrap64 (a - wrap64 (a.tdiv b * b)) = a.tmod b := by
  have h := tdiv_in a b a0 a1
  have h2 := tmod_in a b a0 a1
  have h3 := Int.tmod_def a b
  rw [Int.mul_comm (a.tdiv b)]
  generalize b * a.tdiv b = t at *
  unfold wrap64
  omega

set_option maxHeartbeats 1000000 in
theorem do_in (op : ByteArray) (a b : Int) (w : World) (a0 : -4611686018427387904 ≤ a) (a1 : a ≤ 4611686018427387903) (b0 : -4611686018427387904 ≤ b) (b1 : b ≤ 4611686018427387903) :
    Calls Try.prog 36 #[.string op, .int .i64 a, .int .i64 b] w fun e w' => e = .returned (.tuple #[.int .i64 (doF op.toList a b).1, .int .i64 (doF op.toList a b).2]) ∧ w = w' := by
  have ia := isI_t a0 a1
  have ib := isI_t b0 b1
  by_cases h0 : b = 0
  · subst h0
    go_enter Try.func36, Try.ntmps36
    go_wp2_with (first | (go_at_call 68; refine (wrap_any _ _).mono ?_; rintro e w' ⟨rfl, rfl⟩) | (go_at_call 67; refine (is_any _ _).mono ?_; rintro e w' ⟨rfl, rfl⟩) | go_in)
    all_goals
      go_ret2
      refine ⟨ret2_ii ?_ ?_, rfl⟩ <;> first | (simp [doF, *]; done) | (simp [doF, *]; rw [if_neg (by omega)]; done) | exact (b_tf (op.toList == [47]) (by assumption) (by assumption)).elim | (simp_all; done)
  · have hb : (b == 0) = false := by simp [h0]
    have hb' : (b != 0) = true := by simp [h0]
    go_enter Try.func36, Try.ntmps36
    go_wp2_with (first | (go_at_call 68; refine (wrap_any _ _).mono ?_; rintro e w' ⟨rfl, rfl⟩) | (go_at_call 67; refine (is_any _ _).mono ?_; rintro e w' ⟨rfl, rfl⟩) | go_in)
    all_goals
      go_ret2
      refine ⟨ret2_ii ?_ ?_, rfl⟩ <;> first | (simp [doF, *]; done) | (simp [doF, cw_wrap, *]; done) | (simp [doF, *]; rw [if_neg (by omega)]; done) | exact (b_tf (op.toList == [47]) (by assumption) (by assumption)).elim | (simp_all; done)
set_option maxHeartbeats 1000000 in
theorem do_out (op : ByteArray) (a b : Int) (w : World) (h : (isI a && isI b) = false) :
    Calls Try.prog 36 #[.string op, .int .i64 a, .int .i64 b] w fun e w' => e = .returned (.tuple #[.int .i64 (doF op.toList a b).1, .int .i64 (doF op.toList a b).2]) ∧ w = w' := by
  have e : doF op.toList a b = (0, 1) := by unfold doF; rw [if_neg (by rw [h]; decide)]
  rw [e]
  clear e
  cases ha : isI a
  · clear h
    go_enter Try.func36, Try.ntmps36
    go_wp2_with (first | (go_at_call 68; refine (wrap_any _ _).mono ?_; rintro e w' ⟨rfl, rfl⟩) | (go_at_call 67; refine (is_any _ _).mono ?_; rintro e w' ⟨rfl, rfl⟩) | go_in)
    go_ret2
    exact ⟨rfl, rfl⟩
  · have hb : isI b = false := by simpa [ha] using h
    clear h
    go_enter Try.func36, Try.ntmps36
    go_wp2_with (first | (go_at_call 68; refine (wrap_any _ _).mono ?_; rintro e w' ⟨rfl, rfl⟩) | (go_at_call 67; refine (is_any _ _).mono ?_; rintro e w' ⟨rfl, rfl⟩) | go_in)
    go_ret2
    exact ⟨rfl, rfl⟩
theorem do_any (op : ByteArray) (a b : Int) (w : World) :
    Calls Try.prog 36 #[.string op, .int .i64 a, .int .i64 b] w fun e w' => e = .returned (.tuple #[.int .i64 (doF op.toList a b).1, .int .i64 (doF op.toList a b).2]) ∧ w = w' := by
  by_cases h : (isI a && isI b) = true
  · have h2 := h
    simp only [isI, Bool.and_eq_true, decide_eq_true_eq] at h2
    exact do_in op a b w h2.1.1 h2.1.2 h2.2.1 h2.2.2
  · exact do_out op a b w (by simpa using h)

set_option maxHeartbeats 1000000 in
theorem rdo_in (op : ByteArray) (a b : Int) (w : World) (a0 : -4611686018427387904 ≤ a) (a1 : a ≤ 4611686018427387903) (b0 : -4611686018427387904 ≤ b) (b1 : b ≤ 4611686018427387903) :
    Calls Try.prog 13 #[.string op, .int .i64 a, .int .i64 b] w fun e w' => e = .returned (.tuple #[.int .i64 (doF op.toList a b).1, .int .i64 (doF op.toList a b).2]) ∧ w = w' := by
  have ia := isI_t a0 a1
  have ib := isI_t b0 b1
  by_cases h0 : b = 0
  · subst h0
    go_enter Try.func13, Try.ntmps13
    go_wp2_with (first | (go_at_call 12; refine (rwrap_any _ _ (by omega) (by omega)).mono ?_; rintro e w' ⟨rfl, rfl⟩) | (go_at_call 39; refine (ris_any _ _).mono ?_; rintro e w' ⟨rfl, rfl⟩) | (go_at_call 40; refine (radd_any _ _ _ (by omega) (by omega) (by omega) (by omega)).mono ?_; rintro e w' ⟨rfl, rfl⟩) | (go_at_call 41; refine (rmul_any _ _ _ (by omega) (by omega) (by omega) (by omega)).mono ?_; rintro e w' ⟨rfl, rfl⟩) | go_in)
    all_goals
      go_ret2
      refine ⟨ret2_ii ?_ ?_, rfl⟩ <;> first | (simp [doF, *]; done) | (simp [doF, *]; rw [if_neg (by omega)]; done) | exact (b_tf (op.toList == [47]) (by assumption) (by assumption)).elim | (simp_all; done)
  · have hb : (b == 0) = false := by simp [h0]
    have hb' : (b != 0) = true := by simp [h0]
    have hd := tdiv_in a b a0 a1
    have hl := left_eq a b a0 a1
    go_enter Try.func13, Try.ntmps13
    go_wp2_with (first | (go_at_call 12; refine (rwrap_any _ _ (by omega) (by omega)).mono ?_; rintro e w' ⟨rfl, rfl⟩) | (go_at_call 39; refine (ris_any _ _).mono ?_; rintro e w' ⟨rfl, rfl⟩) | (go_at_call 40; refine (radd_any _ _ _ (by omega) (by omega) (by omega) (by omega)).mono ?_; rintro e w' ⟨rfl, rfl⟩) | (go_at_call 41; refine (rmul_any _ _ _ (by omega) (by omega) (by omega) (by omega)).mono ?_; rintro e w' ⟨rfl, rfl⟩) | go_in)
    all_goals
      go_ret2
      refine ⟨ret2_ii ?_ ?_, rfl⟩ <;> first | (simp [doF, *]; done) | (simp [doF, *]; rw [if_neg (by omega)]; done) | exact (b_tf (op.toList == [47]) (by assumption) (by assumption)).elim | (simp_all; done)
set_option maxHeartbeats 1000000 in
theorem rdo_out (op : ByteArray) (a b : Int) (w : World) (h : (isI a && isI b) = false) :
    Calls Try.prog 13 #[.string op, .int .i64 a, .int .i64 b] w fun e w' => e = .returned (.tuple #[.int .i64 (doF op.toList a b).1, .int .i64 (doF op.toList a b).2]) ∧ w = w' := by
  have e : doF op.toList a b = (0, 1) := by unfold doF; rw [if_neg (by rw [h]; decide)]
  rw [e]
  clear e
  cases ha : isI a
  · clear h
    go_enter Try.func13, Try.ntmps13
    go_wp2_with (first | (go_at_call 12; refine (rwrap_any _ _ (by omega) (by omega)).mono ?_; rintro e w' ⟨rfl, rfl⟩) | (go_at_call 39; refine (ris_any _ _).mono ?_; rintro e w' ⟨rfl, rfl⟩) | (go_at_call 40; refine (radd_any _ _ _ (by omega) (by omega) (by omega) (by omega)).mono ?_; rintro e w' ⟨rfl, rfl⟩) | (go_at_call 41; refine (rmul_any _ _ _ (by omega) (by omega) (by omega) (by omega)).mono ?_; rintro e w' ⟨rfl, rfl⟩) | go_in)
    go_ret2
    exact ⟨rfl, rfl⟩
  · have hb : isI b = false := by simpa [ha] using h
    clear h
    go_enter Try.func13, Try.ntmps13
    go_wp2_with (first | (go_at_call 12; refine (rwrap_any _ _ (by omega) (by omega)).mono ?_; rintro e w' ⟨rfl, rfl⟩) | (go_at_call 39; refine (ris_any _ _).mono ?_; rintro e w' ⟨rfl, rfl⟩) | (go_at_call 40; refine (radd_any _ _ _ (by omega) (by omega) (by omega) (by omega)).mono ?_; rintro e w' ⟨rfl, rfl⟩) | (go_at_call 41; refine (rmul_any _ _ _ (by omega) (by omega) (by omega) (by omega)).mono ?_; rintro e w' ⟨rfl, rfl⟩) | go_in)
    go_ret2
    exact ⟨rfl, rfl⟩
theorem rdo_any (op : ByteArray) (a b : Int) (w : World) :
    Calls Try.prog 13 #[.string op, .int .i64 a, .int .i64 b] w fun e w' => e = .returned (.tuple #[.int .i64 (doF op.toList a b).1, .int .i64 (doF op.toList a b).2]) ∧ w = w' := by
  by_cases h : (isI a && isI b) = true
  · have h2 := h
    simp only [isI, Bool.and_eq_true, decide_eq_true_eq] at h2
    exact rdo_in op a b w h2.1.1 h2.1.2 h2.2.1 h2.2.2
  · exact rdo_out op a b w (by simpa using h)
end Go.Proofs.Ytcbehllfljjngaa.I
