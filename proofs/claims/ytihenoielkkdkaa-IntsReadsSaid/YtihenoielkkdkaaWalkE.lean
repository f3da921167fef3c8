/- The walks of layer 1: an integer's digits, by the reference. -/
import Derived.Test.YtihenoielkkdkaaWalkD
namespace Go.Proofs.Ytihenoielkkdkaa
open Go.RowKit

structure RShow (m0 k m : Nat) (ds : List UInt8) : Prop where
  le : m ≤ 4611686018427387904
  small : m < 10 ^ (19 - k)
  kle : k ≤ 19
  all : dg 20 m0 = (if m = 0 then [] else dg (20 - k) m) ++ ds
theorem rshow_start (m0 : Nat) (h : m0 ≤ 4611686018427387904) (h0 : m0 ≠ 0) : RShow m0 0 m0 [] :=
  ⟨h, by have : (10 : Nat) ^ (19 - 0) = 10000000000000000000 := by decide
         omega, by omega, by simp [h0]⟩
theorem rshow_next {m0 k m : Nat} {ds : List UInt8} (h : RShow m0 k m ds) (hm : m ≠ 0) : RShow m0 (k + 1) (m / 10) (UInt8.ofNat (48 + m % 10) :: ds) := by
  have hk : k ≤ 18 := by
    rcases Nat.lt_or_ge k 19 with hk | hk
    · omega
    · have := h.small
      rw [show 19 - k = 0 from by omega] at this; omega
  refine ⟨by have := h.le; omega, ?_, by omega, ?_⟩
  · have := h.small
    rw [show 19 - k = (19 - (k + 1)) + 1 from by omega, Nat.pow_succ] at this
    omega
  · rw [h.all, if_neg hm, show 20 - k = (20 - (k + 1)) + 1 from by omega, dg]
    by_cases h10 : m < 10
    · rw [if_pos h10, if_pos (by omega), show m % 10 = m from by omega]; rfl
    · rw [if_neg h10, if_neg (by omega), List.append_assoc]; rfl
theorem rshow_last {m0 k m : Nat} {ds : List UInt8} (h : RShow m0 k m ds) (hm : m = 0) : dg 20 m0 = ds := by
  rw [h.all, if_pos hm]; rfl
def RShowInv (w : World) (m0 : Nat) (sg : Int) (N s : Value) (wr : World) : Prop :=
  ∃ (k m : Nat) (S : ByteArray), N = .int .i64 (sg * (m : Int)) ∧ s = .string S ∧ RShow m0 k m S.data.toList ∧ S.size = k ∧ Below w.heap.size w wr
theorem conv_one (W : World) (c : UInt8) (v : Int) (h : v = (c.toNat : Int)) (B : Nat) (hB : B = W.heap.size) :
    (convert 41 9 (.slice (some ⟨B, 0, none⟩) 1 1)).run Try.prog (W.alloc (.cells #[.int .u8 v] 5)) = .ok (.string ⟨#[c]⟩) (W.alloc (.cells #[.int .u8 v] 5)) := by
  subst hB
  have hc := (Whole.made W 5 #[.int .u8 v]).cell 0
  have := run_convert_bytes_arg (W.alloc (.cells #[.int .u8 v] 5)) 41 5 Try.underlying41 Try.underlying5 W.heap.size 0 1 1 [v] rfl (fun i hi => by
    obtain rfl : i = 0 := by omega
    exact hc) 9 Try.underlying9
  rw [this]
  subst h
  have := str_of_digits [c]
  simp only [List.map_cons, List.map_nil] at this
  rw [this]
theorem str_ext (S : ByteArray) (l : List UInt8) (h : S.data.toList = l) : S = ⟨l.toArray⟩ := by
  subst h; cases S; simp
theorem append_toList (S T : ByteArray) : (S ++ T).data.toList = S.data.toList ++ T.data.toList := by simp
theorem ret_s {a b : ByteArray} (h : a = b) : Ending.returned (.string a) = .returned (.string b) := by rw [h]
set_option maxHeartbeats 1000000 in
theorem rshow_pos (n : Int) (w : World) (h0 : 0 < cw n) (a0 : -9223372036854775808 ≤ n) (a1 : n ≤ 9223372036854775807) :
    Calls Try.prog 25 #[.int .i64 n] w fun e w' => e = .returned (.string ⟨(shw (cw n)).toArray⟩) ∧ Below w.heap.size w w' := by
  have h2 := cw_hi n
  have hnb : decide (cw n < 0) = false := by simp; omega
  have hn0 : (cw n == 0) = false := by simp; omega
  go_enter Try.func25, Try.ntmps25
  go_wp2_with (first | (go_at_call 17; refine (rwrap_any _ _ (by omega) (by omega)).mono ?_; rintro e w' ⟨rfl, rfl⟩) )
  go_loopw [0, 3] (RShowInv w (cw n).natAbs (1)) (fun i _ _ => (intOf i).natAbs)
  case atStart =>
    exact ⟨0, (cw n).natAbs, _, by congr 1; omega, rfl, rshow_start _ (by omega) (by omega), rfl, Below.refl _ _⟩
  case round =>
    obtain ⟨k, m, S, rfl, rfl, hr, hl, hw⟩ := hrel
    have hS : S.size ≤ 19 := by have := hr.kle; omega
    by_cases hz : m = 0
    · rw [show 1 * (m : Int) = 0 from by omega]
      have hfin := rshow_last hr hz
      subst hz
      have H : Hid (shw (cw n) = S.data.toList) := by show shw (cw n) = _; unfold shw; rw [if_neg (by omega), hfin]
      have hz0 : ((0 : Int) != 0) = false := rfl
      clear hfin hr hl
      go_wp2
      go_ret
      exact ⟨ret_s (str_ext _ _ (by rw [H.out])), hw⟩
    · rw [Int.one_mul]
      have hle := hr.le
      have hm1 : 1 ≤ m := by omega
      have hn := rshow_next hr hz
      obtain ⟨c, hc⟩ : ∃ c, UInt8.ofNat (48 + m % 10) = c := ⟨_, rfl⟩
      clear hr
      have hz' : ((m : Int) != 0) = true := by simp; omega
      have gw := hw.alloc (hw.size) (.cells #[.int .u8 (48 + (m : Int) % 10)] 5)
      have hcv := conv_one wr c (48 + (m : Int) % 10) (by rw [← hc, ← digit_val]) _ rfl
      have H := Lib.hid hn; have Hl := Lib.hid hl; have Hc := Lib.hid hc
      clear hn hl hc hz
      go_wp2
      refine ⟨⟨k + 1, m / 10, _, ?_, rfl, ?_, ?_, gw⟩, ?_⟩
      · rw [Int.one_mul]; rfl
      · rw [append_toList]
        have := H.out
        rw [Hc.out] at this
        exact this
      · have := Hl.out
        rw [ByteArray.size_append, this]
        show 1 + k = k + 1
        omega
      · show ((m : Int) / 10).natAbs < (m : Int).natAbs; omega
set_option maxHeartbeats 1000000 in
theorem rshow_neg (n : Int) (w : World) (h0 : cw n < 0) (a0 : -9223372036854775808 ≤ n) (a1 : n ≤ 9223372036854775807) :
    Calls Try.prog 25 #[.int .i64 n] w fun e w' => e = .returned (.string ⟨(shw (cw n)).toArray⟩) ∧ Below w.heap.size w w' := by
  have h2 := cw_lo n
  have hnb : decide (cw n < 0) = true := by simp; omega
  have hn0 : (cw n == 0) = false := by simp; omega
  go_enter Try.func25, Try.ntmps25
  go_wp2_with (first | (go_at_call 17; refine (rwrap_any _ _ (by omega) (by omega)).mono ?_; rintro e w' ⟨rfl, rfl⟩) )
  go_loopw [0, 3] (RShowInv w (cw n).natAbs (-1)) (fun i _ _ => (intOf i).natAbs)
  case atStart =>
    exact ⟨0, (cw n).natAbs, _, by congr 1; omega, rfl, rshow_start _ (by omega) (by omega), rfl, Below.refl _ _⟩
  case round =>
    obtain ⟨k, m, S, rfl, rfl, hr, hl, hw⟩ := hrel
    have hS : S.size ≤ 19 := by have := hr.kle; omega
    by_cases hz : m = 0
    · rw [show -1 * (m : Int) = 0 from by omega]
      have hfin := rshow_last hr hz
      subst hz
      have H : Hid (shw (cw n) = 45 :: S.data.toList) := by show shw (cw n) = _; unfold shw; rw [if_pos (by omega), hfin]
      have hz0 : ((0 : Int) != 0) = false := rfl
      clear hfin hr hl
      go_wp2
      go_ret
      exact ⟨ret_s (str_ext _ _ (by rw [H.out]; rw [append_toList]; rfl)), hw⟩
    · rw [Int.neg_one_mul]
      have hle := hr.le
      have hm1 : 1 ≤ m := by omega
      have hn := rshow_next hr hz
      obtain ⟨c, hc⟩ : ∃ c, UInt8.ofNat (48 + m % 10) = c := ⟨_, rfl⟩
      clear hr
      have hz' : (-(m : Int) != 0) = true := by simp; omega
      have hmod : (-(m : Int)).tmod 10 = -((m : Int) % 10) := by rw [Int.neg_tmod, Int.tmod_eq_emod_of_nonneg (by omega)]
      have hdiv : wrap64 (-(m : Int).tdiv 10) = -((m : Int) / 10) := by rw [Int.tdiv_eq_ediv_of_nonneg (by omega)]; unfold wrap64; omega
      by_cases hp : m % 10 = 0
      · have hp' : (m : Int) % 10 = 0 := by omega
        have gw := hw.alloc (hw.size) (.cells #[.int .u8 (48)] 5)
        have hcv := conv_one wr c (48) (by rw [← hc, ← digit_val]; omega) _ rfl
        have H := Lib.hid hn; have Hl := Lib.hid hl; have Hc := Lib.hid hc
        clear hn hl hc hz
        go_wp2
        refine ⟨⟨k + 1, m / 10, _, ?_, rfl, ?_, ?_, gw⟩, ?_⟩
        · rw [Int.neg_one_mul]; rfl
        · rw [append_toList]
          have := H.out
          rw [Hc.out] at this
          exact this
        · have := Hl.out
          rw [ByteArray.size_append, this]
          show 1 + k = k + 1
          omega
        · show (-((m : Int) / 10)).natAbs < (-(m : Int)).natAbs; omega
      · have hp' : -((m : Int) % 10) < 0 := by omega
        have gw := hw.alloc (hw.size) (.cells #[.int .u8 (48 + (m : Int) % 10)] 5)
        have hcv := conv_one wr c (48 + (m : Int) % 10) (by rw [← hc, ← digit_val]) _ rfl
        have H := Lib.hid hn; have Hl := Lib.hid hl; have Hc := Lib.hid hc
        clear hn hl hc hz
        go_wp2
        refine ⟨⟨k + 1, m / 10, _, ?_, rfl, ?_, ?_, gw⟩, ?_⟩
        · rw [Int.neg_one_mul]; rfl
        · rw [append_toList]
          have := H.out
          rw [Hc.out] at this
          exact this
        · have := Hl.out
          rw [ByteArray.size_append, this]
          show 1 + k = k + 1
          omega
        · show (-((m : Int) / 10)).natAbs < (-(m : Int)).natAbs; omega

set_option maxHeartbeats 400000 in
theorem rshow_zero (n : Int) (w : World) (h0 : cw n = 0) (a0 : -9223372036854775808 ≤ n) (a1 : n ≤ 9223372036854775807) :
    Calls Try.prog 25 #[.int .i64 n] w fun e w' => e = .returned (.string ⟨(shw (cw n)).toArray⟩) ∧ Below w.heap.size w w' := by
  have hn0 : (cw n == 0) = true := by simp; omega
  have H : Hid (shw (cw n) = [48]) := by show shw (cw n) = _; rw [h0]; decide
  clear h0
  go_enter Try.func25, Try.ntmps25
  go_wp2_with (first | (go_at_call 17; refine (rwrap_any _ _ (by omega) (by omega)).mono ?_; rintro e w' ⟨rfl, rfl⟩) )
  go_ret
  exact ⟨by rw [H.out]; rfl, Below.refl _ _⟩
theorem rshow_any (n : Int) (w : World) (a0 : -9223372036854775808 ≤ n) (a1 : n ≤ 9223372036854775807) :
    Calls Try.prog 25 #[.int .i64 n] w fun e w' => e = .returned (.string ⟨(shw (cw n)).toArray⟩) ∧ Below w.heap.size w w' := by
  rcases (by omega : 0 < cw n ∨ cw n < 0 ∨ cw n = 0) with h | h | h
  · exact rshow_pos n w h a0 a1
  · exact rshow_neg n w h a0 a1
  · exact rshow_zero n w h a0 a1
end Go.Proofs.Ytihenoielkkdkaa
