/- The walks of layer 1: reading an integer, by the program. -/
import Derived.Test.YtihenoielkkdkaaWalkR
namespace Go.Proofs.Ytihenoielkkdkaa
open Go.RowKit
set_option linter.unusedVariables false

theorem valD_foldl (l : List UInt8) : ∀ n : Nat, n ≤ l.foldl (fun n c => 10 * n + (c.toNat - 48)) n := by
  induction l with
  | nil => intro n; exact Nat.le_refl n
  | cons c l ih => intro n; exact Nat.le_trans (by omega) (ih (10 * n + (c.toNat - 48)))
theorem valD_mono (a b : List UInt8) : valD a ≤ valD (a ++ b) := by
  unfold valD; rw [List.foldl_append]; exact valD_foldl b _
theorem valD_take (d : ByteArray) (k : Nat) : valD (d.data.toList.take k) ≤ valD d.data.toList := by
  have := valD_mono (d.data.toList.take k) (d.data.toList.drop k)
  rwa [List.take_append_drop] at this
theorem valD_step (d : ByteArray) (k : Nat) (h : k < d.size) : valD (d.data.toList.take (k + 1)) = 10 * valD (d.data.toList.take k) + (d[k].toNat - 48) := by
  rw [take_get d k h, valD_snoc]
theorem dig_at {d : ByteArray} (h : d.data.toList.all isDig = true) (k : Nat) (hk : k < d.size) : isDig d[k] = true := by
  rw [List.all_eq_true] at h
  exact h _ (List.mem_of_getElem? (data_get d k hk))
theorem ok_all {d : List UInt8} {b : Bool} (h : digsOk d b = true) : d.all isDig = true := by
  unfold digsOk at h; simp only [Bool.and_eq_true] at h; exact h.2
theorem readF_no {d : List UInt8} {b : Bool} (h : digsOk d b = false) : readF d b = (0, 1) := by unfold readF; rw [h]; rfl
theorem readF_far {d : List UInt8} {b : Bool} (h : digsOk d b = true) (hv : 4611686018427387904 < valD d ∨ (valD d = 4611686018427387904 ∧ b = false)) : readF d b = (0, 13) := by
  unfold readF; rw [h, if_pos rfl, if_pos hv]
theorem readF_neg {d : List UInt8} (h : digsOk d true = true) (hv : valD d ≤ 4611686018427387904) : readF d true = (-(valD d : Int), 0) := by
  unfold readF; rw [h, if_pos rfl, if_neg (by simp; omega)]; rfl
theorem readF_pos {d : List UInt8} (h : digsOk d false = true) (hv : valD d < 4611686018427387904) : readF d false = ((valD d : Int), 0) := by
  unfold readF; rw [h, if_pos rfl, if_neg (by omega)]; rfl
theorem tdiv_down (x : Int) (h0 : 0 ≤ x) (h1 : x ≤ 9) : (-4611686018427387904 + x).tdiv 10 = -((4611686018427387904 - x) / 10) := by
  rw [show -4611686018427387904 + x = -(4611686018427387904 - x) from by omega, Int.neg_tdiv, Int.tdiv_eq_ediv_of_nonneg (by omega)]

set_option maxHeartbeats 1000000 in
theorem read_neg (s d : ByteArray) (w : World) (hs : s.size ≤ maxLen) (hsp : Splits s d true) (hd : d.size ≤ maxLen) (ok : digsOk d.data.toList true = true) :
    Calls Try.prog 24 #[.string s] w fun e w' => e = .returned (.tuple #[.int .i64 (readF d.data.toList true).1, .int .i64 (readF d.data.toList true).2]) ∧ w = w' := by
  have hp := plain_any s d true w hs hsp
  unfold PlainPost at hp
  rw [ok] at hp
  simp only [if_true, Bool.true_and] at hp
  have HP := Lib.hid hp; clear hp
  have HK := Lib.hid ok; clear ok
  unfold maxLen at hd
  clear hs hsp
  go_enter Try.func24, Try.ntmps24
  go_wp2_with fail
  refine HP.out.mono ?_
  rintro e w' ⟨rfl, rfl⟩
  clear HP
  go_wp2_with fail
  go_loop [7, 20] (fun n i => ∃ k : Nat, k ≤ d.size ∧ i = .int .i64 k ∧ n = .int .i64 (-(valD (d.data.toList.take k) : Int)) ∧ valD (d.data.toList.take k) ≤ 4611686018427387904) (fun _ i => d.size - (intOf i).toNat)
  case atStart => exact ⟨0, by omega, rfl, rfl, by simp [valD]⟩
  case round =>
    obtain ⟨k, hk, rfl, rfl, hv⟩ := hrel
    by_cases hlt : k < d.size
    · have hc := dig_at (ok_all HK.out) k hlt
      have c0 := isDig_lo hc
      have c1 := isDig_hi hc
      have hst := Lib.hid (valD_step d k hlt)
      have htk := Lib.hid (valD_take d (k + 1))
      generalize valD (d.data.toList.take k) = V at *
      have hq := tdiv_down ((d[k].toNat : Int) - 48) (by omega) (by omega)
      clear hc
      by_cases hbig : 4611686018427387904 < 10 * V + (d[k].toNat - 48)
      · have ht : decide (-(V : Int) < (-4611686018427387904 + ((d[k].toNat : Int) - 48)).tdiv 10) = true := by rw [decide_eq_true_eq, hq]; omega
        have HF := Lib.hid (readF_far HK.out (.inl (by have := hst.out; have := htk.out; omega)))
        clear hq hbig
        go_wp2_with fail
        go_ret2
        exact ⟨ret2_ii (by rw [HF.out]) (by rw [HF.out]), rfl⟩
      · have ht : decide (-(V : Int) < (-4611686018427387904 + ((d[k].toNat : Int) - 48)).tdiv 10) = false := by rw [decide_eq_false_iff_not, hq]; omega
        have hb10 : (10 * V : Int) ≤ 4611686018427387904 := by omega
        clear hq
        go_wp2_with fail
        go_round
        case rel => exact ⟨k + 1, by omega, by go_num, by rw [hst.out]; congr 1; omega, by rw [hst.out]; omega⟩
        case measure => simp [intOf]; omega
    · have e : k = d.size := by omega
      subst e
      have hall : d.data.toList.take d.size = d.data.toList := List.take_of_length_le (by simp)
      rw [hall] at hv ⊢
      have HF := Lib.hid (readF_neg HK.out hv)
      generalize valD d.data.toList = V at *
      have hi := isI_t (n := -(V : Int)) (by omega) (by omega)
      clear hall
      go_wp2_with (go_at_call 27; refine (is_any _ _).mono ?_; rintro e w' ⟨rfl, rfl⟩)
      go_ret2
      exact ⟨ret2_ii (by rw [HF.out]) (by rw [HF.out]), rfl⟩

set_option maxHeartbeats 1000000 in
theorem read_pos (s d : ByteArray) (w : World) (hs : s.size ≤ maxLen) (hsp : Splits s d false) (hd : d.size ≤ maxLen) (ok : digsOk d.data.toList false = true) :
    Calls Try.prog 24 #[.string s] w fun e w' => e = .returned (.tuple #[.int .i64 (readF d.data.toList false).1, .int .i64 (readF d.data.toList false).2]) ∧ w = w' := by
  have hp := plain_any s d false w hs hsp
  unfold PlainPost at hp
  rw [ok] at hp
  simp only [if_true, Bool.true_and] at hp
  have HP := Lib.hid hp; clear hp
  have HK := Lib.hid ok; clear ok
  unfold maxLen at hd
  clear hs hsp
  go_enter Try.func24, Try.ntmps24
  go_wp2_with fail
  refine HP.out.mono ?_
  rintro e w' ⟨rfl, rfl⟩
  clear HP
  go_wp2_with fail
  go_loop [7, 20] (fun n i => ∃ k : Nat, k ≤ d.size ∧ i = .int .i64 k ∧ n = .int .i64 (-(valD (d.data.toList.take k) : Int)) ∧ valD (d.data.toList.take k) ≤ 4611686018427387904) (fun _ i => d.size - (intOf i).toNat)
  case atStart => exact ⟨0, by omega, rfl, rfl, by simp [valD]⟩
  case round =>
    obtain ⟨k, hk, rfl, rfl, hv⟩ := hrel
    by_cases hlt : k < d.size
    · have hc := dig_at (ok_all HK.out) k hlt
      have c0 := isDig_lo hc
      have c1 := isDig_hi hc
      have hst := Lib.hid (valD_step d k hlt)
      have htk := Lib.hid (valD_take d (k + 1))
      generalize valD (d.data.toList.take k) = V at *
      have hq := tdiv_down ((d[k].toNat : Int) - 48) (by omega) (by omega)
      clear hc
      by_cases hbig : 4611686018427387904 < 10 * V + (d[k].toNat - 48)
      · have ht : decide (-(V : Int) < (-4611686018427387904 + ((d[k].toNat : Int) - 48)).tdiv 10) = true := by rw [decide_eq_true_eq, hq]; omega
        have HF := Lib.hid (readF_far HK.out (.inl (by have := hst.out; have := htk.out; omega)))
        clear hq hbig
        go_wp2_with fail
        go_ret2
        exact ⟨ret2_ii (by rw [HF.out]) (by rw [HF.out]), rfl⟩
      · have ht : decide (-(V : Int) < (-4611686018427387904 + ((d[k].toNat : Int) - 48)).tdiv 10) = false := by rw [decide_eq_false_iff_not, hq]; omega
        have hb10 : (10 * V : Int) ≤ 4611686018427387904 := by omega
        clear hq
        go_wp2_with fail
        go_round
        case rel => exact ⟨k + 1, by omega, by go_num, by rw [hst.out]; congr 1; omega, by rw [hst.out]; omega⟩
        case measure => simp [intOf]; omega
    · have e : k = d.size := by omega
      subst e
      have hall : d.data.toList.take d.size = d.data.toList := List.take_of_length_le (by simp)
      rw [hall] at hv ⊢
      have hnn : wrap64 (- -(valD d.data.toList : Int)) = (valD d.data.toList : Int) := by unfold wrap64; omega
      by_cases hbig : valD d.data.toList = 4611686018427387904
      · have HF := Lib.hid (readF_far HK.out (.inr ⟨hbig, rfl⟩))
        have hi := isI_f (n := (valD d.data.toList : Int)) (by omega)
        have HB := Lib.hid hbig
        clear hall hbig
        generalize valD d.data.toList = V at *
        go_wp2_with (go_at_call 27; refine (is_any _ _).mono ?_; rintro e w' ⟨rfl, rfl⟩)
        go_ret2
        exact ⟨ret2_ii (by rw [HF.out]) (by rw [HF.out]), rfl⟩
      · have HF := Lib.hid (readF_pos HK.out (by omega))
        have hi := isI_t (n := (valD d.data.toList : Int)) (by omega) (by omega)
        clear hall hbig
        generalize valD d.data.toList = V at *
        go_wp2_with (go_at_call 27; refine (is_any _ _).mono ?_; rintro e w' ⟨rfl, rfl⟩)
        go_ret2
        exact ⟨ret2_ii (by rw [HF.out]) (by rw [HF.out]), rfl⟩

set_option maxHeartbeats 1000000 in
theorem read_no (s d : ByteArray) (w : World) (below : Bool) (hs : s.size ≤ maxLen) (hsp : Splits s d below) (ok : digsOk d.data.toList below = false) :
    Calls Try.prog 24 #[.string s] w fun e w' => e = .returned (.tuple #[.int .i64 (readF d.data.toList below).1, .int .i64 (readF d.data.toList below).2]) ∧ w = w' := by
  have hp := plain_any s d below w hs hsp
  unfold PlainPost at hp
  rw [ok] at hp
  simp only [Bool.false_and] at hp
  have HP := Lib.hid hp; clear hp
  have HF := Lib.hid (readF_no ok); clear ok
  clear hs hsp
  go_enter Try.func24, Try.ntmps24
  go_wp2_with fail
  refine HP.out.mono ?_
  rintro e w' ⟨rfl, rfl⟩
  clear HP
  go_wp2_with fail
  go_ret2
  exact ⟨ret2_ii (by rw [HF.out]) (by rw [HF.out]), rfl⟩
theorem splits_size {s d : ByteArray} {b : Bool} (h : Splits s d b) : d.size ≤ s.size := by
  rcases h with ⟨_, hp, _, hd⟩ | ⟨_, rfl, _⟩
  · rw [← hd]; simp
  · exact Nat.le_refl _
theorem read_any (s d : ByteArray) (w : World) (below : Bool) (hs : s.size ≤ maxLen) (hsp : Splits s d below) :
    Calls Try.prog 24 #[.string s] w fun e w' => e = .returned (.tuple #[.int .i64 (readF d.data.toList below).1, .int .i64 (readF d.data.toList below).2]) ∧ w = w' := by
  have hd := Nat.le_trans (splits_size hsp) hs
  rcases h : digsOk d.data.toList below with _ | _
  · exact read_no s d w below hs hsp h
  · cases below
    · exact read_pos s d w hs hsp hd h
    · exact read_neg s d w hs hsp hd h
end Go.Proofs.Ytihenoielkkdkaa
