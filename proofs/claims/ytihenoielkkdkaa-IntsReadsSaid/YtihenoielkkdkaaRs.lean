/- Walks of the laws of layer 1: IntsShows, IntsReads. -/
import Derived.Test.YtihenoielkkdkaaWalkT
import Derived.Test.YtihenoielkkdkaaPlainU
import Derived.Test.YtihenoielkkdkaaWalkF
import Derived.OpenShut
namespace Go.Proofs.Ytihenoielkkdkaa
open Go.RowKit
set_option linter.unusedVariables false
set_option maxHeartbeats 1000000 in
theorem intsShows_walk (n : Int) (w : World) (w0 : (Lit.int .i64 n).wf = true) :
    Calls Try.prog 11 #[.int .i64 n] w fun e w' => e = .returned (.bool true) ∧ Below w.heap.size w w' := by
  obtain ⟨l, m⟩ := bounds_i64 w0
  clear w0
  obtain ⟨d, b, hsp, hrd⟩ := show_read (cw n) (cw_lo n) (cw_hi n)
  have HS := Lib.hid hsp; have HR := Lib.hid hrd; have HL := Lib.hid (shw_len (cw n))
  clear hsp hrd
  go_enter Try.func11, Try.ntmps11
  go_wp2_with fail
  refine (show_any n w).mono ?_
  rintro e w1 ⟨rfl, hb1⟩
  generalize hS : (⟨(shw (cw n)).toArray⟩ : ByteArray) = S at *
  have HE := Lib.hid hS; clear hS
  go_wp2_with fail
  refine (read_any S d w1 b HL.out HS.out).mono ?_
  rintro e w' ⟨rfl, rfl⟩
  rw [HR.out]
  go_wp2_with fail
  refine (rshow_any n w1 l m).mono ?_
  rintro e w2 ⟨rfl, hb2⟩
  rw [HE.out]
  have hb3 := hb1.trans (hb2.mono hb1.size)
  clear hb1 hb2
  go_wp2_with fail
  refine (rwrap_any n w2 l m).mono ?_
  rintro e w' ⟨rfl, rfl⟩
  go_wp2_with fail
  refine (lives_any _).mono ?_
  rintro e w4 ⟨rfl, hb4⟩
  have hb5 := hb3.trans (hb4.mono hb3.size)
  clear hb3 hb4
  go_wp2_with fail
  go_ret
  exact ⟨rfl, hb5⟩
set_option maxHeartbeats 1000000 in
theorem reads_core (s t d : ByteArray) (b : Bool) (w : World) (hs : s.size ≤ 9223372036854775807) (ht : t.size ≤ maxLen)
    (hsp : Splits t d b) (h : (60 < (s.size : Int)) ∧ s.extract 0 60 = t ∨ ¬ (60 < (s.size : Int)) ∧ s = t) :
    Calls Try.prog 12 #[.string s] w fun e w' => e = .returned (.bool true) ∧ Below w.heap.size w w' := by
  have HT := Lib.hid ht; have HS := Lib.hid hsp; clear ht hsp
  rcases h with ⟨h60, rfl⟩ | ⟨h60, rfl⟩
  all_goals
    go_enter Try.func12, Try.ntmps12
    go_wp2_with fail
    refine (read_any _ d w b HT.out HS.out).mono ?_
    rintro e w' ⟨rfl, rfl⟩
    go_wp2_with fail
    refine (rread_any _ d w b HT.out HS.out).mono ?_
    rintro e w' ⟨rfl, rfl⟩
    generalize (readF d.data.toList b).1 = x
    generalize (readF d.data.toList b).2 = y
    go_wp2_with (go_at_call 15; refine (lives_any _).mono ?_; rintro e w' ⟨rfl, hb⟩)
    go_ret
    exact ⟨rfl, hb⟩
theorem intsReads_walk (s : ByteArray) (w : World) (hs : s.size ≤ maxLen) :
    Calls Try.prog 12 #[.string s] w fun e w' => e = .returned (.bool true) ∧ Below w.heap.size w w' := by
  have h2 := hs
  unfold maxLen at hs
  by_cases h : 60 < s.size
  · obtain ⟨d, b, hsp⟩ := splits_ex (s.extract 0 60)
    exact reads_core s _ d b w (by omega) (by have : (s.extract 0 60).size ≤ 60 := by simp; omega
                                              unfold maxLen; omega) hsp (.inl ⟨by omega, rfl⟩)
  · obtain ⟨d, b, hsp⟩ := splits_ex s
    exact reads_core s _ d b w (by omega) h2 hsp (.inr ⟨by omega, rfl⟩)
end Go.Proofs.Ytihenoielkkdkaa
