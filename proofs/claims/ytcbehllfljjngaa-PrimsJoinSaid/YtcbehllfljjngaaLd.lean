/- The law PrimsJoin: its walk. -/
import Derived.Test.YtcbehllfljjngaaJFact
import Derived.Test.YtcbehllfljjngaaRWalkJ
namespace Go.Proofs.Ytcbehllfljjngaa
open Go.RowKit
set_option linter.unusedVariables false
attribute [local go_sem ↓] Go.wp_at_zero Go.wp_at_succ

theorem cut70_le (s : ByteArray) : (cut70 s).size ≤ 70 := by
  unfold cut70
  split
  · rw [ByteArray.size_extract]; omega
  · omega
/-- A heap of the law's own: what lies ahead of it stays. -/
structure Own (w0 : World) (e hb : Nat) (H : Hp) (w : World) : Prop where
  heap : HeapAt w w0.heap.size e hb 400 H
  below : Below w0.heap.size w0 w
theorem Own.later {w0 w w' : World} {e hb : Nat} {H : Hp} (h : Own w0 e hb H w) (hb' : Below w.heap.size w w') : Own w0 e hb H w' := ⟨h.heap.later hb', h.below.trans (hb'.mono h.below.size)⟩
theorem Own.on {w0 w w' : World} {e hb : Nat} {H H' : Hp} (h : Own w0 e hb H w) (hh : HeapAt w' w0.heap.size e hb 400 H') (hm : Mid w0.heap.size e w w') : Own w0 e hb H' w' := ⟨hh, h.below.trans (hm.below h.below.size)⟩
set_option maxRecDepth 100000 in
set_option maxHeartbeats 4000000 in
theorem primsJoin_walk (s0 t0 : ByteArray) (w : World) (hs : s0.size ≤ maxLen) (ht : t0.size ≤ maxLen) :
    Calls Try.prog 6 #[.string s0, .string t0] w fun e w' => e = .returned (.bool true) ∧ Below w.heap.size w w' := by
  have hs' := cut70_le s0
  have ht' := cut70_le t0
  go_enter Try.func6, Try.ntmps6
  go_upto_if 20 with (fail)
  go_cut [0] (fun p wx => p = .string (cut70 s0) ∧ wx = w)
  case first =>
    by_cases h70 : 70 < s0.size
    · have HC : Hid (cut70 s0 = s0.extract 0 70) := if_pos h70
      go_wp2_with fail
      go_meet
      rw [HC.out]
      exact ⟨rfl, rfl⟩
    · have HC : Hid (cut70 s0 = s0) := if_neg h70
      go_wp2_with fail
      go_meet
      rw [HC.out]
      exact ⟨rfl, rfl⟩
  case rest =>
    obtain ⟨rfl, rfl⟩ := hcut
    generalize cut70 s0 = s at *
    go_upto_if 25 with (fail)
    go_cut [1] (fun p wx => p = .string (cut70 t0) ∧ wx = wc)
    case first =>
      by_cases h70 : 70 < t0.size
      · have HC : Hid (cut70 t0 = t0.extract 0 70) := if_pos h70
        go_wp2_with fail
        go_meet
        rw [HC.out]
        exact ⟨rfl, rfl⟩
      · have HC : Hid (cut70 t0 = t0) := if_neg h70
        go_wp2_with fail
        go_meet
        rw [HC.out]
        exact ⟨rfl, rfl⟩
    case rest =>
      obtain ⟨rfl, rfl⟩ := hcut
      generalize cut70 t0 = t at *
      have HSM : Hid (s.size ≤ maxLen) := Nat.le_trans hs' (by unfold maxLen; omega)
      have HTM : Hid (t.size ≤ maxLen) := Nat.le_trans ht' (by unfold maxLen; omega)
      go_wp2_with fail
      refine (heapNew_any 400 (by decide) (by decide) _).mono ?_
      rintro e w1 ⟨hb, rfl, h1, b1⟩
      have O1 : Hid (Own _ _ hb [] w1) := ⟨h1, b1⟩
      clear h1 b1
      by_cases hlong : 60 < s.size ∨ 60 < t.size
      · obtain ⟨a, b, H1, H2, wa, wb, t1, t2, j⟩ := join_long s.data.toList t.data.toList (by rw [size_data, size_data]; exact hlong)
        rw [size_data] at t1 t2
        have WA := Lib.hid wa
        have WB := Lib.hid wb
        have J := Lib.hid j
        clear wa wb j
        rcases (by omega : (60 < s.size ∧ 60 < t.size) ∨ (60 < s.size ∧ ¬ 60 < t.size) ∨ (¬ 60 < s.size ∧ 60 < t.size)) with ⟨x, y⟩ | ⟨x, y⟩ | ⟨x, y⟩
        all_goals
          first | rw [if_pos x] at t1 | rw [if_neg x] at t1
          first | rw [if_pos y] at t2 | rw [if_neg y] at t2
          have T1 := Lib.hid t1
          have T2 := Lib.hid t2
          clear t1 t2 hlong
          go_wp2_with fail
          refine (text_to O1.out.heap s HSM.out T1.out).mono ?_
          rintro e w2 ⟨rfl, hh, hm⟩
          have O2 := Lib.hid (O1.out.on hh hm)
          clear hh hm O1
          go_wp2_with fail
          refine (text_to O2.out.heap t HTM.out T2.out).mono ?_
          rintro e w3 ⟨rfl, hh, hm⟩
          have O3 := Lib.hid (O2.out.on hh hm)
          clear hh hm O2
          go_wp2_with fail
          refine (join_to O3.out.heap WA.out WB.out J.out).mono ?_
          rintro e w4 ⟨rfl, hh, hm⟩
          have O4 := Lib.hid (O3.out.on hh hm)
          clear hh hm O3
          go_wp2_with (go_at_call 11; refine (lives_any _).mono ?_; rintro e w' ⟨rfl, hb⟩)
          go_ret
          exact ⟨rt_b (by simp <;> omega), O4.out.below.trans (hb.mono O4.out.below.size)⟩
      · have hs6 : s.size ≤ 60 := by omega
        have ht6 : t.size ≤ 60 := by omega
        clear hlong
        obtain ⟨a, b, H1, H2, wa, wb, t1, t2, jf, jn⟩ := join_short s.data.toList t.data.toList (by rw [size_data]; exact hs6) (by rw [size_data]; exact ht6)
        rw [size_data, size_data] at jf jn
        have WA := Lib.hid wa
        have WB := Lib.hid wb
        have T1 := Lib.hid t1
        have T2 := Lib.hid t2
        clear wa wb t1 t2
        by_cases hsum : 60 < s.size + t.size
        · obtain ⟨j, sa, sb⟩ := jf hsum
          have J := Lib.hid j
          have SA := Lib.hid sa
          have SB := Lib.hid sb
          clear jf jn j sa sb
          go_wp2_with fail
          refine (text_to O1.out.heap s HSM.out T1.out).mono ?_
          rintro e w2 ⟨rfl, hh, hm⟩
          have O2 := Lib.hid (O1.out.on hh hm)
          clear hh hm O1
          go_wp2_with fail
          refine (text_to O2.out.heap t HTM.out T2.out).mono ?_
          rintro e w3 ⟨rfl, hh, hm⟩
          have O3 := Lib.hid (O2.out.on hh hm)
          clear hh hm O2
          go_wp2_with fail
          refine (join_to O3.out.heap WA.out WB.out J.out).mono ?_
          rintro e w4 ⟨rfl, hh, hm⟩
          have O4 := Lib.hid (O3.out.on hh hm)
          clear hh hm O3
          go_wp2_with fail
          refine (str_at O4.out.heap a WA.out s SA.out).mono ?_
          rintro e w5 ⟨rfl, b5⟩
          have O5 := Lib.hid (O4.out.later b5)
          clear b5 O4
          go_wp2_with fail
          refine (str_at O5.out.heap b WB.out t SB.out).mono ?_
          rintro e w6 ⟨rfl, b6⟩
          have O6 := Lib.hid (O5.out.later b6)
          clear b6 O5
          go_wp2_with (go_at_call 11; refine (lives_any _).mono ?_; rintro e w' ⟨rfl, hb⟩)
          go_ret
          exact ⟨rfl, O6.out.below.trans (hb.mono O6.out.below.size)⟩
        · have hsum' : s.size + t.size ≤ 60 := by omega
          obtain ⟨c, H3, wc', j, sa, sb, sc⟩ := jn hsum'
          have J := Lib.hid j
          have SA := Lib.hid sa
          have SB := Lib.hid sb
          have WC := Lib.hid wc'
          have SC : Hid (strF H3 c = ((s ++ t).data.toList, 0)) := by
            show _ = _
            rw [sc, ByteArray.data_append, Array.toList_append]
          clear jf jn j sa sb sc wc' hsum
          go_wp2_with fail
          refine (text_to O1.out.heap s HSM.out T1.out).mono ?_
          rintro e w2 ⟨rfl, hh, hm⟩
          have O2 := Lib.hid (O1.out.on hh hm)
          clear hh hm O1
          go_wp2_with fail
          refine (text_to O2.out.heap t HTM.out T2.out).mono ?_
          rintro e w3 ⟨rfl, hh, hm⟩
          have O3 := Lib.hid (O2.out.on hh hm)
          clear hh hm O2
          go_wp2_with fail
          refine (join_to O3.out.heap WA.out WB.out J.out).mono ?_
          rintro e w4 ⟨rfl, hh, hm⟩
          have O4 := Lib.hid (O3.out.on hh hm)
          clear hh hm O3
          go_wp2_with fail
          refine (str_at O4.out.heap a WA.out s SA.out).mono ?_
          rintro e w5 ⟨rfl, b5⟩
          have O5 := Lib.hid (O4.out.later b5)
          clear b5 O4
          go_wp2_with fail
          refine (str_at O5.out.heap b WB.out t SB.out).mono ?_
          rintro e w6 ⟨rfl, b6⟩
          have O6 := Lib.hid (O5.out.later b6)
          clear b6 O5
          go_wp2_with fail
          refine (str_at O6.out.heap c WC.out (s ++ t) SC.out).mono ?_
          rintro e w7 ⟨rfl, b7⟩
          have O7 := Lib.hid (O6.out.later b7)
          clear b7 O6
          go_wp2_with (go_at_call 11; refine (lives_any _).mono ?_; rintro e w' ⟨rfl, hb⟩)
          go_ret
          exact ⟨rfl, O7.out.below.trans (hb.mono O7.out.below.size)⟩
end Go.Proofs.Ytcbehllfljjngaa
