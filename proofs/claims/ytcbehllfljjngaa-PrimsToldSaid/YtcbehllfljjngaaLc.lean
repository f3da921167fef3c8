/- The law PrimsTold: its walk. -/
import Derived.Test.YtcbehllfljjngaaLb
namespace Go.Proofs.Ytcbehllfljjngaa
open Go.RowKit
set_option linter.unusedVariables false
attribute [local go_sem ↓] Go.wp_at_zero Go.wp_at_succ

theorem same_rows {w : World} {n m c d : Nat} {A A2 : Option Addr} {zs : List Int} (h1 : Ints w w.heap.size A n zs) (h2 : Ints w w.heap.size A2 m zs) (hn : n ≤ 1000) (hm : m ≤ 1000) :
    Calls Try.prog 19 #[.slice A n c, .slice A2 m d] w fun e w' => e = .returned (.bool true) ∧ Below w.heap.size w w' := by
  refine (same_any w _ A A2 n m c d zs zs h1 h2 (by omega) (by omega)).mono ?_
  rintro e w' ⟨rfl, hb⟩
  exact ⟨by simp, hb⟩
theorem Ints.later {w w' : World} {A : Option Addr} {n : Nat} {zs : List Int} (h : Ints w w.heap.size A n zs) (hb : Below w.heap.size w w') : Ints w' w'.heap.size A n zs := (h.below hb).more hb.size
set_option maxRecDepth 100000 in
set_option maxHeartbeats 4000000 in
theorem primsTold_walk (A : Option Addr) (n c : Nat) (ds : List Deed) (v : Int) (w : World) (hz : DeedsAt w w.heap.size A n ds ∧ n ≤ 9223372036854775807) (hv : (Lit.int .i64 v).wf = true) :
    Calls Try.prog 7 #[.slice A n c, .int .i64 v] w fun e w' => e = .returned (.bool true) ∧ Below w.heap.size w w' := by
  obtain ⟨hd, hn⟩ := hz
  have HD := Lib.hid hd
  have HN := Lib.hid hn
  have HV : Hid (WfI v) := Lib.hid hv
  have HB0 := Lib.hid (fun (w1 : World) (hb : Nat) h hb1 => two_start (w := w) (w1 := w1) (hb := hb) h hb1)
  clear hd hv
  go_enter Try.func7, Try.ntmps7
  go_wp2_with fail
  refine (heapNew_any 400 (by decide) (by decide) w).mono ?_
  rintro e w1 ⟨hb, rfl, h1, b1⟩
  have HT := Lib.hid (HB0.out w1 hb h1 b1)
  have HB1 := Lib.hid b1
  clear h1 b1 HB0
  go_wp2_with fail
  refine (rnew_any 400 (by decide) (by decide) w1).mono ?_
  rintro e w2 ⟨rfl, he⟩
  rw [← he] at HT
  clear he
  go_upto_block 0 with (fail)
  go_cut [7] (fun _ wx => ∃ L, Two w w.heap.size w1.heap.size hb 400 w1.heap.size w1.heap.size L L wx)
  case first =>
    go_wp2_with fail
    go_loopw [7] (fun i wr => ∃ k : Nat, k ≤ n ∧ k ≤ 20 ∧ i = .int .i64 k ∧ Two w w.heap.size w1.heap.size hb 400 w1.heap.size w1.heap.size (runL 400 ds k []) (runL 400 ds k []) wr) (fun i _ => 20 - (intOf i).toNat)
    case atStart => exact ⟨0, Nat.zero_le _, Nat.zero_le _, rfl, HT.out⟩
    case round =>
      obtain ⟨k, hk, hk40, rfl, hb⟩ := hrel
      have HR := Lib.hid hb
      clear hb HT
      by_cases hlt : k < n
      · by_cases hlt2 : k < 20
        · obtain ⟨g, off, rfl, hg, x0, x1, x2, x3, hw, A', n', c', x4, hi, hn'⟩ := (HD.out.below HR.out.below).at_ hlt
          have HI := Lib.hid (hi.more HR.out.below.size)
          have HN' := Lib.hid hn'
          have HWF := Lib.hid hw
          have HX := Lib.hid (runL_succ (N := 400) (ds := ds) (by have := HD.out.1; omega : k < ds.length) [])
          clear hi hn' hw
          generalize ds.getD k deed0 = d at *
          go_wp2_with fail
          refine (does_two HR.out d HWF.out HI.out HN'.out).mono ?_
          rintro e w3 ⟨rfl, hb2⟩
          rw [← HX.out] at hb2
          have H2 := Lib.hid hb2
          clear hb2 HR HI HN' x0 x1 x2 x3 x4 HX HWF
          go_wp2_with fail
          go_roundw
          case rel => exact ⟨k + 1, by omega, by omega, by go_num, H2.out⟩
          case measure => simp [intOf]; omega
        · go_wp2_with fail
          go_meet
          exact ⟨_, HR.out⟩
      · go_wp2_with fail
        go_meet
        exact ⟨_, HR.out⟩
  case rest =>
    obtain ⟨L, ht⟩ := hcut
    have H0 := Lib.hid ht
    clear ht HT
    have HZ := Lib.hid (wordF_wf H0.out.ref HV.out)
    go_wp2_with fail
    refine (word_any H0.out.ref v HV.out).mono ?_
    rintro e w3 ⟨rfl, b3⟩
    have H3 := Lib.hid (H0.out.later b3)
    clear b3 H0
    generalize wordF L v = z at *
    go_wp2_with fail
    refine (str_any H3.out.heap z HZ.out).mono ?_
    rintro e w4 ⟨rfl, b4⟩
    have H4 := Lib.hid (H3.out.later b4)
    clear b4 H3
    have HS := Lib.hid (rstr_any H4.out.ref z HZ.out)
    generalize strF L z = sf at *
    generalize (⟨sf.1.toArray⟩ : ByteArray) = s1 at *
    generalize sf.2 = s2 at *
    go_wp2_with fail
    refine HS.out.mono ?_
    rintro e w5 ⟨rfl, b5⟩
    have H5 := Lib.hid (H4.out.later b5)
    clear b5 H4 HS
    go_wp2_with fail
    refine (open_any H5.out.heap z HZ.out).mono ?_
    rintro e w6 ⟨A6, n6, c6, rfl, i6, h6, b6⟩
    have H6 := Lib.hid (H5.out.later b6)
    have I6 := Lib.hid i6
    clear b6 H5 i6
    have HO := Lib.hid (ropen_any H6.out.ref z HZ.out)
    generalize openF L z = of at *
    obtain ⟨o1, o2, o3⟩ := of
    go_wp2_with fail
    refine HO.out.mono ?_
    rintro e w7 ⟨A7, n7, c7, rfl, i7, h7, b7⟩
    have H7 := Lib.hid (H6.out.later b7)
    have J7 := Lib.hid (I6.out.later b7)
    have I7 := Lib.hid i7
    clear b7 H6 i7 I6 HO
    go_wp2_with fail
    refine (case_any H7.out.heap z HZ.out).mono ?_
    rintro e w8 ⟨rfl, rfl⟩
    have HC := Lib.hid (rcase_any H7.out.ref z HZ.out)
    generalize caseF L z = cf at *
    obtain ⟨f1, f2⟩ := cf
    go_wp2_with fail
    refine HC.out.mono ?_
    rintro e w9 ⟨rfl, b9⟩
    have H9 := Lib.hid (H7.out.later b9)
    have J9 := Lib.hid (J7.out.later b9)
    have I9 := Lib.hid (I7.out.later b9)
    clear b9 H7 J7 I7 HC
    go_wp2_with fail
    refine (same_rows J9.out I9.out (by omega) (by omega)).mono ?_
    rintro e wa ⟨rfl, ba⟩
    have HA := Lib.hid (H9.out.later ba)
    clear ba H9 J9 I9
    go_wp2_with (go_at_call 11; refine (lives_any _).mono ?_; rintro e w' ⟨rfl, hb⟩)
    go_ret
    exact ⟨rfl, HA.out.below.trans (hb.mono HA.out.below.size)⟩
end Go.Proofs.Ytcbehllfljjngaa
