/- The law SchedOver: its walk. -/
import Derived.Test.YtibgchnfodpehaaLc
namespace Go.Proofs.Ytibgchnfodpehaa
open Go.RowKit
set_option linter.unusedVariables false

set_option maxRecDepth 100000 in
set_option maxHeartbeats 4000000 in
theorem schedOver_walk (A : Option Addr) (n c : Nat) (ds : List Deed) (v : Int) (A2 : Option Addr) (m c2 : Nat) (es : List Deed) (w : World) (hz : DeedsAt w w.heap.size A n ds ∧ n ≤ 9223372036854775807) (hv : (Lit.int .i64 v).wf = true) (hy : DeedsAt w w.heap.size A2 m es ∧ m ≤ 9223372036854775807) :
    Calls Try.prog 7 #[.slice A n c, .int .i64 v, .slice A2 m c2] w fun e w' => e = .returned (.bool true) ∧ Below w.heap.size w w' := by
  obtain ⟨hd, hn⟩ := hz
  obtain ⟨he, hm⟩ := hy
  have HD := Lib.hid hd
  have HE := Lib.hid he
  have HB0 := Lib.hid (Both.start w)
  clear hd he hv
  go_enter Try.func7, Try.ntmps7
  go_upto_block 0 with (go_at_call 8; refine (new_any _).mono ?_; rintro e w' ⟨rfl, rfl⟩)
  generalize (w.alloc (.cells #[.slice none 0 0] 52)).alloc (.cells #[.slice none 0 0] 38) = w1 at *
  go_cut [9] (fun _ wc => ∃ L, Both w w.heap.size (w.heap.size + 1) w.heap.size L wc)
  case first =>
    go_wp2_with fail
    go_loopw [9] (fun i wr => ∃ k : Nat, k ≤ n ∧ k ≤ 20 ∧ i = .int .i64 k ∧ Both w w.heap.size (w.heap.size + 1) w.heap.size (runL ds k []) wr) (fun i _ => 20 - (intOf i).toNat)
    case atStart => exact ⟨0, Nat.zero_le _, Nat.zero_le _, rfl, HB0.out⟩
    case round =>
      obtain ⟨k, hk, hk40, rfl, hb⟩ := hrel
      have HR := Lib.hid hb
      clear hb HB0
      by_cases hlt : k < n
      · by_cases hlt2 : k < 20
        · obtain ⟨g, off, A', n', c', rfl, hg, x0, x1, x2, hi, hn'⟩ := (HD.out.below HR.out.below).at_ hlt
          have HI := Lib.hid (hi.more HR.out.below.size)
          have HN' := Lib.hid hn'
          have HX := Lib.hid (runL_succ (ds := ds) (by have := HD.out.1; omega : k < ds.length) [])
          clear hi hn'
          generalize ds.getD k deed0 = d at *
          go_wp2_with fail
          refine (does_both HR.out (Nat.le_refl _) (Nat.le_succ _) d HI.out HN'.out).mono ?_
          rintro e w2 ⟨rfl, hb2⟩
          rw [← HX.out] at hb2
          have H2 := Lib.hid hb2
          clear hb2 HR HI HN' x0 x1 x2 HX
          go_wp2_with fail
          go_roundw
          case rel => exact ⟨k + 1, by omega, by omega, by go_num, H2.out⟩
          case measure => simp [intOf]; omega
        · go_wp2_with fail
          go_meet
          exact ⟨_, HR.out⟩
      · go_wp2_with fail
        go_meet
        exact ⟨_, HR.out⟩
  case rest =>
    obtain ⟨L, hb⟩ := hcut
    have HB := Lib.hid hb
    clear hb HB0 HD
    go_wp2_with fail
    refine (end_any wc _ _ L v HB.out.tab).mono ?_
    rintro e w2 ⟨rfl, t2, f2⟩
    have T2 := Lib.hid t2
    have R2 := Lib.hid (HB.out.rab.keep f2 (by decide) (by decide) (by decide) (by decide) (by decide) (by decide))
    have B2 : Hid (Below w.heap.size w w2) := HB.out.below.trans f2.below
    clear t2 f2 HB
    go_wp2_with fail
    refine (rend_any w2 _ _ L v R2.out).mono ?_
    rintro e w3 ⟨rfl, t3, f3⟩
    have H3 : Hid (Both w w.heap.size (w.heap.size + 1) w.heap.size (endL L v) w3) := ⟨T2.out.keep f3 (by decide) (by decide) (by decide) (by decide) (by decide) (by decide), t3, B2.out.trans (f3.below.mono (by omega))⟩
    clear t3 f3 T2 R2 B2
    generalize endE L v = ee at *
    by_cases hneg : v < 0
    · go_wp2_with (go_at_call 14; refine (lives_any _).mono ?_; rintro e w' ⟨rfl, hb⟩)
      go_ret
      exact ⟨rfl, H3.out.below.trans (hb.mono H3.out.below.size)⟩
    · obtain ⟨p, rfl⟩ := Int.eq_ofNat_of_zero_le (show 0 ≤ v by omega)
      have HV : Hid (p < L.length → OverAt (endL L p) p) := fun h => over_ends h
      have hlen := endL_len L p
      have C1 : Calls Try.prog 22 #[.pointer (some ⟨w.heap.size, 0, none⟩)] w3 fun e w' => e = .returned (.int .i64 (L.length : Nat)) ∧ w3 = w' := by
        have := len_any w3 _ _ _ H3.out.tab
        rw [hlen] at this; exact this
      clear hlen hneg
      generalize hEL : endL L p = M at *
      clear hEL
      generalize L.length = q at *
      by_cases hpq : p < q
      · have HS : Hid (∃ M, Both w w.heap.size (w.heap.size + 1) w.heap.size M w3 ∧ OverAt M p) := ⟨M, H3.out, HV.out hpq⟩
        clear HV H3
        go_wp2_with fail
        refine C1.mono ?_
        rintro e w4 ⟨rfl, rfl⟩
        clear C1
        go_upto_block 2 with (fail)
        go_cut [10] (fun _ wx => ∃ M, Both w w.heap.size (w.heap.size + 1) w.heap.size M wx ∧ OverAt M p)
        case first =>
          go_wp2_with fail
          go_loopw [10] (fun i wr => ∃ k : Nat, k ≤ m ∧ k ≤ 20 ∧ i = .int .i64 k ∧ ∃ M, Both w w.heap.size (w.heap.size + 1) w.heap.size M wr ∧ OverAt M p) (fun i _ => 20 - (intOf i).toNat)
          case atStart => exact ⟨0, Nat.zero_le _, Nat.zero_le _, rfl, HS.out⟩
          case round =>
            obtain ⟨k, hk, hk40, rfl, M, hbt, hov⟩ := hrel
            have HR := Lib.hid hbt
            have HO := Lib.hid hov
            clear hbt hov HS
            by_cases hlt : k < m
            · by_cases hlt2 : k < 20
              · obtain ⟨g, off, A', n', c', rfl, hg, x0, x1, x2, hi, hn'⟩ := (HE.out.below HR.out.below).at_ hlt
                have HI := Lib.hid (hi.more HR.out.below.size)
                have HN' := Lib.hid hn'
                clear hi hn'
                generalize es.getD k deed0 = d at *
                by_cases h2 : d.k = 2
                · have hb2 : (d.k == 2) = true := beq_iff_eq.2 h2
                  have HG := Lib.hid hg
                  have HX1 := Lib.hid x1
                  clear h2 hg
                  generalize d.n = dn at *
                  go_wp2_with fail
                  refine (wake_any wr _ _ M dn HR.out.tab).mono ?_
                  rintro e w4 ⟨A4, q4, c4, rfl, o4, t4, f4⟩
                  have HL4 : Hid ((wakeZ M dn).length = q4) := own_len o4
                  have O4 := Lib.hid o4
                  have T4 := Lib.hid t4
                  have R4 := Lib.hid (HR.out.rab.keep f4 (by decide) (by decide) (by decide) (by decide) (by decide) (by decide))
                  have B4 : Hid (Below w.heap.size w w4) := HR.out.below.trans f4.below
                  have y1 : w4.cell? ⟨g, off + k * 3 + 1, none⟩ = some (.int .i64 dn) := (f4.below.cell (p := ⟨g, off + k * 3 + 1, none⟩) HG.out).trans HX1.out
                  have hq84 : q4 ≤ 8 := by have h1 := wakeZ_len M dn; have h2 := HR.out.tab.len; rw [HL4.out] at h1; omega
                  clear o4 t4 f4 HR x0 x1 x2 HX1 HI HN'
                  go_wp2_with fail
                  go_loop [12] (fun i => ∃ j : Nat, j ≤ q4 ∧ i = .int .i64 j) (fun i => q4 - (intOf i).toNat)
                  case atStart => exact ⟨0, Nat.zero_le _, rfl⟩
                  case round =>
                    obtain ⟨j, hj, rfl⟩ := hrel
                    by_cases hlt3 : j < q4
                    · obtain ⟨g4, rfl, _, _, z0⟩ := own_at O4.out (k := j) hlt3
                      have hne : ((wakeZ M dn).getD j 0 == (p : Int)) = false := beq_eq_false_iff_ne.2 ((over_facts HO.out).2.2.2.2.1 dn j (by have := HL4.out; omega))
                      generalize (wakeZ M dn).getD j 0 = x at *
                      clear y1
                      go_wp2_with fail
                      go_round
                      case rel => exact ⟨j + 1, by omega, by go_num⟩
                      case measure => simp [intOf]; omega
                    · go_wp2_with fail
                      refine (rwake_any w4 _ _ M dn R4.out).mono ?_
                      rintro e wc2 ⟨A5, q5, c5, rfl, _, t5, f5⟩
                      have HM : Hid (Both w w.heap.size (w.heap.size + 1) w.heap.size (wakeL M dn) wc2) := ⟨T4.out.keep f5 (by decide) (by decide) (by decide) (by decide) (by decide) (by decide), t5, B4.out.trans (f5.below.mono (by omega))⟩
                      have HO2 := Lib.hid (over_wake HO.out dn)
                      clear t5 f5 T4 R4 B4 y1 HO O4 HL4 hq84 hlt3
                      generalize wakeL M dn = M2 at *
                      go_wp2_with fail
                      refine (ready_any wc2 _ _ M2 HM.out.tab).mono ?_
                      rintro e w4 ⟨A4, q, c4, rfl, o4, b4⟩
                      have HL : Hid ((readyL M2).length = q) := own_len o4
                      have O4 := Lib.hid o4
                      have H4 := Lib.hid (HM.out.later b4)
                      have hq8 : q ≤ 8 := by have h1 := readyL_len M2; have h2 := HM.out.tab.len; rw [HL.out] at h1; omega
                      clear o4 b4 HM
                      go_wp2_with fail
                      go_loop [15] (fun i => ∃ k : Nat, k ≤ q ∧ i = .int .i64 k) (fun i => q - (intOf i).toNat)
                      case atStart => exact ⟨0, Nat.zero_le _, rfl⟩
                      case round =>
                        obtain ⟨j, hj, rfl⟩ := hrel
                        by_cases hlt3 : j < q
                        · obtain ⟨g, rfl, _, _, x0⟩ := own_at O4.out (k := j) hlt3
                          have hne : ((readyL M2).getD j 0 == (p : Int)) = false := beq_eq_false_iff_ne.2 ((over_facts HO2.out).2.2.2.2.2 j (by have := HL.out; omega))
                          generalize (readyL M2).getD j 0 = x at *
                          go_wp2_with fail
                          go_round
                          case rel => exact ⟨j + 1, by omega, by go_num⟩
                          case measure => simp [intOf]; omega
                        · go_wp2_with fail
                          go_roundw
                          case rel => exact ⟨k + 1, by omega, by omega, by go_num, M2, H4.out, HO2.out⟩
                          case measure => simp [intOf]; omega
                · have hb2 : (d.k == 2) = false := beq_eq_false_iff_ne.2 h2
                  clear h2
                  go_wp2_with fail
                  refine (does_both HR.out (Nat.le_refl _) (Nat.le_succ _) d HI.out HN'.out).mono ?_
                  rintro e wc2 ⟨rfl, hb4⟩
                  have HM := Lib.hid hb4
                  have HO2 := Lib.hid (over_do HO.out d)
                  clear hb4 HR HI HN' x0 x1 x2 HO
                  generalize doL M d = M2 at *
                  go_wp2_with fail
                  refine (ready_any wc2 _ _ M2 HM.out.tab).mono ?_
                  rintro e w4 ⟨A4, q, c4, rfl, o4, b4⟩
                  have HL : Hid ((readyL M2).length = q) := own_len o4
                  have O4 := Lib.hid o4
                  have H4 := Lib.hid (HM.out.later b4)
                  have hq8 : q ≤ 8 := by have h1 := readyL_len M2; have h2 := HM.out.tab.len; rw [HL.out] at h1; omega
                  clear o4 b4 HM
                  go_wp2_with fail
                  go_loop [15] (fun i => ∃ k : Nat, k ≤ q ∧ i = .int .i64 k) (fun i => q - (intOf i).toNat)
                  case atStart => exact ⟨0, Nat.zero_le _, rfl⟩
                  case round =>
                    obtain ⟨j, hj, rfl⟩ := hrel
                    by_cases hlt3 : j < q
                    · obtain ⟨g, rfl, _, _, x0⟩ := own_at O4.out (k := j) hlt3
                      have hne : ((readyL M2).getD j 0 == (p : Int)) = false := beq_eq_false_iff_ne.2 ((over_facts HO2.out).2.2.2.2.2 j (by have := HL.out; omega))
                      generalize (readyL M2).getD j 0 = x at *
                      go_wp2_with fail
                      go_round
                      case rel => exact ⟨j + 1, by omega, by go_num⟩
                      case measure => simp [intOf]; omega
                    · go_wp2_with fail
                      go_roundw
                      case rel => exact ⟨k + 1, by omega, by omega, by go_num, M2, H4.out, HO2.out⟩
                      case measure => simp [intOf]; omega
              · go_wp2_with fail
                go_meet
                exact ⟨M, HR.out, HO.out⟩
            · go_wp2_with fail
              go_meet
              exact ⟨M, HR.out, HO.out⟩
        case rest =>
          obtain ⟨M, hbt, hov⟩ := hcut
          have HB := Lib.hid hbt
          have HO := Lib.hid hov
          clear hbt hov HS HE
          go_wp2_with fail
          have C1 : Calls Try.prog 23 #[.pointer (some ⟨w.heap.size, 0, none⟩), .int .i64 p] wc fun e w' => e = .returned (.int .i64 1) ∧ TabAt w' w.heap.size w.heap.size M ∧ Fr 52 54 w.heap.size wc w' := by
            have := end_any wc _ _ M p HB.out.tab
            rw [(over_facts HO.out).1, (over_facts HO.out).2.2.1] at this; exact this
          refine C1.mono ?_
          rintro e w6 ⟨rfl, t6, f6⟩
          have T6 := Lib.hid t6
          have B6 : Hid (Below w.heap.size w w6) := HB.out.below.trans f6.below
          clear t6 f6 C1 HB
          go_wp2_with fail
          have C1 : Calls Try.prog 11 #[.pointer (some ⟨w.heap.size, 0, none⟩), .int .i64 p, .slice none 0 0] w6 fun e w' => e = .returned (.int .i64 1) ∧ TabAt w' w.heap.size w.heap.size M ∧ Fr 52 54 w.heap.size w6 w' := by
            have := wait_any w6 _ _ M p none 0 0 [] T6.out ⟨Ints.nil_ _ _, by decide, .inl ⟨rfl, rfl, rfl, rfl⟩⟩
            rw [(over_facts HO.out).2.1, (over_facts HO.out).2.2.2.1] at this; exact this
          refine C1.mono ?_
          rintro e w7 ⟨rfl, t7, f7⟩
          have B7 : Hid (Below w.heap.size w w7) := B6.out.trans f7.below
          clear t7 f7 C1 T6 B6
          go_wp2_with (go_at_call 14; refine (lives_any _).mono ?_; rintro e w' ⟨rfl, hb⟩)
          go_ret
          exact ⟨rfl, B7.out.trans (hb.mono B7.out.size)⟩
      · go_wp2_with fail
        refine C1.mono ?_
        rintro e w4 ⟨rfl, rfl⟩
        clear C1
        go_wp2_with (go_at_call 14; refine (lives_any _).mono ?_; rintro e w' ⟨rfl, hb⟩)
        go_ret
        exact ⟨rfl, H3.out.below.trans (hb.mono H3.out.below.size)⟩
end Go.Proofs.Ytibgchnfodpehaa
