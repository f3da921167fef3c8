/- The law SchedNothing: its walk. -/
import Derived.Test.YtibgchnfodpehaaLc
namespace Go.Proofs.Ytibgchnfodpehaa
open Go.RowKit
set_option linter.unusedVariables false

/-- A table with one that waits for nothing. -/
structure Sleeps (w : World) (b D : Nat) (n : Nat) (wr : World) : Prop where
  ex : ∃ M, TabAt wr b D M ∧ M[n]? = some sleep
  below : Below w.heap.size w wr
theorem Sleeps.later {w : World} {b D n : Nat} {wr w' : World} (h : Sleeps w b D n wr) (hb : Below wr.heap.size wr w') : Sleeps w b D n w' := by
  obtain ⟨⟨M, ht, hx⟩, hl⟩ := h
  exact ⟨⟨M, ht.below hb, hx⟩, hl.trans (hb.mono hl.size)⟩
set_option maxRecDepth 100000 in
set_option maxHeartbeats 4000000 in
theorem schedNothing_walk (A : Option Addr) (n c : Nat) (ds : List Deed) (A2 : Option Addr) (m c2 : Nat) (es : List Deed) (w : World) (hz : DeedsAt w w.heap.size A n ds ∧ n ≤ 9223372036854775807) (hy : DeedsAt w w.heap.size A2 m es ∧ m ≤ 9223372036854775807) :
    Calls Try.prog 6 #[.slice A n c, .slice A2 m c2] w fun e w' => e = .returned (.bool true) ∧ Below w.heap.size w w' := by
  obtain ⟨hd, hn⟩ := hz
  obtain ⟨he, hm⟩ := hy
  have HD := Lib.hid hd
  have HE := Lib.hid he
  have HB0 := Lib.hid (Both.start w)
  clear hd he
  go_enter Try.func6, Try.ntmps6
  go_upto_block 0 with (go_at_call 8; refine (new_any _).mono ?_; rintro e w' ⟨rfl, rfl⟩)
  generalize (w.alloc (.cells #[.slice none 0 0] 52)).alloc (.cells #[.slice none 0 0] 38) = w1 at *
  go_cut [7] (fun _ wc => ∃ L, Both w w.heap.size (w.heap.size + 1) w.heap.size L wc)
  case first =>
    go_wp2_with fail
    go_loopw [7] (fun i wr => ∃ k : Nat, k ≤ n ∧ k ≤ 20 ∧ i = .int .i64 k ∧ Both w w.heap.size (w.heap.size + 1) w.heap.size (runL ds k []) wr) (fun i _ => 20 - (intOf i).toNat)
    case atStart => exact ⟨0, Nat.zero_le _, Nat.zero_le _, rfl, HB0.out⟩
    case round =>
      obtain ⟨k, hk, hk40, rfl, hb⟩ := hrel
      have HR := Lib.hid hb
      clear hb HB0
      by_cases hlt : k < n
      · by_cases hlt2 : k < 20
        · obtain ⟨g, off, A', n', c', rfl, hg, x0, x1, x2, hi, hn'⟩ := (HD.out.below HR.out.below).at_ hlt
          have HI := Lib.hid (hi.more HR.out.below.size)
          have HN' := Lib.hid hn'
          have HX := Lib.hid (runL_succ (ds := ds) (by have := HD.out.1; omega : k < ds.length) [])
          clear hi hn'
          generalize ds.getD k deed0 = d at *
          go_wp2_with fail
          refine (does_both HR.out (Nat.le_refl _) (Nat.le_succ _) d HI.out HN'.out).mono ?_
          rintro e w2 ⟨rfl, hb2⟩
          rw [← HX.out] at hb2
          have H2 := Lib.hid hb2
          clear hb2 HR HI HN' x0 x1 x2 HX
          go_wp2_with fail
          go_roundw
          case rel => exact ⟨k + 1, by omega, by omega, by go_num, H2.out⟩
          case measure => simp [intOf]; omega
        · go_wp2_with fail
          go_meet
          exact ⟨_, HR.out⟩
      · go_wp2_with fail
        go_meet
        exact ⟨_, HR.out⟩
  case rest =>
    obtain ⟨L, hb⟩ := hcut
    have HB := Lib.hid hb
    clear hb HB0 HD
    by_cases h8 : L.length = 8
    · have C1 : Calls Try.prog 9 #[.pointer (some ⟨w.heap.size, 0, none⟩)] wc fun e w' => e = .returned (.tuple #[.int .i64 0, .int .i64 16]) ∧ TabAt w' w.heap.size w.heap.size L ∧ Fr 52 54 w.heap.size wc w' := by
        have := add_any wc _ _ L HB.out.tab
        unfold addL addA addE at this
        rw [if_pos h8, if_pos h8, if_pos h8] at this
        exact this
      have H8 := Lib.hid h8
      clear h8
      go_wp2_with fail
      refine C1.mono ?_
      rintro e w2 ⟨rfl, t2, f2⟩
      have T2 := Lib.hid t2
      have B2 : Hid (Below w.heap.size w w2) := HB.out.below.trans f2.below
      clear t2 f2 C1 HB
      go_wp2_with fail
      have C1 : Calls Try.prog 22 #[.pointer (some ⟨w.heap.size, 0, none⟩)] w2 fun e w' => e = .returned (.int .i64 8) ∧ w2 = w' := by
        have := len_any w2 _ _ L T2.out
        rw [H8.out] at this; exact this
      refine C1.mono ?_
      rintro e w3 ⟨rfl, rfl⟩
      clear C1
      go_wp2_with (go_at_call 14; refine (lives_any _).mono ?_; rintro e w' ⟨rfl, hb⟩)
      go_ret
      exact ⟨rfl, B2.out.trans (hb.mono B2.out.size)⟩
    · have C1 : Calls Try.prog 9 #[.pointer (some ⟨w.heap.size, 0, none⟩)] wc fun e w' => e = .returned (.tuple #[.int .i64 (L.length : Nat), .int .i64 0]) ∧ TabAt w' w.heap.size w.heap.size (addL L) ∧ Fr 52 54 w.heap.size wc w' := by
        have := add_any wc _ _ L HB.out.tab
        unfold addA addE at this
        rw [if_neg h8, if_neg h8] at this
        exact this
      have HSL := Lib.hid (sleep_new h8)
      have hl8 : L.length ≤ 8 := HB.out.tab.len
      clear h8
      generalize hLp : addL L = L2 at *
      clear hLp
      generalize L.length = p at *
      go_wp2_with fail
      refine C1.mono ?_
      rintro e w2 ⟨rfl, t2, f2⟩
      have T2 := Lib.hid t2
      have B2 : Hid (Below w.heap.size w w2) := HB.out.below.trans f2.below
      clear t2 f2 C1 HB
      go_wp2_with fail
      have C1 : Calls Try.prog 11 #[.pointer (some ⟨w.heap.size, 0, none⟩), .int .i64 p, .slice none 0 0] w2 fun e w' => e = .returned (.int .i64 0) ∧ TabAt w' w.heap.size w.heap.size (waitL L2 p []) ∧ Fr 52 54 w.heap.size w2 w' := by
        have := wait_any w2 _ _ L2 p none 0 0 [] T2.out ⟨Ints.nil_ _ _, by decide, .inl ⟨rfl, rfl, rfl, rfl⟩⟩
        rw [HSL.out.2] at this; exact this
      refine C1.mono ?_
      rintro e w3 ⟨rfl, t3, f3⟩
      have HS : Hid (Sleeps w w.heap.size w.heap.size p w3) := ⟨⟨_, t3, HSL.out.1⟩, B2.out.trans f3.below⟩
      clear t3 f3 C1 T2 B2 HSL
      go_upto_block 2 with (fail)
      go_cut [11] (fun _ wx => Sleeps w w.heap.size w.heap.size p wx)
      case first =>
        go_wp2_with fail
        go_loopw [11] (fun i wr => ∃ k : Nat, k ≤ m ∧ k ≤ 20 ∧ i = .int .i64 k ∧ Sleeps w w.heap.size w.heap.size p wr) (fun i _ => 20 - (intOf i).toNat)
        case atStart => exact ⟨0, Nat.zero_le _, Nat.zero_le _, rfl, HS.out⟩
        case round =>
          obtain ⟨k, hk, hk40, rfl, hs⟩ := hrel
          have HR := Lib.hid hs
          clear hs HS
          by_cases hlt : k < m
          · by_cases hlt2 : k < 20
            · obtain ⟨g, off, A', n', c', rfl, hg, x0, x1, x2, hi, hn'⟩ := (HE.out.below HR.out.below).at_ hlt
              have HI := Lib.hid (hi.more HR.out.below.size)
              have HN' := Lib.hid hn'
              clear hi hn'
              generalize es.getD k deed0 = d at *
              obtain ⟨dk, dn, dv⟩ := d
              have HBX := Lib.hid (Whole.made wr 41 #[.int .i64 dk, .int .i64 dn, .slice A' n' c'])
              have HAL : Hid (Below wr.heap.size wr (wr.alloc (.cells #[.int .i64 dk, .int .i64 dn, .slice A' n' c'] 41))) := (Below.refl _ _).alloc (Nat.le_refl _) _
              have HSZ : Hid (wr.heap.size ≤ (wr.alloc (.cells #[.int .i64 dk, .int .i64 dn, .slice A' n' c'] 41)).heap.size) := by show _ ≤ _; simp
              by_cases h2 : dk = 2
              · subst h2
                go_wp2_with fail
                generalize wr.alloc (.cells #[.int .i64 2, .int .i64 dn, .slice A' n' c'] 41) = wa at *
                obtain ⟨⟨M, ht, hx⟩, hb⟩ := (HR.out.later HAL.out)
                refine (wake_any wa _ _ M dn ht).mono ?_
                rintro e w4 ⟨A4, n4, c4, rfl, _, t4, f4⟩
                have H4 : Hid (Sleeps w w.heap.size w.heap.size p w4) := ⟨⟨_, t4, (sleep_facts hx).1 dn⟩, hb.trans f4.below⟩
                clear t4 f4 ht hx hb x0 x1 x2 HBX HAL HSZ HI HN'
                go_wp2_with fail
                go_roundw
                case rel => exact ⟨k + 1, by omega, by omega, by go_num, H4.out⟩
                case measure => simp [intOf]; omega
              · have hb2 : (dk == 2) = false := beq_eq_false_iff_ne.2 h2
                clear h2
                by_cases h1 : dk = 1
                · subst h1
                  go_wp2_with fail
                  generalize wr.alloc (.cells #[.int .i64 1, .int .i64 dn, .slice A' n' c'] 41) = wa at *
                  have H4 := Lib.hid (HR.out.later HAL.out)
                  refine (few_any wa A' n' c' dv ((HI.out.below HAL.out).more HSZ.out) HN'.out).mono ?_
                  rintro e w5 ⟨A5, n5, c5, rfl, _, a5, b5⟩
                  obtain ⟨⟨M, ht, hx⟩, hb⟩ := H4.out.later b5
                  have HT := Lib.hid ht
                  have HX := Lib.hid hx
                  have HB := Lib.hid hb
                  have HA5 := Lib.hid a5
                  clear ht hx hb a5 b5 x0 x1 x2 HBX HAL HSZ HI HN' H4 HR
                  go_wp2_with fail
                  have C1 : Calls Try.prog 11 #[.pointer (some ⟨w.heap.size, 0, none⟩), .int .i64 p, .slice A5 n5 c5] w5 fun e w' => e = .returned (.int .i64 1) ∧ TabAt w' w.heap.size w.heap.size M ∧ Fr 52 54 w.heap.size w5 w' := by
                    have := wait_any w5 _ _ M p A5 n5 c5 _ HT.out HA5.out
                    rw [(sleep_facts HX.out).2.1, (sleep_facts HX.out).2.2.1] at this; exact this
                  refine C1.mono ?_
                  rintro e w6 ⟨rfl, t6, f6⟩
                  have H6 : Hid (Sleeps w w.heap.size w.heap.size p w6) := ⟨⟨_, t6, HX.out⟩, HB.out.trans f6.below⟩
                  clear t6 f6 C1 HT HX HB HA5
                  go_wp2_with fail
                  go_roundw
                  case rel => exact ⟨k + 1, by omega, by omega, by go_num, H6.out⟩
                  case measure => simp [intOf]; omega
                · have hb1 : (dk == 1) = false := beq_eq_false_iff_ne.2 h1
                  clear h1
                  go_wp2_with fail
                  go_roundw
                  case rel => exact ⟨k + 1, by omega, by omega, by go_num, HR.out.later HAL.out⟩
                  case measure => simp [intOf]; omega
            · go_wp2_with fail
              go_meet
              exact HR.out
          · go_wp2_with fail
            go_meet
            exact HR.out
      case rest =>
        have HR := Lib.hid hcut
        clear hcut HS
        obtain ⟨⟨M, ht, hx⟩, hb⟩ := HR.out
        have HT := Lib.hid ht
        have HX := Lib.hid hx
        have HB := Lib.hid hb
        clear ht hx hb HR
        go_wp2_with fail
        refine (ready_any wc _ _ M HT.out).mono ?_
        rintro e w4 ⟨A4, q, c4, rfl, o4, b4⟩
        have HL : Hid ((readyL M).length = q) := own_len o4
        have O4 := Lib.hid o4
        have T4 := Lib.hid (HT.out.below b4)
        have B4 : Hid (Below w.heap.size w w4) := HB.out.trans (b4.mono HB.out.size)
        have hq8 : q ≤ 8 := by have h1 := readyL_len M; have h2 := HT.out.len; rw [HL.out] at h1; omega
        clear o4 b4 HT HB
        go_wp2_with fail
        go_loop [14] (fun i => ∃ k : Nat, k ≤ q ∧ i = .int .i64 k) (fun i => q - (intOf i).toNat)
        case atStart => exact ⟨0, Nat.zero_le _, rfl⟩
        case round =>
          obtain ⟨k, hk, rfl⟩ := hrel
          by_cases hlt : k < q
          · obtain ⟨g, rfl, _, _, x0⟩ := own_at O4.out (k := k) hlt
            have hne : ((readyL M).getD k 0 == (p : Int)) = false := beq_eq_false_iff_ne.2 ((sleep_facts HX.out).2.2.2.1 k (by have := HL.out; omega))
            generalize (readyL M).getD k 0 = x at *
            go_wp2_with fail
            go_round
            case rel => exact ⟨k + 1, by omega, by go_num⟩
            case measure => simp [intOf]; omega
          · have hst : (statusF M != 1) = true := bne_iff_ne.2 (sleep_facts HX.out).2.2.2.2
            generalize hsm : statusF M = sm at *
            have HSM := Lib.hid hsm
            clear hsm
            go_wp2_with fail
            refine (status_any w4 _ _ M T4.out).mono ?_
            rintro e w5 ⟨rfl, b5⟩
            have B5 : Hid (Below w.heap.size w w5) := B4.out.trans (b5.mono B4.out.size)
            rw [HSM.out]
            clear b5
            go_wp2_with (go_at_call 14; refine (lives_any _).mono ?_; rintro e w' ⟨rfl, hb⟩)
            go_ret
            exact ⟨rfl, B5.out.trans (hb.mono B5.out.size)⟩
end Go.Proofs.Ytibgchnfodpehaa
