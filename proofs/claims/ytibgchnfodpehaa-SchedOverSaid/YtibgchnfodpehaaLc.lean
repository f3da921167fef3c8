/- The law SchedFair: its walk. -/
import Derived.Test.YtibgchnfodpehaaPlain
import Derived.Test.YtibgchnfodpehaaLb
import Derived.Deep.CutBlock
import Derived.Deep.DeepCutAuto
namespace Go.Proofs.Ytibgchnfodpehaa
open Go.RowKit
set_option linter.unusedVariables false

theorem fair_k (v : Int) (h1 : -9223372036854775808 ≤ v) (h2 : v ≤ 9223372036854775807) : ∃ K : Nat, K < 1000000 ∧ pickK v % 1000000 = K ∧ 0 ≤ pickK v ∧ pickK v ≤ 9223372036854775807 := by
  have hp : 0 ≤ pickK v ∧ pickK v ≤ 9223372036854775807 := by unfold pickK; split <;> omega
  refine ⟨(pickK v % 1000000).toNat, by omega, by omega, hp.1, hp.2⟩
/-- The tables and the list of those that are ready. -/
structure BothR (w : World) (b b2 D : Nat) (L : Tb) (base : Nat) (A : Option Addr) (q c : Nat) (wr : World) : Prop where
  both : Both w b b2 D L wr
  own : wr.ownsRow base 3 1 (.slice A q c) q ((readyL L).map (Value.int .i64))
theorem BothR.later {w : World} {b b2 D base q c : Nat} {L : Tb} {A : Option Addr} {wr w' : World} (h : BothR w b b2 D L base A q c wr) (hb : Below wr.heap.size wr w') : BothR w b b2 D L base A q c w' :=
  ⟨h.both.later hb, own_below h.own hb (Nat.le_refl _)⟩
set_option maxRecDepth 100000 in
set_option maxHeartbeats 4000000 in
theorem schedFair_walk (A : Option Addr) (n c : Nat) (ds : List Deed) (v : Int) (w : World) (hz : DeedsAt w w.heap.size A n ds ∧ n ≤ 9223372036854775807) (hv : (Lit.int .i64 v).wf = true) :
    Calls Try.prog 4 #[.slice A n c, .int .i64 v] w fun e w' => e = .returned (.bool true) ∧ Below w.heap.size w w' := by
  obtain ⟨hd, hn⟩ := hz
  have HD := Lib.hid hd
  have HN := Lib.hid hn
  obtain ⟨hv1, hv2⟩ := int_wf hv
  have HV1 := Lib.hid hv1
  have HV2 := Lib.hid hv2
  have HB0 := Lib.hid (Both.start w)
  clear hd hv hv1 hv2
  go_enter Try.func4, Try.ntmps4
  go_upto_block 0 with (go_at_call 8; refine (new_any _).mono ?_; rintro e w' ⟨rfl, rfl⟩)
  generalize (w.alloc (.cells #[.slice none 0 0] 52)).alloc (.cells #[.slice none 0 0] 38) = w1 at *
  go_cut [7] (fun _ wc => ∃ L, Both w w.heap.size (w.heap.size + 1) w.heap.size L wc)
  case first =>
    go_wp2_with fail
    go_loopw [7] (fun i wr => ∃ k : Nat, k ≤ n ∧ k ≤ 30 ∧ i = .int .i64 k ∧ Both w w.heap.size (w.heap.size + 1) w.heap.size (runL ds k []) wr) (fun i _ => 30 - (intOf i).toNat)
    case atStart => exact ⟨0, Nat.zero_le _, Nat.zero_le _, rfl, HB0.out⟩
    case round =>
      obtain ⟨k, hk, hk40, rfl, hb⟩ := hrel
      have HR := Lib.hid hb
      clear hb HB0
      by_cases hlt : k < n
      · by_cases hlt2 : k < 30
        · obtain ⟨g, off, A', n', c', rfl, hg, x0, x1, x2, hi, hn'⟩ := (HD.out.below HR.out.below).at_ hlt
          have HI := Lib.hid (hi.more HR.out.below.size)
          have HN' := Lib.hid hn'
          have HX := Lib.hid (runL_succ (ds := ds) (by have := HD.out.1; omega : k < ds.length) [])
          clear hi hn'
          generalize ds.getD k deed0 = d at *
          go_wp2_with fail
          refine (does_both HR.out (Nat.le_refl _) (Nat.le_succ _) d HI.out HN'.out).mono ?_
          rintro e w2 ⟨rfl, hb2⟩
          rw [← HX.out] at hb2
          have H2 := Lib.hid hb2
          clear hb2 HR HI HN' x0 x1 x2 HX
          go_wp2_with fail
          go_roundw
          case rel => exact ⟨k + 1, by omega, by omega, by go_num, H2.out⟩
          case measure => simp [intOf]; omega
        · go_wp2_with fail
          go_meet
          exact ⟨_, HR.out⟩
      · go_wp2_with fail
        go_meet
        exact ⟨_, HR.out⟩
  case rest =>
    obtain ⟨L, hb⟩ := hcut
    have HB := Lib.hid hb
    obtain ⟨K, hK, hKv, hp0, hp1⟩ := fair_k v HV1.out HV2.out
    have hv1 := HV1.out
    have hv2 := HV2.out
    clear hb HB0 HD HN HV1 HV2
    have ht : Int.tmod (pickK v) 1000000 = K := by rw [Int.tmod_eq_emod_of_nonneg hp0]; exact hKv
    have hdp : pickK v = if v < 0 then -(v + 1) else v := rfl
    go_upto_if 37 with (fail)
    go_cut [1] (fun s wx => s = .int .i64 (pickK v) ∧ wx = wc)
    case first =>
      by_cases hneg : v < 0
      · rw [if_pos hneg] at hdp
        rw [hdp] at hp0 hp1
        have s1 : IntKind.i64.wrap (v + 1) = v + 1 := by rw [wrap_eq]; unfold wrap64; omega
        have s2 : IntKind.i64.wrap (-(v + 1)) = -(v + 1) := by rw [wrap_eq]; unfold wrap64; omega
        have HDP := Lib.hid hdp
        clear hdp hv1 hv2 ht hKv
        go_wp2_with fail
        go_meet
        exact ⟨by rw [HDP.out], rfl⟩
      · rw [if_neg hneg] at hdp
        have HDP := Lib.hid hdp
        clear hdp hv1 hv2 ht hKv
        go_wp2_with fail
        go_meet
        exact ⟨by rw [HDP.out], rfl⟩
    case rest =>
      obtain ⟨rfl, rfl⟩ := hcut
      clear hdp hv1 hv2
      generalize pickK v = pv at *
      go_wp2_with fail
      clear hKv ht hp0 hp1
      refine (ready_any wc _ _ L HB.out.tab).mono ?_
      rintro e w3 ⟨A3, q, c3, rfl, o3, b3⟩
      have HL : Hid ((readyL L).length = q) := own_len o3
      have H3 : Hid (BothR w w.heap.size (w.heap.size + 1) w.heap.size L wc.heap.size A3 q c3 w3) := ⟨HB.out.later b3, o3⟩
      have hq8 : q ≤ 8 := by have h1 := readyL_len L; have h2 := HB.out.tab.len; rw [HL.out] at h1; omega
      clear o3 b3 HB
      go_wp2_with fail
      obtain ⟨wo, hwo⟩ : ∃ wo : World, wo = w3 := ⟨_, rfl⟩
      rw [← hwo] at H3
      rw [← hwo]
      clear hwo
      go_loopw [9, 10, 11, 12, 13] (fun i _ _ _ _ wr => ∃ k : Nat, k ≤ q ∧ i = .int .i64 k ∧ BothR w w.heap.size (w.heap.size + 1) w.heap.size L wc.heap.size A3 q c3 wr) (fun i _ _ _ _ _ => q - (intOf i).toNat)
      case atStart => exact ⟨0, Nat.zero_le _, rfl, H3.out⟩
      case round =>
        obtain ⟨i, hi, rfl, hr⟩ := hrel
        have HR := Lib.hid hr
        clear hr H3
        by_cases hlt : i < q
        · have HF := Lib.hid (fair_one L K i (by have := HL.out; omega))
          go_wp2_with fail
          obtain ⟨wp, hwp⟩ : ∃ wp : World, wp = wr := ⟨_, rfl⟩
          rw [← hwp] at HR
          rw [← hwp]
          clear hwp
          go_loopw [10, 11, 12, 13] (fun mm jj _ _ ws => ∃ j : Nat, j ≤ q ∧ jj = .int .i64 j ∧ mm = .int .i64 (cntP (fairP L K i) j : Nat) ∧ BothR w w.heap.size (w.heap.size + 1) w.heap.size L wc.heap.size A3 q c3 ws) (fun _ jj _ _ _ => q - (intOf jj).toNat)
          case atStart => exact ⟨0, Nat.zero_le _, rfl, rfl, HR.out⟩
          case round =>
            obtain ⟨j, hj, rfl, rfl, hr⟩ := hrel
            have HS := Lib.hid hr
            have HC := Lib.hid (cntP_succ (fairP L K i) j)
            have hcl := cntP_le (fairP L K i) j
            clear hr HR
            by_cases hlt2 : j < q
            · have HPB : Hid (pickB L = true) := by show _ = _; unfold pickB; rw [HL.out]; exact decide_eq_true (by omega)
              have HFP : Hid (fairP L K i j = decide (pickN L ((K : Int) + j) = (readyL L).getD i 0)) := rfl
              generalize cntP (fairP L K i) j = c0 at *
              generalize fairP L K i j = fp at *
              go_wp2_with fail
              refine (pick_any _ _ _ L ((K : Int) + j) HS.out.both.tab (by omega) (by omega)).mono ?_
              rintro e w4 ⟨rfl, b4⟩
              have HT := Lib.hid (HS.out.later b4)
              obtain ⟨g, rfl, _, _, x0⟩ := own_at HT.out.own (k := i) hlt
              rw [HPB.out]
              clear b4 HS
              generalize pickN L ((K : Int) + j) = pn at *
              generalize (readyL L).getD i 0 = x at *
              by_cases hpx : pn = x
              · subst hpx
                have hb : (pn == pn) = true := by simp
                go_wp2_with fail
                go_roundw
                case rel => exact ⟨j + 1, by omega, by go_num, by rw [HC.out, HFP.out]; simp, HT.out⟩
                case measure => simp [intOf]; omega
              · have hb : (pn == x) = false := beq_eq_false_iff_ne.2 hpx
                have HPX := Lib.hid hpx
                clear hpx
                go_wp2_with fail
                go_roundw
                case rel => exact ⟨j + 1, by omega, by go_num, by rw [HC.out, HFP.out, decide_eq_false HPX.out]; simp, HT.out⟩
                case measure => simp [intOf]; omega
            · obtain rfl : j = q := by omega
              have hone : cntP (fairP L K i) j = 1 := by have := HF.out; rw [HL.out] at this; exact this
              rw [hone]
              clear HC hcl hone
              go_wp2_with fail
              go_roundw
              case rel => exact ⟨i + 1, by omega, by go_num, HS.out⟩
              case measure => simp [intOf]; omega
        · go_wp2_with (go_at_call 14; refine (lives_any _).mono ?_; rintro e w' ⟨rfl, hb⟩)
          go_ret
          exact ⟨rfl, HR.out.both.below.trans (hb.mono HR.out.both.below.size)⟩
end Go.Proofs.Ytibgchnfodpehaa
