/- The law SchedPlays: its walk. -/
import Derived.Test.YtibgchnfodpehaaWalkQ
namespace Go.Proofs.Ytibgchnfodpehaa
open Go.RowKit
set_option linter.unusedVariables false
attribute [local go_sem ↓] Go.wp_at_zero Go.wp_at_succ

theorem int_wf {v : Int} (h : (Lit.int .i64 v).wf = true) : -9223372036854775808 ≤ v ∧ v ≤ 9223372036854775807 := by
  simp only [Lit.wf, IntKind.min, IntKind.max, IntKind.signed, IntKind.bits, Bool.and_eq_true, decide_eq_true_eq, if_true] at h
  omega
theorem readyL_8 {w : World} {b D : Nat} {L : Tb} (h : TabAt w b D L) : (readyL L).length ≤ 1000 := by have := readyL_len L; have := h.len; omega
/-- Two rows of one list that lie in one world. -/
theorem same_rows {w : World} {b1 b2 n m : Nat} {A B : Option Addr} {c d : Nat} {zs : List Int} (h1 : w.ownsRow b1 3 1 (.slice A n c) n (zs.map (Value.int .i64))) (h2 : w.ownsRow b2 3 1 (.slice B m d) m (zs.map (Value.int .i64))) (hl : zs.length ≤ 1000) :
    Calls Try.prog 17 #[.slice A n c, .slice B m d] w fun e w' => e = .returned (.bool true) ∧ Below w.heap.size w w' := by
  have e1 := own_len h1
  obtain ⟨A3, c3, e3, i1⟩ := Ints.of_own h1
  obtain ⟨A4, c4, e4, i2⟩ := Ints.of_own h2
  simp only [Value.slice.injEq] at e3 e4
  obtain ⟨rfl, _, rfl⟩ := e3
  obtain ⟨rfl, _, rfl⟩ := e4
  exact same_any w _ _ _ _ _ _ _ i1 i2 (by omega)
structure BothC (w : World) (b b2 D : Nat) (L : Tb) (A : Option Addr) (q c : Nat) (wr : World) : Prop where
  both : Both w b b2 D L wr
  cell : wr.cell? ⟨b2, 0, none⟩ = some (.slice A q c)
theorem BothC.later {w : World} {b b2 D q c : Nat} {L : Tb} {A : Option Addr} {wr w' : World} (h : BothC w b b2 D L A q c wr) (hb : Below wr.heap.size wr w') : BothC w b b2 D L A q c w' :=
  ⟨h.both.later hb, (hb.cell (p := ⟨b2, 0, none⟩) (by have := h.both.rab.size; show b2 < _; omega)).trans h.cell⟩
theorem BothC.drew {w : World} {b b2 D q c : Nat} {L : Tb} {A : Option Addr} {wr : World} (h : BothC w b b2 D L A q c wr) : BothC w b b2 D L A q c wr.drew := ⟨⟨h.both.tab.drew, h.both.rab.drew, h.both.below.drew⟩, h.cell⟩
theorem BothC.of {w wr : World} {b b2 D : Nat} {L : Tb} (h : Both w b b2 D L wr) : ∃ A c, BothC w b b2 D L A L.length c wr := by
  obtain ⟨A, c, us, hw, _⟩ := h.rab.form
  exact ⟨A, c, h, hw.cell 0⟩
section
variable {w wr : World} {b b2 D q c : Nat} {L : Tb} {A : Option Addr}
theorem status_bc (h : BothC w b b2 D L A q c wr) : Calls Try.prog 20 #[.pointer (some ⟨b, 0, none⟩)] wr fun e w' => e = .returned (.int .i64 (statusF L)) ∧ BothC w b b2 D L A q c w' ∧ w'.cell? ⟨b2, 0, none⟩ = some (.slice A q c) :=
  (status_any wr b D L h.both.tab).mono fun _ _ ⟨he, hb⟩ => ⟨he, h.later hb, (h.later hb).cell⟩
theorem rstatus_bc (h : BothC w b b2 D L A q c wr) : Calls Try.prog 21 #[.pointer (some ⟨b2, 0, none⟩)] wr fun e w' => e = .returned (.int .i64 (statusF L)) ∧ BothC w b b2 D L A q c w' ∧ w'.cell? ⟨b2, 0, none⟩ = some (.slice A q c) :=
  (rstatus_any wr b2 D L h.both.rab).mono fun _ _ ⟨he, hb⟩ => ⟨he, h.later hb, (h.later hb).cell⟩
theorem len_bc (h : BothC w b b2 D L A L.length c wr) : Calls Try.prog 22 #[.pointer (some ⟨b, 0, none⟩)] wr fun e w' => e = .returned (.int .i64 (L.length : Nat)) ∧ BothC w b b2 D L A L.length c w' ∧ w'.cell? ⟨b2, 0, none⟩ = some (.slice A L.length c) :=
  (len_any wr b D L h.both.tab).mono fun _ _ ⟨he, hb⟩ => ⟨he, hb ▸ h, hb ▸ h.cell⟩
end
set_option maxRecDepth 100000 in
set_option maxHeartbeats 4000000 in
theorem schedPlays_walk (A : Option Addr) (n c : Nat) (ds : List Deed) (v : Int) (w : World) (hz : DeedsAt w w.heap.size A n ds ∧ n ≤ 9223372036854775807) (hv : (Lit.int .i64 v).wf = true) :
    Calls Try.prog 5 #[.slice A n c, .int .i64 v] w fun e w' => e = .returned (.bool true) ∧ Below w.heap.size w w' := by
  obtain ⟨hd, hn⟩ := hz
  have HD := Lib.hid hd
  obtain ⟨hv1, hv2⟩ := int_wf hv
  have HV1 := Lib.hid hv1
  have HV2 := Lib.hid hv2
  have HB0 := Lib.hid (Both.start w)
  clear hd hv hv1 hv2
  go_enter Try.func5, Try.ntmps5
  go_wp2_with (go_at_call 8; refine (new_any _).mono ?_; rintro e w' ⟨rfl, rfl⟩)
  generalize (w.alloc (.cells #[.slice none 0 0] 52)).alloc (.cells #[.slice none 0 0] 38) = w1 at *
  go_loopw [7, 8, 9, 10, 11, 12, 13] (fun i _ _ _ _ _ _ wr => ∃ k : Nat, k ≤ n ∧ k ≤ 40 ∧ i = .int .i64 k ∧ Both w w.heap.size (w.heap.size + 1) w.heap.size (runL ds k []) wr) (fun i _ _ _ _ _ _ _ => 40 - (intOf i).toNat)
  case atStart => exact ⟨0, Nat.zero_le _, Nat.zero_le _, rfl, HB0.out⟩
  case round =>
    obtain ⟨k, hk, hk40, rfl, hb⟩ := hrel
    have HR := Lib.hid hb
    clear hb HB0
    by_cases hlt : k < n
    · by_cases hlt2 : k < 40
      · obtain ⟨g, off, A', n', c', rfl, hg, x0, x1, x2, hi, hn'⟩ := (HD.out.below HR.out.below).at_ hlt
        have HI := Lib.hid (hi.more HR.out.below.size)
        have HN' := Lib.hid hn'
        have HX := Lib.hid (runL_succ (ds := ds) (by have := HD.out.1; omega : k < ds.length) [])
        clear hi hn'
        generalize ds.getD k deed0 = d at *
        go_wp2_with fail
        refine (does_both HR.out (Nat.le_refl _) (Nat.le_succ _) d HI.out HN'.out).mono ?_
        rintro e w2 ⟨rfl, hb2⟩
        rw [← HX.out] at hb2
        have H2 := Lib.hid hb2
        clear hb2 HR HI HN' x0 x1 x2 HX
        generalize hL : runL ds (k + 1) [] = L at *
        have HL := Lib.hid hL
        clear hL
        go_wp2_with fail
        refine (ready_any w2 _ _ L H2.out.tab).mono ?_
        rintro e w3 ⟨A3, n3, c3, rfl, o3, b3⟩
        have H3 := Lib.hid (H2.out.later b3)
        have O3 := Lib.hid o3
        clear H2 o3 b3
        go_wp2_with fail
        refine (rready_any w3 _ _ L H3.out.rab).mono ?_
        rintro e w4 ⟨A4, n4, c4, rfl, o4, b4⟩
        have H4 := Lib.hid (H3.out.later b4)
        have O4 := Lib.hid o4
        have O3' := Lib.hid (own_below O3.out b4 (Nat.le_refl _))
        clear H3 o4 b4 O3
        go_wp2_with fail
        refine (same_rows O3'.out O4.out (readyL_8 H4.out.tab)).mono ?_
        rintro e w5 ⟨rfl, b5⟩
        have H5 := Lib.hid (H4.out.later b5)
        clear H4 b5 O3' O4
        go_wp2_with fail
        refine (pick_any w5 _ _ L v H5.out.tab HV1.out HV2.out).mono ?_
        rintro e w6 ⟨rfl, b6⟩
        have H6 := Lib.hid (H5.out.later b6)
        clear H5 b6
        go_wp2_with fail
        refine (rpick_any w6 _ _ L v H6.out.rab HV1.out HV2.out).mono ?_
        rintro e w7 ⟨rfl, b7⟩
        have H7 := Lib.hid (H6.out.later b7)
        clear H6 b7
        generalize pickN L v = p1 at *
        generalize pickB L = p2 at *
        obtain ⟨AR, cR, hbc⟩ := BothC.of H7.out
        have HC := Lib.hid hbc
        have r0 := hbc.cell
        clear hbc H7
        have CS := fun (wx : World) => status_bc (w := w) (wr := wx) (b := w.heap.size) (b2 := w.heap.size + 1) (D := w.heap.size) (q := L.length) (c := cR) (L := L) (A := AR)
        have CR := fun (wx : World) => rstatus_bc (w := w) (wr := wx) (b := w.heap.size) (b2 := w.heap.size + 1) (D := w.heap.size) (q := L.length) (c := cR) (L := L) (A := AR)
        have CL := fun (wx : World) => len_bc (w := w) (wr := wx) (b := w.heap.size) (b2 := w.heap.size + 1) (D := w.heap.size) (c := cR) (L := L) (A := AR)
        generalize statusF L = st at *
        go_wp2_with fail
        go_region_held3 (fun W => W.cell? ⟨w.heap.size + 1, 0, none⟩ = some (.slice AR L.length cR))
          (first | go_keep)
          (first
            | ((go_at_call 20; with_reducible refine (CS _ ?_).mono ?_); (exact HC.out.drew); rintro e wm ⟨rfl, s1, m1⟩)
            | ((go_at_call 21; with_reducible refine (CR _ ?_).mono ?_); (exact s1); rintro e wm ⟨rfl, s2, m2⟩)
            | ((go_at_call 22; with_reducible refine (CL _ ?_).mono ?_); (exact s2); rintro e wm ⟨rfl, s3, m3⟩))
        all_goals
          go_wp2_with fail
          go_roundw
          case rel => exact ⟨k + 1, by omega, by omega, by go_num, by rw [HL.out]; exact s3.both⟩
          case measure => simp [intOf]; omega
      · go_wp2_with (go_at_call 14; refine (lives_any _).mono ?_; rintro e w' ⟨rfl, hb⟩)
        go_ret
        exact ⟨rfl, HR.out.below.trans (hb.mono HR.out.below.size)⟩
    · go_wp2_with (go_at_call 14; refine (lives_any _).mono ?_; rintro e w' ⟨rfl, hb⟩)
      go_ret
      exact ⟨rfl, HR.out.below.trans (hb.mono HR.out.below.size)⟩
end Go.Proofs.Ytibgchnfodpehaa
