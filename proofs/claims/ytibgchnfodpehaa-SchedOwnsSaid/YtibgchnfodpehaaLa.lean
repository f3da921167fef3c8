/- The law SchedOwns: its walk. -/
import Derived.Test.YtibgchnfodpehaaWalkO
namespace Go.Proofs.Ytibgchnfodpehaa
open Go.RowKit
set_option linter.unusedVariables false

structure OwnSt (w : World) (b D : Nat) (L : Tb) (A : Option Addr) (m c : Nat) (vs : List Int) (k : Nat) (wr : World) : Prop where
  tab : TabAt wr b D L
  below : Below w.heap.size w wr
  ex : ∃ xs, wr.ownsRow w.heap.size 3 1 (.slice A m c) m xs ∧ ∀ j, k ≤ j → j < m → xs[j]? = some (.int .i64 (vs.getD j 0))
  lt : ∀ g, A = some ⟨g, 0, none⟩ → g < D
theorem OwnSt.step {w wr : World} {b D m c k : Nat} {L : Tb} {A : Option Addr} {vs : List Int} (h : OwnSt w b D L A m c vs k wr) (hk : k < m) : ∃ g, A = some ⟨g, 0, none⟩ ∧ wr.cell? ⟨g, k, none⟩ = some (.int .i64 (vs.getD k 0)) ∧ wr.frozen? ⟨g, k, none⟩ = false ∧ ∀ u, OwnSt w b D L A m c vs (k + 1) (wr.setCell ⟨g, k, none⟩ u) := by
  obtain ⟨xs, ho, hx⟩ := h.ex
  obtain ⟨g, c', e, hb, hlt, hc, hf⟩ := own_cell ho (k := k) (by omega)
  simp only [Value.slice.injEq] at e
  obtain ⟨rfl, _, rfl⟩ := e
  obtain ⟨g', cur, e, _, hG⟩ := row_at ho (by omega)
  obtain rfl : g = g' := by simpa using e
  refine ⟨g, rfl, hc.trans (hx k (Nat.le_refl _) hk), hf, fun u => ⟨tab_put h.tab hG (h.lt g rfl), h.below.setCell hb u, ⟨xs.set k u, own_put ho k (by omega) u, fun j h1 h2 => ?_⟩, h.lt⟩⟩
  rw [List.getElem?_set, if_neg (by omega)]
  exact hx j (by omega) h2
set_option maxHeartbeats 4000000 in
theorem schedOwns_walk (A : Option Addr) (len cap : Nat) (zs : List Int) (v : Int) (w : World) (hz : IsRow .i64 w A len cap zs) (hv : (Lit.int .i64 v).wf = true) :
    Calls Try.prog 3 #[.slice A len cap, .int .i64 v] w fun e w' => e = .returned (.bool true) ∧ Below w.heap.size w w' := by
  obtain ⟨hlc, hcm⟩ := isRow_len hz
  have HI := Lib.hid (isRow_ints hz len (Nat.le_refl _)).1
  have HM : Hid (len ≤ 9223372036854775807) := by unfold maxLen at hcm; show _ ≤ _; omega
  clear hz hlc hcm hv
  generalize zs.take len = ys at *
  have T0 := Lib.hid (tab_new w w.heap.size (by omega))
  have B0 : Hid (Below w.heap.size w (w.alloc (.cells #[.slice none 0 0] 52))) := (Below.refl _ _).alloc (Nat.le_refl _) _
  have HS0 : Hid (w.heap.size + 1 ≤ (w.alloc (.cells #[.slice none 0 0] 52)).heap.size) := by show _ ≤ _; simp
  go_enter Try.func3, Try.ntmps3
  go_wp2_with (go_at_call 8; refine (new_any _).mono ?_; rintro e w' ⟨rfl, rfl⟩)
  generalize w.alloc (.cells #[.slice none 0 0] 52) = w1 at *
  refine (add_new w1 w.heap.size T0.out).mono ?_
  rintro e w2 ⟨rfl, t2, f2⟩
  have B2 := Lib.hid (B0.out.trans f2.below)
  have T2 := Lib.hid t2
  clear t2 f2 B0
  go_wp2_with fail
  refine (few_any w2 A len cap ys ((HI.out.below B2.out).more B2.out.size) HM.out).mono ?_
  rintro e w3 ⟨A', m, c, rfl, ho, ha, hb⟩
  have T3 := Lib.hid (T2.out w3.heap.size w3 hb (Nat.le_refl _))
  have B3 : Hid (Below w.heap.size w w3) := B2.out.trans (hb.mono B2.out.size)
  have HA := Lib.hid ha
  have HO := Lib.hid (own_more ho B2.out.size)
  have HM2 : Hid (m ≤ 12) := ha.2.1
  have HE : Hid ((ys.take 12).length = m) := ha.1.1
  clear ho ha hb T2 B2 HI HM HS0 T0
  generalize ys.take 12 = vs at *
  go_wp2_with fail
  have C1 : Calls Try.prog 11 #[.pointer (some ⟨w.heap.size, 0, none⟩), .int .i64 0, .slice A' m c] w3 fun e w' => e = .returned (.int .i64 0) ∧ TabAt w' w.heap.size w3.heap.size [⟨.waits, vs⟩] ∧ Fr 52 54 w.heap.size w3 w' := wait_any w3 w.heap.size w3.heap.size l1 0 A' m c vs T3.out HA.out
  refine C1.mono ?_
  rintro e w4 ⟨rfl, t4, f4⟩
  have HS : Hid (OwnSt w w.heap.size w3.heap.size [⟨.waits, vs⟩] A' m c vs 0 w4) := ⟨t4, B3.out.trans f4.below, ⟨_, f4.kt.own HO.out (by decide) (by decide), fun j _ hj => by
    rw [List.getElem?_map, List.getElem?_eq_getElem (by have := HE.out; omega), List.getD_eq_getElem?_getD, List.getElem?_eq_getElem (by have := HE.out; omega)]; rfl⟩, fun g hg => (HO.out.lt g (by rw [hg]; rfl)).2⟩
  clear t4 f4 C1 T3 B3 HA HO
  have HM3 := HM2.out
  generalize w3.heap.size = D at *
  obtain ⟨wo, hwo⟩ : ∃ wo : World, wo = w4 := ⟨_, rfl⟩
  rw [← hwo]
  rw [← hwo] at HS
  clear hwo
  go_wp2_with fail
  go_loopw [7, 8] (fun hs i wr => ∃ k : Nat, k ≤ m ∧ i = .int .i64 k ∧ hs = .bool (hasF (vs.take k) v) ∧ OwnSt w w.heap.size D [⟨.waits, vs⟩] A' m c vs k wr) (fun _ i _ => m - (intOf i).toNat)
  case atStart => exact ⟨0, Nat.zero_le _, rfl, rfl, HS.out⟩
  case round =>
    obtain ⟨k, hk, rfl, rfl, hs⟩ := hrel
    have HR := Lib.hid hs
    clear hs HS
    by_cases hlt : k < m
    · obtain ⟨g, rfl, hc, hf, hst⟩ := HR.out.step hlt
      have HST := Lib.hid hst
      have HN : Hid (hasF (vs.take (k + 1)) v = (hasF (vs.take k) v || decide (vs.getD k 0 = v))) := by
        show _ = _
        rw [take_snoc' (by have := HE.out; omega), hasF_snoc]
      clear hst HR
      generalize vs.getD k 0 = x at *
      generalize hasF (vs.take k) v = p at *
      cases p with
      | true =>
        go_wp2_with fail
        go_roundw
        case rel => exact ⟨k + 1, by omega, by go_num, by rw [HN.out]; rfl, HST.out _⟩
        case measure => simp [intOf]; omega
      | false =>
        go_wp2_with fail
        go_roundw
        case rel => exact ⟨k + 1, by omega, by go_num, by rw [HN.out]; rfl, HST.out _⟩
        case measure => simp [intOf]; omega
    · obtain rfl : k = m := by omega
      have HW := Lib.hid (owns_wake vs v)
      have e1 : vs.take k = vs := List.take_of_length_le (by have := HE.out; omega)
      rw [e1]
      clear e1
      clear HE HM2 HM3 hlt hk
      generalize hasF vs v = p at *
      cases p with
      | true =>
        go_wp2_with fail
        have C1 : Calls Try.prog 12 #[.pointer (some ⟨w.heap.size, 0, none⟩), .int .i64 v] wr fun e w' => ∃ A n c, e = .returned (.slice A n c) ∧ w'.ownsRow wr.heap.size 3 1 (.slice A n c) n (([0] : List Int).map (Value.int .i64)) ∧ TabAt w' w.heap.size D (wakeL [⟨.waits, vs⟩] v) ∧ Fr 52 54 w.heap.size wr w' := by
          have := wake_any wr w.heap.size D [⟨.waits, vs⟩] v HR.out.tab
          rw [HW.out.1] at this; exact this
        refine C1.mono ?_
        rintro e w5 ⟨A5, n5, c5, rfl, o5, t5, f5⟩
        have T5 := Lib.hid t5
        have B5 : Hid (Below w.heap.size w w5) := HR.out.below.trans f5.below
        obtain rfl : 1 = n5 := own_len o5
        clear o5 t5 f5 C1
        go_wp2_with fail
        have C1 : Calls Try.prog 13 #[.pointer (some ⟨w.heap.size, 0, none⟩)] w5 fun e w' => ∃ A n c, e = .returned (.slice A n c) ∧ w'.ownsRow w5.heap.size 3 1 (.slice A n c) n (([0] : List Int).map (Value.int .i64)) ∧ Below w5.heap.size w5 w' := by
          have := ready_any w5 w.heap.size D (wakeL [⟨.waits, vs⟩] v) T5.out
          rw [HW.out.2] at this; exact this
        refine C1.mono ?_
        rintro e w6 ⟨A6, n6, c6, rfl, o6, b6⟩
        have B6 : Hid (Below w.heap.size w w6) := B5.out.trans (b6.mono B5.out.size)
        obtain rfl : 1 = n6 := own_len o6
        clear o6 b6 C1 T5
        go_wp2_with (go_at_call 14; refine (lives_any _).mono ?_; rintro e w' ⟨rfl, hb⟩)
        go_ret
        exact ⟨rfl, B6.out.trans (hb.mono B6.out.size)⟩
      | false =>
        go_wp2_with fail
        have C1 : Calls Try.prog 12 #[.pointer (some ⟨w.heap.size, 0, none⟩), .int .i64 v] wr fun e w' => ∃ A n c, e = .returned (.slice A n c) ∧ w'.ownsRow wr.heap.size 3 1 (.slice A n c) n (([] : List Int).map (Value.int .i64)) ∧ TabAt w' w.heap.size D (wakeL [⟨.waits, vs⟩] v) ∧ Fr 52 54 w.heap.size wr w' := by
          have := wake_any wr w.heap.size D [⟨.waits, vs⟩] v HR.out.tab
          rw [HW.out.1] at this; exact this
        refine C1.mono ?_
        rintro e w5 ⟨A5, n5, c5, rfl, o5, t5, f5⟩
        have T5 := Lib.hid t5
        have B5 : Hid (Below w.heap.size w w5) := HR.out.below.trans f5.below
        obtain rfl : 0 = n5 := own_len o5
        clear o5 t5 f5 C1
        go_wp2_with fail
        have C1 : Calls Try.prog 13 #[.pointer (some ⟨w.heap.size, 0, none⟩)] w5 fun e w' => ∃ A n c, e = .returned (.slice A n c) ∧ w'.ownsRow w5.heap.size 3 1 (.slice A n c) n (([] : List Int).map (Value.int .i64)) ∧ Below w5.heap.size w5 w' := by
          have := ready_any w5 w.heap.size D (wakeL [⟨.waits, vs⟩] v) T5.out
          rw [HW.out.2] at this; exact this
        refine C1.mono ?_
        rintro e w6 ⟨A6, n6, c6, rfl, o6, b6⟩
        have B6 : Hid (Below w.heap.size w w6) := B5.out.trans (b6.mono B5.out.size)
        obtain rfl : 0 = n6 := own_len o6
        clear o6 b6 C1 T5
        go_wp2_with (go_at_call 14; refine (lives_any _).mono ?_; rintro e w' ⟨rfl, hb⟩)
        go_ret
        exact ⟨rfl, B6.out.trans (hb.mono B6.out.size)⟩
end Go.Proofs.Ytibgchnfodpehaa
