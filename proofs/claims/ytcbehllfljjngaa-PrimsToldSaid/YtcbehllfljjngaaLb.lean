/- The law PrimsMake: its walk. -/
import Derived.Test.YtcbehllfljjngaaOpen
import Derived.Test.YtcbehllfljjngaaPWalkF
import Derived.Test.YtcbehllfljjngaaJPlain
namespace Go.Proofs.Ytcbehllfljjngaa
open Go.RowKit
set_option linter.unusedVariables false
attribute [local go_sem ↓] Go.wp_at_zero Go.wp_at_succ

theorem two_start {w w1 : World} {hb : Nat} (h : HeapAt w1 w.heap.size w1.heap.size hb 400 []) (hb1 : Below w.heap.size w w1) :
    Two w w.heap.size w1.heap.size hb 400 w1.heap.size w1.heap.size [] [] (w1.alloc (.cells #[.int .i64 (400 : Nat), .slice none 0 0] 42)) := by
  have h2 : Below w1.heap.size w1 (w1.alloc (.cells #[.int .i64 (400 : Nat), .slice none 0 0] 42)) := (Below.refl _ _).alloc (Nat.le_refl _) _
  exact ⟨h.later h2, ref_new 400 (by decide) w1, hb1.trans (h2.mono hb1.size), hb1.size, Nat.le_refl _⟩
theorem fieldsF_posn {H : Hp} {i : Nat} (h : i < H.length) : fieldsF H (2 * (posn H i : Nat)) = (H.getD i blk0).fs := by
  have h1 : 1 ≤ posn H i := by unfold posn; omega
  unfold fieldsF blkF
  rw [if_pos ⟨by omega, by omega⟩, show (2 * (posn H i : Int)) / 2 = (posn H i : Nat) from by omega, blkAt_posn h]
theorem posn_wf {w : World} {B rb N : Nat} {H : Hp} (h : RefAt w B rb N H) {i : Nat} (hi : i ≤ H.length) : WfI (2 * (posn H i : Nat)) := by
  have h2 := posn_le H hi
  have := h.top
  have := h.n
  exact wf_i64.2 ⟨by omega, by omega⟩
theorem same_own {w : World} {B n m c d : Nat} {A A2 : Option Addr} {zs : List Int} (h1 : w.ownsRow B 3 1 (.slice A n c) n (zs.map (Value.int .i64))) (h2 : Ints w w.heap.size A2 m zs) (hn : n ≤ 1000) (hm : m ≤ 1000) :
    Calls Try.prog 19 #[.slice A n c, .slice A2 m d] w fun e w' => e = .returned (.bool true) ∧ Below w.heap.size w w' := by
  obtain ⟨A', c', e, hi⟩ := Ints.of_own h1
  simp only [Value.slice.injEq] at e
  obtain ⟨rfl, _, rfl⟩ := e
  refine (same_any w _ A A2 n m c d zs zs hi h2 (by omega) (by omega)).mono ?_
  rintro e w' ⟨rfl, hb⟩
  exact ⟨by simp, hb⟩
theorem Two.cell {w0 w : World} {s e hb N B rb : Nat} {P Q : Hp} (h : Two w0 s e hb N B rb P Q w) : ∃ A c, w.cell? ⟨rb, 1, none⟩ = some (.slice A Q.length c) := by
  obtain ⟨A, c, _, x1, _⟩ := h.ref.form
  exact ⟨A, c, x1⟩
set_option maxRecDepth 100000 in
set_option maxHeartbeats 4000000 in
theorem primsMake_walk (A : Option Addr) (n c : Nat) (ds : List Deed) (w : World) (hz : DeedsAt w w.heap.size A n ds ∧ n ≤ 9223372036854775807) :
    Calls Try.prog 5 #[.slice A n c] w fun e w' => e = .returned (.bool true) ∧ Below w.heap.size w w' := by
  obtain ⟨hd, hn⟩ := hz
  have HD := Lib.hid hd
  have HN := Lib.hid hn
  have HB0 := Lib.hid (fun (w1 : World) (hb : Nat) h hb1 => two_start (w := w) (w1 := w1) (hb := hb) h hb1)
  clear hd
  go_enter Try.func5, Try.ntmps5
  go_wp2_with fail
  refine (heapNew_any 400 (by decide) (by decide) w).mono ?_
  rintro e w1 ⟨hb, rfl, h1, b1⟩
  have HT := Lib.hid (HB0.out w1 hb h1 b1)
  have HB1 := Lib.hid b1
  clear h1 b1 HB0
  go_wp2_with fail
  refine (rnew_any 400 (by decide) (by decide) w1).mono ?_
  rintro e w2 ⟨rfl, he⟩
  rw [← he] at HT
  clear he
  go_upto_block 0 with (fail)
  go_cut [5] (fun _ wx => ∃ L, Two w w.heap.size w1.heap.size hb 400 w1.heap.size w1.heap.size L L wx)
  case first =>
    go_wp2_with fail
    go_loopw [5, 6] (fun i _ wr => ∃ k : Nat, k ≤ n ∧ k ≤ 20 ∧ i = .int .i64 k ∧ Two w w.heap.size w1.heap.size hb 400 w1.heap.size w1.heap.size (runL 400 ds k []) (runL 400 ds k []) wr) (fun i _ _ => 20 - (intOf i).toNat)
    case atStart => exact ⟨0, Nat.zero_le _, Nat.zero_le _, rfl, HT.out⟩
    case round =>
      obtain ⟨k, hk, hk40, rfl, hb⟩ := hrel
      have HR := Lib.hid hb
      clear hb HT
      by_cases hlt : k < n
      · by_cases hlt2 : k < 20
        · obtain ⟨g, off, rfl, hg, x0, x1, x2, x3, hw, A', n', c', x4, hi, hn'⟩ := (HD.out.below HR.out.below).at_ hlt
          have HI := Lib.hid (hi.more HR.out.below.size)
          have HN' := Lib.hid hn'
          have HWF := Lib.hid hw
          have HX := Lib.hid (runL_succ (N := 400) (ds := ds) (by have := HD.out.1; omega : k < ds.length) [])
          clear hi hn' hw
          generalize ds.getD k deed0 = d at *
          go_wp2_with fail
          refine (does_two HR.out d HWF.out HI.out HN'.out).mono ?_
          rintro e w3 ⟨rfl, hb2⟩
          rw [← HX.out] at hb2
          have H2 := Lib.hid hb2
          clear hb2 HR HI HN' x0 x1 x2 x3 x4 HX HWF
          generalize hL : runL 400 ds (k + 1) [] = L at *
          have HL := Lib.hid hL
          clear hL
          have CU := Lib.hid (used_any H2.out.heap)
          have CR := Lib.hid (rused_any H2.out.ref)
          generalize sumSz L = q at *
          go_wp2_with fail
          refine CU.out.mono ?_
          rintro e w4 ⟨rfl, rfl⟩
          go_wp2_with fail
          refine CR.out.mono ?_
          rintro e w5 ⟨rfl, b5⟩
          have H5 := Lib.hid (H2.out.later b5)
          clear b5 CU CR H2
          go_wp2_with fail
          go_roundw
          case rel => exact ⟨k + 1, by omega, by omega, by go_num, by rw [HL.out]; exact H5.out⟩
          case measure => simp [intOf]; omega
        · go_wp2_with fail
          go_meet
          exact ⟨_, HR.out⟩
      · go_wp2_with fail
        go_meet
        exact ⟨_, HR.out⟩
  case rest =>
    obtain ⟨L, ht⟩ := hcut
    have H0 := Lib.hid ht
    have hL400 := ht.ref.len
    clear ht HT
    go_wp2_with fail
    go_loopw [7, 8] (fun i _ wr => ∃ k : Nat, k ≤ L.length ∧ i = .int .i64 k ∧ Two w w.heap.size w1.heap.size hb 400 w1.heap.size w1.heap.size L L wr) (fun i _ _ => L.length - (intOf i).toNat)
    case atStart => exact ⟨0, Nat.zero_le _, rfl, H0.out⟩
    case round =>
      obtain ⟨k, hk, rfl, hb⟩ := hrel
      have HR := Lib.hid hb
      clear hb H0
      obtain ⟨AR, cR, r1⟩ := HR.out.cell
      by_cases hlt : k < L.length
      · have HF := Lib.hid (fieldsF_posn hlt)
        have HZW := Lib.hid (posn_wf HR.out.ref (Nat.le_of_lt hlt))
        generalize hll : L.length = ll at *
        have HLL := Lib.hid hll
        clear hll
        go_wp2_with fail
        refine (point_any HR.out.ref k (by rw [HLL.out]; omega)).mono ?_
        rintro e w3 ⟨rfl, b3⟩
        have H3 := Lib.hid (HR.out.later b3)
        clear b3 r1 HR
        generalize hz : 2 * ((posn L k : Nat) : Int) = z at *
        have HZ := Lib.hid hz
        clear hz
        go_wp2_with fail
        refine (fields_any H3.out.heap z HZW.out).mono ?_
        rintro e w4 ⟨A4, n4, c4, rfl, o4, h4, b4⟩
        rw [HF.out] at o4
        have H4 := Lib.hid (H3.out.later b4)
        have O4 := Lib.hid o4
        clear b4 o4 H3
        go_wp2_with fail
        refine (rfields_any H4.out.ref k (by rw [HLL.out]; omega)).mono ?_
        rintro e w5 ⟨A5, n5, c5, rfl, i5, h5, b5⟩
        have H5 := Lib.hid (H4.out.later b5)
        have O5 := Lib.hid (own_below O4.out b5 (Nat.le_refl _))
        have I5 := Lib.hid i5
        have h5' := h5.1
        clear b5 i5 O4 H4 h5
        go_wp2_with fail
        refine (same_own O5.out I5.out (by omega) (by omega)).mono ?_
        rintro e w6 ⟨rfl, b6⟩
        have H6 := Lib.hid (H5.out.later b6)
        clear b6 H5 O5 I5
        go_wp2_with fail
        go_roundw
        case rel => exact ⟨k + 1, by omega, by go_num, H6.out⟩
        case measure => simp [intOf]; omega
      · go_wp2_with (go_at_call 11; refine (lives_any _).mono ?_; rintro e w' ⟨rfl, hb⟩)
        go_ret
        exact ⟨rfl, HR.out.below.trans (hb.mono HR.out.below.size)⟩
end Go.Proofs.Ytcbehllfljjngaa
