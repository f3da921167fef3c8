/- The walks of layer 1: an integer's digits, by the program. -/
import Derived.Test.YtihenoielkkdkaaWalkC
import Derived.Test.YtihenoielkkdkaaWords
import Derived.Test.YtihenoielkkdkaaPlainD
namespace Go.Proofs.Ytihenoielkkdkaa
open Go.RowKit

def ShowInv (w : World) (m0 : Nat) (sg : Int) (N a : Value) (wr : World) : Prop :=
  ∃ (k m q : Nat) (ds : List UInt8) (cs : Array Value), q + k = 24 ∧ a = .int .i64 (q : Int) ∧ N = .int .i64 (sg * (m : Int)) ∧ ShowRel m0 k m ds ∧ Whole wr w.heap.size 40 cs ∧ cs.size = 24 ∧
    cs.toList.drop q = ds.map (fun b => Value.int .u8 (b.toNat : Int)) ∧ Below w.heap.size w wr

theorem arr_len : Try.prog.arrayLen 40 = 24 := by kernel_rfl
theorem arr_elem : Try.prog.elem 40 = 5 := by kernel_rfl
theorem slice_arr (B q : Nat) (h : q < 24) (W : World) :
    (Instr.sliceAt 40 (.pointer (some ⟨B, 0, none⟩)) (some (.int .i64 (q : Int))) none none).run Try.prog W = .ok (.slice (some ⟨B, q, none⟩) (24 - q) (24 - q)) W := by
  rw [run_sliceAt_array_l W 40 ⟨B, 0, none⟩ (by rw [arr_len, arr_elem]; exact Try.underlying40) .i64 q (by omega) (by rw [arr_len]; omega)]
  rw [arr_len, arr_elem]
  have e : (sizeOf 5).run Try.prog W = .ok 1 W := by kernel_rfl
  rw [e]
  show Result.ok (Value.slice (some (if 24 = (q : Int).toNat then _ else _)) _ _) W = _
  rw [if_neg (by omega)]
  rw [Int.toNat_natCast]
  by_cases hq : q = 0
  · subst hq; rfl
  · simp [Addr.add, hq]
theorem conv_arr (W : World) (B q : Nat) (ds : List UInt8) (cs : Array Value) (hq : q < 24) (hs : cs.size = 24) (hb : Whole W B 40 cs) (hd : cs.toList.drop q = ds.map (fun b => Value.int .u8 (b.toNat : Int))) :
    (convert 41 9 (.slice (some ⟨B, q, none⟩) (24 - q) (24 - q))).run Try.prog W = .ok (.string ⟨ds.toArray⟩) W := by
  have hl : ds.length = 24 - q := by
    have := congrArg List.length hd
    simp at this; omega
  rw [← str_of_digits]
  refine run_convert_bytes_arg W 41 5 Try.underlying41 Try.underlying5 B q (24 - q) (24 - q) _ (by simpa using hl) (fun i hi => ?_) 9 Try.underlying9
  rw [hb.cell]
  have h1 : cs[q + i]? = (cs.toList.drop q)[i]? := by rw [List.getElem?_drop, Array.getElem?_toList]
  rw [h1, hd]
  simp [List.getD, List.getElem?_map, List.getElem?_eq_getElem (show i < ds.length by omega)]
/-- The digit that a round puts ahead of those that are there. -/
theorem put_digit {w wr : World} {q : Nat} {ds : List UInt8} {cs : Array Value} (hb : Whole wr w.heap.size 40 cs) (hs : cs.size = 24) (hq : q < 24)
    (hd : cs.toList.drop (q + 1) = ds.map (fun b => Value.int .u8 (b.toNat : Int))) (c : UInt8) (v : Value) (hv : v = .int .u8 (c.toNat : Int)) :
    Whole (wr.setCell ⟨w.heap.size, q, none⟩ v) w.heap.size 40 (cs.setIfInBounds q v) ∧ (cs.setIfInBounds q v).size = 24 ∧
    (cs.setIfInBounds q v).toList.drop q = (c :: ds).map (fun b => Value.int .u8 (b.toNat : Int)) := by
  refine ⟨hb.put q v, by simpa using hs, ?_⟩
  subst hv
  rw [Array.toList_setIfInBounds, List.drop_set, if_neg (by omega), List.map_cons, ← hd]
  rw [List.drop_eq_getElem_cons (by simpa using (by omega : q < cs.size))]
  simp

set_option maxHeartbeats 400000 in
theorem show_pos (n : Int) (w : World) (h0 : 0 ≤ cw n) :
    Calls Try.prog 23 #[.int .i64 n] w fun e w' => e = .returned (.string ⟨(shw (cw n)).toArray⟩) ∧ Below w.heap.size w w' := by
  have h2 := cw_hi n
  have hnb : decide (cw n < 0) = false := by simp; omega
  go_enter Try.func23, Try.ntmps23
  go_wp2_with (first | (go_at_call 16; refine (wrap_any _ _).mono ?_; rintro e w' ⟨rfl, rfl⟩) )
  go_loopw [0, 4] (ShowInv w (cw n).natAbs 1) (fun _ i _ => (intOf i).toNat)
  case atStart =>
    refine ⟨0, (cw n).natAbs, 24, [], _, rfl, rfl, ?_, show_start _ (by omega), Whole.made _ _ _, rfl, rfl, (Below.refl _ _).alloc (Nat.le_refl _) _⟩
    rw [Int.one_mul, Int.natAbs_of_nonneg h0]
  case round =>
    obtain ⟨k, m, q, ds, cs, hq, rfl, rfl, hr, hb, hs, hd, hw⟩ := hrel
    have hk := hr.lt
    obtain ⟨q', rfl⟩ : ∃ q', q = q' + 1 := ⟨q - 1, by omega⟩
    have hlt : q' < 24 := by omega
    rw [Int.one_mul]
    obtain ⟨v0, hcell⟩ : ∃ v, wr.cell? ⟨w.heap.size, q', none⟩ = some v := ⟨_, (hb.cell q').trans (Array.getElem?_eq_getElem (by omega))⟩
    have hle := hr.le
    have hfree := hb.free q'
    have gw := hw.setCell (p := ⟨w.heap.size, q', none⟩) (Nat.le_refl _) (.int .u8 (48 + (m : Int) % 10))
    obtain ⟨c, hc⟩ : ∃ c, UInt8.ofNat (48 + m % 10) = c := ⟨_, rfl⟩
    obtain ⟨g1, g2, g3⟩ := put_digit hb hs hlt hd c (.int .u8 (48 + (m : Int) % 10)) (by rw [digit_val, hc])
    have hsl := fun W => slice_arr w.heap.size q' hlt W
    have hcv := conv_arr _ w.heap.size q' _ _ hlt g2 g1 g3
    by_cases hz : m / 10 = 0
    · have hz' : ((m : Int) / 10 == 0) = true := by simp; omega
      have hfin : shw (cw n) = c :: ds := by unfold shw; rw [if_neg (by omega), ← hc]; exact show_last hr hz
      have H := Lib.hid hfin
      clear hfin g1 g2 g3 hb hd hz hs hc
      go_wp2
      go_ret
      exact ⟨by rw [H.out]; rfl, gw⟩
    · have hz' : ((m : Int) / 10 == 0) = false := by simp; omega
      have hn := show_next hr hz
      rw [hc] at hn
      have H1 := Lib.hid g1; have H2 := Lib.hid g2; have H3 := Lib.hid g3; have Hq := Lib.hid hq
      clear g1 g2 g3 hb hd hz hsl hcv hq hs hc
      go_wp2
      refine ⟨⟨k + 1, m / 10, q', _, _, by have := Hq.out; omega, rfl, ?_, hn, H1.out, H2.out, H3.out, gw⟩, by simp [intOf]⟩
      rw [Int.one_mul]; rfl
set_option maxHeartbeats 1000000 in
theorem show_neg (n : Int) (w : World) (h0 : cw n < 0) :
    Calls Try.prog 23 #[.int .i64 n] w fun e w' => e = .returned (.string ⟨(shw (cw n)).toArray⟩) ∧ Below w.heap.size w w' := by
  have h2 := cw_lo n
  have hnb : decide (cw n < 0) = true := by simp; omega
  go_enter Try.func23, Try.ntmps23
  go_wp2_with (first | (go_at_call 16; refine (wrap_any _ _).mono ?_; rintro e w' ⟨rfl, rfl⟩) )
  go_loopw [0, 4] (ShowInv w (cw n).natAbs (-1)) (fun _ i _ => (intOf i).toNat)
  case atStart =>
    refine ⟨0, (cw n).natAbs, 24, [], _, rfl, rfl, ?_, show_start _ (by omega), Whole.made _ _ _, rfl, rfl, (Below.refl _ _).alloc (Nat.le_refl _) _⟩
    congr 1; omega
  case round =>
    obtain ⟨k, m, q, ds, cs, hq, rfl, rfl, hr, hb, hs, hd, hw⟩ := hrel
    have hk := hr.lt
    obtain ⟨q', rfl⟩ : ∃ q', q = q' + 1 := ⟨q - 1, by omega⟩
    have hlt : q' < 24 := by omega
    rw [Int.neg_one_mul]
    obtain ⟨v0, hcell⟩ : ∃ v, wr.cell? ⟨w.heap.size, q', none⟩ = some v := ⟨_, (hb.cell q').trans (Array.getElem?_eq_getElem (by omega))⟩
    have hle := hr.le
    have hfree := hb.free q'
    have hmod : (-(m : Int)).tmod 10 = -((m : Int) % 10) := by rw [Int.neg_tmod, Int.tmod_eq_emod_of_nonneg (by omega)]
    have hdiv : wrap64 (-(m : Int).tdiv 10) = -((m : Int) / 10) := by rw [Int.tdiv_eq_ediv_of_nonneg (by omega)]; unfold wrap64; omega
    obtain ⟨c, hc⟩ : ∃ c, UInt8.ofNat (48 + m % 10) = c := ⟨_, rfl⟩
    by_cases hp : m % 10 = 0
    · have hp' : (m : Int) % 10 = 0 := by omega
      have gw := hw.setCell (p := ⟨w.heap.size, q', none⟩) (Nat.le_refl _) (.int .u8 (48))
      obtain ⟨g1, g2, g3⟩ := put_digit hb hs hlt hd c (.int .u8 (48)) (by rw [← hc, ← digit_val]; congr 1; omega)
      by_cases hz : m / 10 = 0
      · have hz' : (-((m : Int) / 10) == 0) = true := by simp; omega
        have hfin : shw (cw n) = 45 :: (c :: ds) := by unfold shw; rw [if_pos (by omega), ← hc]; exact congrArg _ (show_last hr hz)
        obtain ⟨q2, rfl⟩ : ∃ q2, q' = q2 + 1 := ⟨q' - 1, by omega⟩
        have hlt2 : q2 < 24 := by omega
        obtain ⟨v1, hcell1⟩ : ∃ v, (wr.setCell ⟨w.heap.size, q2 + 1, none⟩ (.int .u8 (48))).cell? ⟨w.heap.size, q2, none⟩ = some v := ⟨_, (g1.cell q2).trans (Array.getElem?_eq_getElem (by omega))⟩
        obtain ⟨k1, k2, k3⟩ := put_digit g1 g2 hlt2 g3 45 (.int .u8 45) rfl
        have hfree1 := g1.free q2
        have gw2 := gw.setCell (p := ⟨w.heap.size, q2, none⟩) (Nat.le_refl _) (.int .u8 45)
        have hsl := fun W => slice_arr w.heap.size q2 hlt2 W
        have hcv := conv_arr _ w.heap.size q2 _ _ hlt2 k2 k1 k3
        have H := Lib.hid hfin
        clear hfin g1 g2 g3 hb hd hz hs k1 k2 k3 hc
        go_wp2
        go_ret
        exact ⟨by rw [H.out]; rfl, gw2⟩
      · have hz' : (-((m : Int) / 10) == 0) = false := by simp; omega
        have hn := show_next hr hz
        rw [hc] at hn
        have H1 := Lib.hid g1; have H2 := Lib.hid g2; have H3 := Lib.hid g3; have Hq := Lib.hid hq
        clear g1 g2 g3 hb hd hz hq hs hc
        go_wp2
        refine ⟨⟨k + 1, m / 10, q', _, _, by have := Hq.out; omega, rfl, ?_, hn, H1.out, H2.out, H3.out, gw⟩, by simp [intOf]⟩
        rw [Int.neg_one_mul]; rfl
    · have hp' : -((m : Int) % 10) < 0 := by omega
      have gw := hw.setCell (p := ⟨w.heap.size, q', none⟩) (Nat.le_refl _) (.int .u8 (48 + (m : Int) % 10))
      obtain ⟨g1, g2, g3⟩ := put_digit hb hs hlt hd c (.int .u8 (48 + (m : Int) % 10)) (by rw [← hc, ← digit_val])
      by_cases hz : m / 10 = 0
      · have hz' : (-((m : Int) / 10) == 0) = true := by simp; omega
        have hfin : shw (cw n) = 45 :: (c :: ds) := by unfold shw; rw [if_pos (by omega), ← hc]; exact congrArg _ (show_last hr hz)
        obtain ⟨q2, rfl⟩ : ∃ q2, q' = q2 + 1 := ⟨q' - 1, by omega⟩
        have hlt2 : q2 < 24 := by omega
        obtain ⟨v1, hcell1⟩ : ∃ v, (wr.setCell ⟨w.heap.size, q2 + 1, none⟩ (.int .u8 (48 + (m : Int) % 10))).cell? ⟨w.heap.size, q2, none⟩ = some v := ⟨_, (g1.cell q2).trans (Array.getElem?_eq_getElem (by omega))⟩
        obtain ⟨k1, k2, k3⟩ := put_digit g1 g2 hlt2 g3 45 (.int .u8 45) rfl
        have hfree1 := g1.free q2
        have gw2 := gw.setCell (p := ⟨w.heap.size, q2, none⟩) (Nat.le_refl _) (.int .u8 45)
        have hsl := fun W => slice_arr w.heap.size q2 hlt2 W
        have hcv := conv_arr _ w.heap.size q2 _ _ hlt2 k2 k1 k3
        have H := Lib.hid hfin
        clear hfin g1 g2 g3 hb hd hz hs k1 k2 k3 hc
        go_wp2
        go_ret
        exact ⟨by rw [H.out]; rfl, gw2⟩
      · have hz' : (-((m : Int) / 10) == 0) = false := by simp; omega
        have hn := show_next hr hz
        rw [hc] at hn
        have H1 := Lib.hid g1; have H2 := Lib.hid g2; have H3 := Lib.hid g3; have Hq := Lib.hid hq
        clear g1 g2 g3 hb hd hz hq hs hc
        go_wp2
        refine ⟨⟨k + 1, m / 10, q', _, _, by have := Hq.out; omega, rfl, ?_, hn, H1.out, H2.out, H3.out, gw⟩, by simp [intOf]⟩
        rw [Int.neg_one_mul]; rfl
theorem show_any (n : Int) (w : World) :
    Calls Try.prog 23 #[.int .i64 n] w fun e w' => e = .returned (.string ⟨(shw (cw n)).toArray⟩) ∧ Below w.heap.size w w' := by
  by_cases h : 0 ≤ cw n
  · exact show_pos n w h
  · exact show_neg n w (by omega)
end Go.Proofs.Ytihenoielkkdkaa
