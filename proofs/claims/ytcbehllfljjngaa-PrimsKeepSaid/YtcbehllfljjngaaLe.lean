/- The law PrimsKeep: its walk. -/
import Derived.Test.YtcbehllfljjngaaKFact
import Derived.Test.YtcbehllfljjngaaKWalkD
import Derived.Test.YtcbehllfljjngaaPWalkF
namespace Go.Proofs.Ytcbehllfljjngaa
open Go.RowKit
set_option linter.unusedVariables false
attribute [local go_sem ↓] Go.wp_at_zero Go.wp_at_succ

def cut60 (s : ByteArray) : ByteArray := if 60 < s.size then s.extract 0 60 else s
theorem cut60_le (s : ByteArray) : (cut60 s).size ≤ 60 := by
  unfold cut60
  split
  · rw [ByteArray.size_extract]; omega
  · omega
def absF (v : Int) : Int := if v < 0 then -(v + 1) else v
structure Own2 (w0 : World) (e hb : Nat) (H : Hp) (w : World) : Prop where
  heap : HeapAt w w0.heap.size e hb 200 H
  below : Below w0.heap.size w0 w
theorem Own2.later {w0 w w' : World} {e hb : Nat} {H : Hp} (h : Own2 w0 e hb H w) (hb' : Below w.heap.size w w') : Own2 w0 e hb H w' := ⟨h.heap.later hb', h.below.trans (hb'.mono h.below.size)⟩
theorem Own2.on {w0 w w' : World} {e hb : Nat} {H H' : Hp} (h : Own2 w0 e hb H w) (hh : HeapAt w' w0.heap.size e hb 200 H') (hm : Mid w0.heap.size e w w') : Own2 w0 e hb H' w' := ⟨hh, h.below.trans (hm.below h.below.size)⟩
theorem text_to2 {w : World} {s e hb : Nat} {H H' : Hp} (h : HeapAt w s e hb 200 H) (t : ByteArray) (ht : t.size ≤ maxLen) {r er : Int} (hi : TextIn H t.data.toList r er H') :
    Calls Try.prog 23 #[.pointer (some ⟨hb, 0, none⟩), .string t] w fun ee w' => ee = .returned (.tuple #[.int .i64 r, .int .i64 er]) ∧ HeapAt w' s e hb 200 H' ∧ Mid s e w w' := by
  have := text_any h t ht
  unfold TextPost at this
  rw [hi.1, hi.2.1, hi.2.2] at this
  exact this
theorem ints_made (w : World) (zs : List Int) : Ints (w.alloc (.cells (zs.map (Value.int .i64)).toArray 3)) (w.alloc (.cells (zs.map (Value.int .i64)).toArray 3)).heap.size (some ⟨w.heap.size, 0, none⟩) zs.length zs := by
  refine ⟨rfl, fun _ => ⟨w.heap.size, 0, rfl, by simp, fun j hj => ?_⟩⟩
  rw [Nat.zero_add, (Whole.made w 3 _).cell, List.getElem?_toArray, List.getElem?_map, List.getElem?_eq_getElem hj, List.getD_eq_getElem?_getD, List.getElem?_eq_getElem hj]
  rfl
theorem close_to {w : World} {s e hb : Nat} {H H' : Hp} (h : HeapAt w s e hb 200 H) (f : Nat) (hf : f < 1000) {b a c : Int} (hb' : WfI b) (ha : WfI a) (hi : closeR 200 H f [b, a, 9] = c ∧ closeE 200 H f [b, a, 9] = 0 ∧ closeH 200 H f [b, a, 9] = H') (cc : Nat) :
    Calls Try.prog 32 #[.pointer (some ⟨hb, 0, none⟩), .int .i64 f, .slice (some ⟨w.heap.size, 0, none⟩) 3 cc] (w.alloc (.cells #[.int .i64 b, .int .i64 a, .int .i64 9] 3)) fun ee w' => ee = .returned (.tuple #[.int .i64 c, .int .i64 0]) ∧ HeapAt w' s e hb 200 H' ∧ Mid s e w w' := by
  have hB : Below w.heap.size w (w.alloc (.cells #[.int .i64 b, .int .i64 a, .int .i64 9] 3)) := (Below.refl _ _).alloc (Nat.le_refl _) _
  have := close_any (h.later hB) f (wf_i64.2 ⟨by omega, by omega⟩) _ 3 cc [b, a, 9] (ints_made w [b, a, 9]) (by decide) (fun z hz => by
    simp only [List.mem_cons, List.not_mem_nil, or_false] at hz
    rcases hz with rfl | rfl | rfl
    · exact hb'
    · exact ha
    · exact wf_i64.2 ⟨by omega, by omega⟩)
  unfold ClosePost at this
  rw [hi.1, hi.2.1, hi.2.2] at this
  exact this.mono fun _ _ ⟨he, hh, hm⟩ => ⟨he, hh, (Mid.of_below hB).trans hm⟩
theorem collect_to {w : World} {s e hb : Nat} {H : Hp} {c f2 b a : Int} {pt ps : List Int} (h : HeapAt w s e hb 200 H) (hk : KIn H c f2 b a pt ps) (cc : Nat) (hs : s ≤ w.heap.size) :
    Calls Try.prog 33 #[.pointer (some ⟨hb, 0, none⟩), .slice (some ⟨w.heap.size, 0, none⟩) 1 cc] (w.alloc (.cells #[.int .i64 c] 3)) fun ee w' => ∃ A2 c2 e2, ee = .returned (.tuple #[.slice (some A2) 1 c2, .int .i64 0]) ∧ w'.cell? A2 = some (.int .i64 2) ∧ HeapAt w' s e2 hb 200 (kT f2 b a pt ps 4) ∧ Below s w w' := by
  have hB : Below w.heap.size w (w.alloc (.cells #[.int .i64 c] 3)) := (Below.refl _ _).alloc (Nat.le_refl _) _
  refine (collect_any (h.later hB) hk _ cc (ints_made w [c]) (Nat.le_trans hs hB.size)).mono ?_
  rintro ee w' ⟨v, e2, rfl, hh, ho, hb'⟩
  obtain ⟨g, c', e', _, _, hc, _⟩ := own_cell ho (k := 0) (by decide)
  subst e'
  exact ⟨_, _, e2, rfl, hc, hh, (hB.mono hs).trans hb'⟩
set_option maxRecDepth 100000 in
set_option maxHeartbeats 4000000 in
theorem primsKeep_walk (s0 t0 : ByteArray) (v : Int) (w : World) (hs : s0.size ≤ maxLen) (ht : t0.size ≤ maxLen) (hv : (Lit.int .i64 v).wf = true) :
    Calls Try.prog 8 #[.string s0, .string t0, .int .i64 v] w fun e w' => e = .returned (.bool true) ∧ Below w.heap.size w w' := by
  have hs' := cut60_le s0
  have ht' := cut60_le t0
  obtain ⟨hv1, hv2⟩ := wf_i64.1 hv
  clear hv
  go_enter Try.func8, Try.ntmps8
  go_upto_if 25 with (fail)
  go_cut [0] (fun p wx => p = .string (cut60 s0) ∧ wx = w)
  case first =>
    by_cases h70 : 60 < s0.size
    · have HC : Hid (cut60 s0 = s0.extract 0 60) := if_pos h70
      go_wp2_with fail
      go_meet
      rw [HC.out]
      exact ⟨rfl, rfl⟩
    · have HC : Hid (cut60 s0 = s0) := if_neg h70
      go_wp2_with fail
      go_meet
      rw [HC.out]
      exact ⟨rfl, rfl⟩
  case rest =>
    obtain ⟨rfl, rfl⟩ := hcut
    generalize cut60 s0 = s at *
    go_upto_if 30 with (fail)
    go_cut [1] (fun p wx => p = .string (cut60 t0) ∧ wx = wc)
    case first =>
      by_cases h70 : 60 < t0.size
      · have HC : Hid (cut60 t0 = t0.extract 0 60) := if_pos h70
        go_wp2_with fail
        go_meet
        rw [HC.out]
        exact ⟨rfl, rfl⟩
      · have HC : Hid (cut60 t0 = t0) := if_neg h70
        go_wp2_with fail
        go_meet
        rw [HC.out]
        exact ⟨rfl, rfl⟩
    case rest =>
      obtain ⟨rfl, rfl⟩ := hcut
      generalize cut60 t0 = t at *
      have HSM : Hid (s.size ≤ maxLen) := Nat.le_trans hs' (by unfold maxLen; omega)
      have HTM : Hid (t.size ≤ maxLen) := Nat.le_trans ht' (by unfold maxLen; omega)
      obtain ⟨q, hq⟩ := Int.eq_ofNat_of_zero_le (show 0 ≤ absF v by unfold absF; split <;> omega)
      obtain ⟨a, b, c, l, H1, H2, H3, H4, t1, t2, t3, hcl, wa, wb, hk⟩ := keep_made s.data.toList t.data.toList (q % 1000) (by rw [size_data]; exact hs') (by rw [size_data]; exact ht') (by omega)
      obtain ⟨x, wx, ho, st, ss⟩ := keep_told s.data.toList t.data.toList (q % 1000) b a (by rw [size_data]; exact hs') (by rw [size_data]; exact ht') (by omega)
      have T1 := Lib.hid t1
      have T2 := Lib.hid t2
      have T3 := Lib.hid t3
      have CL := Lib.hid hcl
      have KI := Lib.hid hk
      have HO := Lib.hid ho
      have ST := Lib.hid st
      have SS := Lib.hid ss
      have WA := Lib.hid wa
      have WB := Lib.hid wb
      have WX := Lib.hid wx
      have HQ := Lib.hid hq
      clear t1 t2 t3 hcl hk ho st ss wa wb wx hq
      go_wp2_with fail
      refine (heapNew_any 200 (by decide) (by decide) _).mono ?_
      rintro e w1 ⟨hb, rfl, h1, b1⟩
      have O1 : Hid (Own2 _ _ hb [] w1) := ⟨h1, b1⟩
      clear h1 b1
      go_wp2_with fail
      refine (text_to2 O1.out.heap s HSM.out T1.out).mono ?_
      rintro e w2 ⟨rfl, hh, hm⟩
      have O2 := Lib.hid (O1.out.on hh hm)
      clear hh hm O1
      go_wp2_with fail
      refine (text_to2 O2.out.heap ⟨#[108, 111, 115, 116]⟩ (by decide) T2.out).mono ?_
      rintro e w3 ⟨rfl, hh, hm⟩
      have O3 := Lib.hid (O2.out.on hh hm)
      clear hh hm O2
      go_wp2_with fail
      refine (text_to2 O3.out.heap t HTM.out T3.out).mono ?_
      rintro e w4 ⟨rfl, hh, hm⟩
      have O4 := Lib.hid (O3.out.on hh hm)
      clear hh hm O3
      go_upto_if 53 with (fail)
      go_cut [2] (fun z wx => z = .int .i64 (absF v) ∧ wx = w4)
      case first =>
        by_cases hneg : v < 0
        · have HC : Hid (absF v = -(v + 1)) := if_pos hneg
          go_wp2_with fail
          go_meet
          rw [HC.out]
          exact ⟨rfl, rfl⟩
        · have HC : Hid (absF v = v) := if_neg hneg
          go_wp2_with fail
          go_meet
          rw [HC.out]
          exact ⟨rfl, rfl⟩
      case rest =>
        obtain ⟨rfl, rfl⟩ := hcut
        rw [HQ.out]
        go_upto_region 16 with (fail)
        rw [show ((q : Int) % 1000) = ((q % 1000 : Nat) : Int) from by omega]
        have hf : q % 1000 < 1000 := by omega
        generalize q % 1000 = f at *
        go_wp2_with fail
        refine (close_to O4.out.heap f hf WB.out WA.out CL.out _).mono ?_
        rintro e w5 ⟨rfl, hh, hm⟩
        have O5 := Lib.hid (O4.out.on hh hm)
        clear hh hm O4
        go_wp2_with fail
        refine (collect_to O5.out.heap KI.out _ O5.out.below.size).mono ?_
        rintro e w6 ⟨A2, c2, e2, rfl, x0, hh, hb6⟩
        have O6 : Hid (Own2 _ e2 hb _ w6) := ⟨hh, O5.out.below.trans hb6⟩
        clear hh hb6 O5
        have op := open_any O6.out.heap 2 (wf_i64.2 ⟨by omega, by omega⟩)
        rw [HO.out] at op
        have OP := Lib.hid op
        clear op
        go_wp2_with fail
        refine OP.out.mono ?_
        rintro e w7 ⟨A7, n7, c7, rfl, i7, _, b7⟩
        obtain rfl : 3 = n7 := i7.1
        obtain ⟨bb, off, rfl, hbb, hcs⟩ := i7.2 (by decide)
        have k0 : w7.cell? ⟨bb, off, none⟩ = some (.int .i64 12) := hcs 0 (by decide)
        have k1 : w7.cell? ⟨bb, off + 1, none⟩ = some (.int .i64 x) := hcs 1 (by decide)
        have k2 : w7.cell? ⟨bb, off + 2, none⟩ = some (.int .i64 9) := hcs 2 (by decide)
        have O7 := Lib.hid (O6.out.later b7)
        clear b7 O6 i7 hcs OP x0
        go_wp2_with fail
        refine (str_at O7.out.heap 12 (wf_i64.2 ⟨by omega, by omega⟩) t ST.out).mono ?_
        rintro e w8 ⟨rfl, b8⟩
        have O8 := Lib.hid (O7.out.later b8)
        have l1 := (b8.cell (p := ⟨bb, off + 1, none⟩) hbb).trans k1
        have l2 := (b8.cell (p := ⟨bb, off + 2, none⟩) hbb).trans k2
        have hbb8 : bb < w8.heap.size := Nat.lt_of_lt_of_le hbb b8.size
        clear b8 O7 k0 k1 k2
        go_wp2_with fail
        refine (str_at O8.out.heap x WX.out s SS.out).mono ?_
        rintro e w9 ⟨rfl, b9⟩
        have O9 := Lib.hid (O8.out.later b9)
        have m2 := (b9.cell (p := ⟨bb, off + 2, none⟩) hbb8).trans l2
        clear b9 O8 l1 l2
        go_wp2_with (go_at_call 11; refine (lives_any _).mono ?_; rintro e w' ⟨rfl, hb⟩)
        go_ret
        exact ⟨rfl, O9.out.below.trans (hb.mono O9.out.below.size)⟩
end Go.Proofs.Ytcbehllfljjngaa
