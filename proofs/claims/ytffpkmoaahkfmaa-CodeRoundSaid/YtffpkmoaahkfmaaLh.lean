/- The laws of layer 13: a code survives its bytes. -/
import Derived.Test.YtffpkmoaahkfmaaLg
import Derived.Test.YtffpkmoaahkfmaaLc
import Derived.Deep.CutBlock
import Derived.Deep.DeepCutAuto
namespace Go.Proofs.Ytffpkmoaahkfmaa
open Go.RowKit
set_option linter.unusedVariables false
attribute [local go_sem ↓] Go.wp_at_zero Go.wp_at_succ

theorem own_rest {w : World} {base : Nat} {A : Option Addr} {n c : Nat} {l : List UInt8} (h : w.ownsRow base 5 1 (.slice A n c) l.length (l.map u8v)) : RestAt w w.heap.size (.slice A n c) l := by
  obtain ⟨A', c', e, hA, hc, hn⟩ := own_form h
  obtain ⟨rfl, rfl, rfl⟩ : A = A' ∧ n = l.length ∧ c = c' := by simpa using e
  refine ⟨_, _, _, rfl, hn, hc, rfl, fun h0 => ?_⟩
  obtain ⟨g, c2, e2, hb, hl, -, -⟩ := own_cell h (k := 0) (by omega)
  obtain ⟨rfl, rfl⟩ : A = some ⟨g, 0, none⟩ ∧ c = c2 := by simpa using e2
  refine ⟨g, 0, rfl, hl, fun j hj => ?_⟩
  obtain ⟨g', c3, e3, _, _, h5, -⟩ := own_cell h (k := j) (by omega)
  obtain ⟨rfl, _⟩ : g = g' ∧ c = c3 := by simpa using e3
  rw [Nat.zero_add, h5, List.getElem?_map, List.getElem?_eq_getElem hj]
  simp [u8v, List.getD_eq_getElem?_getD, List.getElem?_eq_getElem hj]
theorem dec_enc {c : Cod} (h : codOK c = true) : decE (encC c) = 0 ∧ decC (encC c) = c := by
  have hb : decB (encC c) = true := by unfold decB; rw [gCod_read c h]; dsimp only; rw [h]; rfl
  unfold decE decC
  rw [hb, gCod_read c h]; exact ⟨rfl, rfl⟩
theorem enc_dec {l : List UInt8} (h : decB l = true) : codOK (decC l) = true ∧ encC (decC l) = l := by
  have h' := h
  unfold decB at h'
  simp only [Bool.and_eq_true, Bool.not_eq_true'] at h'
  obtain ⟨⟨h1, h2⟩, h3⟩ := h'
  have hd : decC l = (gCod l).1 := by unfold decC; rw [if_pos h]
  have hs : (gCod l).2 = ([], false) := by
    rw [List.isEmpty_iff] at h1
    exact Prod.ext h1 h2
  rw [hd]
  exact ⟨h3, (gCod_inv l hs).symm⟩
theorem same_arg {w : World} {b1 n1 c b off n : Nat} {u : Value} {l : List UInt8} (h1 : w.ownsRow b1 5 1 u n1 (l.map u8v)) (h2 : BytesAt w w.heap.size (some ⟨b, off, none⟩) n l) (h0 : 0 < n) : Calls Try.prog 12 #[u, .slice (some ⟨b, off, none⟩) n c] w fun e w' => e = .returned (.bool true) ∧ w = w' := by
  have c1 := conv_own (l := l) h1 rfl
  have c2 := conv_bytes (k := n) (c := c) h2 (Nat.le_refl _) h0
  rw [List.take_of_length_le (by rw [h2.1]; exact Nat.le_refl _)] at c2
  clear h1 h2
  go_enter Try.func12, Try.ntmps12
  go_wp2
  go_ret
  exact ⟨rfl, rfl⟩
theorem BytesAt.later {w w' : World} {B n : Nat} {A : Option Addr} {l : List UInt8} (h : BytesAt w B A n l) (hb : Below B w w') (hs : B ≤ w'.heap.size) : BytesAt w' w'.heap.size A n l :=
  ⟨h.1, fun h0 => by
    obtain ⟨b, off, e, hlt, hc⟩ := h.2 h0
    exact ⟨b, off, e, by omega, fun j hj => (hb.cell (p := ⟨b, off + j, none⟩) hlt).trans (hc j hj)⟩⟩
set_option maxRecDepth 100000 in
set_option maxHeartbeats 4000000 in
theorem codeRound_walk (v : Value) (c : Cod) (A : Option Addr) (len cap : Nat) (zs : List Int) (w : World) (hc : CodAt w w.heap.size v c) (hz : IsRow .u8 w A len cap zs) :
    Calls Try.prog 8 #[v, .slice A len cap] w fun e w' => e = .returned (.bool true) ∧ Below w.heap.size w w' := by
  obtain ⟨hlc, hcm⟩ := isRow_len hz
  have HC' := Lib.hid hcm
  have HR := Lib.hid hz
  have hcm' : cap ≤ 9223372036854775807 := by unfold maxLen at hcm; exact hcm
  clear hz hcm
  obtain ⟨FA, fn, fc, IA, inn, ic, TA, tn, tc, rfl, h1, h2, h3, hf, hi, ht⟩ := hc.form
  have HC : Hid (CodAt (w.alloc (.cells #[.slice FA fn fc, .slice IA inn ic, .slice TA tn tc, .int .i64 c.lets] 26)) (w.alloc (.cells #[.slice FA fn fc, .slice IA inn ic, .slice TA tn tc, .int .i64 c.lets] 26)).heap.size _ c) :=
    (hc.below ((Below.refl _ _).alloc (Nat.le_refl _) _)).more (by simp)
  clear hc h1 h2 h3 hf hi ht
  go_enter Try.func8, Try.ntmps8
  go_wp2_with fail
  refine (cut_form _ _ c HC.out).mono ?_
  rintro e w1 ⟨FA2, fn2, fc2, IA2, inn2, ic2, TA2, tn2, tc2, rfl, ho, hb⟩
  rw [show (w.alloc (.cells #[.slice FA fn fc, .slice IA inn ic, .slice TA tn tc, .int .i64 c.lets] 26)).heap.size = w.heap.size + 1 from by simp] at ho hb
  have hW := (Whole.made w 26 #[.slice FA fn fc, .slice IA inn ic, .slice TA tn tc, .int .i64 c.lets]).below hb (by omega)
  have c0 : w1.cell? ⟨w.heap.size, 0, none⟩ = some (.slice FA fn fc) := hW.cell 0
  have c1 : w1.cell? ⟨w.heap.size, 1, none⟩ = some (.slice IA inn ic) := hW.cell 1
  have c2 : w1.cell? ⟨w.heap.size, 2, none⟩ = some (.slice TA tn tc) := hW.cell 2
  have c3 : w1.cell? ⟨w.heap.size, 3, none⟩ = some (.int .i64 c.lets) := hW.cell 3
  have f0 := hW.free 0
  have f1 := hW.free 1
  have f2 := hW.free 2
  have f3 := hW.free 3
  have HST := Lib.hid (cut_stored (a := .slice FA2 fn2 fc2) (b := .slice IA2 inn2 ic2) (d := .slice TA2 tn2 tc2) (e := .int .i64 c.lets) rfl ho hb)
  clear ho hb hW HC
  go_wp2_with fail
  generalize (((w1.setCell ⟨w.heap.size, 0, none⟩ (.slice FA2 fn2 fc2)).setCell ⟨w.heap.size, 1, none⟩ (.slice IA2 inn2 ic2)).setCell ⟨w.heap.size, 2, none⟩ (.slice TA2 tn2 tc2)).setCell ⟨w.heap.size, 3, none⟩ (.int .i64 c.lets) = w2 at *
  clear c0 c1 c2 c3 f0 f1 f2 f3
  refine (encode_any w2 _ (cutC c) HST.out.at_).mono ?_
  rintro e w3 ⟨A1, n1, p1, rfl, ho1, hb1⟩
  have HS3 := Lib.hid (HST.out.later hb1)
  have HO1 := Lib.hid ho1
  clear ho1 hb1 HST
  go_upto_if 23 with (fail)
  go_cut [4, 6] (fun s _ wc => s = .bool false ∧ Below w.heap.size w wc)
  case first =>
    by_cases hok : codOK (cutC c) = true
    · have hl : encL (cutC c) = encC (cutC c) := by unfold encL; rw [if_pos hok]
      have he : encE (cutC c) = 0 := by unfold encE; rw [if_pos hok]
      rw [hl] at HO1
      rw [he]
      have HDE := Lib.hid (dec_enc hok)
      have HRA := Lib.hid (own_rest HO1.out)
      go_wp2_with fail
      refine (decode_any _ _ _ HRA.out).mono ?_
      rintro e w4 ⟨GA, gn, gc, JA, jnn, jc, UA, un, uc, z, rfl, hc4, hb4⟩
      rw [HDE.out.2] at hc4
      rw [HDE.out.1]
      have HS4 := Lib.hid (HS3.out.later (hb4.alloc hb4.size (.cells #[.slice GA gn gc, .slice JA jnn jc, .slice UA un uc, .int .i64 z] 26)))
      have HC4 := Lib.hid (hc4.later ((Below.refl w4.heap.size w4).alloc (Nat.le_refl _) (.cells #[.slice GA gn gc, .slice JA jnn jc, .slice UA un uc, .int .i64 z] 26)))
      have HW4 := Lib.hid (Whole.made w4 26 #[.slice GA gn gc, .slice JA jnn jc, .slice UA un uc, .int .i64 z])
      clear hc4 hb4 HRA HDE HO1 HS3 HR
      obtain ⟨s0, s1, s2, s3⟩ := HS4.out.cells
      have d0 := HW4.out.cell 0
      have d1 := HW4.out.cell 1
      have d2 := HW4.out.cell 2
      have d3 := HW4.out.cell 3
      simp at d0 d1 d2 d3
      go_wp2_with fail
      generalize w4.alloc (.cells #[.slice GA gn gc, .slice JA jnn jc, .slice UA un uc, .int .i64 z] 26) = w5 at *
      generalize w4.heap.size = g4 at *
      refine (same_any w5 _ _ (cutC c) HS4.out.at_ HC4.out).mono ?_
      rintro e w6 ⟨rfl, hb6⟩
      have HB6 := Lib.hid (HS4.out.later hb6).below
      clear hb6 HS4 HC4 HW4 s0 s1 s2 s3 d0 d1 d2 d3
      go_wp2_with fail
      go_meet
      exact ⟨rfl, HB6.out⟩
    · have he : encE (cutC c) = 1 := by unfold encE; rw [if_neg hok]
      rw [he]
      clear HO1
      go_wp2_with fail
      go_meet
      exact ⟨rfl, HS3.out.below⟩
  case rest =>
    obtain ⟨rfl, hbl⟩ := hcut
    have HBL := Lib.hid hbl
    clear hbl HO1 HS3
    have hcase : (1500 < len ∧ Hid (∃ l, BytesAt w w.heap.size A 1500 l)) ∨ (len ≤ 1500 ∧ Hid (∃ l, BytesAt w w.heap.size A len l)) := by
      rcases Nat.lt_or_ge 1500 len with h | h
      · exact .inl ⟨h, isRow_bytes HR.out 1500 (by omega)⟩
      · exact .inr ⟨h, isRow_bytes HR.out len (Nat.le_refl _)⟩
    rcases hcase with ⟨h15, hl⟩ | ⟨h15, hl⟩
    · obtain ⟨l, hb⟩ := hl.out
      have hb0 := hb.2 (by omega)
      obtain ⟨b, off, rfl, _⟩ := hb0
      have HB := Lib.hid (hb.later HBL.out HBL.out.size)
      clear hb hl HR
      go_wp2_with fail
      refine (decode_any _ _ l ⟨_, _, _, rfl, by omega, HC'.out, HB.out⟩).mono ?_
      rintro e w4 ⟨GA, gn, gc, JA, jnn, jc, UA, un, uc, z, rfl, hc4, hb4⟩
      have HB4 := Lib.hid (HBL.out.trans ((hb4.alloc hb4.size (.cells #[.slice GA gn gc, .slice JA jnn jc, .slice UA un uc, .int .i64 z] 26)).mono HBL.out.size))
      have HC4 := Lib.hid (hc4.later ((Below.refl w4.heap.size w4).alloc (Nat.le_refl _) (.cells #[.slice GA gn gc, .slice JA jnn jc, .slice UA un uc, .int .i64 z] 26)))
      have HW4 := Lib.hid (Whole.made w4 26 #[.slice GA gn gc, .slice JA jnn jc, .slice UA un uc, .int .i64 z])
      have HY4 := Lib.hid (HB.out.later (hb4.alloc hb4.size (.cells #[.slice GA gn gc, .slice JA jnn jc, .slice UA un uc, .int .i64 z] 26)) (by have := hb4.size; simp; omega))
      clear hc4 hb4 HBL HB
      have d0 := HW4.out.cell 0
      have d1 := HW4.out.cell 1
      have d2 := HW4.out.cell 2
      have d3 := HW4.out.cell 3
      simp at d0 d1 d2 d3
      rcases hdb : decB l with _ | _
      · have he : decE l = 31 := by unfold decE; rw [hdb]; rfl
        rw [he]
        clear HC4 HY4
        go_wp2_with fail
        generalize w4.alloc (.cells #[.slice GA gn gc, .slice JA jnn jc, .slice UA un uc, .int .i64 z] 26) = w5 at *
        refine (lives_any w5).mono ?_
        rintro e w6 ⟨rfl, hb6⟩
        have HB6 := Lib.hid (HB4.out.trans (hb6.mono HB4.out.size))
        clear hb6 HB4
        go_wp2_with fail
        go_ret
        exact ⟨rfl, HB6.out⟩
      · have he : decE l = 0 := by unfold decE; rw [hdb]; rfl
        obtain ⟨hok, henc⟩ := enc_dec hdb
        have HL : Hid (encL (decC l) = l) := by show encL (decC l) = l; unfold encL; rw [if_pos hok]; exact henc
        have hee : encE (decC l) = 0 := by unfold encE; rw [if_pos hok]
        have HEE := Lib.hid hee
        have HLP : Hid (0 < l.length) := by
          show 0 < l.length
          rw [← henc]; unfold encC; simp
        rw [he]
        clear hok henc hee
        go_wp2_with fail
        generalize w4.alloc (.cells #[.slice GA gn gc, .slice JA jnn jc, .slice UA un uc, .int .i64 z] 26) = w5 at *
        refine (encode_any w5 _ (decC l) HC4.out).mono ?_
        rintro e w6 ⟨A6, n6, p6, rfl, ho6, hb6⟩
        rw [HL.out] at ho6
        rw [HEE.out]
        have HO6 := Lib.hid ho6
        have HB6 := Lib.hid (HB4.out.trans (hb6.mono HB4.out.size))
        have HY6 := Lib.hid (HY4.out.later hb6 hb6.size)
        have HN6 := Lib.hid HY4.out.1
        clear ho6 hb6 HB4 HY4 HC4 HW4 HEE
        go_wp2_with fail
        refine (same_arg HO6.out HY6.out (by have := HLP.out; have := HN6.out; omega)).mono ?_
        rintro e w7 ⟨rfl, rfl⟩
        clear HO6 HY6
        go_wp2_with fail
        refine (lives_any w6).mono ?_
        rintro e w8 ⟨rfl, hb8⟩
        have HB8 := Lib.hid (HB6.out.trans (hb8.mono HB6.out.size))
        clear hb8 HB6
        go_wp2_with fail
        go_ret
        exact ⟨rfl, HB8.out⟩
    · obtain ⟨l, hb⟩ := hl.out
      have HB := Lib.hid (hb.later HBL.out HBL.out.size)
      have HA : Hid (0 < len → ∃ b off, A = some ⟨b, off, none⟩) := fun h => by obtain ⟨b, off, e, _⟩ := hb.2 h; exact ⟨b, off, e⟩
      clear hb hl HR
      go_wp2_with fail
      refine (decode_any _ _ l ⟨_, _, _, rfl, by omega, HC'.out, HB.out⟩).mono ?_
      rintro e w4 ⟨GA, gn, gc, JA, jnn, jc, UA, un, uc, z, rfl, hc4, hb4⟩
      have HB4 := Lib.hid (HBL.out.trans ((hb4.alloc hb4.size (.cells #[.slice GA gn gc, .slice JA jnn jc, .slice UA un uc, .int .i64 z] 26)).mono HBL.out.size))
      have HC4 := Lib.hid (hc4.later ((Below.refl w4.heap.size w4).alloc (Nat.le_refl _) (.cells #[.slice GA gn gc, .slice JA jnn jc, .slice UA un uc, .int .i64 z] 26)))
      have HW4 := Lib.hid (Whole.made w4 26 #[.slice GA gn gc, .slice JA jnn jc, .slice UA un uc, .int .i64 z])
      have HY4 := Lib.hid (HB.out.later (hb4.alloc hb4.size (.cells #[.slice GA gn gc, .slice JA jnn jc, .slice UA un uc, .int .i64 z] 26)) (by have := hb4.size; simp; omega))
      clear hc4 hb4 HBL HB
      have d0 := HW4.out.cell 0
      have d1 := HW4.out.cell 1
      have d2 := HW4.out.cell 2
      have d3 := HW4.out.cell 3
      simp at d0 d1 d2 d3
      rcases hdb : decB l with _ | _
      · have he : decE l = 31 := by unfold decE; rw [hdb]; rfl
        rw [he]
        clear HC4 HY4
        go_wp2_with fail
        generalize w4.alloc (.cells #[.slice GA gn gc, .slice JA jnn jc, .slice UA un uc, .int .i64 z] 26) = w5 at *
        refine (lives_any w5).mono ?_
        rintro e w6 ⟨rfl, hb6⟩
        have HB6 := Lib.hid (HB4.out.trans (hb6.mono HB4.out.size))
        clear hb6 HB4
        go_wp2_with fail
        go_ret
        exact ⟨rfl, HB6.out⟩
      · have he : decE l = 0 := by unfold decE; rw [hdb]; rfl
        obtain ⟨hok, henc⟩ := enc_dec hdb
        have HL : Hid (encL (decC l) = l) := by show encL (decC l) = l; unfold encL; rw [if_pos hok]; exact henc
        have hee : encE (decC l) = 0 := by unfold encE; rw [if_pos hok]
        have HEE := Lib.hid hee
        have HLP : Hid (0 < l.length) := by
          show 0 < l.length
          rw [← henc]; unfold encC; simp
        rw [he]
        clear hok henc hee
        obtain ⟨b, off, rfl⟩ := HA.out (by rw [← HY4.out.1]; exact HLP.out)
        go_wp2_with fail
        generalize w4.alloc (.cells #[.slice GA gn gc, .slice JA jnn jc, .slice UA un uc, .int .i64 z] 26) = w5 at *
        refine (encode_any w5 _ (decC l) HC4.out).mono ?_
        rintro e w6 ⟨A6, n6, p6, rfl, ho6, hb6⟩
        rw [HL.out] at ho6
        rw [HEE.out]
        have HO6 := Lib.hid ho6
        have HB6 := Lib.hid (HB4.out.trans (hb6.mono HB4.out.size))
        have HY6 := Lib.hid (HY4.out.later hb6 hb6.size)
        have HN6 := Lib.hid HY4.out.1
        clear ho6 hb6 HB4 HY4 HC4 HW4 HEE
        go_wp2_with fail
        refine (same_arg HO6.out HY6.out (by have := HLP.out; have := HN6.out; omega)).mono ?_
        rintro e w7 ⟨rfl, rfl⟩
        clear HO6 HY6
        go_wp2_with fail
        refine (lives_any w6).mono ?_
        rintro e w8 ⟨rfl, hb8⟩
        have HB8 := Lib.hid (HB6.out.trans (hb8.mono HB6.out.size))
        clear hb8 HB6
        go_wp2_with fail
        go_ret
        exact ⟨rfl, HB8.out⟩
end Go.Proofs.Ytffpkmoaahkfmaa
