/- The laws of layer 13: the program and the document read the same code. -/
import Derived.Test.YtffpkmoaahkfmaaWalkR
import Derived.Test.YtffpkmoaahkfmaaWalkS
namespace Go.Proofs.Ytffpkmoaahkfmaa
open Go.RowKit
set_option linter.unusedVariables false
attribute [local go_sem ↓] Go.wp_at_zero Go.wp_at_succ

/-- What a slice of integers handed in reads as, up to its capacity. -/
def IsRow (k : IntKind) (W : World) (a : Option Addr) (len cap : Nat) (zs : List Int) : Prop :=
  (a = none ∧ len = 0 ∧ cap = 0 ∧ zs = []) ∨ ∃ x, a = some x ∧ len ≤ cap ∧ cap ≤ maxLen ∧ zs.length = cap ∧ (∀ i, i < zs.length → W.cell? (x.add i) = some (.int k (zs.getD i 0))) ∧ ∀ n ∈ zs, (Lit.int k n).wf = true
theorem isRow_len {k : IntKind} {W : World} {a : Option Addr} {len cap : Nat} {zs : List Int} (h : IsRow k W a len cap zs) : len ≤ cap ∧ cap ≤ maxLen := by
  rcases h with ⟨_, rfl, rfl, _⟩ | ⟨_, _, h1, h2, _⟩
  · exact ⟨Nat.le_refl _, by unfold maxLen; omega⟩
  · exact ⟨h1, h2⟩
theorem isRow_bytes {W : World} {a : Option Addr} {len cap : Nat} {zs : List Int} (h : IsRow .u8 W a len cap zs) (m : Nat) (hm : m ≤ len) :
    ∃ l : List UInt8, BytesAt W W.heap.size a m l := by
  rcases h with ⟨rfl, rfl, rfl, rfl⟩ | ⟨x, rfl, h1, h2, hl, hc, hw⟩
  · obtain rfl : m = 0 := by omega
    exact ⟨[], rfl, fun h => absurd h (by omega)⟩
  · refine ⟨(List.range m).map fun j => UInt8.ofNat (zs.getD j 0).toNat, by simp, fun h0 => ?_⟩
    obtain ⟨b, off, sp⟩ := x
    have hc0 := hc 0 (by omega)
    have hlt : b < W.heap.size := by
      rcases Nat.lt_or_ge b W.heap.size with h | h
      · exact h
      · unfold World.cell? Addr.add at hc0; rw [if_pos rfl] at hc0; simp [Array.getElem?_eq_none h] at hc0
    have hsp : sp = none := by
      cases sp with
      | none => rfl
      | some y =>
        unfold World.cell? Addr.add at hc0; rw [if_pos rfl] at hc0
        dsimp only at hc0
        split at hc0 <;> simp at hc0
    subst hsp
    refine ⟨b, off, rfl, hlt, fun j hj => ?_⟩
    have := hc j (by omega)
    have e : (⟨b, off, none⟩ : Addr).add j = ⟨b, off + j, none⟩ := by unfold Addr.add; split <;> simp_all
    rw [e] at this
    rw [this]
    have hm' : zs.getD j 0 ∈ zs := by
      rw [List.getD_eq_getElem?_getD, List.getElem?_eq_getElem (by omega)]; exact List.getElem_mem _
    have hwf := hw _ hm'
    simp only [Lit.wf, IntKind.min, IntKind.max, IntKind.signed, IntKind.bits, Bool.and_eq_true, decide_eq_true_eq, Bool.false_eq_true, if_false] at hwf
    have hg : ((List.range m).map fun j => UInt8.ofNat (zs.getD j 0).toNat).getD j 0 = UInt8.ofNat (zs.getD j 0).toNat := by
      rw [List.getD_eq_getElem?_getD, List.getElem?_map, List.getElem?_range hj]; rfl
    rw [hg, UInt8.toNat_ofNat']
    congr 2
    omega
theorem CodAt.later {w w' : World} {v : Value} {c : Cod} (h : CodAt w w.heap.size v c) (hb : Below w.heap.size w w') : CodAt w' w'.heap.size v c :=
  (h.below hb).more hb.size
set_option maxRecDepth 100000 in
set_option maxHeartbeats 4000000 in
theorem codeDecodes_walk (A : Option Addr) (len cap : Nat) (zs : List Int) (w : World) (hz : IsRow .u8 w A len cap zs) :
    Calls Try.prog 7 #[.slice A len cap] w fun e w' => e = .returned (.bool true) ∧ Below w.heap.size w w' := by
  obtain ⟨hlc, hcm⟩ := isRow_len hz
  have HC := Lib.hid hcm
  have HR := Lib.hid hz
  have hcm' : cap ≤ 9223372036854775807 := by unfold maxLen at hcm; exact hcm
  clear hz hcm
  have hcase : (1500 < len ∧ Hid (∃ l, BytesAt w w.heap.size A 1500 l)) ∨ (len ≤ 1500 ∧ Hid (∃ l, BytesAt w w.heap.size A len l)) := by
    rcases Nat.lt_or_ge 1500 len with h | h
    · exact .inl ⟨h, isRow_bytes HR.out 1500 (by omega)⟩
    · exact .inr ⟨h, isRow_bytes HR.out len (Nat.le_refl _)⟩
  go_enter Try.func7, Try.ntmps7
  rcases hcase with ⟨h15, hl⟩ | ⟨h15, hl⟩
  · obtain ⟨l, hb⟩ := hl.out
    have HB := Lib.hid hb
    have hb0 := hb.2 (by omega)
    obtain ⟨b, off, rfl, _⟩ := hb0
    clear hb hl
    clear HR
    go_wp2_with fail
    refine (decode_any _ _ l ⟨_, _, _, rfl, by omega, HC.out, HB.out⟩).mono ?_
    rintro e w1 ⟨FA, fn, fc, IA, inn, ic, TA, tn, tc, z, rfl, hc1, hb1⟩
    have HC1 := Lib.hid (hc1.later ((Below.refl w1.heap.size w1).alloc (Nat.le_refl _) (.cells #[.slice FA fn fc, .slice IA inn ic, .slice TA tn tc, .int .i64 z] 26)))
    have HW1 := Lib.hid (Whole.made w1 26 #[.slice FA fn fc, .slice IA inn ic, .slice TA tn tc, .int .i64 z])
    have HB1 := Lib.hid (hb1.alloc hb1.size (.cells #[.slice FA fn fc, .slice IA inn ic, .slice TA tn tc, .int .i64 z] 26))
    clear hc1 hb1
    go_wp2_with fail
    generalize w1.alloc (.cells #[.slice FA fn fc, .slice IA inn ic, .slice TA tn tc, .int .i64 z] 26) = w2 at *
    generalize w1.heap.size = g1 at *
    refine (rdecode_any _ _ _ _ l (by omega) HC.out (bytes_below (B := w2.heap.size) ⟨HB.out.1, fun h => by obtain ⟨b, o, e, hl, hc⟩ := HB.out.2 h; exact ⟨b, o, e, Nat.lt_of_lt_of_le hl HB1.out.size, fun j hj => (HB1.out.cell (p := ⟨b, o + j, none⟩) hl).trans (hc j hj)⟩⟩ (Below.refl _ _))).mono ?_
    rintro e w3 ⟨GA, gn, gc, JA, jnn, jc, UA, un, uc, zz, rfl, hc2, hb2⟩
    have HC2 := Lib.hid (hc2.later ((Below.refl w3.heap.size w3).alloc (Nat.le_refl _) (.cells #[.slice GA gn gc, .slice JA jnn jc, .slice UA un uc, .int .i64 zz] 26)))
    have HC3 := Lib.hid (HC1.out.later (hb2.alloc hb2.size (.cells #[.slice GA gn gc, .slice JA jnn jc, .slice UA un uc, .int .i64 zz] 26)))
    have HW2 := Lib.hid (Whole.made w3 26 #[.slice GA gn gc, .slice JA jnn jc, .slice UA un uc, .int .i64 zz])
    have HW3 := Lib.hid ((HW1.out.below hb2 HW1.out.lt).alloc (.cells #[.slice GA gn gc, .slice JA jnn jc, .slice UA un uc, .int .i64 zz] 26))
    have HB2 := Lib.hid (HB1.out.trans ((hb2.alloc hb2.size (.cells #[.slice GA gn gc, .slice JA jnn jc, .slice UA un uc, .int .i64 zz] 26)).mono HB1.out.size))
    clear hc2 hb2 HC1 HW1 HB1
    have c0 := HW2.out.cell 0
    have c1 := HW2.out.cell 1
    have c2 := HW2.out.cell 2
    have c3 := HW2.out.cell 3
    have d0 := HW3.out.cell 0
    have d1 := HW3.out.cell 1
    have d2 := HW3.out.cell 2
    have d3 := HW3.out.cell 3
    simp at c0 c1 c2 c3 d0 d1 d2 d3
    go_wp2_with fail
    generalize w3.alloc (.cells #[.slice GA gn gc, .slice JA jnn jc, .slice UA un uc, .int .i64 zz] 26) = w4 at *
    generalize w3.heap.size = g2 at *
    refine (same_any w4 _ _ (decC l) HC3.out HC2.out).mono ?_
    rintro e w5 ⟨rfl, hb3⟩
    have HB3 := Lib.hid (HB2.out.trans (hb3.mono HB2.out.size))
    clear hb3 HB2 HC2 HC3 HW2 HW3 c0 c1 c2 c3 d0 d1 d2 d3
    generalize decE l = de at *
    go_wp2_with fail
    refine (lives_any w5).mono ?_
    rintro e w6 ⟨rfl, hb4⟩
    have HB4 := Lib.hid (HB3.out.trans (hb4.mono HB3.out.size))
    clear hb4 HB3
    go_wp2_with fail
    go_ret
    exact ⟨rfl, HB4.out⟩
  · obtain ⟨l, hb⟩ := hl.out
    have HB := Lib.hid hb
    clear hb hl
    clear HR
    go_wp2_with fail
    refine (decode_any _ _ l ⟨_, _, _, rfl, by omega, HC.out, HB.out⟩).mono ?_
    rintro e w1 ⟨FA, fn, fc, IA, inn, ic, TA, tn, tc, z, rfl, hc1, hb1⟩
    have HC1 := Lib.hid (hc1.later ((Below.refl w1.heap.size w1).alloc (Nat.le_refl _) (.cells #[.slice FA fn fc, .slice IA inn ic, .slice TA tn tc, .int .i64 z] 26)))
    have HW1 := Lib.hid (Whole.made w1 26 #[.slice FA fn fc, .slice IA inn ic, .slice TA tn tc, .int .i64 z])
    have HB1 := Lib.hid (hb1.alloc hb1.size (.cells #[.slice FA fn fc, .slice IA inn ic, .slice TA tn tc, .int .i64 z] 26))
    clear hc1 hb1
    go_wp2_with fail
    generalize w1.alloc (.cells #[.slice FA fn fc, .slice IA inn ic, .slice TA tn tc, .int .i64 z] 26) = w2 at *
    generalize w1.heap.size = g1 at *
    refine (rdecode_any _ _ _ _ l (by omega) HC.out (bytes_below (B := w2.heap.size) ⟨HB.out.1, fun h => by obtain ⟨b, o, e, hl, hc⟩ := HB.out.2 h; exact ⟨b, o, e, Nat.lt_of_lt_of_le hl HB1.out.size, fun j hj => (HB1.out.cell (p := ⟨b, o + j, none⟩) hl).trans (hc j hj)⟩⟩ (Below.refl _ _))).mono ?_
    rintro e w3 ⟨GA, gn, gc, JA, jnn, jc, UA, un, uc, zz, rfl, hc2, hb2⟩
    have HC2 := Lib.hid (hc2.later ((Below.refl w3.heap.size w3).alloc (Nat.le_refl _) (.cells #[.slice GA gn gc, .slice JA jnn jc, .slice UA un uc, .int .i64 zz] 26)))
    have HC3 := Lib.hid (HC1.out.later (hb2.alloc hb2.size (.cells #[.slice GA gn gc, .slice JA jnn jc, .slice UA un uc, .int .i64 zz] 26)))
    have HW2 := Lib.hid (Whole.made w3 26 #[.slice GA gn gc, .slice JA jnn jc, .slice UA un uc, .int .i64 zz])
    have HW3 := Lib.hid ((HW1.out.below hb2 HW1.out.lt).alloc (.cells #[.slice GA gn gc, .slice JA jnn jc, .slice UA un uc, .int .i64 zz] 26))
    have HB2 := Lib.hid (HB1.out.trans ((hb2.alloc hb2.size (.cells #[.slice GA gn gc, .slice JA jnn jc, .slice UA un uc, .int .i64 zz] 26)).mono HB1.out.size))
    clear hc2 hb2 HC1 HW1 HB1
    have c0 := HW2.out.cell 0
    have c1 := HW2.out.cell 1
    have c2 := HW2.out.cell 2
    have c3 := HW2.out.cell 3
    have d0 := HW3.out.cell 0
    have d1 := HW3.out.cell 1
    have d2 := HW3.out.cell 2
    have d3 := HW3.out.cell 3
    simp at c0 c1 c2 c3 d0 d1 d2 d3
    go_wp2_with fail
    generalize w3.alloc (.cells #[.slice GA gn gc, .slice JA jnn jc, .slice UA un uc, .int .i64 zz] 26) = w4 at *
    generalize w3.heap.size = g2 at *
    refine (same_any w4 _ _ (decC l) HC3.out HC2.out).mono ?_
    rintro e w5 ⟨rfl, hb3⟩
    have HB3 := Lib.hid (HB2.out.trans (hb3.mono HB2.out.size))
    clear hb3 HB2 HC2 HC3 HW2 HW3 c0 c1 c2 c3 d0 d1 d2 d3
    generalize decE l = de at *
    go_wp2_with fail
    refine (lives_any w5).mono ?_
    rintro e w6 ⟨rfl, hb4⟩
    have HB4 := Lib.hid (HB3.out.trans (hb4.mono HB3.out.size))
    clear hb4 HB3
    go_wp2_with fail
    go_ret
    exact ⟨rfl, HB4.out⟩
end Go.Proofs.Ytffpkmoaahkfmaa
