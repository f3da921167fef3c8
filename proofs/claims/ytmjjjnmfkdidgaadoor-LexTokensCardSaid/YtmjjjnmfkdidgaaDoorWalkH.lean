/- The walks of layer 4: a key. -/
import Derived.Test.YtmjjjnmfkdidgaaDoorWalkG
import Derived.Test.YtmjjjnmfkdidgaaDoorPlainB
namespace Go.Proofs.YtmjjjnmfkdidgaaDoor
open Go.RowKit
set_option linter.unusedVariables false
attribute [local go_sem ↓] Go.wp_at_zero Go.wp_at_succ

theorem key_any (s : ByteArray) (m : Int) (w : World) (hs : s.size ≤ 10000) (hm : w.cell? ⟨0, 0, none⟩ = some (.int .i64 m)) : Calls Tryd.prog 15 #[.string s] w fun e w' => e = .returned (.bool (keyB s.data.toList)) ∧ w = w' := by
  by_cases h0 : s.data.toList = []
  · have d0 : (s.toList == []) = true := by rw [ByteArray.toList_eq, h0]; rfl
    have hk : Hid (keyB s.data.toList = false) := by rw [h0]; exact (rfl : keyB [] = false)
    rw [hk.out]
    go_enter Tryd.func15, Tryd.ntmps15
    go_wp2_with fail
    go_ret
    exact ⟨rfl, rfl⟩
  · have d0 : (s.toList == []) = false := by rw [ByteArray.toList_eq]; exact beq_eq_false_iff_ne.2 h0
    have C1 : Hid (Calls Tryd.prog 20 #[.string s, .string ⟨#[32]⟩] w fun e w' => e = .returned (.bool (decide ((32 : UInt8) ∈ s.data.toList))) ∧ w' = w) :=
      (Tryd.strings_Contains s ⟨#[32]⟩ m w (by omega) hm).mono fun e w' ⟨h1, h2⟩ => ⟨by rw [h1]; rw [← cont_one], h2⟩
    by_cases hb : (32 : UInt8) ∈ s.data.toList
    · rw [key_blank _ hb]
      rw [decide_eq_true hb] at C1
      go_enter Tryd.func15, Tryd.ntmps15
      go_wp2_with fail
      refine (C1.out).mono ?_
      rintro e w' ⟨rfl, rfl⟩
      go_wp2_with fail
      go_ret
      exact ⟨rfl, rfl⟩
    · rw [decide_eq_false hb] at C1
      go_enter Tryd.func15, Tryd.ntmps15
      go_wp2_with fail
      refine (C1.out).mono ?_
      rintro e w' ⟨rfl, rfl⟩
      go_wp2_with fail
      refine ((Tryd.strings_Contains _ _ m _ (by decide) hm).mono ?_)
      rintro e w' ⟨rfl, rfl⟩
      go_wp2_with fail
      go_ret
      refine ⟨?_, rfl⟩
      rw [← key_word _ hb]
      rfl
theorem odd_any (p q : Value) (w : World) : Calls Tryd.prog 23 #[p, q] w fun e w' => e = .returned (.int .i64 10) ∧ w = w' := by
  go_enter Tryd.func23, Tryd.ntmps23
  go_wp2
  go_ret
  exact ⟨rfl, rfl⟩
/-- A name's kind. -/
def nameK (c : UInt8) (l : List UInt8) : Int := if larB c = true then 4 else if keyB l = true then 6 else 3
set_option maxRecDepth 100000 in
set_option maxHeartbeats 4000000 in
theorem name_any (w : World) (R T : Nat) (s : ByteArray) (i : Nat) (kd nm : Int) (tx : ByteArray) (a : Nat) (m : Int) (c : UInt8) (hR : RdAt w R s i) (hT : TkAt w T kd tx nm a) (hi : i ≤ s.size) (hs : s.size ≤ 10000)
    (hm : w.cell? ⟨0, 0, none⟩ = some (.int .i64 m)) (hT0 : T ≠ 0) (hc : (s.data.toList.drop i).head? = some c) (hin : innB c = true) :
    Calls Tryd.prog 29 #[.pointer (some ⟨R, 0, none⟩), .pointer (some ⟨T, 0, none⟩)] w fun e w' => RdAt w' R s (i + runN innB s i) ∧ Two R T w.heap.size w w' ∧
      (16 < runN innB s i ∧ e = .returned (.int .i64 12) ∧ TkAt w' T kd (s.extract i (i + runN innB s i)) nm a ∨ runN innB s i ≤ 16 ∧ e = .returned (.int .i64 0) ∧ TkAt w' T (nameK c ((s.data.toList.drop i).takeWhile innB)) (s.extract i (i + runN innB s i)) nm a) := by
  have HR : Hid (RdAt w R s i) := hR
  have HT : Hid (Whole w T 32 #[.int .i64 kd, .string tx, .int .i64 nm, .int .i64 (a : Int)]) := hT
  have HRT : Hid (T ≠ R) := whole_ne (show Whole w T 32 _ from hT) (show Whole w R 40 _ from hR) (by decide)
  have CR := Lib.hid (run_any w R s i 42 innB (.inr ⟨rfl, rfl⟩) hR hi hs)
  have hle := runN_le innB s i hi
  have hdl := run_list innB s i
  have hsz : (s.extract i (i + runN innB s i)).size = runN innB s i := by simp; omega
  have hd0 : (s.extract i (i + runN innB s i)).data.toList.head? = some c := by
    rw [hdl]
    cases h : s.data.toList.drop i with
    | nil => rw [h] at hc; simp at hc
    | cons x l => rw [h] at hc; simp at hc; subst hc; rw [List.takeWhile_cons, if_pos hin]; rfl
  have hR0 : R ≠ 0 := by
    rintro rfl
    have := HR.out.cell 0
    rw [hm] at this
    simp at this
  rw [← hdl]
  clear hR hT hdl hc hin
  generalize s.extract i (i + runN innB s i) = d at *
  generalize runN innB s i = n at *
  have h0 : 0 < d.size := by
    rcases Nat.eq_zero_or_pos d.size with h | h
    · rw [List.eq_nil_of_length_eq_zero (l := d.data.toList) (by rw [size_list]; exact h)] at hd0; simp at hd0
    · exact h
  have hdc : d[0]'h0 = c := by
    have h1 := get_list d 0 h0
    rw [← List.head?_eq_getElem?, hd0] at h1
    exact (Option.some.inj h1).symm
  subst hdc
  subst hsz
  have CL : Hid (∀ wx : World, Calls Tryd.prog 28 #[.int .u8 ((d[0]'h0).toNat : Int)] wx fun e w' => e = .returned (.bool (larB (d[0]'h0))) ∧ wx = w') := fun wx => large_any _ wx
  have CK : Hid (d.size ≤ 10000 → ∀ wx : World, wx.cell? ⟨0, 0, none⟩ = some (.int .i64 m) → Calls Tryd.prog 15 #[.string d] wx fun e w' => e = .returned (.bool (keyB d.data.toList)) ∧ wx = w') := fun h wx hx => key_any d m wx h hx
  have HM : Hid (0 < w.heap.size ∧ w.cell? ⟨0, 0, none⟩ = some (.int .i64 m)) := ⟨by have := HR.out.lt; omega, hm⟩
  have HT0 : Hid (0 < R ∧ 0 < T) := by show _ ∧ _; omega
  have HK : Hid (nameK (d[0]'h0) d.data.toList = if larB (d[0]'h0) = true then 4 else if keyB d.data.toList = true then 6 else 3) := rfl
  clear hd0 hR0 hT0 hm
  generalize nameK (d[0]'h0) d.data.toList = kk at *
  have i0 : (0 : Int) < (d.size : Int) := by omega
  go_enter Tryd.func29, Tryd.ntmps29
  go_upto_region 3 with (go_at_call 39; refine CR.out.mono ?_; rintro e w1 ⟨rfl, hr1, hb1⟩; have HR1 := Lib.hid hr1; have HB1 := Lib.hid hb1; clear hr1 hb1; have HT1 := Lib.hid (HB1.out.whole HT.out HT.out.lt HRT.out); have t1 : w1.cell? ⟨T, 1, none⟩ = some (.string tx) := HT1.out.cell 1; have f1 := HT1.out.free 1)
  have HT2 := Lib.hid (HT1.out.put 1 (.string d))
  have HR2 : Hid (RdAt (w1.setCell ⟨T, 1, none⟩ (.string d)) R s (i + d.size)) := by
    have h : Whole w1 R 40 _ := HR1.out
    exact h.far (p := ⟨T, 1, none⟩) (Ne.symm HRT.out) _
  have HB2 : Hid (Two R T w.heap.size w (w1.setCell ⟨T, 1, none⟩ (.string d))) := (Two.of_but HB1.out).trans (Two.of_but' ((But.refl T w.heap.size w1).set 1 _))
  clear t1 f1 HT1 HR1 HB1 CR HT HR
  generalize w1.setCell ⟨T, 1, none⟩ (.string d) = w2 at *
  have t1 : w2.cell? ⟨T, 1, none⟩ = some (.string d) := HT2.out.cell 1
  have t0 : w2.cell? ⟨T, 0, none⟩ = some (.int .i64 kd) := HT2.out.cell 0
  have f0 := HT2.out.free 0
  have m2 : w2.cell? ⟨0, 0, none⟩ = some (.int .i64 m) := by
    refine Eq.trans ?_ HM.out.2
    exact (HB2.out.below (C := 1) HT0.out.1 HT0.out.2 HM.out.1).cell (p := ⟨0, 0, none⟩) Nat.zero_lt_one
  rcases Nat.lt_or_ge 16 d.size with hl | hl
  · have d1 : decide ((16 : Int) < (d.size : Int)) = true := decide_eq_true (by omega)
    clear HK
    have hl2 := Lib.hid hl
    clear hl
    go_wp2_with fail
    go_ret
    exact ⟨HR2.out, HB2.out, .inl ⟨hl2.out, rfl, HT2.out⟩⟩
  · have d1 : decide ((16 : Int) < (d.size : Int)) = false := decide_eq_false (by omega)
    have hl2 : d.size ≤ 16 := hl
    have CK2 := Lib.hid (CK.out (by omega) w2 m2)
    clear CK hl m2
    rcases hlb : larB (d[0]'h0) with _ | _
    · rw [hlb] at CL
      rcases hkb : keyB d.data.toList with _ | _
      · rw [hkb] at CK2
        have hkk : kk = 3 := by rw [HK.out, hlb, hkb]; rfl
        subst hkk
        clear HK hlb hkb
        have HT3 := Lib.hid (HT2.out.put 0 (.int .i64 3))
        have HR3 : Hid (RdAt (w2.setCell ⟨T, 0, none⟩ (.int .i64 3)) R s (i + d.size)) := by
          have h : Whole w2 R 40 _ := HR2.out
          exact h.far (p := ⟨T, 0, none⟩) (Ne.symm HRT.out) _
        have HB3 : Hid (Two R T w.heap.size w (w2.setCell ⟨T, 0, none⟩ (.int .i64 3))) := HB2.out.trans (Two.of_but' ((But.refl T w.heap.size w2).set 0 _))
        go_wp2_with (first | (go_at_call 28; refine (CL.out _).mono ?_; rintro e w' ⟨rfl, rfl⟩) | (go_at_call 15; refine CK2.out.mono ?_; rintro e w' ⟨rfl, rfl⟩))
        go_ret
        exact ⟨HR3.out, HB3.out, .inr ⟨hl2, rfl, HT3.out⟩⟩
      · rw [hkb] at CK2
        have hkk : kk = 6 := by rw [HK.out, hlb, hkb]; rfl
        subst hkk
        clear HK hlb hkb
        have HT3 := Lib.hid (HT2.out.put 0 (.int .i64 6))
        have HR3 : Hid (RdAt (w2.setCell ⟨T, 0, none⟩ (.int .i64 6)) R s (i + d.size)) := by
          have h : Whole w2 R 40 _ := HR2.out
          exact h.far (p := ⟨T, 0, none⟩) (Ne.symm HRT.out) _
        have HB3 : Hid (Two R T w.heap.size w (w2.setCell ⟨T, 0, none⟩ (.int .i64 6))) := HB2.out.trans (Two.of_but' ((But.refl T w.heap.size w2).set 0 _))
        go_wp2_with (first | (go_at_call 28; refine (CL.out _).mono ?_; rintro e w' ⟨rfl, rfl⟩) | (go_at_call 15; refine CK2.out.mono ?_; rintro e w' ⟨rfl, rfl⟩))
        go_ret
        exact ⟨HR3.out, HB3.out, .inr ⟨hl2, rfl, HT3.out⟩⟩
    · rw [hlb] at CL
      have hkk : kk = 4 := by rw [HK.out, hlb]; rfl
      subst hkk
      clear HK hlb
      have HT3 := Lib.hid (HT2.out.put 0 (.int .i64 4))
      have HR3 : Hid (RdAt (w2.setCell ⟨T, 0, none⟩ (.int .i64 4)) R s (i + d.size)) := by
        have h : Whole w2 R 40 _ := HR2.out
        exact h.far (p := ⟨T, 0, none⟩) (Ne.symm HRT.out) _
      have HB3 : Hid (Two R T w.heap.size w (w2.setCell ⟨T, 0, none⟩ (.int .i64 4))) := HB2.out.trans (Two.of_but' ((But.refl T w.heap.size w2).set 0 _))
      go_wp2_with (first | (go_at_call 28; refine (CL.out _).mono ?_; rintro e w' ⟨rfl, rfl⟩) | (go_at_call 15; refine CK2.out.mono ?_; rintro e w' ⟨rfl, rfl⟩))
      go_ret
      exact ⟨HR3.out, HB3.out, .inr ⟨hl2, rfl, HT3.out⟩⟩
end Go.Proofs.YtmjjjnmfkdidgaaDoor
