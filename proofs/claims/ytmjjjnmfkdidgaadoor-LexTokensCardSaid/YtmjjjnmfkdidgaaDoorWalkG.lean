/- The walks of layer 4: a sign. -/
import Derived.Test.YtmjjjnmfkdidgaaDoorWalkF
import Derived.StillTailTactics
namespace Go.Proofs.YtmjjjnmfkdidgaaDoor
open Go.RowKit
set_option linter.unusedVariables false
attribute [local go_sem ↓] Go.wp_at_zero Go.wp_at_succ

/-- `->` ahead? -/
def arrB (l : List UInt8) : Bool := l.take 2 == [45, 62]
theorem prefix_any (t : ByteArray) (w : World) (hs : t.size ≤ 10000) : Calls Tryd.prog 44 #[.string t, .string ⟨#[45, 62]⟩] w fun e w' => e = .returned (.bool (arrB t.data.toList)) ∧ w = w' := by
  by_cases h2 : 2 ≤ t.size
  · have d1 : decide ((2 : Int) ≤ (t.size : Int)) = true := decide_eq_true (by omega)
    have d1n : decide (2 ≤ t.size) = true := decide_eq_true h2
    go_enter Tryd.func44, Tryd.ntmps44
    go_wp2
    go_ret
    exact ⟨rt_b (by unfold arrB; rw [ByteArray.toList_eq, ByteArray.data_extract, Array.toList_extract]; simp), rfl⟩
  · have d1 : decide ((2 : Int) ≤ (t.size : Int)) = false := decide_eq_false (by omega)
    have d1n : decide (2 ≤ t.size) = false := decide_eq_false h2
    go_enter Tryd.func44, Tryd.ntmps44
    go_wp2
    go_ret
    exact ⟨rt_b (by
      unfold arrB
      refine (beq_eq_false_iff_ne.2 fun h => ?_).symm
      have h1 := congrArg List.length h
      rw [List.length_take, size_list] at h1
      simp at h1; omega), rfl⟩
/-- How many bytes a sign has. -/
def sgnN (s : ByteArray) (i : Nat) : Nat := if arrB (s.data.toList.drop i) = true then 2 else 1
theorem Two.drew {R T B : Nat} {w w' : World} (h : Two R T B w w') : Two R T B w w'.drew := h.trans (.of_but (.of_below (Below.refl _ _).drew))
set_option maxRecDepth 100000 in
set_option maxHeartbeats 4000000 in
theorem sign_any (w : World) (R T : Nat) (s : ByteArray) (i : Nat) (kd nm : Int) (tx : ByteArray) (a : Nat) (hR : RdAt w R s i) (hT : TkAt w T kd tx nm a) (hi : i < s.size) (hs : s.size ≤ 10000) :
    Calls Tryd.prog 31 #[.pointer (some ⟨R, 0, none⟩), .pointer (some ⟨T, 0, none⟩)] w fun e w' => e = .returned (.int .i64 0) ∧ RdAt w' R s (i + sgnN s i) ∧ Two R T w.heap.size w w' ∧ TkAt w' T 5 (s.extract i (i + sgnN s i)) nm a := by
  have HR : Hid (Whole w R 40 #[.string s, .int .i64 (i : Int)]) := hR
  have HT : Hid (Whole w T 32 #[.int .i64 kd, .string tx, .int .i64 nm, .int .i64 (a : Int)]) := hT
  have HRT : Hid (T ≠ R) := whole_ne (show Whole w T 32 _ from hT) (show Whole w R 40 _ from hR) (by decide)
  have r0 : w.cell? ⟨R, 0, none⟩ = some (.string s) := HR.out.cell 0
  have r1 : w.cell? ⟨R, 1, none⟩ = some (.int .i64 (i : Int)) := HR.out.cell 1
  have hdl : (s.extract i s.size).data.toList = s.data.toList.drop i := S.rest_data s i
  have CP : Hid (∀ d, Calls Tryd.prog 44 #[.string (s.extract i s.size), .string ⟨#[45, 62]⟩] (w.drewN d) fun e w' => e = .returned (.bool (arrB (s.data.toList.drop i))) ∧ w' = w.drewN d) := fun d =>
    (prefix_any (s.extract i s.size) (w.drewN d) (by simp; omega)).mono fun e w' ⟨h1, h2⟩ => ⟨by rw [h1, hdl], h2.symm⟩
  have hn : i + sgnN s i ≤ s.size := by
    unfold sgnN; split
    · rename_i h
      unfold arrB at h
      have h1 := congrArg List.length (beq_iff_eq.1 h)
      rw [List.length_take, List.length_drop, size_list] at h1
      simp at h1; omega
    · omega
  have HN : Hid ((arrB (s.data.toList.drop i) = true ∧ sgnN s i = 2) ∨ (arrB (s.data.toList.drop i) = false ∧ sgnN s i = 1)) := by
    show _ ∨ _
    unfold sgnN
    rcases h : arrB (s.data.toList.drop i) with _ | _
    · exact .inr ⟨rfl, rfl⟩
    · exact .inl ⟨rfl, rfl⟩
  clear hR hT hdl
  generalize arrB (s.data.toList.drop i) = b at *
  have i1 : (0 : Int) ≤ (i : Int) := by omega
  have i2 : (i : Int) ≤ (s.size : Int) := by omega
  generalize sgnN s i = m at *
  rcases HN.out with ⟨rfl, rfl⟩ | ⟨rfl, rfl⟩
  · go_enter Tryd.func31, Tryd.ntmps31
    go_wp2_with fail
    go_quiet ((exact Calls.quiet_of_same (CP.out _)))
    go_upto_region 4 with (fail)
    have hbd := below_drewN (Below.refl w.heap.size w) nq
    have HR1 := Lib.hid (HR.out.below hbd HR.out.lt)
    have HT1 := Lib.hid (HT.out.below hbd HT.out.lt)
    have HB1 : Hid (Two R T w.heap.size w (w.drewN nq)) := .of_but (.of_below hbd)
    have HS1 : Hid (w.heap.size ≤ (w.drewN nq).heap.size) := hbd.size
    clear hbd r0 r1 CP
    generalize w.drewN nq = w1 at *
    have r0 : w1.cell? ⟨R, 0, none⟩ = some (.string s) := HR1.out.cell 0
    have r1 : w1.cell? ⟨R, 1, none⟩ = some (.int .i64 (i : Int)) := HR1.out.cell 1
    have t0 : w1.cell? ⟨T, 0, none⟩ = some (.int .i64 kd) := HT1.out.cell 0
    have t1 : w1.cell? ⟨T, 1, none⟩ = some (.string tx) := HT1.out.cell 1
    have f0 := HT1.out.free 0
    have f1 := HT1.out.free 1
    have HT2 := Lib.hid ((HT1.out.put 0 (.int .i64 5)).put 1 (.string (s.extract i (i + 2))))
    have HR2 := Lib.hid ((HR1.out.far (p := ⟨T, 0, none⟩) (Ne.symm HRT.out) (.int .i64 5)).far (p := ⟨T, 1, none⟩) (Ne.symm HRT.out) (.string (s.extract i (i + 2))))
    have HB2 : Hid (Two R T w.heap.size w ((w1.setCell ⟨T, 0, none⟩ (.int .i64 5)).setCell ⟨T, 1, none⟩ (.string (s.extract i (i + 2))))) := HB1.out.trans (Two.of_but' (((But.refl T w.heap.size w1).set 0 _).set 1 _))
    have i3 : (i : Int) ≤ (i : Int) + 2 := by omega
    have i4 : (i : Int) + 2 ≤ (s.size : Int) := by omega
    go_upto_region 5 with (go_region)
    generalize (w1.setCell ⟨T, 0, none⟩ (.int .i64 5)).setCell ⟨T, 1, none⟩ (.string (s.extract i (i + 2))) = w2 at *
    clear t0 t1 f0 f1 HT1 HR1 HB1 r0 r1
    have r1 : w2.cell? ⟨R, 1, none⟩ = some (.int .i64 (i : Int)) := HR2.out.cell 1
    have f1 := HR2.out.free 1
    have HR3 := Lib.hid (HR2.out.put 1 (.int .i64 ((i : Int) + 2)))
    have HT3 := Lib.hid (HT2.out.far (p := ⟨R, 1, none⟩) HRT.out (.int .i64 ((i : Int) + 2)))
    have HB3 : Hid (Two R T w.heap.size w (w2.setCell ⟨R, 1, none⟩ (.int .i64 ((i : Int) + 2)))) := HB2.out.trans (Two.of_but ((But.refl R w.heap.size w2).set 1 _))
    go_wp2_with fail
    go_ret
    exact ⟨rfl, HR3.out, HB3.out.drew, HT3.out⟩
  · go_enter Tryd.func31, Tryd.ntmps31
    go_wp2_with fail
    go_quiet ((exact Calls.quiet_of_same (CP.out _)))
    go_upto_region 4 with (fail)
    have hbd := below_drewN (Below.refl w.heap.size w) nq
    have HR1 := Lib.hid (HR.out.below hbd HR.out.lt)
    have HT1 := Lib.hid (HT.out.below hbd HT.out.lt)
    have HB1 : Hid (Two R T w.heap.size w (w.drewN nq)) := .of_but (.of_below hbd)
    have HS1 : Hid (w.heap.size ≤ (w.drewN nq).heap.size) := hbd.size
    clear hbd r0 r1 CP
    generalize w.drewN nq = w1 at *
    have r0 : w1.cell? ⟨R, 0, none⟩ = some (.string s) := HR1.out.cell 0
    have r1 : w1.cell? ⟨R, 1, none⟩ = some (.int .i64 (i : Int)) := HR1.out.cell 1
    have t0 : w1.cell? ⟨T, 0, none⟩ = some (.int .i64 kd) := HT1.out.cell 0
    have t1 : w1.cell? ⟨T, 1, none⟩ = some (.string tx) := HT1.out.cell 1
    have f0 := HT1.out.free 0
    have f1 := HT1.out.free 1
    have HT2 := Lib.hid ((HT1.out.put 0 (.int .i64 5)).put 1 (.string (s.extract i (i + 1))))
    have HR2 := Lib.hid ((HR1.out.far (p := ⟨T, 0, none⟩) (Ne.symm HRT.out) (.int .i64 5)).far (p := ⟨T, 1, none⟩) (Ne.symm HRT.out) (.string (s.extract i (i + 1))))
    have HB2 : Hid (Two R T w.heap.size w ((w1.setCell ⟨T, 0, none⟩ (.int .i64 5)).setCell ⟨T, 1, none⟩ (.string (s.extract i (i + 1))))) := HB1.out.trans (Two.of_but' (((But.refl T w.heap.size w1).set 0 _).set 1 _))
    have i3 : (i : Int) ≤ (i : Int) + 1 := by omega
    have i4 : (i : Int) + 1 ≤ (s.size : Int) := by omega
    go_upto_region 5 with (go_region)
    generalize (w1.setCell ⟨T, 0, none⟩ (.int .i64 5)).setCell ⟨T, 1, none⟩ (.string (s.extract i (i + 1))) = w2 at *
    clear t0 t1 f0 f1 HT1 HR1 HB1 r0 r1
    have r1 : w2.cell? ⟨R, 1, none⟩ = some (.int .i64 (i : Int)) := HR2.out.cell 1
    have f1 := HR2.out.free 1
    have HR3 := Lib.hid (HR2.out.put 1 (.int .i64 ((i : Int) + 1)))
    have HT3 := Lib.hid (HT2.out.far (p := ⟨R, 1, none⟩) HRT.out (.int .i64 ((i : Int) + 1)))
    have HB3 : Hid (Two R T w.heap.size w (w2.setCell ⟨R, 1, none⟩ (.int .i64 ((i : Int) + 1)))) := HB2.out.trans (Two.of_but ((But.refl R w.heap.size w2).set 1 _))
    go_wp2_with fail
    go_ret
    exact ⟨rfl, HR3.out, HB3.out.drew, HT3.out⟩
end Go.Proofs.YtmjjjnmfkdidgaaDoor
