/- The walks of layer 4: a token that is a number. -/
import Derived.Test.YtmjjjnmfkdidgaaDoorWalkD
import Derived.Deep.CutBlock
import Derived.Deep.DeepCutAuto
namespace Go.Proofs.YtmjjjnmfkdidgaaDoor
open Go.RowKit
set_option linter.unusedVariables false
attribute [local go_sem ↓] Go.wp_at_zero Go.wp_at_succ

/-- All as it was but blocks R and T. -/
structure Two (R T B : Nat) (w w' : World) : Prop where
  os : w'.os = w.os
  tape : w'.tape = w.tape
  output : w'.output = w.output
  size : w.heap.size ≤ w'.heap.size
  block : ∀ g, g < B → g ≠ R → g ≠ T → w'.heap[g]? = w.heap[g]?
theorem Two.of_but {R T B : Nat} {w w' : World} (h : But R B w w') : Two R T B w w' := ⟨h.os, h.tape, h.output, h.size, fun g h1 h2 _ => h.block g h1 h2⟩
theorem Two.of_but' {R T B : Nat} {w w' : World} (h : But T B w w') : Two R T B w w' := ⟨h.os, h.tape, h.output, h.size, fun g h1 _ h2 => h.block g h1 h2⟩
theorem Two.trans {R T B : Nat} {w w' w'' : World} (h : Two R T B w w') (k : Two R T B w' w'') : Two R T B w w'' :=
  ⟨k.os.trans h.os, k.tape.trans h.tape, k.output.trans h.output, Nat.le_trans h.size k.size, fun g h1 h2 h3 => (k.block g h1 h2 h3).trans (h.block g h1 h2 h3)⟩
theorem Two.below {R T B C : Nat} {w w' : World} (h : Two R T B w w') (hR : C ≤ R) (hT : C ≤ T) (hB : C ≤ B) : Below C w w' := ⟨h.os, h.tape, h.output, h.size, fun g hg => h.block g (by omega) (by omega) (by omega)⟩
/-- A token's box. -/
def TkAt (w : World) (T : Nat) (kd : Int) (tx : ByteArray) (nm : Int) (a : Nat) : Prop := Whole w T 32 #[.int .i64 kd, .string tx, .int .i64 nm, .int .i64 (a : Int)]
theorem run_list (P : UInt8 → Bool) (s : ByteArray) (i : Nat) : (s.extract i (i + runN P s i)).data.toList = (s.data.toList.drop i).takeWhile P := by
  rw [ByteArray.data_extract, Array.toList_extract]
  have h : (s.data.toList.drop i).takeWhile P <+: s.data.toList.drop i := List.takeWhile_prefix P
  have := List.prefix_iff_eq_take.1 h
  rw [this]
  unfold runN
  simp [List.take_drop]
theorem mem_tw {P : UInt8 → Bool} {c : UInt8} : ∀ {l : List UInt8}, c ∈ l.takeWhile P → P c = true
  | [], h => by simp at h
  | x :: l, h => by
    rw [List.takeWhile_cons] at h
    split at h
    · rename_i hx
      rcases List.mem_cons.1 h with rfl | h
      · exact hx
      · exact mem_tw h
    · simp at h
/-- The number at i. -/
def numAt (s : ByteArray) (i : Nat) : Nat := valT ((s.data.toList.drop i).takeWhile digB)
set_option maxRecDepth 100000 in
set_option maxHeartbeats 4000000 in
theorem number_any (w : World) (R T : Nat) (s : ByteArray) (i : Nat) (kd nm : Int) (tx : ByteArray) (a : Nat) (hR : RdAt w R s i) (hT : TkAt w T kd tx nm a) (hi : i ≤ s.size) (hs : s.size ≤ 10000) :
    Calls Tryd.prog 25 #[.pointer (some ⟨R, 0, none⟩), .pointer (some ⟨T, 0, none⟩)] w fun e w' => RdAt w' R s (i + runN digB s i) ∧ Two R T w.heap.size w w' ∧
      (4611686018427387903 < numAt s i ∧ e = .returned (.int .i64 13) ∧ TkAt w' T kd tx nm a ∨ numAt s i ≤ 4611686018427387903 ∧ e = .returned (.int .i64 0) ∧ TkAt w' T 1 tx (numAt s i) a) := by
  have HR : Hid (RdAt w R s i) := hR
  have HT : Hid (Whole w T 32 #[.int .i64 kd, .string tx, .int .i64 nm, .int .i64 (a : Int)]) := hT
  have HRT : Hid (T ≠ R) := whole_ne (show Whole w T 32 _ from hT) (show Whole w R 40 _ from hR) (by decide)
  have CR := Lib.hid (run_any w R s i 24 digB (.inl ⟨rfl, rfl⟩) hR hi hs)
  have hle := runN_le digB s i hi
  have hdl := run_list digB s i
  have HV : Hid (numAt s i = valT (s.extract i (i + runN digB s i)).data.toList) := by show _ = _; unfold numAt; rw [hdl]
  have hdig : ∀ c ∈ (s.extract i (i + runN digB s i)).data.toList, digB c = true := fun c hc => by
    rw [hdl] at hc
    exact mem_tw hc
  have hsz : (s.extract i (i + runN digB s i)).size ≤ 10000 := by simp; omega
  clear hR hT hdl
  generalize s.extract i (i + runN digB s i) = d at *
  generalize numAt s i = v at *
  have hok := dg_ok hdig
  have hdz : (dg d).size ≤ 10000 := by
    unfold dg; split
    · decide
    · have h1 := (List.dropWhile_sublist (· == (48 : UInt8)) (l := d.data.toList)).length_le
      rw [← noN_list, size_list, size_list] at h1; omega
  have hspl : I.Splits (dg d) (dg d) false := .inr ⟨rfl, rfl, fun h0 h1 => by
    have h2 := hok.1
    unfold I.digsOk at h2
    simp only [Bool.and_eq_true, List.all_eq_true] at h2
    have h3 := get_list (dg d) 0 h0
    have h4 := h2.2 _ (List.mem_of_getElem? h3)
    rw [h1] at h4
    revert h4; decide⟩
  have CI := Lib.hid (fun (wx : World) => I.read_any (dg d) (dg d) wx false (Nat.le_trans hdz (by decide)) hspl)
  have CT := Lib.hid (fun (wx : World) => trim_any d wx hsz)
  have HRF : Hid ((4611686018427387903 < v ∧ I.readF (dg d).data.toList false = (0, 13)) ∨ (v ≤ 4611686018427387903 ∧ I.readF (dg d).data.toList false = ((v : Int), 0))) := by
    have e := HV.out
    rw [← hok.2] at e
    rcases Nat.lt_or_ge 4611686018427387903 v with h | h
    · exact .inl ⟨h, I.readF_far hok.1 (by
        rw [← e]
        rcases Nat.lt_or_eq_of_le (show 4611686018427387904 ≤ v from h) with h1 | h1
        · exact .inl h1
        · exact .inr ⟨h1.symm, rfl⟩)⟩
    · exact .inr ⟨h, by rw [I.readF_pos hok.1 (by omega), e]⟩
  clear hdig hspl hok HV hdz
  generalize I.readF (dg d).data.toList false = rf at *
  obtain ⟨r1, r2⟩ := rf
  dsimp only at CI
  simp only [Prod.mk.injEq] at HRF
  go_enter Tryd.func25, Tryd.ntmps25
  go_upto_region 2 with (first
    | (go_at_call 39; refine CR.out.mono ?_; rintro e w1 ⟨rfl, hr1, hb1⟩; have HR1 := Lib.hid hr1; have HB1 := Lib.hid hb1; clear hr1 hb1)
    | (go_at_call 38; refine (CT.out _).mono ?_; rintro e w' ⟨rfl, rfl⟩))
  have HT1 := Lib.hid (HB1.out.whole HT.out HT.out.lt HRT.out)
  have t0 : w1.cell? ⟨T, 0, none⟩ = some (.int .i64 kd) := HT1.out.cell 0
  have t2 : w1.cell? ⟨T, 2, none⟩ = some (.int .i64 nm) := HT1.out.cell 2
  have f0 := HT1.out.free 0
  have f2 := HT1.out.free 2
  have HT2 := Lib.hid ((HT1.out.put 0 (.int .i64 1)).put 2 (.int .i64 (v : Int)))
  have HR2 : Hid (RdAt ((w1.setCell ⟨T, 0, none⟩ (.int .i64 1)).setCell ⟨T, 2, none⟩ (.int .i64 (v : Int))) R s (i + runN digB s i)) := by
    have h : Whole w1 R 40 _ := HR1.out
    exact (h.far (p := ⟨T, 0, none⟩) (Ne.symm HRT.out) _).far (p := ⟨T, 2, none⟩) (Ne.symm HRT.out) _
  have HB2 : Hid (Two R T w.heap.size w ((w1.setCell ⟨T, 0, none⟩ (.int .i64 1)).setCell ⟨T, 2, none⟩ (.int .i64 (v : Int)))) := (Two.of_but HB1.out).trans (Two.of_but' (((But.refl T w.heap.size w1).set 0 _).set 2 _))
  clear CR CT HT HR
  rcases Nat.eq_zero_or_pos (noN d).size with h0 | h0
  · have hd : dg d = ⟨#[48]⟩ := if_pos h0
    rw [hd] at CI
    have he : (noN d) = ⟨#[]⟩ := ba_ext (by rw [show (noN d).data.toList = [] from List.eq_nil_of_length_eq_zero (by rw [size_list]; exact h0)])
    rw [he]
    rcases HRF.out with ⟨hv, rfl, rfl⟩ | ⟨hv, rfl, rfl⟩
    · go_wp2_with (go_at_call 40; refine (CI.out _).mono ?_; rintro e w' ⟨rfl, rfl⟩)
      go_ret
      exact ⟨HR1.out, .of_but HB1.out, .inl ⟨hv, rfl, HT1.out⟩⟩
    · go_wp2_with (go_at_call 40; refine (CI.out _).mono ?_; rintro e w' ⟨rfl, rfl⟩)
      go_ret
      exact ⟨HR2.out, HB2.out, .inr ⟨hv, rfl, HT2.out⟩⟩
  · have hd : dg d = noN d := if_neg (by omega)
    rw [hd] at CI
    have he1 := S.emp_f h0
    have he2 := S.emp_n h0
    rcases HRF.out with ⟨hv, rfl, rfl⟩ | ⟨hv, rfl, rfl⟩
    · go_wp2_with (go_at_call 40; refine (CI.out _).mono ?_; rintro e w' ⟨rfl, rfl⟩)
      go_ret
      exact ⟨HR1.out, .of_but HB1.out, .inl ⟨hv, rfl, HT1.out⟩⟩
    · go_wp2_with (go_at_call 40; refine (CI.out _).mono ?_; rintro e w' ⟨rfl, rfl⟩)
      go_ret
      exact ⟨HR2.out, HB2.out, .inr ⟨hv, rfl, HT2.out⟩⟩
end Go.Proofs.YtmjjjnmfkdidgaaDoor
