/- The walks of layer 4: a token that is a text; a sign. -/
import Derived.Test.YtmjjjnmfkdidgaaDoorWalkE
import Derived.Deep.RegionHeld3
namespace Go.Proofs.YtmjjjnmfkdidgaaDoor
open Go.RowKit
set_option linter.unusedVariables false
attribute [local go_sem ↓] Go.wp_at_zero Go.wp_at_succ

theorem unq_le : ∀ (f : Nat) (rest acc : List UInt8) (k : Nat), (S.unq f rest acc k).2.1 ≤ k + rest.length ∧ ((S.unq f rest acc k).2.2 = 0 → k < (S.unq f rest acc k).2.1)
  | 0, _, _, _ => ⟨by simp [S.unq], by simp [S.unq]⟩
  | f + 1, [], _, _ => ⟨by simp [S.unq], by simp [S.unq]⟩
  | f + 1, c :: r, acc, k => by
    unfold S.unq
    dsimp only
    split
    · exact ⟨by simp, by simp⟩
    split
    · split
      · exact ⟨by simp, by simp⟩
      · exact ⟨by simp only [List.length_cons]; omega, fun _ => by simp⟩
    split
    · split
      · rename_i hz
        obtain ⟨n1, n2, _⟩ := S.escF_len _ hz
        have h := unq_le f (r.drop (S.escF r).2.1) (acc ++ [(S.escF r).1]) (k + 1 + (S.escF r).2.1)
        rw [List.length_drop] at h
        exact ⟨by have := h.1; simp only [List.length_cons]; omega, fun h0 => by have := h.2 h0; omega⟩
      · exact ⟨by simp, fun h => by rename_i hz; exact absurd h hz⟩
    split
    · have h := unq_le f r (acc ++ [c]) (k + 1)
      exact ⟨by have := h.1; simp only [List.length_cons]; omega, fun h0 => by have := h.2 h0; omega⟩
    · exact ⟨by simp, by simp⟩
theorem unqF_le (l : List UInt8) : (S.unqF l).2.1 ≤ l.length ∧ ((S.unqF l).2.2 = 0 → 1 < (S.unqF l).2.1) := by
  cases l with
  | nil => exact ⟨by simp [S.unqF], by simp [S.unqF]⟩
  | cons c r =>
    unfold S.unqF
    dsimp only
    split
    · have h := unq_le (r.length + 1) r [] 1
      exact ⟨by have := h.1; simp only [List.length_cons]; omega, h.2⟩
    · exact ⟨by simp, by simp⟩
set_option maxRecDepth 100000 in
set_option maxHeartbeats 4000000 in
theorem text_any (w : World) (R T : Nat) (s : ByteArray) (i : Nat) (kd nm : Int) (tx : ByteArray) (a : Nat) (hR : RdAt w R s i) (hT : TkAt w T kd tx nm a) (hi : i ≤ s.size) (hs : s.size ≤ 10000) (hq : s.size - i ≤ 1000) :
    Calls Tryd.prog 26 #[.pointer (some ⟨R, 0, none⟩), .pointer (some ⟨T, 0, none⟩)] w fun e w' => e = .returned (.int .i64 (S.unqF (s.data.toList.drop i)).2.2) ∧ RdAt w' R s (i + (S.unqF (s.data.toList.drop i)).2.1) ∧ Two R T w.heap.size w w' ∧
      TkAt w' T 2 ⟨(S.unqF (s.data.toList.drop i)).1.toArray⟩ nm a := by
  have HR : Hid (Whole w R 40 #[.string s, .int .i64 (i : Int)]) := hR
  have HT : Hid (Whole w T 32 #[.int .i64 kd, .string tx, .int .i64 nm, .int .i64 (a : Int)]) := hT
  have HRT : Hid (T ≠ R) := whole_ne (show Whole w T 32 _ from hT) (show Whole w R 40 _ from hR) (by decide)
  have r0 : w.cell? ⟨R, 0, none⟩ = some (.string s) := HR.out.cell 0
  have r1 : w.cell? ⟨R, 1, none⟩ = some (.int .i64 (i : Int)) := HR.out.cell 1
  have hun := (S.unquote_any (s.extract i s.size) w.drew (by simp; omega))
  have hdl : (s.extract i s.size).data.toList = s.data.toList.drop i := S.rest_data s i
  have hlen : (S.unqF (s.data.toList.drop i)).2.1 ≤ 10000 := by
    have h := (unqF_le (s.data.toList.drop i)).1
    rw [List.length_drop, size_list] at h; omega
  rw [hdl] at hun
  unfold S.UnqPost at hun
  clear hR hT hdl
  generalize S.unqF (s.data.toList.drop i) = u at *
  obtain ⟨ut, un, ue⟩ := u
  dsimp only at hun hlen ⊢
  have CU : Hid (Calls Tryd.prog 41 #[.string (s.extract i s.size)] w.drew fun e w' => e = .returned (.tuple #[.string ⟨ut.toArray⟩, .int .i64 (un : Int), .int .i64 ue]) ∧ (w'.cell? ⟨R, 0, none⟩ = some (.string s) ∧ w'.cell? ⟨R, 1, none⟩ = some (.int .i64 (i : Int))) ∧ Below w.heap.size w w') :=
    hun.mono fun e w' ⟨h1, h2⟩ => ⟨h1, ⟨(h2.cell (p := ⟨R, 0, none⟩) HR.out.lt).trans r0, (h2.cell (p := ⟨R, 1, none⟩) HR.out.lt).trans r1⟩, (Below.refl _ _).drew.trans h2⟩
  clear hun
  have i1 : (0 : Int) ≤ (i : Int) := by omega
  have i2 : (i : Int) ≤ (s.size : Int) := by omega
  go_enter Tryd.func26, Tryd.ntmps26
  go_upto_region 1 with (fail)
  go_cut [5, 6, 7] (fun x y z wx => x = .string ⟨ut.toArray⟩ ∧ y = .int .i64 (un : Int) ∧ z = .int .i64 ue ∧ Below w.heap.size w wx)
  case first =>
    go_region_held3 (fun W => W.cell? ⟨R, 0, none⟩ = some (.string s) ∧ W.cell? ⟨R, 1, none⟩ = some (.int .i64 (i : Int)))
      (first | assumption | go_keep)
      (first
        | ((go_at_call 41; with_reducible refine (CU.out).mono ?_); rintro e wm ⟨rfl, hk, hbm⟩))
    all_goals
      go_wp2_with fail
      go_meet
      exact ⟨rfl, rfl, rfl, hbm⟩
  case rest =>
    obtain ⟨rfl, rfl, rfl, hb⟩ := hcut
    have HB := Lib.hid hb
    have HR1 := Lib.hid (HR.out.below hb HR.out.lt)
    have HT1 := Lib.hid (HT.out.below hb HT.out.lt)
    clear hb CU r0 r1
    generalize wc = w1 at *
    have t0 : w1.cell? ⟨T, 0, none⟩ = some (.int .i64 kd) := HT1.out.cell 0
    have t1 : w1.cell? ⟨T, 1, none⟩ = some (.string tx) := HT1.out.cell 1
    have f0 := HT1.out.free 0
    have f1 := HT1.out.free 1
    have HT2 := Lib.hid ((HT1.out.put 0 (.int .i64 2)).put 1 (.string ⟨ut.toArray⟩))
    have HR2 := Lib.hid ((HR1.out.far (p := ⟨T, 0, none⟩) (Ne.symm HRT.out) (.int .i64 2)).far (p := ⟨T, 1, none⟩) (Ne.symm HRT.out) (.string ⟨ut.toArray⟩))
    have HB2 : Hid (Two R T w.heap.size w ((w1.setCell ⟨T, 0, none⟩ (.int .i64 2)).setCell ⟨T, 1, none⟩ (.string ⟨ut.toArray⟩))) := (Two.of_but (.of_below HB.out)).trans (Two.of_but' (((But.refl T w.heap.size w1).set 0 _).set 1 _))
    go_upto_region 3 with (fail)
    generalize (w1.setCell ⟨T, 0, none⟩ (.int .i64 2)).setCell ⟨T, 1, none⟩ (.string ⟨ut.toArray⟩) = w2 at *
    clear t0 t1 f0 f1 HT1 HR1 HB
    have r1 : w2.cell? ⟨R, 1, none⟩ = some (.int .i64 (i : Int)) := HR2.out.cell 1
    have f1 := HR2.out.free 1
    have HR3 := Lib.hid (HR2.out.put 1 (.int .i64 ((i : Int) + (un : Int))))
    have HT3 := Lib.hid (HT2.out.far (p := ⟨R, 1, none⟩) HRT.out (.int .i64 ((i : Int) + (un : Int))))
    have HB3 : Hid (Two R T w.heap.size w (w2.setCell ⟨R, 1, none⟩ (.int .i64 ((i : Int) + (un : Int))))) := HB2.out.trans (Two.of_but ((But.refl R w.heap.size w2).set 1 _))
    go_wp2_with fail
    go_ret
    exact ⟨rfl, HR3.out, HB3.out, HT3.out⟩
end Go.Proofs.YtmjjjnmfkdidgaaDoor
