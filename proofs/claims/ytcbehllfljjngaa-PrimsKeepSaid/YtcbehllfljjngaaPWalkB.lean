/- The walks of layer 16: joining, sums, cases. -/
import Derived.Test.YtcbehllfljjngaaPWalkA
import Derived.Test.YtcbehllfljjngaaIWalkC
namespace Go.Proofs.Ytcbehllfljjngaa
open Go.RowKit
set_option linter.unusedVariables false

def joinE (N : Nat) (H : Hp) (a b : Int) : Int := if (strF H a).2 = 0 ∧ (strF H b).2 = 0 then textE N H ((strF H a).1 ++ (strF H b).1) else 4
def joinR (N : Nat) (H : Hp) (a b : Int) : Int := if (strF H a).2 = 0 ∧ (strF H b).2 = 0 then textR N H ((strF H a).1 ++ (strF H b).1) else 0
def joinH (N : Nat) (H : Hp) (a b : Int) : Hp := if (strF H a).2 = 0 ∧ (strF H b).2 = 0 then textH N H ((strF H a).1 ++ (strF H b).1) else H
theorem text_far {N : Nat} {H : Hp} {l : List UInt8} (h : 60 < l.length) : textE N H l = 12 ∧ textR N H l = 0 ∧ textH N H l = H := by
  unfold textE textR textH
  exact ⟨if_neg (by omega), if_neg (by omega), if_neg (by omega)⟩
theorem strF_err (H : Hp) (z : Int) : (strF H z).2 = 0 ∨ (strF H z).2 = 4 := by
  unfold strF; split
  · exact .inl rfl
  · exact .inr rfl
theorem app_bytes (x y : List UInt8) : (⟨x.toArray⟩ : ByteArray) ++ ⟨y.toArray⟩ = ⟨(x ++ y).toArray⟩ := by
  apply ByteArray.ext
  rw [ByteArray.data_append]
  simp
theorem size_list (x : List UInt8) : (⟨x.toArray⟩ : ByteArray).size = x.length := by show x.toArray.size = _; rw [List.size_toArray]
def JoinPost (w : World) (s e hb N : Nat) (H : Hp) (a b : Int) (ee : Ending) (w' : World) : Prop :=
  ee = .returned (.tuple #[.int .i64 (joinR N H a b), .int .i64 (joinE N H a b)]) ∧ HeapAt w' s e hb N (joinH N H a b) ∧ Mid s e w w'
section
variable {w : World} {s e hb N : Nat} {H : Hp}
set_option maxHeartbeats 400000 in
theorem join_any (h : HeapAt w s e hb N H) (a b : Int) (ha : WfI a) (hb' : WfI b) : Calls Try.prog 24 #[.pointer (some ⟨hb, 0, none⟩), .int .i64 a, .int .i64 b] w (JoinPost w s e hb N H a b) := by
  have HH := Lib.hid h
  have HA := Lib.hid ha
  have HBW := Lib.hid hb'
  have HLA := Lib.hid (strF_len H a)
  have HLB := Lib.hid (strF_len H b)
  have HJ : Hid (joinE N H a b = (if (strF H a).2 = 0 ∧ (strF H b).2 = 0 then textE N H ((strF H a).1 ++ (strF H b).1) else 4) ∧ joinR N H a b = (if (strF H a).2 = 0 ∧ (strF H b).2 = 0 then textR N H ((strF H a).1 ++ (strF H b).1) else 0) ∧ joinH N H a b = if (strF H a).2 = 0 ∧ (strF H b).2 = 0 then textH N H ((strF H a).1 ++ (strF H b).1) else H) := ⟨rfl, rfl, rfl⟩
  have CA := Lib.hid (str_any h a ha)
  have CB := fun (wx : World) (hx : HeapAt wx s e hb N H) => str_any hx b hb'
  have eA := strF_err H a
  have eB := strF_err H b
  have CB := Lib.hid CB
  clear h ha hb'
  generalize strF H a = ra at *
  generalize strF H b = rb at *
  obtain ⟨la, xa⟩ := ra
  obtain ⟨lb, xb⟩ := rb
  dsimp only at *
  rcases eA with rfl | rfl
  · rcases eB with rfl | rfl
    · have HJ2 : Hid (joinE N H a b = textE N H (la ++ lb) ∧ joinR N H a b = textR N H (la ++ lb) ∧ joinH N H a b = textH N H (la ++ lb)) := ⟨HJ.out.1.trans (if_pos ⟨rfl, rfl⟩), HJ.out.2.1.trans (if_pos ⟨rfl, rfl⟩), HJ.out.2.2.trans (if_pos ⟨rfl, rfl⟩)⟩
      clear HJ
      go_enter Try.func24, Try.ntmps24
      go_wp2_with fail
      refine CA.out.mono ?_
      rintro ee w1 ⟨rfl, hb1⟩
      have H1 := Lib.hid (HH.out.later hb1)
      have M1 : Hid (Mid s e w w1) := Mid.of_below hb1
      clear hb1 CA
      go_wp2_with fail
      refine (CB.out w1 H1.out).mono ?_
      rintro ee w2 ⟨rfl, hb2⟩
      have H2 := Lib.hid (H1.out.later hb2)
      have M2 : Hid (Mid s e w w2) := M1.out.trans (Mid.of_below hb2)
      clear hb2 CB
      go_wp2_with fail
      by_cases h60 : la.length + lb.length ≤ 60
      · refine (sjoin_in _ _ w2 (by rw [size_list, size_list]; exact h60)).mono ?_
        rintro ee w3 ⟨rfl, rfl⟩
        have HT := Lib.hid (text_any H2.out ((⟨la.toArray⟩ : ByteArray) ++ ⟨lb.toArray⟩) (by rw [app_bytes, size_list, List.length_append]; unfold maxLen; omega))
        go_wp2_with fail
        refine HT.out.mono ?_
        rintro ee w4 ⟨rfl, h4, m4⟩
        rw [app_bytes] at h4 ⊢
        have H4 := Lib.hid h4
        have M4 := Lib.hid (M2.out.trans m4)
        clear h4 m4
        go_wp2_with fail
        go_ret2
        exact ⟨by rw [HJ2.out.1, HJ2.out.2.1]; rfl, by rw [HJ2.out.2.2]; exact H4.out, M4.out⟩
      · refine (sjoin_out _ _ w2 (by rw [size_list]; exact HLA.out) (by rw [size_list]; exact HLB.out) (by rw [size_list, size_list]; omega)).mono ?_
        rintro ee w3 ⟨rfl, rfl⟩
        have HF := Lib.hid (text_far (N := N) (H := H) (l := la ++ lb) (by rw [List.length_append]; omega))
        go_wp2_with fail
        go_ret2
        exact ⟨by rw [HJ2.out.1, HJ2.out.2.1, HF.out.1, HF.out.2.1]; rfl, by rw [HJ2.out.2.2, HF.out.2.2]; exact H2.out, M2.out⟩
    · have HJ2 : Hid (joinE N H a b = 4 ∧ joinR N H a b = 0 ∧ joinH N H a b = H) := ⟨HJ.out.1.trans (if_neg (fun h => by cases h.2)), HJ.out.2.1.trans (if_neg (fun h => by cases h.2)), HJ.out.2.2.trans (if_neg (fun h => by cases h.2))⟩
      clear HJ
      go_enter Try.func24, Try.ntmps24
      go_wp2_with fail
      refine CA.out.mono ?_
      rintro ee w1 ⟨rfl, hb1⟩
      have H1 := Lib.hid (HH.out.later hb1)
      have M1 : Hid (Mid s e w w1) := Mid.of_below hb1
      clear hb1 CA
      go_wp2_with fail
      refine (CB.out w1 H1.out).mono ?_
      rintro ee w2 ⟨rfl, hb2⟩
      have H2 := Lib.hid (H1.out.later hb2)
      have M2 : Hid (Mid s e w w2) := M1.out.trans (Mid.of_below hb2)
      clear hb2 CB
      go_wp2_with fail
      go_ret2
      exact ⟨by rw [HJ2.out.1, HJ2.out.2.1]; rfl, by rw [HJ2.out.2.2]; exact H2.out, M2.out⟩
  · have HJ2 : Hid (joinE N H a b = 4 ∧ joinR N H a b = 0 ∧ joinH N H a b = H) := ⟨HJ.out.1.trans (if_neg (fun h => by cases h.1)), HJ.out.2.1.trans (if_neg (fun h => by cases h.1)), HJ.out.2.2.trans (if_neg (fun h => by cases h.1))⟩
    clear HJ
    go_enter Try.func24, Try.ntmps24
    go_wp2_with fail
    refine CA.out.mono ?_
    rintro ee w1 ⟨rfl, hb1⟩
    have H1 := Lib.hid (HH.out.later hb1)
    have M1 : Hid (Mid s e w w1) := Mid.of_below hb1
    clear hb1 CA
    go_wp2_with fail
    go_ret2
    exact ⟨by rw [HJ2.out.1, HJ2.out.2.1]; rfl, by rw [HJ2.out.2.2]; exact H1.out, M1.out⟩
/-- An integer, or a block's tag. -/
def caseF (H : Hp) (z : Int) : Int × Int := if z % 2 = 1 then (z / 2, 0) else if 0 ≤ tagF H z ∧ tagF H z ≤ 199 then (tagF H z, 0) else (0, 4)
set_option maxHeartbeats 400000 in
theorem case_any (h : HeapAt w s e hb N H) (z : Int) (hz : WfI z) :
    Calls Try.prog 30 #[.pointer (some ⟨hb, 0, none⟩), .int .i64 z] w fun ee w' => ee = .returned (.tuple #[.int .i64 (caseF H z).1, .int .i64 (caseF H z).2]) ∧ w = w' := by
  by_cases h1 : z % 2 = 1
  · have HP : Hid (caseF H z = (z / 2, 0)) := by show _ = _; unfold caseF; rw [if_pos h1]
    have HC := fun (wx : World) => I.untag_odd z wx h1
    clear h hz h1
    go_enter Try.func30, Try.ntmps30
    go_wp2_with (go_at_call 35; refine (HC _).mono ?_; rintro e w' ⟨rfl, rfl⟩)
    go_ret2
    exact ⟨by rw [HP.out]; rfl, rfl⟩
  · have HC := fun (wx : World) => I.untag_even z wx (by omega)
    have HT := Lib.hid (tag_any h z hz)
    have HP : Hid (caseF H z = if 0 ≤ tagF H z ∧ tagF H z ≤ 199 then (tagF H z, 0) else (0, 4)) := by show _ = _; unfold caseF; rw [if_neg h1]
    clear h hz h1
    generalize tagF H z = t at *
    by_cases h2 : t < 0
    · have HP2 : Hid (caseF H z = (0, 4)) := HP.out.trans (if_neg (by omega))
      clear HP
      go_enter Try.func30, Try.ntmps30
      go_wp2_with (first | (go_at_call 35; refine (HC _).mono ?_; rintro e w' ⟨rfl, rfl⟩) | (go_at_call 55; refine HT.out.mono ?_; rintro e w' ⟨rfl, rfl⟩))
      go_ret2
      exact ⟨by rw [HP2.out]; rfl, rfl⟩
    · by_cases h3 : 199 < t
      · have HP2 : Hid (caseF H z = (0, 4)) := HP.out.trans (if_neg (by omega))
        clear HP
        go_enter Try.func30, Try.ntmps30
        go_wp2_with (first | (go_at_call 35; refine (HC _).mono ?_; rintro e w' ⟨rfl, rfl⟩) | (go_at_call 55; refine HT.out.mono ?_; rintro e w' ⟨rfl, rfl⟩))
        go_ret2
        exact ⟨by rw [HP2.out]; rfl, rfl⟩
      · have HP2 : Hid (caseF H z = (t, 0)) := HP.out.trans (if_pos (by omega))
        clear HP
        go_enter Try.func30, Try.ntmps30
        go_wp2_with (first | (go_at_call 35; refine (HC _).mono ?_; rintro e w' ⟨rfl, rfl⟩) | (go_at_call 55; refine HT.out.mono ?_; rintro e w' ⟨rfl, rfl⟩))
        go_ret2
        exact ⟨by rw [HP2.out]; rfl, rfl⟩
end
end Go.Proofs.Ytcbehllfljjngaa
