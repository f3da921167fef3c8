/- The walks of layer 16's reference: texts, cases, closures. -/
import Derived.Test.YtcbehllfljjngaaRWalkE
import Derived.Test.YtcbehllfljjngaaPWalkE
import Derived.Test.YtcbehllfljjngaaPWalkG
namespace Go.Proofs.Ytcbehllfljjngaa
open Go.RowKit
set_option linter.unusedVariables false
attribute [local go_sem ↓] Go.wp_at_zero Go.wp_at_succ

theorem wfF_fields {H : Hp} (h : WfH H) (z : Int) : ∀ f ∈ fieldsF H z, WfI f := fun f hf => by
  unfold fieldsF at hf
  split at hf
  · rename_i b hq; exact (h b (blkF_in hq)).2.2 f hf
  · cases hf
theorem wf_getD {zs : List Int} (h : ∀ f ∈ zs, WfI f) (j : Nat) : zs.getD j 0 < 9223372036854775808 := by
  by_cases hj : j < zs.length
  · rw [List.getD_eq_getElem?_getD, List.getElem?_eq_getElem hj]
    have := (wf_i64.1 (h _ (List.getElem_mem hj))).2
    simp only [Option.getD_some]; omega
  · rw [List.getD_eq_getElem?_getD, List.getElem?_eq_none (by omega)]; simp
section
variable {w : World} {B rb N : Nat} {H : Hp}
set_option maxHeartbeats 1000000 in
theorem rstr_any (h : RefAt w B rb N H) (z : Int) (hz : WfI z) :
    Calls Try.prog 27 #[.pointer (some ⟨rb, 0, none⟩), .int .i64 z] w fun ee w' => ee = .returned (.tuple #[.string ⟨(strF H z).1.toArray⟩, .int .i64 (strF H z).2]) ∧ Below w.heap.size w w' := by
  have HT := Lib.hid (rtag_any h z hz)
  have HWF := Lib.hid (wf_getD (wfF_fields h.wf z))
  have HS : Hid (strF H z = if tagF H z = 201 ∧ hdN (fieldsF H z) ≤ 60 ∧ packF (unpB (fieldsF H z) (hdN (fieldsF H z))) = fieldsF H z then (unpB (fieldsF H z) (hdN (fieldsF H z)), 0) else ([], 4)) := rfl
  unfold TagPost at HT
  clear h hz
  generalize fieldsF H z = zs at *
  generalize tagF H z = tg at *
  go_enter Try.func27, Try.ntmps27
  go_wp2_with fail
  refine HT.out.mono ?_
  rintro ee w1 ⟨A, n, c, rfl, hI, ⟨hn, _⟩, b1⟩
  have HI := Lib.hid hI
  have HB := Lib.hid b1
  clear hI b1 HT
  go_wp2_with fail
  refine (runpack_any w1 _ A n c zs HI.out (Nat.le_refl _) (by omega) HWF.out).mono ?_
  rintro ee w2 ⟨he, hb2⟩
  have HB2 := Lib.hid (HB.out.trans (hb2.mono HB.out.size))
  clear hb2 HB
  by_cases ht : tg = 201
  · rcases unpF_cases zs with ⟨q1, q2, q3⟩ | ⟨q1, q3⟩
    · obtain rfl := he.trans q3
      have HS2 : Hid (strF H z = (unpB zs (hdN zs), 0)) := HS.out.trans (if_pos ⟨ht, q1, q2⟩)
      subst ht
      clear he q1 q2 q3 HS
      go_wp2_with fail
      go_ret2
      exact ⟨by rw [HS2.out]; rfl, HB2.out⟩
    · obtain rfl := he.trans q3
      have HS2 : Hid (strF H z = ([], 4)) := HS.out.trans (if_neg (fun h => q1 h.2))
      subst ht
      clear he q1 q3 HS
      go_wp2_with fail
      go_ret2
      exact ⟨by rw [HS2.out]; rfl, HB2.out⟩
  · have HS2 : Hid (strF H z = ([], 4)) := HS.out.trans (if_neg (fun h => ht h.1))
    have hb1 : (tg != 201) = true := bne_iff_ne.2 ht
    rcases unpF_cases zs with ⟨q1, q2, q3⟩ | ⟨q1, q3⟩
    · obtain rfl := he.trans q3
      clear he q1 q2 q3 HS ht
      go_wp2_with fail
      go_ret2
      exact ⟨by rw [HS2.out]; rfl, HB2.out⟩
    · obtain rfl := he.trans q3
      clear he q1 q3 HS ht
      go_wp2_with fail
      go_ret2
      exact ⟨by rw [HS2.out]; rfl, HB2.out⟩
def RTextPost (w : World) (B rb N : Nat) (H : Hp) (l : List UInt8) (ee : Ending) (w' : World) : Prop :=
  ee = .returned (.tuple #[.int .i64 (textR N H l), .int .i64 (textE N H l)]) ∧ RefAt w' B rb N (textH N H l) ∧ Below B w w'
theorem RefAt.leB (h : RefAt w B rb N H) : B ≤ w.heap.size := by have := h.lt; have := h.hB; omega
set_option maxHeartbeats 1000000 in
theorem rtext_any (h : RefAt w B rb N H) (t : ByteArray) (ht : t.size ≤ maxLen) : Calls Try.prog 43 #[.pointer (some ⟨rb, 0, none⟩), .string t] w (RTextPost w B rb N H t.data.toList) := by
  by_cases h60 : t.size ≤ 60
  · have HE : Hid (textE N H t.data.toList = mkE N H 201 (packF t.data.toList) ∧ textR N H t.data.toList = mkR N H 201 (packF t.data.toList) ∧ textH N H t.data.toList = mkH N H 201 (packF t.data.toList)) := by
      show _ ∧ _ ∧ _
      unfold textE textR textH
      rw [size_data]
      exact ⟨if_pos h60, if_pos h60, if_pos h60⟩
    have HH := Lib.hid h
    have HW := Lib.hid (packF_wf t.data.toList (by rw [size_data]; exact h60))
    clear h
    go_enter Try.func43, Try.ntmps43
    go_wp2_with fail
    refine (rpack_in t w h60).mono ?_
    rintro ee w1 ⟨v, rfl, ho, hb1⟩
    obtain ⟨A, c, rfl, hI⟩ := Ints.of_own ho
    have H1 := Lib.hid (HH.out.later hb1)
    have HI := Lib.hid hI
    have M1 : Hid (Below B w w1) := hb1.mono HH.out.leB
    clear ho hI hb1 HH
    generalize hn : (t.size + 6) / 7 + 1 = n at *
    have hn2 : n ≤ 1000 := by omega
    clear hn
    go_wp2_with fail
    refine (rmake_any H1.out 201 A n c _ HI.out hn2 HW.out).mono ?_
    rintro ee w2 ⟨rfl, h2, m2⟩
    have H2 := Lib.hid h2
    have M2 := Lib.hid (M1.out.trans m2)
    clear h2 m2
    go_wp2_with fail
    go_ret2
    exact ⟨by rw [HE.out.1, HE.out.2.1]; rfl, by rw [HE.out.2.2]; exact H2.out, M2.out⟩
  · have HE : Hid (textE N H t.data.toList = 12 ∧ textR N H t.data.toList = 0 ∧ textH N H t.data.toList = H) := by
      show _ ∧ _ ∧ _
      unfold textE textR textH
      rw [size_data]
      exact ⟨if_neg h60, if_neg h60, if_neg h60⟩
    have HH := Lib.hid h
    clear h
    go_enter Try.func43, Try.ntmps43
    go_wp2_with fail
    refine (rpack_out t w (by omega) ht).mono ?_
    rintro ee w1 ⟨rfl, rfl⟩
    go_wp2_with fail
    go_ret2
    exact ⟨by rw [HE.out.1, HE.out.2.1]; rfl, by rw [HE.out.2.2]; exact HH.out, Below.refl _ _⟩
def RJoinPost (w : World) (B rb N : Nat) (H : Hp) (a b : Int) (ee : Ending) (w' : World) : Prop :=
  ee = .returned (.tuple #[.int .i64 (joinR N H a b), .int .i64 (joinE N H a b)]) ∧ RefAt w' B rb N (joinH N H a b) ∧ Below B w w'
set_option maxHeartbeats 1000000 in
theorem rjoin_any (h : RefAt w B rb N H) (a b : Int) (ha : WfI a) (hb' : WfI b) : Calls Try.prog 44 #[.pointer (some ⟨rb, 0, none⟩), .int .i64 a, .int .i64 b] w (RJoinPost w B rb N H a b) := by
  have HH := Lib.hid h
  have HLA := Lib.hid (strF_len H a)
  have HLB := Lib.hid (strF_len H b)
  have HJ : Hid (joinE N H a b = (if (strF H a).2 = 0 ∧ (strF H b).2 = 0 then textE N H ((strF H a).1 ++ (strF H b).1) else 4) ∧ joinR N H a b = (if (strF H a).2 = 0 ∧ (strF H b).2 = 0 then textR N H ((strF H a).1 ++ (strF H b).1) else 0) ∧ joinH N H a b = if (strF H a).2 = 0 ∧ (strF H b).2 = 0 then textH N H ((strF H a).1 ++ (strF H b).1) else H) := ⟨rfl, rfl, rfl⟩
  have CA := Lib.hid (rstr_any h a ha)
  have CB := fun (wx : World) (hx : RefAt wx B rb N H) => rstr_any hx b hb'
  have eA := strF_err H a
  have eB := strF_err H b
  have CB := Lib.hid CB
  clear h ha hb'
  generalize strF H a = ra at *
  generalize strF H b = rb1 at *
  obtain ⟨la, xa⟩ := ra
  obtain ⟨lb, xb⟩ := rb1
  dsimp only at *
  have hcase : (xa = 0 ∧ xb = 0) ∨ (xa = 4 ∧ xb = 0) ∨ (xa = 0 ∧ xb = 4) ∨ (xa = 4 ∧ xb = 4) := by omega
  clear eA eB
  rcases hcase with ⟨rfl, rfl⟩ | ⟨rfl, rfl⟩ | ⟨rfl, rfl⟩ | ⟨rfl, rfl⟩
  · have HJ2 : Hid (joinE N H a b = textE N H (la ++ lb) ∧ joinR N H a b = textR N H (la ++ lb) ∧ joinH N H a b = textH N H (la ++ lb)) := ⟨HJ.out.1.trans (if_pos ⟨rfl, rfl⟩), HJ.out.2.1.trans (if_pos ⟨rfl, rfl⟩), HJ.out.2.2.trans (if_pos ⟨rfl, rfl⟩)⟩
    clear HJ
    go_enter Try.func44, Try.ntmps44
    go_wp2_with fail
    refine CA.out.mono ?_
    rintro ee w1 ⟨rfl, hb1⟩
    have H1 := Lib.hid (HH.out.later hb1)
    have M1 : Hid (Below B w w1) := hb1.mono HH.out.leB
    clear hb1 CA
    go_wp2_with fail
    refine (CB.out w1 H1.out).mono ?_
    rintro ee w2 ⟨rfl, hb2⟩
    have H2 := Lib.hid (H1.out.later hb2)
    have M2 : Hid (Below B w w2) := M1.out.trans (hb2.mono H1.out.leB)
    clear hb2 CB
    have hla := HLA.out
    have hlb := HLB.out
    have hsa : (⟨la.toArray⟩ : ByteArray).size ≤ 60 := by rw [size_list]; exact hla
    have hsb : (⟨lb.toArray⟩ : ByteArray).size ≤ 60 := by rw [size_list]; exact hlb
    have HT := Lib.hid (rtext_any H2.out ((⟨la.toArray⟩ : ByteArray) ++ ⟨lb.toArray⟩) (by rw [app_bytes, size_list, List.length_append]; have := HLA.out; have := HLB.out; unfold maxLen; omega))
    go_wp2_with fail
    refine HT.out.mono ?_
    rintro ee w4 ⟨rfl, h4, m4⟩
    rw [app_bytes] at h4 ⊢
    have H4 := Lib.hid h4
    have M4 := Lib.hid (M2.out.trans m4)
    clear h4 m4
    go_wp2_with fail
    go_ret2
    exact ⟨by rw [HJ2.out.1, HJ2.out.2.1]; rfl, by rw [HJ2.out.2.2]; exact H4.out, M4.out⟩
  all_goals
    have HJ2 : Hid (joinE N H a b = 4 ∧ joinR N H a b = 0 ∧ joinH N H a b = H) := ⟨HJ.out.1.trans (if_neg (by simp)), HJ.out.2.1.trans (if_neg (by simp)), HJ.out.2.2.trans (if_neg (by simp))⟩
    clear HJ
    go_enter Try.func44, Try.ntmps44
    go_wp2_with fail
    refine CA.out.mono ?_
    rintro ee w1 ⟨rfl, hb1⟩
    have H1 := Lib.hid (HH.out.later hb1)
    have M1 : Hid (Below B w w1) := hb1.mono HH.out.leB
    clear hb1 CA
    go_wp2_with fail
    refine (CB.out w1 H1.out).mono ?_
    rintro ee w2 ⟨rfl, hb2⟩
    have H2 := Lib.hid (H1.out.later hb2)
    have M2 : Hid (Below B w w2) := M1.out.trans (hb2.mono H1.out.leB)
    clear hb2 CB
    go_wp2_with fail
    go_ret2
    exact ⟨by rw [HJ2.out.1, HJ2.out.2.1]; rfl, by rw [HJ2.out.2.2]; exact H2.out, M2.out⟩
end
end Go.Proofs.Ytcbehllfljjngaa
