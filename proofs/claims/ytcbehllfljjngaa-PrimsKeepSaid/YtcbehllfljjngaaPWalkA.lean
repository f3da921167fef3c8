/- The walks of layers 2 and 16: a new heap; texts. -/
import Derived.Test.YtcbehllfljjngaaHWalkE
import Derived.Test.YtcbehllfljjngaaSWalkN
import Derived.Laws.OwnMore
import Derived.OwnWalk
namespace Go.Proofs.Ytcbehllfljjngaa
open Go.RowKit
set_option linter.unusedVariables false

theorem own_wide {w w' : World} {base n : Nat} {e : TypeId} {v : Value} {xs : List Value} (h : w.ownsRow base e 1 v n xs) (hk : ∀ g, base ≤ g → g < w.heap.size → w'.heap[g]? = w.heap[g]?) : w'.ownsRow base e 1 v n xs :=
  own_of_block h fun g hg => hk g (h.lt g hg).1 (h.lt g hg).2
set_option maxHeartbeats 400000 in
theorem heapNew_any (N : Nat) (h1 : 64 ≤ N) (h2 : N ≤ 65536) (w : World) :
    Calls Try.prog 14 #[.int .i64 N] w fun ee w' => ∃ hb, ee = .returned (.pointer (some ⟨hb, 0, none⟩)) ∧ HeapAt w' w.heap.size w'.heap.size hb N [] ∧ Below w.heap.size w w' := by
  obtain ⟨i0, hi, hz0, hz1, hz2⟩ := info_parts2 (show (Try.prog.info? 3).map (fun i => (i.zero, i.size, i.bytes)) = some (some (.int .i64 0), 1, 8) by kernel_rfl)
  have HI := Lib.hid hi
  have HI0 := Lib.hid hz0
  have HI1 := Lib.hid hz1
  have HI2 := Lib.hid hz2
  clear hi hz0 hz1 hz2
  have hmm := @run_makeMap Try.prog
  go_enter Try.func14, Try.ntmps14
  go_wp2_with (at_make; refine wpList_make_full _ rfl _ _ 36 rfl w.heap.size 3 i0 (.int .i64 0) 1 Try.underlying36 HI.out HI0.out HI1.out .i64 .i64 _ _ (N + 1) rfl rfl (by omega) (by omega) (by rw [HI2.out]; omega) (by unfold maxLen; omega) (Nat.le_refl _) ?_; intro w1 ho hg; have HO := Lib.hid ho; have HG := Lib.hid hg; clear ho hg)
  go_ret
  have hs1 : w.heap.size < w1.heap.size := (HO.out.lt w.heap.size rfl).2
  have hs2 : (w1.alloc (.map #[] 0)).heap.size = w1.heap.size + 1 := by simp
  have hxs : (Go.madeCells (Value.int .i64 0).cells ((N + 1) * 1)).toList = ((memL [] ++ List.replicate N 0).map (Value.int .i64)) := by
    show (Go.madeCells #[.int .i64 0] ((N + 1) * 1)).toList = _
    rw [toList_madeCells_one, Nat.mul_one, List.replicate_succ, List.map_append, List.map_replicate]
    rfl
  have ho : w1.ownsRow w.heap.size 3 1 (.slice (some ⟨w.heap.size, 0, none⟩) (N + 1) (N + 1)) (N + 1) ((memL [] ++ List.replicate N 0).map (Value.int .i64)) := by
    have := HO.out; rw [hxs] at this; exact this
  have b1 : Below w.heap.size w w1 := ⟨HG.out.os, HG.out.tape, HG.out.output, HG.out.size, fun g hg => HG.out.block g hg (by simp)⟩
  refine ⟨_, rfl, ⟨⟨w.heap.size, w1.heap.size, List.replicate N 0, ?_, (ho.alloc _).alloc _, ?_, by omega, ?_, ?_⟩, ?_, Nat.le_refl _, ⟨h1, h2⟩, fun b hb => by cases hb⟩, (b1.alloc (by omega) _).alloc (by rw [hs2]; omega) _⟩
  · have := Whole.made (w1.alloc (.map #[] 0)) 71 #[.slice (some ⟨w.heap.size, 0, none⟩) (N + 1) (N + 1), .int .i64 1, .map (some w1.heap.size)]
    rw [hs2] at this
    exact this
  · exact ((SetAt.made w1).same (Below.heap_alloc _ _ _ (by rw [hs2]; omega)))
  all_goals first | (simp; done) | (simp; omega)
/-- Packing and reading texts. -/
theorem leV_wf (l : List UInt8) (h : l.length ≤ 7) : WfI (leV l) := by
  have h1 := leV_lt l
  have h2 : 256 ^ l.length ≤ 256 ^ 7 := Nat.pow_le_pow_right (by decide) h
  have h3 : (256 : Nat) ^ 7 = 72057594037927936 := by decide
  exact wf_i64.2 ⟨by omega, by omega⟩
theorem packF_wf (l : List UInt8) (h : l.length ≤ 60) : ∀ z ∈ packF l, WfI z := fun z hz => by
  unfold packF nums at hz
  rcases List.mem_cons.1 hz with rfl | hz
  · exact wf_i64.2 ⟨by omega, by omega⟩
  · obtain ⟨i, _, rfl⟩ := List.mem_map.1 hz
    exact leV_wf _ (by rw [List.length_take]; omega)
def textE (N : Nat) (H : Hp) (l : List UInt8) : Int := if l.length ≤ 60 then mkE N H 201 (packF l) else 12
def textR (N : Nat) (H : Hp) (l : List UInt8) : Int := if l.length ≤ 60 then mkR N H 201 (packF l) else 0
def textH (N : Nat) (H : Hp) (l : List UInt8) : Hp := if l.length ≤ 60 then mkH N H 201 (packF l) else H
def TextPost (w : World) (s e hb N : Nat) (H : Hp) (l : List UInt8) (ee : Ending) (w' : World) : Prop :=
  ee = .returned (.tuple #[.int .i64 (textR N H l), .int .i64 (textE N H l)]) ∧ HeapAt w' s e hb N (textH N H l) ∧ Mid s e w w'
section
variable {w : World} {s e hb N : Nat} {H : Hp}
set_option maxHeartbeats 400000 in
theorem text_any (h : HeapAt w s e hb N H) (t : ByteArray) (ht : t.size ≤ maxLen) : Calls Try.prog 23 #[.pointer (some ⟨hb, 0, none⟩), .string t] w (TextPost w s e hb N H t.data.toList) := by
  by_cases h60 : t.size ≤ 60
  · have HE : Hid (textE N H t.data.toList = mkE N H 201 (packF t.data.toList) ∧ textR N H t.data.toList = mkR N H 201 (packF t.data.toList) ∧ textH N H t.data.toList = mkH N H 201 (packF t.data.toList)) := by
      show _ ∧ _ ∧ _
      unfold textE textR textH
      rw [size_data]
      exact ⟨if_pos h60, if_pos h60, if_pos h60⟩
    have HH := Lib.hid h
    have HW := Lib.hid (packF_wf t.data.toList (by rw [size_data]; exact h60))
    have hes := h.size
    clear h
    go_enter Try.func23, Try.ntmps23
    go_wp2_with fail
    refine (pack_in t w h60).mono ?_
    rintro ee w1 ⟨v, rfl, ho, hb1⟩
    obtain ⟨A, c, rfl, hI⟩ := Ints.of_own ho
    have HS : Hid (∀ ad, A = some ad → 0 < (t.size + 6) / 7 + 1 → ad.block < s ∨ e ≤ ad.block) := fun ad hA _ => by
      have := (ho.lt ad.block (by rw [hA]; rfl)).1
      omega
    have H1 := Lib.hid (HH.out.later hb1)
    have HI := Lib.hid hI
    have M1 : Hid (Mid s e w w1) := Mid.of_below hb1
    clear ho hI hb1 HH
    generalize hn : (t.size + 6) / 7 + 1 = n at *
    have hn2 : n ≤ 1000 := by omega
    clear hn
    go_wp2_with fail
    refine (make_any H1.out 201 A n c _ HI.out hn2 HW.out HS.out).mono ?_
    rintro ee w2 ⟨rfl, h2, m2⟩
    have H2 := Lib.hid h2
    have M2 := Lib.hid (M1.out.trans m2)
    clear h2 m2
    go_wp2_with fail
    go_ret2
    exact ⟨by rw [HE.out.1, HE.out.2.1]; rfl, by rw [HE.out.2.2]; exact H2.out, M2.out⟩
  · have HE : Hid (textE N H t.data.toList = 12 ∧ textR N H t.data.toList = 0 ∧ textH N H t.data.toList = H) := by
      show _ ∧ _ ∧ _
      unfold textE textR textH
      rw [size_data]
      exact ⟨if_neg h60, if_neg h60, if_neg h60⟩
    have HH := Lib.hid h
    clear h
    go_enter Try.func23, Try.ntmps23
    go_wp2_with fail
    refine (pack_out t w (by omega) ht).mono ?_
    rintro ee w1 ⟨rfl, rfl⟩
    go_wp2_with fail
    go_ret2
    exact ⟨by rw [HE.out.1, HE.out.2.1]; rfl, by rw [HE.out.2.2]; exact HH.out, Mid.refl _ _ _⟩
/-- The bytes of a text's block, or an error. -/
def strF (H : Hp) (z : Int) : List UInt8 × Int :=
  if tagF H z = 201 ∧ hdN (fieldsF H z) ≤ 60 ∧ packF (unpB (fieldsF H z) (hdN (fieldsF H z))) = fieldsF H z then (unpB (fieldsF H z) (hdN (fieldsF H z)), 0) else ([], 4)
theorem strF_len (H : Hp) (z : Int) : (strF H z).1.length ≤ 60 := by
  unfold strF
  split
  · rename_i h; rw [unpB_len]; exact h.2.1
  · simp
theorem unpF_cases (zs : List Int) : (hdN zs ≤ 60 ∧ packF (unpB zs (hdN zs)) = zs ∧ unpF zs = .returned (.tuple #[.string ⟨(unpB zs (hdN zs)).toArray⟩, .int .i64 0])) ∨ (¬ (hdN zs ≤ 60 ∧ packF (unpB zs (hdN zs)) = zs) ∧ unpF zs = .returned (.tuple #[.string ⟨#[]⟩, .int .i64 1])) := by
  by_cases h : hdN zs ≤ 60 ∧ packF (unpB zs (hdN zs)) = zs
  · exact .inl ⟨h.1, h.2, by unfold unpF; rw [if_pos h]⟩
  · exact .inr ⟨h, by unfold unpF; rw [if_neg h]; rfl⟩
theorem fieldsF_len (h : HeapAt w s e hb N H) (z : Int) : (fieldsF H z).length ≤ 60 := by
  unfold fieldsF
  split
  · rename_i b hq; exact (h.wf b (blkF_in hq)).2.1
  · simp
set_option maxHeartbeats 400000 in
theorem str_any (h : HeapAt w s e hb N H) (z : Int) (hz : WfI z) :
    Calls Try.prog 25 #[.pointer (some ⟨hb, 0, none⟩), .int .i64 z] w fun ee w' => ee = .returned (.tuple #[.string ⟨(strF H z).1.toArray⟩, .int .i64 (strF H z).2]) ∧ Below w.heap.size w w' := by
  have HC := Lib.hid (tag_any h z hz)
  by_cases ht : tagF H z = 201
  · rw [ht] at HC
    have HF := Lib.hid (fields_any h z hz)
    have HS : Hid (strF H z = if hdN (fieldsF H z) ≤ 60 ∧ packF (unpB (fieldsF H z) (hdN (fieldsF H z))) = fieldsF H z then (unpB (fieldsF H z) (hdN (fieldsF H z)), 0) else ([], 4)) := by
      show _ = _
      unfold strF
      by_cases h2 : hdN (fieldsF H z) ≤ 60 ∧ packF (unpB (fieldsF H z) (hdN (fieldsF H z))) = fieldsF H z
      · rw [if_pos ⟨ht, h2⟩, if_pos h2]
      · rw [if_neg (fun h3 => h2 h3.2), if_neg h2]
    clear h ht
    generalize fieldsF H z = zs at *
    go_enter Try.func25, Try.ntmps25
    go_wp2_with (go_at_call 55; refine HC.out.mono ?_; rintro e w' ⟨rfl, rfl⟩)
    refine HF.out.mono ?_
    rintro ee w1 ⟨A, n, c, rfl, ho, hn, hb1⟩
    obtain ⟨A', c', e1, hI⟩ := Ints.of_own ho
    simp only [Value.slice.injEq] at e1
    obtain ⟨rfl, _, rfl⟩ := e1
    have HI := Lib.hid hI
    have HB := Lib.hid hb1
    clear ho hI hb1 HC HF
    go_wp2_with fail
    refine (unpack_any w1 _ A n c zs HI.out (Nat.le_refl _) (by omega)).mono ?_
    rintro ee w2 ⟨he, hb2⟩
    have HB2 := Lib.hid (HB.out.trans (hb2.mono HB.out.size))
    rcases unpF_cases zs with ⟨q1, q2, q3⟩ | ⟨q1, q3⟩
    · obtain rfl := he.trans q3
      have HS2 : Hid (strF H z = (unpB zs (hdN zs), 0)) := HS.out.trans (if_pos ⟨q1, q2⟩)
      clear he q1 q2 q3 HS hb2
      go_wp2_with fail
      go_ret2
      exact ⟨by rw [HS2.out]; rfl, HB2.out⟩
    · obtain rfl := he.trans q3
      have HS2 : Hid (strF H z = ([], 4)) := HS.out.trans (if_neg q1)
      clear he q1 q3 HS hb2
      go_wp2_with fail
      go_ret2
      exact ⟨by rw [HS2.out]; rfl, HB2.out⟩
  · have hb1 : (tagF H z != 201) = true := bne_iff_ne.2 ht
    have HS : Hid (strF H z = ([], 4)) := by
      show _ = _
      unfold strF
      rw [if_neg (fun h3 => ht h3.1)]
    clear h ht
    generalize tagF H z = tg at *
    go_enter Try.func25, Try.ntmps25
    go_wp2_with (go_at_call 55; refine HC.out.mono ?_; rintro e w' ⟨rfl, rfl⟩)
    go_ret2
    exact ⟨by rw [HS.out]; rfl, Below.refl _ _⟩
end
set_option maxHeartbeats 400000 in
theorem sjoin_in (a b : ByteArray) (w : World) (h : a.size + b.size ≤ 60) :
    Calls Try.prog 54 #[.string a, .string b] w fun e w' => e = .returned (.tuple #[.string (a ++ b), .int .i64 0]) ∧ w = w' := by
  have h1 : (a.size : Int) ≤ 60 := by omega
  have h2 : (b.size : Int) ≤ 60 - a.size := by omega
  go_enter Try.func54, Try.ntmps54
  go_wp2
  go_ret2
  exact ⟨rfl, rfl⟩
set_option maxHeartbeats 400000 in
theorem sjoin_out (a b : ByteArray) (w : World) (ha : a.size ≤ 60) (hb : b.size ≤ 60) (h : 60 < a.size + b.size) :
    Calls Try.prog 54 #[.string a, .string b] w fun e w' => e = .returned (.tuple #[.string ⟨#[]⟩, .int .i64 12]) ∧ w = w' := by
  have h1 : (a.size : Int) ≤ 60 := by omega
  have h2 : 60 - (a.size : Int) < b.size := by omega
  go_enter Try.func54, Try.ntmps54
  go_wp2
  go_ret2
  exact ⟨rfl, rfl⟩
end Go.Proofs.Ytcbehllfljjngaa
