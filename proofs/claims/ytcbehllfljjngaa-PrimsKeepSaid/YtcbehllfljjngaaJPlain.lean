/- Plain facts of texts in a heap; the law PrimsJoin: its walk. -/
import Derived.Test.YtcbehllfljjngaaPWalkF
import Derived.Deep.CutBlock
import Derived.Deep.DeepCutAuto
namespace Go.Proofs.Ytcbehllfljjngaa
open Go.RowKit
set_option linter.unusedVariables false

theorem str_own (s : ByteArray) : (⟨s.data.toList.toArray⟩ : ByteArray) = s := by cases s; simp
theorem blkF_new (H : Hp) (b : Blk) : blkF (H ++ [b]) (2 * (topN H : Nat)) = some b := by
  have h1 : 1 ≤ topN H := by unfold topN; omega
  unfold blkF
  rw [if_pos ⟨by omega, by omega⟩, show (2 * (topN H : Int)) / 2 = (topN H : Nat) from by omega, blkAt_snoc, if_neg, if_pos rfl]
  intro h
  obtain ⟨c, hc⟩ := Option.isSome_iff_exists.1 h
  have := blkAt_lt hc
  unfold Blk.sz at this
  omega
theorem blkF_old {H : Hp} {z : Int} {c : Blk} (b : Blk) (h : blkF H z = some c) : blkF (H ++ [b]) z = some c := by
  unfold blkF at h ⊢
  split at h
  · rename_i h1
    rw [if_pos h1, blkAt_snoc, h]; rfl
  · cases h
theorem strF_of {H : Hp} {z : Int} {l : List UInt8} (hl : l.length ≤ 60) (h : blkF H z = some ⟨201, packF l⟩) : strF H z = (l, 0) := by
  have ht : tagF H z = 201 := by unfold tagF; rw [h]; rfl
  have hf : fieldsF H z = packF l := by unfold fieldsF; rw [h]
  have hd : hdN (packF l) = l.length := by unfold hdN packF; rw [List.getD_cons_zero]; omega
  obtain ⟨_, hu⟩ := unp_pack l hl
  unfold strF
  rw [hf, hd, hu, if_pos ⟨ht, hl, rfl⟩]
theorem strF_none {H : Hp} {z : Int} (h : blkF H z = none) : strF H z = ([], 4) := by
  have ht : tagF H z = -1 := by unfold tagF; rw [h]
  unfold strF
  rw [if_neg (fun h2 => by rw [ht] at h2; exact absurd h2.1 (by decide))]
theorem text_in {N : Nat} {H : Hp} {l : List UInt8} (h : l.length ≤ 60) (hr : topN H + ((l.length + 6) / 7 + 1) ≤ N) : textH N H l = H ++ [⟨201, packF l⟩] ∧ textR N H l = 2 * (topN H : Nat) ∧ textE N H l = 0 := by
  have hk : mkOk N H 201 (packF l) = true := by
    unfold mkOk
    rw [packF_len]
    simp
    omega
  have := mk_good hk (by rw [packF_len]; exact hr)
  unfold textH textR textE
  rw [if_pos h, if_pos h, if_pos h]
  exact this
theorem topN_text (H : Hp) (l : List UInt8) : topN (H ++ [⟨201, packF l⟩]) = topN H + ((l.length + 6) / 7 + 2) := by
  rw [topN_snoc]; unfold Blk.sz; rw [packF_len]; omega
theorem joinX_ok {N : Nat} {H : Hp} {a b : Int} {s t : List UInt8} (h1 : strF H a = (s, 0)) (h2 : strF H b = (t, 0)) : joinE N H a b = textE N H (s ++ t) ∧ joinR N H a b = textR N H (s ++ t) ∧ joinH N H a b = textH N H (s ++ t) := by
  unfold joinE joinR joinH
  rw [h1, h2]
  exact ⟨if_pos ⟨rfl, rfl⟩, if_pos ⟨rfl, rfl⟩, if_pos ⟨rfl, rfl⟩⟩
theorem joinX_bad {N : Nat} {H : Hp} {a b : Int} (h : (strF H a).2 ≠ 0 ∨ (strF H b).2 ≠ 0) : joinE N H a b = 4 ∧ joinR N H a b = 0 ∧ joinH N H a b = H := by
  unfold joinE joinR joinH
  have : ¬ ((strF H a).2 = 0 ∧ (strF H b).2 = 0) := fun h2 => by rcases h with h | h; exact h h2.1; exact h h2.2
  exact ⟨if_neg this, if_neg this, if_neg this⟩
theorem blkF_zero (H : Hp) : blkF H 0 = none := by unfold blkF; rw [if_neg (by decide)]
section
variable {w : World} {s e hb N : Nat} {H : Hp}
theorem str_at (h : HeapAt w s e hb N H) (z : Int) (hz : WfI z) (t : ByteArray) (ht : strF H z = (t.data.toList, 0)) :
    Calls Try.prog 25 #[.pointer (some ⟨hb, 0, none⟩), .int .i64 z] w fun ee w' => ee = .returned (.tuple #[.string t, .int .i64 0]) ∧ Below w.heap.size w w' := by
  have := str_any h z hz
  rw [ht] at this
  rw [show (⟨((t.data.toList, (0 : Int)) : List UInt8 × Int).1.toArray⟩ : ByteArray) = t from str_own t] at this
  exact this
end
end Go.Proofs.Ytcbehllfljjngaa
