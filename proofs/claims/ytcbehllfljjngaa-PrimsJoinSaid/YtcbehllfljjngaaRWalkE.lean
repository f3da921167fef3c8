/- The walks of layer 16's reference: tags, texts. -/
import Derived.Test.YtcbehllfljjngaaRWalkD
import Derived.Test.YtcbehllfljjngaaPWalkB
namespace Go.Proofs.Ytcbehllfljjngaa
open Go.RowKit
set_option linter.unusedVariables false
attribute [local go_sem ↓] Go.wp_at_zero Go.wp_at_succ

set_option maxHeartbeats 400000 in
theorem rnew_any (N : Nat) (h1 : 64 ≤ N) (h2 : N ≤ 65536) (w : World) : Calls Try.prog 15 #[.int .i64 N] w fun e w' => e = .returned (.pointer (some ⟨w.heap.size, 0, none⟩)) ∧ w' = w.alloc (.cells #[.int .i64 N, .slice none 0 0] 42) := by
  go_enter Try.func15, Try.ntmps15
  go_wp2_with fail
  go_ret
  exact ⟨rfl, rfl⟩
theorem ref_new (N : Nat) (h2 : N ≤ 65536) (w : World) : RefAt (w.alloc (.cells #[.int .i64 N, .slice none 0 0] 42)) w.heap.size w.heap.size N [] :=
  ⟨⟨_, [], Whole.made w 42 _, World.ownsRow_nil _ _ _ _, rfl, fun k hk => absurd hk (by simp)⟩, Nat.le_refl _, by unfold topN sumSz; simp, h2, fun b hb => by cases hb⟩
section
variable {w : World} {B rb N : Nat} {H : Hp}
def TagPost (w : World) (H : Hp) (z : Int) (e : Ending) (w' : World) : Prop := ∃ A n c, e = .returned (.tuple #[.int .i64 (tagF H z), .slice A n c]) ∧ Ints w' w'.heap.size A n (fieldsF H z) ∧ (n ≤ 60 ∧ n ≤ c ∧ c ≤ maxLen) ∧ Below w.heap.size w w'
theorem tag_no {w' : World} {z : Int} (h : blkF H z = none) (hb : Below w.heap.size w w') : TagPost w H z (.returned (.tuple #[.int .i64 (-1), .slice none 0 0])) w' := by
  unfold TagPost tagF fieldsF
  rw [h]
  exact ⟨none, 0, 0, rfl, Ints.nil_ _ _, ⟨by omega, by omega, by unfold maxLen; omega⟩, hb⟩
set_option maxHeartbeats 1000000 in
theorem rtag_any (h : RefAt w B rb N H) (z : Int) (hz : WfI z) : Calls Try.prog 57 #[.pointer (some ⟨rb, 0, none⟩), .int .i64 z] w (TagPost w H z) := by
  have HH := Lib.hid h
  have HF := Lib.hid (find_any h z hz)
  have HNO : Hid ((wdF H z).1 = false → ∀ w' : World, Below w.heap.size w w' → TagPost w H z (.returned (.tuple #[.int .i64 (-1), .slice none 0 0])) w') := fun h1 w' h2 => tag_no (wdF_nblk h1) h2
  have HYES : Hid (∀ k o, wdF H z = (true, k, o) → ∃ i : Nat, k = i ∧ i < H.length ∧ z = 2 * (posn H i : Nat) ∧ blkF H z = some (H.getD i blk0) ∧ o = true) := fun k o h => wdF_blk h
  clear h hz
  generalize hr : wdF H z = r at *
  have HWD := Lib.hid hr
  unfold FindPost at HF
  rw [hr] at HF
  clear hr
  obtain ⟨ri, rk, ro⟩ := r
  dsimp only at *
  cases ri with
  | false =>
    have HX := Lib.hid (HNO.out rfl)
    clear HNO HYES
    cases ro with
    | false =>
      go_enter Try.func57, Try.ntmps57
      go_wp2_with fail
      refine HF.out.mono ?_
      rintro ee w1 ⟨rfl, b1⟩
      have HE := Lib.hid (HX.out (w1.alloc (.cells #[.bool false, .int .i64 rk] 84)) (b1.alloc b1.size _))
      clear b1
      go_wp2_with fail
      go_ret2
      exact HE.out
    | true =>
      go_enter Try.func57, Try.ntmps57
      go_wp2_with fail
      refine HF.out.mono ?_
      rintro ee w1 ⟨rfl, b1⟩
      have HE := Lib.hid (HX.out (w1.alloc (.cells #[.bool false, .int .i64 rk] 84)) (b1.alloc b1.size _))
      clear b1
      go_wp2_with fail
      go_ret2
      exact HE.out
  | true =>
    obtain ⟨i, rfl, hi, hzz, hblk, rfl⟩ := HYES.out rk ro rfl
    have HTF : Hid (tagF H z = (H.getD i blk0).tag ∧ fieldsF H z = (H.getD i blk0).fs) := by show _ ∧ _; unfold tagF fieldsF; rw [hblk]; exact ⟨rfl, rfl⟩
    clear HNO HYES hzz hblk HWD
    go_enter Try.func57, Try.ntmps57
    go_wp2_with fail
    refine HF.out.mono ?_
    rintro ee w1 ⟨rfl, b1⟩
    have hB1 : Below w.heap.size w (w1.alloc (.cells #[.bool true, .int .i64 i] 84)) := b1.alloc b1.size _
    have HB1 := Lib.hid hB1
    have HR1 := Lib.hid (HH.out.later hB1)
    have c1 : (w1.alloc (.cells #[.bool true, .int .i64 i] 84)).cell? ⟨w1.heap.size, 1, none⟩ = some (.int .i64 i) := (Whole.made w1 84 #[.bool true, .int .i64 i]).cell 1
    have hwlt : w1.heap.size < (w1.alloc (.cells #[.bool true, .int .i64 i] 84)).heap.size := by simp
    clear b1 hB1 HF HH
    go_upto_region 4 with (fail)
    generalize w1.alloc (.cells #[.bool true, .int .i64 i] 84) = w2 at *
    obtain ⟨A, c, x0, x1, hx⟩ := HR1.out.form
    obtain ⟨g, rfl, hgl, A1, n1, cc1, A2, n2, cc2, y0, y1, y2, hsz, _⟩ := hx i hi
    have CF : ∀ wx : World, RefAt wx B rb N H → Below w2.heap.size w2 wx → Calls Try.prog 22 #[.pointer (some ⟨rb, 0, none⟩), .int .i64 i] wx fun e w' => (∃ A n c, e = .returned (.slice A n c) ∧ Ints w' w'.heap.size A n (H.getD i blk0).fs ∧ (n ≤ 60 ∧ n ≤ c ∧ c ≤ maxLen) ∧ Below w.heap.size w w') ∧ w'.cell? ⟨rb, 1, none⟩ = some (.slice (some ⟨g, 0, none⟩) H.length c) ∧ w'.cell? ⟨w1.heap.size, 1, none⟩ = some (.int .i64 i) ∧ w'.cell? ⟨g, i * 3, none⟩ = some (.int .i64 (H.getD i blk0).tag) := fun wx hr hbx =>
      (rfields_any hr i hi).mono fun e w' ⟨A, n, c', he, hI, hn, hb⟩ => by
        have hb2 := hbx.trans (hb.mono hbx.size)
        exact ⟨⟨A, n, c', he, hI, hn, HB1.out.trans (hb2.mono HB1.out.size)⟩, (hb2.cell (p := ⟨rb, 1, none⟩) HR1.out.lt).trans x1, (hb2.cell (p := ⟨w1.heap.size, 1, none⟩) hwlt).trans c1, (hb2.cell (p := ⟨g, i * 3, none⟩) hgl).trans y0⟩
    have CF := Lib.hid CF
    have HLN := HR1.out.len
    have hN := HR1.out.n
    have hi0 : (0 : Int) ≤ i := by omega
    have hiL : (i : Int) < H.length := by omega
    clear hx hsz x0 y1 y2
    generalize (H.getD i blk0).tag = t at *
    generalize (H.getD i blk0).fs = fs at *
    generalize hL : H.length = L at *
    clear hL
    go_region_held3 (fun W => W.cell? ⟨rb, 1, none⟩ = some (.slice (some ⟨g, 0, none⟩) L c) ∧ W.cell? ⟨w1.heap.size, 1, none⟩ = some (.int .i64 i) ∧ W.cell? ⟨g, i * 3, none⟩ = some (.int .i64 t))
      (first | go_keep)
      ((go_at_call 22; (with_reducible refine (CF.out _ ?_ ?_).mono ?_); (exact HR1.out.drew); (exact (Below.refl _ _).drew); rintro e wm ⟨⟨Aq, nq, cq, rfl, hIq, hnq, hbq⟩, m1, m2, m3⟩))
    all_goals
      go_wp2_with fail
      go_ret2
      exact ⟨Aq, nq, cq, by rw [HTF.out.1]; rfl, by rw [HTF.out.2]; exact hIq, hnq, hbq⟩
end
end Go.Proofs.Ytcbehllfljjngaa
