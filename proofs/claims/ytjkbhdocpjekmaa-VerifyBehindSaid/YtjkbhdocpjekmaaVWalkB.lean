/- The walks of layer 14: a state with a mark more. -/
import Derived.Test.YtjkbhdocpjekmaaVWalkA
import Derived.Test.YtjkbhdocpjekmaaLast
namespace Go.Proofs.Ytjkbhdocpjekmaa
open Go.RowKit
set_option linter.unusedVariables false
set_option linter.unusedSimpArgs false
attribute [local go_sem ↓] Go.wp_at_zero Go.wp_at_succ

/-- What stands behind the append. -/
def WithMid (w : World) (d k : Int) (n : Nat) (ms : List (Int × Int)) (wx : World) : Prop :=
  ∃ g cap, Whole wx w.heap.size 56 #[.int .i64 d, .slice (some ⟨g, 0, none⟩) (n + 1) cap] ∧ Whole wx (w.heap.size + 1) 56 #[.int .i64 0, .slice none 0 0] ∧
    Mks 89 wx (some ⟨g, 0, none⟩) (n + 1) (ms ++ [(k, d)]) ∧ n + 1 ≤ cap ∧ cap ≤ 9223372036854775807 ∧ Below w.heap.size w wx
theorem with_mid {w w2 w' : World} {d k : Int} {A : Option Addr} {n c g cap : Nat} {ms : List (Int × Int)} (hb : Below w.heap.size w w2) (h1 : Whole w2 w.heap.size 56 #[.int .i64 d, .slice A n c]) (h2 : Whole w2 (w.heap.size + 1) 56 #[.int .i64 0, .slice none 0 0]) (hs : w.heap.size + 2 ≤ w2.heap.size)
    (hM : Mks 89 w' (some ⟨g, 0, none⟩) (n + 1) (ms ++ [(k, d)])) (hle : n + 1 ≤ cap) (hcap : cap ≤ 9223372036854775807) (hb2 : Below w2.heap.size w2 w') : WithMid w d k n ms (w'.setCell ⟨w.heap.size, 1, none⟩ (.slice (some ⟨g, 0, none⟩) (n + 1) cap)) := by
  have a1 := h1.below hb2 (by omega)
  have a2 := h2.below hb2 (by omega)
  have b1 := a1.put 1 (.slice (some ⟨g, 0, none⟩) (n + 1) cap)
  have b2 := a2.far (p := ⟨w.heap.size, 1, none⟩) (by show w.heap.size + 1 ≠ w.heap.size; omega) (.slice (some ⟨g, 0, none⟩) (n + 1) cap)
  exact ⟨g, cap, b1, b2, hM.far (p := ⟨w.heap.size, 1, none⟩) a1 (by decide) _, hle, hcap, (hb.trans (hb2.mono (by omega))).setCell (by show w.heap.size ≤ w.heap.size; omega) _⟩
theorem with_below {w2 w' : World} {o : Obj} (h : Below (w2.alloc o).drew.heap.size (w2.alloc o).drew w') : Below w2.heap.size w2 w' :=
  ((Below.refl _ _).alloc (Nat.le_refl _) o).drew.trans (h.mono (by simp))
theorem with_end {w w5 : World} {d k : Int} {n g cap : Nat} {ms : List (Int × Int)} (q2 : Whole w5 (w.heap.size + 1) 56 #[.int .i64 0, .slice none 0 0]) (hM : Mks 89 w5 (some ⟨g, 0, none⟩) (n + 1) (ms ++ [(k, d)])) (hle : n + 1 ≤ cap) (hcap : cap ≤ 9223372036854775807) (hb : Below w.heap.size w w5) :
    Whole ((w5.setCell ⟨w.heap.size + 1, 0, none⟩ (.int .i64 d)).setCell ⟨w.heap.size + 1, 1, none⟩ (.slice (some ⟨g, 0, none⟩) (n + 1) cap)) (w.heap.size + 1) 56 #[.int .i64 d, .slice (some ⟨g, 0, none⟩) (n + 1) cap] ∧
    Mks 89 ((w5.setCell ⟨w.heap.size + 1, 0, none⟩ (.int .i64 d)).setCell ⟨w.heap.size + 1, 1, none⟩ (.slice (some ⟨g, 0, none⟩) (n + 1) cap)) (some ⟨g, 0, none⟩) (n + 1) (ms ++ [(k, d)]) ∧ n + 1 ≤ cap ∧ cap ≤ 9223372036854775807 ∧
    Below w.heap.size w ((w5.setCell ⟨w.heap.size + 1, 0, none⟩ (.int .i64 d)).setCell ⟨w.heap.size + 1, 1, none⟩ (.slice (some ⟨g, 0, none⟩) (n + 1) cap)) :=
  ⟨(q2.put 0 _).put 1 _, (hM.far (p := ⟨w.heap.size + 1, 0, none⟩) q2 (by decide) _).far (p := ⟨w.heap.size + 1, 1, none⟩) (q2.put 0 _) (by decide) _, hle, hcap,
    (hb.setCell (by show w.heap.size ≤ w.heap.size + 1; omega) _).setCell (by show w.heap.size ≤ w.heap.size + 1; omega) _⟩
set_option maxHeartbeats 1000000 in
theorem with_any (w : World) (d k : Int) (A : Option Addr) (n c : Nat) (ms : List (Int × Int)) (hm : Mks 89 w A n ms) (hn : n ≤ 1000000) (hc : n ≤ c) (hc2 : c ≤ 9223372036854775807) (hA : A = none → c = 0) :
    Calls Try.prog 40 #[.agg #[.int .i64 d, .slice A n c], .int .i64 k] w fun e w' => ∃ g cap, e = .returned (.agg #[.int .i64 d, .slice (some ⟨g, 0, none⟩) (n + 1) cap]) ∧ Mks 89 w' (some ⟨g, 0, none⟩) (n + 1) (ms ++ [(k, d)]) ∧ n + 1 ≤ cap ∧ cap ≤ 9223372036854775807 ∧ Below w.heap.size w w' := by
  have HM := Lib.hid hm
  have HA := Lib.hid hA
  have HAN : Hid (A = none → n = 0) := fun h => by have := hA h; omega
  clear hm hA
  obtain ⟨w2, hw2⟩ : ∃ w2, w2 = (w.alloc (.cells #[.int .i64 d, .slice A n c] 56)).alloc (.cells #[.int .i64 0, .slice none 0 0] 56) := ⟨_, rfl⟩
  have HB : Hid (Below w.heap.size w w2) := by show Below _ _ _; rw [hw2]; exact ((Below.refl _ _).alloc (Nat.le_refl _) _).alloc (by simp) _
  have HW1 : Hid (Whole w2 w.heap.size 56 #[.int .i64 d, .slice A n c]) := by show Whole _ _ _ _; rw [hw2]; exact (Whole.made _ _ _).alloc _
  have HW2 : Hid (Whole w2 (w.heap.size + 1) 56 #[.int .i64 0, .slice none 0 0]) := by
    show Whole _ _ _ _; rw [hw2]
    have := Whole.made (w.alloc (.cells #[.int .i64 d, .slice A n c] 56)) 56 #[.int .i64 0, .slice none 0 0]
    simpa using this
  have HLT : Hid (w.heap.size + 2 ≤ w2.heap.size) := by show _ ≤ _; rw [hw2]; simp
  have HM2 : Hid (Mks 89 w2 A n ms) := HM.out.below HB.out
  have c0 : w2.cell? ⟨w.heap.size, 0, none⟩ = some (.int .i64 d) := HW1.out.cell 0
  have c1 : w2.cell? ⟨w.heap.size, 1, none⟩ = some (.slice A n c) := HW1.out.cell 1
  have HX := Lib.hid hw2
  clear hw2 HA HM
  go_enter Try.func40, Try.ntmps40
  go_wp2
  rw [← HX.out]
  clear HX
  clear hc2
  cases A with
  | none =>
    obtain rfl : n = 0 := HAN.out rfl
    refine region_Z (fun W => W.cell? ⟨w.heap.size, 0, none⟩ = some (.int .i64 d) ∧ W.cell? ⟨w.heap.size, 1, none⟩ = some (.slice none 0 c)) 16 (by kernel_rfl) ⟨c0, c1⟩ (fun hHeld => ?_)
    refine anyZ_take (i := 0) (v := ?_) rfl (by kernel_rfl) (by kernel_rfl) (by kernel_rfl) (by kernel_rfl) (by kernel_rfl) (fun _ _ _ h => h) (Or.inl ⟨by rfl, ?_⟩) (by assumption) ?_
    rotate_left
    · (intro w hSw; (try dsimp only at hSw); go_simp; try with_reducible rfl)
    (try simp only [Act.put, List.setIfInBounds_toArray, List.set_cons_zero, List.set_cons_succ, List.getElem_toArray, List.getElem_cons_zero, List.getElem_cons_succ])
    refine anyZ_take (i := 1) (v := ?_) rfl (by kernel_rfl) (by kernel_rfl) (by kernel_rfl) (by kernel_rfl) (by kernel_rfl) (fun _ _ _ h => h) (Or.inl ⟨by rfl, ?_⟩) (by assumption) ?_
    rotate_left
    · (intro w hSw; (try dsimp only at hSw); go_simp; try with_reducible rfl)
    (try simp only [Act.put, List.setIfInBounds_toArray, List.set_cons_zero, List.set_cons_succ, List.getElem_toArray, List.getElem_cons_zero, List.getElem_cons_succ])
    refine anyZ_take (i := 2) (v := ?_) rfl (by kernel_rfl) (by kernel_rfl) (by kernel_rfl) (by kernel_rfl) (by kernel_rfl) (fun _ _ _ h => h) (Or.inl ⟨by rfl, ?_⟩) (by assumption) ?_
    rotate_left
    · (intro w hSw; (try dsimp only at hSw); go_simp; try with_reducible rfl)
    (try simp only [Act.put, List.setIfInBounds_toArray, List.set_cons_zero, List.set_cons_succ, List.getElem_toArray, List.getElem_cons_zero, List.getElem_cons_succ])
    refine anyZ_take (i := 3) (v := ?_) rfl (by kernel_rfl) (by kernel_rfl) (by kernel_rfl) (by kernel_rfl) (by kernel_rfl) (fun _ _ _ h => h) (Or.inl ⟨by rfl, ?_⟩) (by assumption) ?_
    rotate_left
    · (intro w hSw; (try dsimp only at hSw); go_simp; try with_reducible rfl)
    (try simp only [Act.put, List.setIfInBounds_toArray, List.set_cons_zero, List.set_cons_succ, List.getElem_toArray, List.getElem_cons_zero, List.getElem_cons_succ])
    refine anyZ_take (i := 4) (v := ?_) rfl (by kernel_rfl) (by kernel_rfl) (by kernel_rfl) (by kernel_rfl) (by kernel_rfl) (fun _ _ _ h => h) (Or.inl ⟨by rfl, ?_⟩) (by assumption) ?_
    rotate_left
    · (intro w hSw; (try dsimp only at hSw); go_simp; try with_reducible rfl)
    (try simp only [Act.put, List.setIfInBounds_toArray, List.set_cons_zero, List.set_cons_succ, List.getElem_toArray, List.getElem_cons_zero, List.getElem_cons_succ])
    refine anyZ_take (i := 5) (v := ?_) rfl (by kernel_rfl) (by kernel_rfl) (by kernel_rfl) (by kernel_rfl) (by kernel_rfl) (fun _ _ _ h => h) (Or.inl ⟨by rfl, ?_⟩) (by assumption) ?_
    rotate_left
    · (intro w hSw; (try dsimp only at hSw); go_simp; try with_reducible rfl)
    (try simp only [Act.put, List.setIfInBounds_toArray, List.set_cons_zero, List.set_cons_succ, List.getElem_toArray, List.getElem_cons_zero, List.getElem_cons_succ])
    refine anyZ_take (i := 6) (v := ?_) rfl (by kernel_rfl) (by kernel_rfl) (by kernel_rfl) (by kernel_rfl) (by kernel_rfl) (fun _ _ _ h => h) (Or.inl ⟨by rfl, ?_⟩) (by assumption) ?_
    rotate_left
    · (intro w hSw; (try dsimp only at hSw); go_simp; try with_reducible rfl)
    (try simp only [Act.put, List.setIfInBounds_toArray, List.set_cons_zero, List.set_cons_succ, List.getElem_toArray, List.getElem_cons_zero, List.getElem_cons_succ])
    refine anyZ_take (i := 7) (v := ?_) rfl (by kernel_rfl) (by kernel_rfl) (by kernel_rfl) (by kernel_rfl) (by kernel_rfl) (fun _ _ _ h => h) (Or.inl ⟨by rfl, ?_⟩) (by assumption) ?_
    rotate_left
    · (intro w hSw; (try dsimp only at hSw); go_simp; try with_reducible rfl)
    (try simp only [Act.put, List.setIfInBounds_toArray, List.set_cons_zero, List.set_cons_succ, List.getElem_toArray, List.getElem_cons_zero, List.getElem_cons_succ])
    refine anyZ_take (i := 8) (v := ?_) rfl (by kernel_rfl) (by kernel_rfl) (by kernel_rfl) (by kernel_rfl) (by kernel_rfl) (fun _ _ _ h => h) (Or.inl ⟨by rfl, ?_⟩) (by assumption) ?_
    rotate_left
    · (intro w hSw; (try dsimp only at hSw); go_simp; try with_reducible rfl)
    (try simp only [Act.put, List.setIfInBounds_toArray, List.set_cons_zero, List.set_cons_succ, List.getElem_toArray, List.getElem_cons_zero, List.getElem_cons_succ])
    refine anyZ_take (i := 9) (v := ?_) rfl (by kernel_rfl) (by kernel_rfl) (by kernel_rfl) (by kernel_rfl) (by kernel_rfl) (fun _ _ _ h => h) (Or.inl ⟨by rfl, ?_⟩) (by assumption) ?_
    rotate_left
    · (intro w hSw; (try dsimp only at hSw); go_simp; try with_reducible rfl)
    (try simp only [Act.put, List.setIfInBounds_toArray, List.set_cons_zero, List.set_cons_succ, List.getElem_toArray, List.getElem_cons_zero, List.getElem_cons_succ])
    refine anyZ_take (i := 10) (v := ?_) rfl (by kernel_rfl) (by kernel_rfl) (by kernel_rfl) (by kernel_rfl) (by kernel_rfl) (fun _ _ _ h => h) (Or.inl ⟨by rfl, ?_⟩) (by assumption) ?_
    rotate_left
    · (intro w hSw; (try dsimp only at hSw); go_simp; try with_reducible rfl)
    (try simp only [Act.put, List.setIfInBounds_toArray, List.set_cons_zero, List.set_cons_succ, List.getElem_toArray, List.getElem_cons_zero, List.getElem_cons_succ])
    refine anyZ_take (i := 11) (v := ?_) rfl (by kernel_rfl) (by kernel_rfl) (by kernel_rfl) (by kernel_rfl) (by kernel_rfl) (fun _ _ _ h => h) (Or.inl ⟨by rfl, ?_⟩) (by assumption) ?_
    rotate_left
    · (intro w hSw; (try dsimp only at hSw); go_simp; try with_reducible rfl)
    (try simp only [Act.put, List.setIfInBounds_toArray, List.set_cons_zero, List.set_cons_succ, List.getElem_toArray, List.getElem_cons_zero, List.getElem_cons_succ])
    refine anyZ_take (i := 12) (v := ?_) rfl (by kernel_rfl) (by kernel_rfl) (by kernel_rfl) (by kernel_rfl) (by kernel_rfl) (fun _ _ _ h => h) (Or.inl ⟨by rfl, ?_⟩) (by assumption) ?_
    rotate_left
    · (intro w hSw; (try dsimp only at hSw); go_simp; try with_reducible rfl)
    (try simp only [Act.put, List.setIfInBounds_toArray, List.set_cons_zero, List.set_cons_succ, List.getElem_toArray, List.getElem_cons_zero, List.getElem_cons_succ])
    refine anyZ_step (i := 13) (by kernel_rfl) rfl (fun K hK => ?_)
    go_simp
    refine hK.out _ _ (fun _ => ⟨(HW1.out.alloc _).cell 0, (HW1.out.alloc _).cell 1⟩) (fun hHeld2 => ?_)
    clear hK K hHeld
    (try simp only [Act.put, List.setIfInBounds_toArray, List.set_cons_zero, List.set_cons_succ, List.getElem_toArray, List.getElem_cons_zero, List.getElem_cons_succ])
    refine anyZ_step (i := 14) (by kernel_rfl) rfl (fun K hK => ?_)
    refine step_mark (by rfl) _ _ (by rfl) none 0 ms (by rfl) HAN.out ((HM2.out.alloc _).drew) hn w2.heap.size k d (by rfl) (Whole.made w2 89 _) ?_
    intro g' cap w' hM hle hcap hb
    have HE := Lib.hid (with_mid HB.out HW1.out HW2.out HLT.out hM hle hcap (with_below hb))
    have HW3 := Lib.hid (HW1.out.below (with_below hb) (by have := HLT.out; omega))
    have z1 : w'.cell? ⟨w.heap.size, 1, none⟩ = some (.slice none 0 c) := HW3.out.cell 1
    have z2 : w'.frozen? ⟨w.heap.size, 1, none⟩ = false := HW3.out.free 1
    refine hK.out _ _ (fun _ => ⟨HW3.out.cell 0, HW3.out.cell 1⟩) (fun hHeld3 => ?_)
    replace hHeld3 := hHeld3 (by decide)
    clear hK K hHeld2 hM hb hle hcap
    (try simp only [Act.put, List.setIfInBounds_toArray, List.set_cons_zero, List.set_cons_succ, List.getElem_toArray, List.getElem_cons_zero, List.getElem_cons_succ])
    refine anyZ_take (i := 15) (v := ?_) rfl (by kernel_rfl) (by kernel_rfl) (by kernel_rfl) (by kernel_rfl) (by kernel_rfl) (fun _ _ _ h => h) (Or.inl ⟨by rfl, ?_⟩) (by assumption) ?_
    rotate_left
    · (intro w hSw; (try dsimp only at hSw); go_simp; try with_reducible rfl)
    (try simp only [Act.put, List.setIfInBounds_toArray, List.set_cons_zero, List.set_cons_succ, List.getElem_toArray, List.getElem_cons_zero, List.getElem_cons_succ])
    refine anyZ_step (i := 16) (by kernel_rfl) rfl (fun K hK => ?_)
    go_simp
    refine hK.out _ _ (fun h => absurd rfl h) (fun _ => ?_)
    refine anyZ_done (by kernel_rfl) ?_ _
    clear hK K hHeld3 z1 z2
    obtain ⟨g2, cap2, q1, q2, hM2, hle, hcap, hb⟩ := HE.out
    have HEND := Lib.hid (with_end q2 hM2 hle hcap hb)
    clear HE HW3 HM2 HW1 HW2 c0 c1
    generalize w'.setCell ⟨w.heap.size, 1, none⟩ (.slice (some ⟨g', 0, none⟩) (0 + 1) cap) = w5 at *
    have q10 : w5.cell? ⟨w.heap.size, 0, none⟩ = some (.int .i64 d) := q1.cell 0
    have q11 : w5.cell? ⟨w.heap.size, 1, none⟩ = some (.slice (some ⟨g2, 0, none⟩) (0 + 1) cap2) := q1.cell 1
    have q20 : w5.cell? ⟨w.heap.size + 1, 0, none⟩ = some (.int .i64 0) := q2.cell 0
    have q21 : w5.cell? ⟨w.heap.size + 1, 1, none⟩ = some (.slice none 0 0) := q2.cell 1
    have f20 := q2.free 0
    have f21 := q2.free 1
    clear q1 q2 hM2 hle hcap hb
    go_wp2_with fail
    obtain ⟨hw, hrest⟩ := HEND.out
    have r0 : ((w5.setCell ⟨w.heap.size + 1, 0, none⟩ (.int .i64 d)).setCell ⟨w.heap.size + 1, 1, none⟩ (.slice (some ⟨g2, 0, none⟩) (0 + 1) cap2)).cell? ⟨w.heap.size + 1, 0, none⟩ = some (.int .i64 d) := hw.cell 0
    have r1 : ((w5.setCell ⟨w.heap.size + 1, 0, none⟩ (.int .i64 d)).setCell ⟨w.heap.size + 1, 1, none⟩ (.slice (some ⟨g2, 0, none⟩) (0 + 1) cap2)).cell? ⟨w.heap.size + 1, 1, none⟩ = some (.slice (some ⟨g2, 0, none⟩) (0 + 1) cap2) := hw.cell 1
    have HR := Lib.hid hrest
    clear hw hrest HEND q10 q11 q20 q21 f20 f21
    generalize (w5.setCell ⟨w.heap.size + 1, 0, none⟩ (.int .i64 d)).setCell ⟨w.heap.size + 1, 1, none⟩ (.slice (some ⟨g2, 0, none⟩) (0 + 1) cap2) = w6 at *
    exact bodyPost_ret (v := .agg #[.int .i64 d, .slice (some ⟨g2, 0, none⟩) (0 + 1) cap2]) (by simp [results, Try.results40, go_sem, r0, r1]) rfl ⟨g2, cap2, rfl, HR.out⟩
  | some a =>
    refine region_Z (fun W => W.cell? ⟨w.heap.size, 0, none⟩ = some (.int .i64 d) ∧ W.cell? ⟨w.heap.size, 1, none⟩ = some (.slice (some a) n c)) 16 (by kernel_rfl) ⟨c0, c1⟩ (fun hHeld => ?_)
    refine anyZ_take (i := 0) (v := ?_) rfl (by kernel_rfl) (by kernel_rfl) (by kernel_rfl) (by kernel_rfl) (by kernel_rfl) (fun _ _ _ h => h) (Or.inl ⟨by rfl, ?_⟩) (by assumption) ?_
    rotate_left
    · (intro w hSw; (try dsimp only at hSw); go_simp; try with_reducible rfl)
    (try simp only [Act.put, List.setIfInBounds_toArray, List.set_cons_zero, List.set_cons_succ, List.getElem_toArray, List.getElem_cons_zero, List.getElem_cons_succ])
    refine anyZ_take (i := 1) (v := ?_) rfl (by kernel_rfl) (by kernel_rfl) (by kernel_rfl) (by kernel_rfl) (by kernel_rfl) (fun _ _ _ h => h) (Or.inl ⟨by rfl, ?_⟩) (by assumption) ?_
    rotate_left
    · (intro w hSw; (try dsimp only at hSw); go_simp; try with_reducible rfl)
    (try simp only [Act.put, List.setIfInBounds_toArray, List.set_cons_zero, List.set_cons_succ, List.getElem_toArray, List.getElem_cons_zero, List.getElem_cons_succ])
    refine anyZ_take (i := 2) (v := ?_) rfl (by kernel_rfl) (by kernel_rfl) (by kernel_rfl) (by kernel_rfl) (by kernel_rfl) (fun _ _ _ h => h) (Or.inl ⟨by rfl, ?_⟩) (by assumption) ?_
    rotate_left
    · (intro w hSw; (try dsimp only at hSw); go_simp; try with_reducible rfl)
    (try simp only [Act.put, List.setIfInBounds_toArray, List.set_cons_zero, List.set_cons_succ, List.getElem_toArray, List.getElem_cons_zero, List.getElem_cons_succ])
    refine anyZ_take (i := 3) (v := ?_) rfl (by kernel_rfl) (by kernel_rfl) (by kernel_rfl) (by kernel_rfl) (by kernel_rfl) (fun _ _ _ h => h) (Or.inl ⟨by rfl, ?_⟩) (by assumption) ?_
    rotate_left
    · (intro w hSw; (try dsimp only at hSw); go_simp; try with_reducible rfl)
    (try simp only [Act.put, List.setIfInBounds_toArray, List.set_cons_zero, List.set_cons_succ, List.getElem_toArray, List.getElem_cons_zero, List.getElem_cons_succ])
    refine anyZ_take (i := 4) (v := ?_) rfl (by kernel_rfl) (by kernel_rfl) (by kernel_rfl) (by kernel_rfl) (by kernel_rfl) (fun _ _ _ h => h) (Or.inl ⟨by rfl, ?_⟩) (by assumption) ?_
    rotate_left
    · (intro w hSw; (try dsimp only at hSw); go_simp; try with_reducible rfl)
    (try simp only [Act.put, List.setIfInBounds_toArray, List.set_cons_zero, List.set_cons_succ, List.getElem_toArray, List.getElem_cons_zero, List.getElem_cons_succ])
    refine anyZ_take (i := 5) (v := ?_) rfl (by kernel_rfl) (by kernel_rfl) (by kernel_rfl) (by kernel_rfl) (by kernel_rfl) (fun _ _ _ h => h) (Or.inl ⟨by rfl, ?_⟩) (by assumption) ?_
    rotate_left
    · (intro w hSw; (try dsimp only at hSw); go_simp; try with_reducible rfl)
    (try simp only [Act.put, List.setIfInBounds_toArray, List.set_cons_zero, List.set_cons_succ, List.getElem_toArray, List.getElem_cons_zero, List.getElem_cons_succ])
    refine anyZ_take (i := 6) (v := ?_) rfl (by kernel_rfl) (by kernel_rfl) (by kernel_rfl) (by kernel_rfl) (by kernel_rfl) (fun _ _ _ h => h) (Or.inl ⟨by rfl, ?_⟩) (by assumption) ?_
    rotate_left
    · (intro w hSw; (try dsimp only at hSw); go_simp; try with_reducible rfl)
    (try simp only [Act.put, List.setIfInBounds_toArray, List.set_cons_zero, List.set_cons_succ, List.getElem_toArray, List.getElem_cons_zero, List.getElem_cons_succ])
    refine anyZ_take (i := 7) (v := ?_) rfl (by kernel_rfl) (by kernel_rfl) (by kernel_rfl) (by kernel_rfl) (by kernel_rfl) (fun _ _ _ h => h) (Or.inl ⟨by rfl, ?_⟩) (by assumption) ?_
    rotate_left
    · (intro w hSw; (try dsimp only at hSw); go_simp; try with_reducible rfl)
    (try simp only [Act.put, List.setIfInBounds_toArray, List.set_cons_zero, List.set_cons_succ, List.getElem_toArray, List.getElem_cons_zero, List.getElem_cons_succ])
    refine anyZ_take (i := 8) (v := ?_) rfl (by kernel_rfl) (by kernel_rfl) (by kernel_rfl) (by kernel_rfl) (by kernel_rfl) (fun _ _ _ h => h) (Or.inl ⟨by rfl, ?_⟩) (by assumption) ?_
    rotate_left
    · (intro w hSw; (try dsimp only at hSw); go_simp; try with_reducible rfl)
    (try simp only [Act.put, List.setIfInBounds_toArray, List.set_cons_zero, List.set_cons_succ, List.getElem_toArray, List.getElem_cons_zero, List.getElem_cons_succ])
    refine anyZ_take (i := 9) (v := ?_) rfl (by kernel_rfl) (by kernel_rfl) (by kernel_rfl) (by kernel_rfl) (by kernel_rfl) (fun _ _ _ h => h) (Or.inl ⟨by rfl, ?_⟩) (by assumption) ?_
    rotate_left
    · (intro w hSw; (try dsimp only at hSw); go_simp; try with_reducible rfl)
    (try simp only [Act.put, List.setIfInBounds_toArray, List.set_cons_zero, List.set_cons_succ, List.getElem_toArray, List.getElem_cons_zero, List.getElem_cons_succ])
    refine anyZ_take (i := 10) (v := ?_) rfl (by kernel_rfl) (by kernel_rfl) (by kernel_rfl) (by kernel_rfl) (by kernel_rfl) (fun _ _ _ h => h) (Or.inl ⟨by rfl, ?_⟩) (by assumption) ?_
    rotate_left
    · (intro w hSw; (try dsimp only at hSw); go_simp; try with_reducible rfl)
    (try simp only [Act.put, List.setIfInBounds_toArray, List.set_cons_zero, List.set_cons_succ, List.getElem_toArray, List.getElem_cons_zero, List.getElem_cons_succ])
    refine anyZ_take (i := 11) (v := ?_) rfl (by kernel_rfl) (by kernel_rfl) (by kernel_rfl) (by kernel_rfl) (by kernel_rfl) (fun _ _ _ h => h) (Or.inl ⟨by rfl, ?_⟩) (by assumption) ?_
    rotate_left
    · (intro w hSw; (try dsimp only at hSw); go_simp; try with_reducible rfl)
    (try simp only [Act.put, List.setIfInBounds_toArray, List.set_cons_zero, List.set_cons_succ, List.getElem_toArray, List.getElem_cons_zero, List.getElem_cons_succ])
    refine anyZ_take (i := 12) (v := ?_) rfl (by kernel_rfl) (by kernel_rfl) (by kernel_rfl) (by kernel_rfl) (by kernel_rfl) (fun _ _ _ h => h) (Or.inl ⟨by rfl, ?_⟩) (by assumption) ?_
    rotate_left
    · (intro w hSw; (try dsimp only at hSw); go_simp; try with_reducible rfl)
    (try simp only [Act.put, List.setIfInBounds_toArray, List.set_cons_zero, List.set_cons_succ, List.getElem_toArray, List.getElem_cons_zero, List.getElem_cons_succ])
    refine anyZ_step (i := 13) (by kernel_rfl) rfl (fun K hK => ?_)
    go_simp
    refine hK.out _ _ (fun _ => ⟨(HW1.out.alloc _).cell 0, (HW1.out.alloc _).cell 1⟩) (fun hHeld2 => ?_)
    clear hK K hHeld
    (try simp only [Act.put, List.setIfInBounds_toArray, List.set_cons_zero, List.set_cons_succ, List.getElem_toArray, List.getElem_cons_zero, List.getElem_cons_succ])
    refine anyZ_step (i := 14) (by kernel_rfl) rfl (fun K hK => ?_)
    refine step_mark (by rfl) _ _ (by rfl) (some a) n ms (by rfl) HAN.out ((HM2.out.alloc _).drew) hn w2.heap.size k d (by rfl) (Whole.made w2 89 _) ?_
    intro g' cap w' hM hle hcap hb
    have HE := Lib.hid (with_mid HB.out HW1.out HW2.out HLT.out hM hle hcap (with_below hb))
    have HW3 := Lib.hid (HW1.out.below (with_below hb) (by have := HLT.out; omega))
    have z1 : w'.cell? ⟨w.heap.size, 1, none⟩ = some (.slice (some a) n c) := HW3.out.cell 1
    have z2 : w'.frozen? ⟨w.heap.size, 1, none⟩ = false := HW3.out.free 1
    refine hK.out _ _ (fun _ => ⟨HW3.out.cell 0, HW3.out.cell 1⟩) (fun hHeld3 => ?_)
    replace hHeld3 := hHeld3 (by decide)
    clear hK K hHeld2 hM hb hle hcap
    (try simp only [Act.put, List.setIfInBounds_toArray, List.set_cons_zero, List.set_cons_succ, List.getElem_toArray, List.getElem_cons_zero, List.getElem_cons_succ])
    refine anyZ_take (i := 15) (v := ?_) rfl (by kernel_rfl) (by kernel_rfl) (by kernel_rfl) (by kernel_rfl) (by kernel_rfl) (fun _ _ _ h => h) (Or.inl ⟨by rfl, ?_⟩) (by assumption) ?_
    rotate_left
    · (intro w hSw; (try dsimp only at hSw); go_simp; try with_reducible rfl)
    (try simp only [Act.put, List.setIfInBounds_toArray, List.set_cons_zero, List.set_cons_succ, List.getElem_toArray, List.getElem_cons_zero, List.getElem_cons_succ])
    refine anyZ_step (i := 16) (by kernel_rfl) rfl (fun K hK => ?_)
    go_simp
    refine hK.out _ _ (fun h => absurd rfl h) (fun _ => ?_)
    refine anyZ_done (by kernel_rfl) ?_ _
    clear hK K hHeld3 z1 z2
    obtain ⟨g2, cap2, q1, q2, hM2, hle, hcap, hb⟩ := HE.out
    have HEND := Lib.hid (with_end q2 hM2 hle hcap hb)
    clear HE HW3 HM2 HW1 HW2 c0 c1
    generalize w'.setCell ⟨w.heap.size, 1, none⟩ (.slice (some ⟨g', 0, none⟩) (n + 1) cap) = w5 at *
    have q10 : w5.cell? ⟨w.heap.size, 0, none⟩ = some (.int .i64 d) := q1.cell 0
    have q11 : w5.cell? ⟨w.heap.size, 1, none⟩ = some (.slice (some ⟨g2, 0, none⟩) (n + 1) cap2) := q1.cell 1
    have q20 : w5.cell? ⟨w.heap.size + 1, 0, none⟩ = some (.int .i64 0) := q2.cell 0
    have q21 : w5.cell? ⟨w.heap.size + 1, 1, none⟩ = some (.slice none 0 0) := q2.cell 1
    have f20 := q2.free 0
    have f21 := q2.free 1
    clear q1 q2 hM2 hle hcap hb
    go_wp2_with fail
    obtain ⟨hw, hrest⟩ := HEND.out
    have r0 : ((w5.setCell ⟨w.heap.size + 1, 0, none⟩ (.int .i64 d)).setCell ⟨w.heap.size + 1, 1, none⟩ (.slice (some ⟨g2, 0, none⟩) (n + 1) cap2)).cell? ⟨w.heap.size + 1, 0, none⟩ = some (.int .i64 d) := hw.cell 0
    have r1 : ((w5.setCell ⟨w.heap.size + 1, 0, none⟩ (.int .i64 d)).setCell ⟨w.heap.size + 1, 1, none⟩ (.slice (some ⟨g2, 0, none⟩) (n + 1) cap2)).cell? ⟨w.heap.size + 1, 1, none⟩ = some (.slice (some ⟨g2, 0, none⟩) (n + 1) cap2) := hw.cell 1
    have HR := Lib.hid hrest
    clear hw hrest HEND q10 q11 q20 q21 f20 f21
    generalize (w5.setCell ⟨w.heap.size + 1, 0, none⟩ (.int .i64 d)).setCell ⟨w.heap.size + 1, 1, none⟩ (.slice (some ⟨g2, 0, none⟩) (n + 1) cap2) = w6 at *
    exact bodyPost_ret (v := .agg #[.int .i64 d, .slice (some ⟨g2, 0, none⟩) (n + 1) cap2]) (by simp [results, Try.results40, go_sem, r0, r1]) rfl ⟨g2, cap2, rfl, HR.out⟩
end Go.Proofs.Ytjkbhdocpjekmaa
