/- The walks of layer 16: sums of words. -/
import Derived.Test.YtcbehllfljjngaaPWalkB
namespace Go.Proofs.Ytcbehllfljjngaa
open Go.RowKit
set_option linter.unusedVariables false

def sgB (k : Nat) : ByteArray := [⟨#[43]⟩, ⟨#[45]⟩, ⟨#[42]⟩, ⟨#[47]⟩, ⟨#[37]⟩, ⟨#[61]⟩, ⟨#[60]⟩].getD k ⟨#[]⟩
def sgA : Array Value := #[.string ⟨#[43]⟩, .string ⟨#[45]⟩, .string ⟨#[42]⟩, .string ⟨#[47]⟩, .string ⟨#[37]⟩, .string ⟨#[61]⟩, .string ⟨#[60]⟩]
theorem sgA_get (k : Nat) (h : k < 7) : sgA[k]? = some (.string (sgB k)) := by
  rcases (by omega : k = 0 ∨ k = 1 ∨ k = 2 ∨ k = 3 ∨ k = 4 ∨ k = 5 ∨ k = 6) with rfl | rfl | rfl | rfl | rfl | rfl | rfl <;> rfl
/-- A sum of two words. -/
def sumD (k : Int) (a b : Int) : Int × Int := I.doF (sgB k.toNat).toList (a / 2) (b / 2)
def sumF (k a b : Int) : Int × Int :=
  if 0 ≤ k ∧ k ≤ 6 then (if a % 2 = 1 ∧ b % 2 = 1 then (if (sumD k a b).2 = 0 then (2 * (sumD k a b).1 + 1, 0) else (0, (sumD k a b).2)) else (0, 4)) else (0, 1)
theorem sumD_in (k a b : Int) : -4611686018427387904 ≤ (sumD k a b).1 ∧ (sumD k a b).1 ≤ 4611686018427387903 := by
  unfold sumD I.doF
  split
  · rename_i h
    have h2 := h
    simp only [I.isI, Bool.and_eq_true, decide_eq_true_eq] at h2
    repeat' split
    all_goals first | exact ⟨I.cw_lo _, I.cw_hi _⟩ | exact I.tmod_in _ _ h2.1.1 h2.1.2 | (constructor <;> decide)
  · constructor <;> decide
set_option maxHeartbeats 400000 in
theorem signs_any (w : World) : Calls Try.prog 34 #[] w fun e w' => e = .returned (.agg #[.string ⟨#[43]⟩, .string ⟨#[45]⟩, .string ⟨#[42]⟩, .string ⟨#[47]⟩, .string ⟨#[37]⟩, .string ⟨#[61]⟩, .string ⟨#[60]⟩]) ∧ Below w.heap.size w w' := by
  go_enter Try.func34, Try.ntmps34
  go_wp2
  exact bodyPost_ret (v := .agg #[.string ⟨#[43]⟩, .string ⟨#[45]⟩, .string ⟨#[42]⟩, .string ⟨#[47]⟩, .string ⟨#[37]⟩, .string ⟨#[61]⟩, .string ⟨#[60]⟩]) (by simp [results, Try.results34, go_sem]) rfl ⟨rfl, (Below.refl _ _).alloc (Nat.le_refl _) _⟩
def SumPost (w : World) (k a b : Int) (e : Ending) (w' : World) : Prop := e = .returned (.tuple #[.int .i64 (sumF k a b).1, .int .i64 (sumF k a b).2]) ∧ Below w.heap.size w w'
theorem sum_bad {k a b : Int} (h : ¬ (0 ≤ k ∧ k ≤ 6)) : sumF k a b = (0, 1) := by unfold sumF; rw [if_neg h]
theorem sum_word {k a b : Int} (h : 0 ≤ k ∧ k ≤ 6) (h2 : ¬ (a % 2 = 1 ∧ b % 2 = 1)) : sumF k a b = (0, 4) := by unfold sumF; rw [if_pos h, if_neg h2]
theorem sum_ok {k a b : Int} (h : 0 ≤ k ∧ k ≤ 6) (h2 : a % 2 = 1 ∧ b % 2 = 1) (h3 : (sumD k a b).2 = 0) : sumF k a b = (2 * (sumD k a b).1 + 1, 0) := by unfold sumF; rw [if_pos h, if_pos h2, if_pos h3]
theorem sum_err {k a b : Int} (h : 0 ≤ k ∧ k ≤ 6) (h2 : a % 2 = 1 ∧ b % 2 = 1) (h3 : (sumD k a b).2 ≠ 0) : sumF k a b = (0, (sumD k a b).2) := by unfold sumF; rw [if_pos h, if_pos h2, if_neg h3]
set_option maxRecDepth 100000 in
set_option maxHeartbeats 1000000 in
theorem sum_any (k a b : Int) (w : World) (hk : WfI k) (ha : WfI a) (hb : WfI b) : Calls Try.prog 9 #[.int .i64 k, .int .i64 a, .int .i64 b] w (SumPost w k a b) := by
  obtain ⟨ha1, ha2⟩ := wf_i64.1 ha
  obtain ⟨hb1, hb2⟩ := wf_i64.1 hb
  clear hk ha hb
  have HB1 : Hid (∀ w1 : World, Below w.heap.size w w1 → Below w.heap.size w (w1.alloc (.cells sgA 63))) := fun w1 h => h.alloc h.size _
  by_cases hk : 0 ≤ k ∧ k ≤ 6
  · obtain ⟨q, rfl⟩ := Int.eq_ofNat_of_zero_le hk.1
    have hq7 : q < 7 := by omega
    by_cases h2 : a % 2 = 1 ∧ b % 2 = 1
    · have HD : Hid (sumD q a b = I.doF (sgB q).toList (a / 2) (b / 2)) := rfl
      have HIN := Lib.hid (sumD_in q a b)
      have HOK := Lib.hid (fun h3 => sum_ok (k := q) hk h2 h3)
      have HER := Lib.hid (fun h3 => sum_err (k := q) hk h2 h3)
      have CA := fun (wx : World) => I.untag_odd a wx h2.1
      have CB := fun (wx : World) => I.untag_odd b wx h2.2
      have hgt := sgA_get q hq7
      clear hk h2
      generalize sumD q a b = r at *
      generalize sgB q = op at *
      generalize a / 2 = x at *
      generalize b / 2 = y at *
      go_enter Try.func9, Try.ntmps9
      go_wp2_with fail
      refine (signs_any w).mono ?_
      rintro e w1 ⟨rfl, hb1'⟩
      have hW := Whole.made w1 63 sgA
      have c0 : (w1.alloc (.cells sgA 63)).cell? ⟨w1.heap.size, q, none⟩ = some (.string op) := (hW.cell q).trans hgt
      have HBB := Lib.hid (HB1.out w1 hb1')
      clear hW hb1' HB1 hgt
      have hsgA : sgA = #[.string ⟨#[43]⟩, .string ⟨#[45]⟩, .string ⟨#[42]⟩, .string ⟨#[47]⟩, .string ⟨#[37]⟩, .string ⟨#[61]⟩, .string ⟨#[60]⟩] := rfl
      go_upto_region 2 with (fail)
      rw [← hsgA]
      generalize w1.alloc (.cells sgA 63) = w2 at *
      clear hsgA
      go_wp2_with fail
      refine (CA _).mono ?_
      rintro e w' ⟨rfl, rfl⟩
      go_wp2_with fail
      refine (CB _).mono ?_
      rintro e w' ⟨rfl, rfl⟩
      go_wp2_with fail
      refine (I.do_any op x y w2).mono ?_
      rintro e w3 ⟨rfl, rfl⟩
      rw [← HD.out]
      obtain ⟨rv, re⟩ := r
      dsimp only at *
      by_cases he : re = 0
      · have HF := Lib.hid (HOK.out he)
        subst he
        clear HOK HER CA CB c0
        go_wp2_with fail
        refine (I.tag_any rv w2).mono ?_
        rintro e w4 ⟨rfl, rfl⟩
        rw [I.cw_id rv HIN.out.1 HIN.out.2]
        go_wp2_with fail
        go_ret2
        exact ⟨by rw [HF.out]; rfl, HBB.out⟩
      · have HF := Lib.hid (HER.out he)
        have hne : (re != 0) = true := bne_iff_ne.2 he
        clear HOK HER CA CB c0 he
        go_wp2_with fail
        go_ret2
        exact ⟨by rw [HF.out]; rfl, HBB.out⟩
    · have HF := Lib.hid (sum_word (k := q) hk h2)
      have hcase : a % 2 = 0 ∨ (a % 2 = 1 ∧ b % 2 = 0) := by omega
      have hsgA : Hid (sgA = #[.string ⟨#[43]⟩, .string ⟨#[45]⟩, .string ⟨#[42]⟩, .string ⟨#[47]⟩, .string ⟨#[37]⟩, .string ⟨#[61]⟩, .string ⟨#[60]⟩]) := rfl
      clear h2 hk
      rcases hcase with h | ⟨h, h'⟩
      · have CA := fun (wx : World) => I.untag_even a wx h
        have CB : Hid (∀ wx : World, (∃ v x, Calls Try.prog 35 #[.int .i64 b] wx fun e w' => e = .returned (.tuple #[.int .i64 v, .bool x]) ∧ wx = w')) := fun wx => by
          rcases (by omega : b % 2 = 0 ∨ b % 2 = 1) with h | h
          · exact ⟨_, _, I.untag_even b wx h⟩
          · exact ⟨_, _, I.untag_odd b wx h⟩
        clear h
        go_enter Try.func9, Try.ntmps9
        go_wp2_with fail
        refine (signs_any w).mono ?_
        rintro e w1 ⟨rfl, hb1'⟩
        have HBB := Lib.hid (HB1.out w1 hb1')
        rw [hsgA.out] at HBB
        clear hb1' HB1
        go_wp2_with fail
        refine (CA _).mono ?_
        rintro e w' ⟨rfl, rfl⟩
        go_wp2_with fail
        obtain ⟨v, x, hc⟩ := CB.out (w1.alloc (.cells #[.string ⟨#[43]⟩, .string ⟨#[45]⟩, .string ⟨#[42]⟩, .string ⟨#[47]⟩, .string ⟨#[37]⟩, .string ⟨#[61]⟩, .string ⟨#[60]⟩] 63))
        refine hc.mono ?_
        rintro e w' ⟨rfl, rfl⟩
        clear hc
        go_wp2_with fail
        go_ret2
        exact ⟨by rw [HF.out]; rfl, HBB.out⟩
      · have CA := fun (wx : World) => I.untag_odd a wx h
        have CB := fun (wx : World) => I.untag_even b wx h'
        clear h h'
        generalize a / 2 = x at *
        go_enter Try.func9, Try.ntmps9
        go_wp2_with fail
        refine (signs_any w).mono ?_
        rintro e w1 ⟨rfl, hb1'⟩
        have HBB := Lib.hid (HB1.out w1 hb1')
        rw [hsgA.out] at HBB
        clear hb1' HB1
        go_wp2_with fail
        refine (CA _).mono ?_
        rintro e w' ⟨rfl, rfl⟩
        go_wp2_with fail
        refine (CB _).mono ?_
        rintro e w' ⟨rfl, rfl⟩
        go_wp2_with fail
        go_ret2
        exact ⟨by rw [HF.out]; rfl, HBB.out⟩
  · have HF := Lib.hid (sum_bad (a := a) (b := b) hk)
    have hsgA : Hid (sgA = #[.string ⟨#[43]⟩, .string ⟨#[45]⟩, .string ⟨#[42]⟩, .string ⟨#[47]⟩, .string ⟨#[37]⟩, .string ⟨#[61]⟩, .string ⟨#[60]⟩]) := rfl
    rcases (by omega : k < 0 ∨ (0 ≤ k ∧ 6 < k)) with h | ⟨h, h'⟩
    all_goals
      clear hk
      go_enter Try.func9, Try.ntmps9
      go_wp2_with fail
      refine (signs_any w).mono ?_
      rintro e w1 ⟨rfl, hb1'⟩
      have HBB := Lib.hid (HB1.out w1 hb1')
      rw [hsgA.out] at HBB
      clear hb1' HB1
      go_wp2_with fail
      go_ret2
      exact ⟨by rw [HF.out]; rfl, HBB.out⟩
end Go.Proofs.Ytcbehllfljjngaa
