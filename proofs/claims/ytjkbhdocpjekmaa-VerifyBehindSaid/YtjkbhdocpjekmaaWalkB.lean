/- The walks of layer 13: whether an instruction may be. -/
import Derived.Test.YtjkbhdocpjekmaaWalkA
namespace Go.Proofs.Ytjkbhdocpjekmaa
open Go.RowKit
set_option linter.unusedVariables false

/-- May an instruction be? -/
def insOK (op a b : Int) : Bool := decide (0 ≤ usesF op ∧ 0 ≤ a ∧ a ≤ 65535 ∧ 0 ≤ b ∧ b ≤ 65535 ∧ (usesF op < 1 → a = 0) ∧ (usesF op < 2 → b = 0))
def inF (n a b : Int) : Bool := decide (a ≤ n) && decide (n ≤ b)
theorem in_any' (n a b : Int) (w : World) : Calls Try.prog 22 #[.int .i64 n, .int .i64 a, .int .i64 b] w fun e w' => e = .returned (.bool (inF n a b)) ∧ w = w' := in_any n a b w
theorem inF_iff {n a b : Int} : inF n a b = true ↔ a ≤ n ∧ n ≤ b := by unfold inF; simp
theorem inF_not {n a b : Int} : inF n a b = false ↔ ¬ (a ≤ n ∧ n ≤ b) := by rw [← inF_iff]; simp
theorem nz_iff {a : Int} : (a != 0) = true ↔ a ≠ 0 := bne_iff_ne
theorem nz_not {a : Int} : (a != 0) = false ↔ a = 0 := by rw [← Bool.not_eq_true, nz_iff]; simp

set_option maxHeartbeats 1000000 in
theorem odd_any (op a b : Int) (w : World) : Calls Try.prog 34 #[.agg #[.int .i64 op, .int .i64 a, .int .i64 b]] w fun e w' => e = .returned (.bool (!(insOK op a b))) ∧ Below w.heap.size w w' := by
  go_enter Try.func34, Try.ntmps34
  go_wp2_with (first
    | (go_at_call 49; refine (uses_any _ _).mono ?_; rintro e w' ⟨rfl, rfl⟩)
    | (go_at_call 22; refine (in_any' _ _ _ _).mono ?_; rintro e w' ⟨rfl, rfl⟩))
  all_goals (go_ret; refine ⟨ret_b ?_, (Below.refl _ _).alloc (Nat.le_refl _) _⟩)
  all_goals ((try simp only [inF_iff] at *); (try simp only [inF_not] at *); rw [Bool.eq_iff_iff]; simp [insOK]; omega)
set_option maxHeartbeats 1000000 in
theorem instr_any (op a b : Int) (w : World) : Calls Try.prog 15 #[.agg #[.int .i64 op, .int .i64 a, .int .i64 b]] w fun e w' => e = .returned (.bool (insOK op a b)) ∧ Below w.heap.size w w' := by
  go_enter Try.func15, Try.ntmps15
  go_wp2_with (go_at_call 21; refine (ruses_any _ _).mono ?_; rintro e w' ⟨rfl, hb⟩; have hW := (Whole.made w 36 #[.int .i64 op, .int .i64 a, .int .i64 b]).below hb (by simp); have c1 : w'.cell? ⟨w.heap.size, 1, none⟩ = some (.int .i64 a) := hW.cell 1; have c2 : w'.cell? ⟨w.heap.size, 2, none⟩ = some (.int .i64 b) := hW.cell 2; have hb2 : Below w.heap.size w w' := ((Below.refl _ _).alloc (Nat.le_refl _) _).trans (hb.mono (by simp)); clear hb hW)
  all_goals (go_ret; refine ⟨ret_b ?_, hb2⟩)
  all_goals ((try simp only [inF_iff] at *); rw [Bool.eq_iff_iff]; simp [insOK]; omega)
end Go.Proofs.Ytjkbhdocpjekmaa
