/- The walks of layer 14's document: what an instruction takes and puts. -/
import Derived.Test.YtjkbhdocpjekmaaVMem
namespace Go.Proofs.Ytjkbhdocpjekmaa
open Go.RowKit
set_option linter.unusedVariables false
attribute [local go_sem ↓] Go.wp_at_zero Go.wp_at_succ

def effV (e : Bool × Int × Int) : Value := .tuple #[.bool e.1, .int .i64 e.2.1, .int .i64 e.2.2]
theorem ret_e {a : Bool} {b c : Int} {e : Bool × Int × Int} (h : e = (a, b, c)) : Ending.returned (.tuple #[.bool a, .int .i64 b, .int .i64 c]) = .returned (effV e) := by rw [h]; rfl
set_option maxRecDepth 100000 in
set_option maxHeartbeats 4000000 in
theorem reff_rest (w : World) (v : Value) (c : Cod) (n : Nat) (op a b : Int) (hc : CodAt w w.heap.size v c) (hn : n < c.funs.length) (h10 : op ≠ 10) (h11 : op ≠ 11) :
    Calls Try.prog 45 #[v, .int .i64 (n : Int), .agg #[.int .i64 op, .int .i64 a, .int .i64 b]] w fun e w' => e = .returned (effV (effF c n (c.funs.getD n bdy0) ⟨op, a, b⟩)) ∧ Below w.heap.size w w' := by
  obtain ⟨FA, fn, fc, IA, inn, ic, TA, tn, tc, rfl, h1, h2, h3, hf, hi, ht⟩ := hc.form
  have hn2 : n < fn := by rw [← h1.1]; exact hn
  obtain ⟨g, off, rfl, hg, c0, c1, c2, CA, cn, cc, c3, hI, hcn⟩ := h1.at_ hn2
  generalize c.funs.getD n bdy0 = f at *
  obtain ⟨kept, locals, stack, code⟩ := f
  have H1 := Lib.hid h1.1; have H2 := Lib.hid h2.1; have H3 := Lib.hid h3.1
  clear h1 h2 h3 hc hI
  dsimp only at c0 c1 c2 c3
  have t10 : (op == 10) = false := by rw [beq_eq_false_iff_ne]; exact h10
  have t11 : (op == 11) = false := by rw [beq_eq_false_iff_ne]; exact h11
  clear h10 h11
  go_enter Try.func45, Try.ntmps45
  go_wp2
  all_goals
    go_ret3
    refine ⟨ret_e ?_, by exact ((((Below.refl _ _).alloc (Nat.le_refl _) _).alloc (by simp) _).alloc (by simp; omega) _)⟩
  all_goals
    have e1 := H1.out
    have e2 := H2.out
    have e3 := H3.out
    clear H1 H2 H3
    unfold effF
    dsimp only
    simp_all
  all_goals (rw [Bool.eq_iff_iff]; simp; omega)
theorem eff_make (c : Cod) (n : Nat) (f : Bdy) (a b : Int) : effF c n f ⟨10, a, b⟩ = (decide (a ≤ 199) && decide (1 ≤ b) && decide (b ≤ 4), b, 1) := by unfold effF; simp
theorem eff_fun (c : Cod) (n : Nat) (f : Bdy) (a b : Int) : effF c n f ⟨11, a, b⟩ = (decide (0 < a) && decide (a < (c.funs.length : Int)) && decide ((c.funs.getD a.toNat bdy0).kept = b), b, 1) := by unfold effF; simp
set_option maxRecDepth 100000 in
set_option maxHeartbeats 4000000 in
theorem reff_make (w : World) (v : Value) (c : Cod) (n : Nat) (a b : Int) (hc : CodAt w w.heap.size v c) (hn : n < c.funs.length) :
    Calls Try.prog 45 #[v, .int .i64 (n : Int), .agg #[.int .i64 10, .int .i64 a, .int .i64 b]] w fun e w' => e = .returned (effV (effF c n (c.funs.getD n bdy0) ⟨10, a, b⟩)) ∧ Below w.heap.size w w' := by
  obtain ⟨FA, fn, fc, IA, inn, ic, TA, tn, tc, rfl, h1, h2, h3, hf, hi, ht⟩ := hc.form
  have hn2 : n < fn := by rw [← h1.1]; exact hn
  obtain ⟨g, off, rfl, hg, c0, c1, c2, CA, cn, cc, c3, hI, hcn⟩ := h1.at_ hn2
  have HE := Lib.hid (eff_make c n (c.funs.getD n bdy0) a b)
  generalize c.funs.getD n bdy0 = f at *
  obtain ⟨kept, locals, stack, code⟩ := f
  clear h1 h2 h3 hc hI
  dsimp only at c0 c1 c2 c3
  have HB := Lib.hid (fun (d : Nat) => below_drewN ((((Below.refl w.heap.size w).alloc (Nat.le_refl _) (.cells #[.slice (some ⟨g, off, none⟩) fn fc, .slice IA inn ic, .slice TA tn tc, .int .i64 c.lets] 26)).alloc (by simp) (.cells #[.int .i64 10, .int .i64 a, .int .i64 b] 36)).alloc (by simp; omega) (.cells #[.int .i64 kept, .int .i64 locals, .int .i64 stack, .slice CA cn cc] 40)) d)
  by_cases h1 : a ≤ 199
  all_goals by_cases h2 : 1 ≤ b
  all_goals by_cases h3 : b ≤ 4
  all_goals first
    | (exfalso; omega)
    | ((first | (have x1 : decide (a ≤ 199) = true := decide_eq_true h1) | (have x1 : decide (a ≤ 199) = false := decide_eq_false h1))
       (first | (have x2 : decide (1 ≤ b) = true := decide_eq_true h2) | (have x2 : decide (1 ≤ b) = false := decide_eq_false h2))
       (first | (have x3 : decide (b ≤ 4) = true := decide_eq_true h3) | (have x3 : decide (b ≤ 4) = false := decide_eq_false h3))
       clear h1 h2 h3
       go_enter Try.func45, Try.ntmps45
       go_wp2
       go_quiet (fail)
       go_wp2
       go_ret3
       exact ⟨ret_e (by rw [HE.out]; simp [*]), HB.out _⟩)
set_option maxRecDepth 100000 in
set_option maxHeartbeats 4000000 in
theorem reff_fun (w : World) (v : Value) (c : Cod) (n : Nat) (a b : Int) (hc : CodAt w w.heap.size v c) (hn : n < c.funs.length) (ha : 0 ≤ a) :
    Calls Try.prog 45 #[v, .int .i64 (n : Int), .agg #[.int .i64 11, .int .i64 a, .int .i64 b]] w fun e w' => e = .returned (effV (effF c n (c.funs.getD n bdy0) ⟨11, a, b⟩)) ∧ Below w.heap.size w w' := by
  obtain ⟨FA, fn, fc, IA, inn, ic, TA, tn, tc, rfl, h1, h2, h3, hf, hi, ht⟩ := hc.form
  have hn2 : n < fn := by rw [← h1.1]; exact hn
  obtain ⟨k, rfl⟩ := Int.eq_ofNat_of_zero_le ha
  obtain ⟨g, off, rfl, hg, c0, c1, c2, CA, cn, cc, c3, hI, hcn⟩ := h1.at_ hn2
  have HE := Lib.hid (eff_fun c n (c.funs.getD n bdy0) k b)
  rw [h1.1] at HE
  have HK : Hid (k < fn → w.cell? ⟨g, off + k * 4, none⟩ = some (.int .i64 (c.funs.getD k bdy0).kept)) := fun hk => by
    obtain ⟨g', off', e, _, q0, _⟩ := h1.at_ hk
    simp only [Option.some.injEq, Addr.mk.injEq, and_true] at e
    obtain ⟨rfl, rfl⟩ := e
    exact q0
  generalize c.funs.getD n bdy0 = f at *
  obtain ⟨kept, locals, stack, code⟩ := f
  clear h1 h2 h3 hc hI
  dsimp only at c0 c1 c2 c3
  have HB := Lib.hid (fun (d : Nat) => below_drewN ((((Below.refl w.heap.size w).alloc (Nat.le_refl _) (.cells #[.slice (some ⟨g, off, none⟩) fn fc, .slice IA inn ic, .slice TA tn tc, .int .i64 c.lets] 26)).alloc (by simp) (.cells #[.int .i64 11, .int .i64 (k : Int), .int .i64 b] 36)).alloc (by simp; omega) (.cells #[.int .i64 kept, .int .i64 locals, .int .i64 stack, .slice CA cn cc] 40)) d)
  by_cases x1 : 0 < k
  · by_cases x2 : k < fn
    · have q0 := HK.out x2
      have HT : Hid (((k : Int)).toNat = k) := by show _ = _; simp
      rw [show c.funs.getD ((k : Int)).toNat bdy0 = c.funs.getD k bdy0 from by rw [HT.out]] at HE
      generalize (c.funs.getD k bdy0).kept = y at *
      have t1 : decide ((1 : Int) ≤ (k : Int)) = true := decide_eq_true (by omega)
      have t1' : decide ((0 : Int) < (k : Int)) = true := decide_eq_true (by omega)
      have t2 : decide ((k : Int) < (fn : Int)) = true := decide_eq_true (by omega)
      have u1 : decide (1 ≤ k) = true := decide_eq_true (by omega)
      have u1' : decide (0 < k) = true := decide_eq_true (by omega)
      have u2 : decide (k < fn) = true := decide_eq_true (by omega)
      go_enter Try.func45, Try.ntmps45
      go_wp2
      obtain ⟨w2, hw2⟩ : ∃ w2, w2 = ((w.alloc (.cells #[.slice (some ⟨g, off, none⟩) fn fc, .slice IA inn ic, .slice TA tn tc, .int .i64 c.lets] 26)).alloc (.cells #[.int .i64 11, .int .i64 (k : Int), .int .i64 b] 36)).alloc (.cells #[.int .i64 kept, .int .i64 locals, .int .i64 stack, .slice CA cn cc] 40) := ⟨_, rfl⟩
      have HB2 : Hid (∀ d, Below w.heap.size w (w2.drewN d)) := fun d => by rw [hw2]; exact HB.out d
      have q1 : w2.cell? ⟨g, off + k * 4, none⟩ = some (.int .i64 y) := ((HB2.out 0).cell (p := ⟨g, _, none⟩) hg).trans q0
      have HWA : Hid (Whole w2 w.heap.size 26 #[.slice (some ⟨g, off, none⟩) fn fc, .slice IA inn ic, .slice TA tn tc, .int .i64 c.lets]) := by show Whole _ _ _ _; rw [hw2]; exact ((Whole.made _ _ _).alloc _).alloc _
      have HWB : Hid (Whole w2 (w.heap.size + 1) 36 #[.int .i64 11, .int .i64 (k : Int), .int .i64 b]) := by
        show Whole _ _ _ _; rw [hw2]
        have := Whole.made (w.alloc (.cells #[.slice (some ⟨g, off, none⟩) fn fc, .slice IA inn ic, .slice TA tn tc, .int .i64 c.lets] 26)) 36 #[.int .i64 11, .int .i64 (k : Int), .int .i64 b]
        exact Whole.alloc (by simpa using this) _
      have y0 : w2.cell? ⟨w.heap.size, 0, none⟩ = some (.slice (some ⟨g, off, none⟩) fn fc) := HWA.out.cell 0
      have y1 : w2.cell? ⟨w.heap.size + 1, 1, none⟩ = some (.int .i64 (k : Int)) := HWB.out.cell 1
      have y2 : w2.cell? ⟨w.heap.size + 1, 2, none⟩ = some (.int .i64 b) := HWB.out.cell 2
      rw [← hw2]
      clear hw2 q0 c0 c1 c2 c3 HK HWA HWB HB
      go_quiet (fail)
      go_wp2
      go_ret3
      exact ⟨ret_e (by rw [HE.out]; simp [*]; rfl), HB2.out _⟩
    · have t1 : decide ((1 : Int) ≤ (k : Int)) = true := decide_eq_true (by omega)
      have t2 : decide ((k : Int) < (fn : Int)) = false := decide_eq_false (by omega)
      have u1 : decide (1 ≤ k) = true := decide_eq_true (by omega)
      have u1' : decide (0 < k) = true := decide_eq_true (by omega)
      have u2 : decide (k < fn) = false := decide_eq_false (by omega)
      go_enter Try.func45, Try.ntmps45
      go_wp2
      go_quiet (fail)
      go_wp2
      go_ret3
      exact ⟨ret_e (by rw [HE.out]; simp [*]), HB.out _⟩
  · have t1 : decide ((1 : Int) ≤ (k : Int)) = false := decide_eq_false (by omega)
    have t1' : decide ((0 : Int) < (k : Int)) = false := decide_eq_false (by omega)
    have u1 : decide (1 ≤ k) = false := decide_eq_false (by omega)
    have u1' : decide (0 < k) = false := decide_eq_false (by omega)
    go_enter Try.func45, Try.ntmps45
    go_wp2
    go_quiet (fail)
    go_wp2
    go_ret3
    exact ⟨ret_e (by rw [HE.out]; simp [*]), HB.out _⟩
theorem reff_any (w : World) (v : Value) (c : Cod) (n : Nat) (op a b : Int) (hc : CodAt w w.heap.size v c) (hn : n < c.funs.length) (ha : 0 ≤ a) :
    Calls Try.prog 45 #[v, .int .i64 (n : Int), .agg #[.int .i64 op, .int .i64 a, .int .i64 b]] w fun e w' => e = .returned (effV (effF c n (c.funs.getD n bdy0) ⟨op, a, b⟩)) ∧ Below w.heap.size w w' := by
  by_cases h1 : op = 10
  · subst h1; exact reff_make w v c n a b hc hn
  · by_cases h2 : op = 11
    · subst h2; exact reff_fun w v c n a b hc hn ha
    · exact reff_rest w v c n op a b hc hn h1 h2
end Go.Proofs.Ytjkbhdocpjekmaa
