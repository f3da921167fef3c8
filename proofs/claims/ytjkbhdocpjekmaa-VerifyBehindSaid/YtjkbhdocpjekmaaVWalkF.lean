/- The walks of layer 14: all rules. -/
import Derived.Test.YtjkbhdocpjekmaaVWalkE
namespace Go.Proofs.Ytjkbhdocpjekmaa
open Go.RowKit Go.Maps
set_option linter.unusedVariables false
attribute [local go_sem ↓] Go.wp_at_zero Go.wp_at_succ

/-- All rules, by their Ops. -/
def ruleL : List (Int × Spec) :=
  [(1, .below 0 1 53), (2, .below 0 1 54), (3, .below 0 1 50), (4, .below 0 1 55), (5, .own 56), (6, .below 0 1 51), (7, .below 1 0 50), (8, .below 1 0 51), (9, .fixed 1 0), (10, .own 58), (11, .own 59), (12, .below 1 1 60), (13, .fixed 2 1), (14, .fixed 2 0), (15, .fixed 1 0), (17, .fixed 1 0), (18, .fixed 1 0),
   (19, .below 2 1 61), (20, .fixed 2 1), (23, .fixed 1 0), (24, .fixed 1 1), (25, .fixed 1 1), (31, .fixed 1 1), (32, .fixed 1 1), (33, .fixed 2 1)]
theorem below_acc {w0 w : World} {b : Nat} {qs : List (Int × Spec)} (h : Acc w0 w b qs) (t p : Int) (mf : Nat) : Calls Try.prog 52 #[.int .i64 t, .int .i64 p, .func (.func mf) #[] #[]] w fun e w' => ∃ v, e = .returned v ∧ RuleAt w' v (.below t p mf) ∧ Acc w0 w' b qs :=
  (below_any w t p mf).mono fun e w' ⟨v, h1, h2, h3⟩ => ⟨v, h1, h2, h.below h3⟩
theorem fixed_acc {w0 w : World} {b : Nat} {qs : List (Int × Spec)} (h : Acc w0 w b qs) (t p : Int) : Calls Try.prog 57 #[.int .i64 t, .int .i64 p] w fun e w' => ∃ v, e = .returned v ∧ RuleAt w' v (.fixed t p) ∧ Acc w0 w' b qs :=
  (fixed_any w t p).mono fun e w' ⟨v, h1, h2, h3⟩ => ⟨v, h1, h2, h.below h3⟩
set_option maxRecDepth 100000 in
set_option maxHeartbeats 4000000 in
theorem rules_any (w : World) : Calls Try.prog 37 #[] w fun e w' => e = .returned (.map (some w.heap.size)) ∧ Acc w w' w.heap.size ruleL := by
  have HA := Lib.hid (Acc.made w)
  have hmm := @run_makeMap Try.prog
  go_enter Try.func37, Try.ntmps37
  go_wp2_with (first
    | (go_at_call 52; refine (below_acc HA.out _ _ _).mono ?_; rintro e w' ⟨v, rfl, hr, ha⟩; clear HA; have HA := Lib.hid ha; have HR := Lib.hid hr; clear ha hr)
    | (go_at_call 57; refine (fixed_acc HA.out _ _).mono ?_; rintro e w' ⟨v, rfl, hr, ha⟩; clear HA; have HA := Lib.hid ha; have HR := Lib.hid hr; clear ha hr)
    | (refine acc_insert rfl _ _ _ rfl _ _ HA.out (by decide) _ _ _ HR.out rfl rfl rfl (by decide) ?_; intro w' ha; clear HA HR; have HA := Lib.hid ha; clear ha)
    | (refine acc_insert rfl _ _ _ rfl _ _ HA.out (by decide) _ (.func (.func 56) #[] #[]) (.own 56) rfl rfl rfl rfl (by decide) ?_; intro w' ha; clear HA; have HA := Lib.hid ha; clear ha)
    | (refine acc_insert rfl _ _ _ rfl _ _ HA.out (by decide) _ (.func (.func 58) #[] #[]) (.own 58) rfl rfl rfl rfl (by decide) ?_; intro w' ha; clear HA; have HA := Lib.hid ha; clear ha)
    | (refine acc_insert rfl _ _ _ rfl _ _ HA.out (by decide) _ (.func (.func 59) #[] #[]) (.own 59) rfl rfl rfl rfl (by decide) ?_; intro w' ha; clear HA; have HA := Lib.hid ha; clear ha))
  go_ret
  exact ⟨rfl, HA.out⟩
end Go.Proofs.Ytjkbhdocpjekmaa
