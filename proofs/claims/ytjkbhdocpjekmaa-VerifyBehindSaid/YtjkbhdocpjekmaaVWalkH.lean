/- The walks of layer 14: the rules, looked up. -/
import Derived.Test.YtjkbhdocpjekmaaVWalkG
import Derived.Deep.RegionHeld3
namespace Go.Proofs.Ytjkbhdocpjekmaa
open Go.RowKit Go.Maps
set_option linter.unusedVariables false
attribute [local go_sem ↓] Go.wp_at_zero Go.wp_at_succ

theorem wf_i64 {z : Int} : (Lit.int .i64 z).wf = true ↔ -9223372036854775808 ≤ z ∧ z ≤ 9223372036854775807 := by
  simp only [Lit.wf, IntKind.min, IntKind.max, IntKind.signed, IntKind.bits, Bool.and_eq_true, decide_eq_true_eq, if_true]
  omega
def SpecGood : Option Spec → Prop
  | none => True
  | some (.below t p mf) => mf = 50 ∨ mf = 51 ∨ mf = 53 ∨ mf = 54 ∨ mf = 55 ∨ mf = 60 ∨ mf = 61
  | some (.fixed t p) => True
  | some (.own k) => k = 56 ∨ k = 58 ∨ k = 59
theorem spec_fold (k : Int) : ∀ (qs : List (Int × Spec)) (s : Option Spec), (∀ q ∈ qs, SpecGood (some q.2)) → SpecGood s → SpecGood (qs.foldl (fun s p => if p.1 = k then some p.2 else s) s)
  | [], s, _, h => h
  | q :: qs, s, hq, h => by
    rw [List.foldl_cons]
    refine spec_fold k qs _ (fun x hx => hq x (by simp [hx])) ?_
    by_cases hk : q.1 = k
    · rw [if_pos hk]; exact hq q (by simp)
    · rw [if_neg hk]; exact h
theorem spec_good (k : Int) : SpecGood (specF ruleL k) := spec_fold k ruleL none (by simp [ruleL, SpecGood]) trivial
/-- What comes of a call of a rule. -/
def RuleOut (w : World) (ok : Bool) (t p : Int) (e : Ending) (w' : World) : Prop := e = .returned (.tuple #[.bool ok, .int .i64 t, .int .i64 p]) ∧ Below w.heap.size w w'
def RuleDoes (w : World) (v P I : Value) (ok : Bool) (t p : Int) : Prop :=
  (v = .nilFunc ∧ ok = true ∧ t = 0 ∧ p = 0) ∨
  (∃ x y z, v = .func (.func 64) #[] #[x, y, z] ∧ Calls Try.prog 64 #[P, I, x, y, z] w (RuleOut w ok t p)) ∨
  (∃ x y, v = .func (.func 65) #[] #[x, y] ∧ Calls Try.prog 65 #[P, I, x, y] w (RuleOut w ok t p)) ∨
  (v = .func (.func 56) #[] #[] ∧ Calls Try.prog 56 #[P, I] w (RuleOut w ok t p)) ∨
  (v = .func (.func 58) #[] #[] ∧ Calls Try.prog 58 #[P, I] w (RuleOut w ok t p)) ∨
  (v = .func (.func 59) #[] #[] ∧ Calls Try.prog 59 #[P, I] w (RuleOut w ok t p))
theorem out_of {w : World} {f : FuncId} {args : Array Value} {e : Bool × Int × Int} {ok : Bool} {t p : Int} (h : Calls Try.prog f args w fun x w' => x = .returned (effV e) ∧ Below w.heap.size w w') (he : e = (ok, t, p)) : Calls Try.prog f args w (RuleOut w ok t p) := by
  subst he; exact h
theorem rule_does {w : World} {B q : Nat} {c : Cod} {n : Nat} {f : Bdy} {v : Value} {s : Option Spec} {op a b : Int} {ok : Bool} {t p : Int} (hw : WkAt w B q c n f) (hr : RuleOr w v s) (hg : SpecGood s) (ha : 0 ≤ a) (he : specE c n f a b s = (ok, t, p)) :
    RuleDoes w v (.pointer (some ⟨q, 0, none⟩)) (.agg #[.int .i64 op, .int .i64 a, .int .i64 b]) ok t p := by
  rcases s with _ | (⟨t', p', mf⟩ | ⟨t', p'⟩ | k)
  · left
    simp only [specE, Prod.mk.injEq] at he
    exact ⟨hr, he.1.symm, he.2.1.symm, he.2.2.symm⟩
  · right; left
    obtain ⟨g, e, h1, h2, h3⟩ := hr
    exact ⟨_, _, _, e, out_of (below1_any w B q c n f mf op a b t' p' g hw hg h1 h2 h3) he⟩
  · right; right; left
    obtain ⟨g, e, h1, h2⟩ := hr
    exact ⟨_, _, e, out_of (fixed1_any w _ op a b t' p' g h1 h2) he⟩
  · rcases hg with rfl | rfl | rfl
    · right; right; right; left
      exact ⟨hr, out_of (self_any w B q c n f op a b hw) he⟩
    · right; right; right; right; left
      exact ⟨hr, out_of (make_any w B q c n f op a b hw) he⟩
    · right; right; right; right; right
      exact ⟨hr, out_of (fun_any w B q c n f op a b hw ha) he⟩
theorem rules_look (w : World) (B q : Nat) (c : Cod) (n : Nat) (f : Bdy) (op a b : Int) (ok : Bool) (t p : Int) (hw : WkAt w B q c n f) (h0 : 0 ≤ op) (h1 : op ≤ 33) (ha : 0 ≤ a) (he : effF c n f ⟨op, a, b⟩ = (ok, t, p)) :
    Calls Try.prog 37 #[] w fun e w' => ∃ bb v, e = .returned (.map (some bb)) ∧ (Instr.lookup 82 (.map (some bb)) (.int .i64 op) false).run Try.prog w' = .ok v w' ∧
      RuleDoes w' v (.pointer (some ⟨q, 0, none⟩)) (.agg #[.int .i64 op, .int .i64 a, .int .i64 b]) ok t p ∧ Below w.heap.size w w' :=
  (rules_any w).mono fun e w' ⟨h2, ps, h3, h4, h5, h6⟩ =>
    ⟨_, _, h2, h3.look op (wf_i64.2 ⟨by omega, by omega⟩), rule_does (hw.below h5) (rules_or op h4) (spec_good op) ha (by rw [spec_eff c n f op a b h0 h1]; exact he), h5⟩
end Go.Proofs.Ytjkbhdocpjekmaa
