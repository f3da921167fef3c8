/- The walks of layer 14: rules. -/
import Derived.Test.YtjkbhdocpjekmaaVRules
namespace Go.Proofs.Ytjkbhdocpjekmaa
open Go.RowKit Go.Maps
set_option linter.unusedVariables false
attribute [local go_sem ↓] Go.wp_at_zero Go.wp_at_succ

inductive Spec where
  | below (t p : Int) (most : Nat)
  | fixed (t p : Int)
  | own (f : Nat)
/-- A value is a rule: what it has captured. -/
def RuleAt (w : World) (v : Value) : Spec → Prop
  | .below t p mf => ∃ a, v = .func (.func 64) #[] #[.pointer (some ⟨a + 2, 0, none⟩), .pointer (some ⟨a, 0, none⟩), .pointer (some ⟨a + 1, 0, none⟩)] ∧ Whole w a 3 #[.int .i64 t] ∧ Whole w (a + 1) 3 #[.int .i64 p] ∧ Whole w (a + 2) 101 #[.func (.func mf) #[] #[]]
  | .fixed t p => ∃ a, v = .func (.func 65) #[] #[.pointer (some ⟨a, 0, none⟩), .pointer (some ⟨a + 1, 0, none⟩)] ∧ Whole w a 3 #[.int .i64 t] ∧ Whole w (a + 1) 3 #[.int .i64 p]
  | .own f => v = .func (.func f) #[] #[]
theorem RuleAt.keep {w w' : World} {v : Value} {s : Spec} (h : RuleAt w v s) (hk : ∀ g t cs, Whole w g t cs → Whole w' g t cs) : RuleAt w' v s := by
  cases s with
  | below t p mf => obtain ⟨a, e, h1, h2, h3⟩ := h; exact ⟨a, e, hk _ _ _ h1, hk _ _ _ h2, hk _ _ _ h3⟩
  | fixed t p => obtain ⟨a, e, h1, h2⟩ := h; exact ⟨a, e, hk _ _ _ h1, hk _ _ _ h2⟩
  | own f => exact h
theorem whole2 (w : World) (x : Value) (t : TypeId) (cs ds : Array Value) (e : TypeId) : Whole ((w.alloc (.cells cs t)).alloc (.cells ds e)) w.heap.size t cs ∧ Whole ((w.alloc (.cells cs t)).alloc (.cells ds e)) (w.heap.size + 1) e ds := by
  refine ⟨(Whole.made _ _ _).alloc _, ?_⟩
  have := Whole.made (w.alloc (.cells cs t)) e ds
  simpa using this
theorem fixed_any (w : World) (t p : Int) : Calls Try.prog 57 #[.int .i64 t, .int .i64 p] w fun e w' => ∃ v, e = .returned v ∧ RuleAt w' v (.fixed t p) ∧ Below w.heap.size w w' := by
  go_enter Try.func57, Try.ntmps57
  go_wp2
  go_ret
  have h := whole2 w .nilFunc 3 #[.int .i64 t] #[.int .i64 p] 3
  exact ⟨_, rfl, ⟨_, rfl, h.1, h.2⟩, ((Below.refl _ _).alloc (Nat.le_refl _) _).alloc (by simp) _⟩
theorem below_any (w : World) (t p : Int) (mf : Nat) : Calls Try.prog 52 #[.int .i64 t, .int .i64 p, .func (.func mf) #[] #[]] w fun e w' => ∃ v, e = .returned v ∧ RuleAt w' v (.below t p mf) ∧ Below w.heap.size w w' := by
  go_enter Try.func52, Try.ntmps52
  go_wp2
  go_ret
  have h := whole2 w .nilFunc 3 #[.int .i64 t] #[.int .i64 p] 3
  have h3 : Whole (((w.alloc (.cells #[.int .i64 t] 3)).alloc (.cells #[.int .i64 p] 3)).alloc (.cells #[.func (.func mf) #[] #[]] 101)) (w.heap.size + 1 + 1) 101 #[.func (.func mf) #[] #[]] := by
    have := Whole.made ((w.alloc (.cells #[.int .i64 t] 3)).alloc (.cells #[.int .i64 p] 3)) 101 #[.func (.func mf) #[] #[]]
    simpa using this
  exact ⟨_, rfl, ⟨_, rfl, h.1.alloc _, h.2.alloc _, h3⟩, (((Below.refl _ _).alloc (Nat.le_refl _) _).alloc (by simp) _).alloc (by simp; omega) _⟩
/-- Each pair's value is its rule. -/
def RulesAt (w : World) : List (Int × Value) → List (Int × Spec) → Prop
  | [], [] => True
  | p :: ps, q :: qs => p.1 = q.1 ∧ RuleAt w p.2 q.2 ∧ RulesAt w ps qs
  | _, _ => False
theorem RulesAt.keep {w w' : World} (hk : ∀ g t cs, Whole w g t cs → Whole w' g t cs) : ∀ (ps : List (Int × Value)) (qs : List (Int × Spec)), RulesAt w ps qs → RulesAt w' ps qs
  | [], [], _ => trivial
  | p :: ps, q :: qs, h => ⟨h.1, h.2.1.keep hk, RulesAt.keep hk ps qs h.2.2⟩
  | [], _ :: _, h => h.elim
  | _ :: _, [], h => h.elim
theorem RulesAt.snoc {w : World} {k : Int} {v : Value} {s : Spec} (hv : RuleAt w v s) : ∀ (ps : List (Int × Value)) (qs : List (Int × Spec)), RulesAt w ps qs → RulesAt w (ps ++ [(k, v)]) (qs ++ [(k, s)])
  | [], [], _ => ⟨rfl, hv, trivial⟩
  | p :: ps, q :: qs, h => ⟨h.1, h.2.1, RulesAt.snoc hv ps qs h.2.2⟩
  | [], _ :: _, h => h.elim
  | _ :: _, [], h => h.elim
theorem RulesAt.len {w : World} : ∀ (ps : List (Int × Value)) (qs : List (Int × Spec)), RulesAt w ps qs → ps.length = qs.length
  | [], [], _ => rfl
  | p :: ps, q :: qs, h => by rw [List.length_cons, List.length_cons, RulesAt.len ps qs h.2.2]
  | [], _ :: _, h => h.elim
  | _ :: _, [], h => h.elim
/-- The map so far: these rules. -/
def Acc (w0 w : World) (b : Nat) (qs : List (Int × Spec)) : Prop := ∃ ps, PairsAt w b ps ∧ RulesAt w ps qs ∧ Below w0.heap.size w0 w ∧ w0.heap.size ≤ b
theorem Acc.below {w0 w w' : World} {b : Nat} {qs : List (Int × Spec)} (h : Acc w0 w b qs) (hb : Below w.heap.size w w') : Acc w0 w' b qs := by
  obtain ⟨ps, h1, h2, h3, h4⟩ := h
  exact ⟨ps, h1.kept (hb.block b h1.lt), h2.keep (fun g t cs hw => hw.below hb hw.lt) ps qs, h3.trans (hb.mono h3.size), h4⟩
theorem Acc.made (w : World) : Acc w (w.alloc (.map #[] 0)) w.heap.size [] := ⟨[], PairsAt.made w, trivial, (Below.refl _ _).alloc (Nat.le_refl _) _, Nat.le_refl _⟩
theorem acc_insert {ops : Array Oper} {rest : List Oper} {o : Oper} {a : Act} {Q : Exit → Act → World → Prop} {w0 w : World} (hgd : o.guard = none) (m x v : Operand) (hop : o.op = .insert 82 m x v) (b : Nat) (qs : List (Int × Spec)) (h : Acc w0 w b qs) (hn : qs.length ≤ 1000)
    (k : Int) (u : Value) (s : Spec) (hu : RuleAt w u s) (hm : a.eval m = .map (some b)) (hx : a.eval x = .int .i64 k) (hv : a.eval v = u) (hk : (Lit.int .i64 k).wf = true)
    (hK : ∀ w', Acc w0 w' b (qs ++ [(k, s)]) → wpList Try.prog ops Q rest (a.put o.dst undef) w') : wpList Try.prog ops Q (o :: rest) a w := by
  obtain ⟨ps, h1, h2, h3, h4⟩ := h
  refine list_insert hgd m x v hop b ps h1 (by rw [h2.len]; exact hn) k u hm hx hv hk ?_
  intro w' h5 hg
  have hkp : ∀ g t cs, Whole w g t cs → Whole w' g t cs := fun g t cs hw => (hg.block g hw.lt (fun e => by
    cases e
    obtain ⟨es, cl, hm2, _⟩ := h1
    unfold Whole at hw; rw [hw] at hm2; cases hm2)).trans hw
  exact hK w' ⟨_, h5, RulesAt.snoc (hu.keep hkp) ps qs (RulesAt.keep hkp ps qs h2), h3.grown hg (Nat.le_trans h4 (Nat.le_of_lt h1.lt)) (fun k hk => by cases hk; exact h4), h4⟩
end Go.Proofs.Ytjkbhdocpjekmaa
