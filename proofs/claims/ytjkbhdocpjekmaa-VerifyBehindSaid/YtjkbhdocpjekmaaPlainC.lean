/- The plain mathematics of layer 14: what Code and Depths answer. -/
import Derived.Test.YtjkbhdocpjekmaaPlainB
namespace Go.Proofs.Ytjkbhdocpjekmaa
set_option linter.unusedVariables false

/-- What Code answers: 1 (no such code may be), 0 (it holds together), 30. -/
def CodeIs (c : Cod) (v : Int) : Prop :=
  (codOK c = false ∧ v = 1) ∨ (codOK c = true ∧ (∀ n, n < c.funs.length → Good c n (c.funs.getD n bdy0)) ∧ v = 0) ∨ (codOK c = true ∧ (∃ n, n < c.funs.length ∧ ¬ Good c n (c.funs.getD n bdy0)) ∧ v = 30)
theorem CodeIs.uniq {c : Cod} {v u : Int} (h : CodeIs c v) (k : CodeIs c u) : v = u := by
  rcases h with ⟨h1, h2⟩ | ⟨h1, h3, h2⟩ | ⟨h1, ⟨n, h3, h4⟩, h2⟩
  all_goals rcases k with ⟨k1, k2⟩ | ⟨k1, k3, k2⟩ | ⟨k1, ⟨m, k3, k4⟩, k2⟩
  all_goals first
    | (rw [h2, k2]; done)
    | exact absurd (h3 m k3) k4
    | exact absurd (k3 n h3) h4
    | (rw [h1] at k1; cases k1; done)
def depO : Option St → Int
  | none => -1
  | some s => s.d
def depL (had : List (Option St)) : List Int := had.map depO
theorem depL_succ {had : List (Option St)} {k : Nat} (h : k < had.length) : depL (had.take (k + 1)) = depL (had.take k) ++ [depO (had.getD k none)] := by
  unfold depL
  rw [List.take_add_one, List.getElem?_eq_getElem h, Option.toList_some, List.map_append, List.getD_eq_getElem?_getD, List.getElem?_eq_getElem h]; rfl
def InR (c : Cod) (f : Int) : Prop := codOK c = true ∧ 0 ≤ f ∧ f < (c.funs.length : Int)
/-- What Depths answers. -/
def DepIs (c : Cod) (f : Int) (xs : List Int) : Prop :=
  (¬ InR c f ∧ xs = []) ∨ (InR c f ∧ ¬ Good c f.toNat (c.funs.getD f.toNat bdy0) ∧ xs = []) ∨ (InR c f ∧ ∃ had, Done c f.toNat (c.funs.getD f.toNat bdy0) had ∧ xs = depL had)
theorem DepIs.uniq {c : Cod} {f : Int} {xs ys : List Int} (h : DepIs c f xs) (k : DepIs c f ys) : xs = ys := by
  rcases h with ⟨h1, rfl⟩ | ⟨h1, h2, rfl⟩ | ⟨h1, had, h2, rfl⟩
  all_goals rcases k with ⟨k1, rfl⟩ | ⟨k1, k2, rfl⟩ | ⟨k1, had2, k2, rfl⟩
  all_goals first
    | rfl
    | exact absurd h1 k1
    | exact absurd k1 h1
    | exact absurd k2.good h2
    | exact absurd h2.good k2
    | (rw [h2.uniq k2])
end Go.Proofs.Ytjkbhdocpjekmaa
