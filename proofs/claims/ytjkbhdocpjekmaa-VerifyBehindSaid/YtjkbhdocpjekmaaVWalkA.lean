/- The walks of layer 14: a state's base; a state that is deeper; with a mark more; without the last one. -/
import Derived.Test.YtjkbhdocpjekmaaVMem
import Derived.Deep.RegionLawGrows
namespace Go.Proofs.Ytjkbhdocpjekmaa
open Go.RowKit
set_option linter.unusedVariables false
attribute [local go_sem ↓] Go.wp_at_zero Go.wp_at_succ

/-- A state's value. -/
def stV (d : Int) (A : Option Addr) (n c : Nat) : Value := .agg #[.int .i64 d, .slice A n c]
theorem base_any (w : World) (d : Int) (A : Option Addr) (n c : Nat) (ms : List (Int × Int)) (hm : Mks 89 w A n ms) (hn : n ≤ 1000000) :
    Calls Try.prog 38 #[.agg #[.int .i64 d, .slice A n c]] w fun e w' => e = .returned (.int .i64 (⟨d, ms⟩ : St).base) ∧ Below w.heap.size w w' := by
  cases n with
  | zero =>
    have h0 := hm.1
    obtain rfl : ms = [] := List.eq_nil_of_length_eq_zero h0
    clear hm h0
    go_enter Try.func38, Try.ntmps38
    go_wp2
    go_ret
    exact ⟨rfl, (Below.refl _ _).alloc (Nat.le_refl _) _⟩
  | succ k =>
    obtain ⟨g, rfl, hg, c1, c2⟩ := hm.at_ (k := k) (by omega)
    have HB := Lib.hid (base_last (d := d) hm.1)
    generalize (ms.getD k mk0).1 = x at *
    generalize (ms.getD k mk0).2 = y at *
    clear hm
    go_enter Try.func38, Try.ntmps38
    go_wp2
    go_ret
    exact ⟨ret_i HB.out.symm, (Below.refl _ _).alloc (Nat.le_refl _) _⟩
theorem moved_any (w : World) (d k : Int) (A : Option Addr) (n c : Nat) (h1 : -100000 ≤ d) (h2 : d ≤ 100000) (h3 : -100000 ≤ k) (h4 : k ≤ 100000) :
    Calls Try.prog 39 #[.agg #[.int .i64 d, .slice A n c], .int .i64 k] w fun e w' => e = .returned (.agg #[.int .i64 (d + k), .slice A n c]) ∧ Below w.heap.size w w' := by
  go_enter Try.func39, Try.ntmps39
  go_wp2
  exact bodyPost_ret (v := .agg #[.int .i64 (d + k), .slice A n c]) (by simp [results, Try.results39, go_sem]) rfl ⟨rfl, ((Below.refl _ _).alloc (Nat.le_refl _) _).alloc (by simp) _⟩
theorem ty_mark : ElemTy 54 89 2 16 := elemTy (i := none) (z := .agg #[.int .i64 0, .int .i64 0]) Try.underlying54 (by kernel_rfl) rfl (by decide)
/-- An append of a mark that must grow. -/
theorem step_mark {ops : Array Oper} {o : Oper} {a : Act} {w : World} {K : Act → World → Prop} {Q : Exit → Act → World → Prop} {E : Prop} (hgd : o.guard = none) (s x : Operand)
    (ho : o.op = .call { callee := .builtin .append, args := #[s, x], argTypes := #[54, 54] }) (A : Option Addr) (n : Nat) (ms : List (Int × Int)) (hs : a.eval s = .slice A n n) (hA : A = none → n = 0) (hm : Mks 89 w A n ms) (hn : n ≤ 1000000)
    (g : Nat) (k d : Int) (hx : a.eval x = .slice (some ⟨g, 0, none⟩) 1 1) (hw : Whole w g 89 #[.int .i64 k, .int .i64 d])
    (h : ∀ g' cap w', Mks 89 w' (some ⟨g', 0, none⟩) (n + 1) (ms ++ [(k, d)]) → n + 1 ≤ cap → cap ≤ 9223372036854775807 → Below w.heap.size w w' → K (a.put o.dst (.slice (some ⟨g', 0, none⟩) (n + 1) cap)) w') :
    if Region.wanted o (yielded ops a.tmps) = true then Oper.wp Try.prog o a w K Q else E := by
  obtain ⟨i, z, hi, hz, hsz, hby, hzs⟩ := ty_mark.info
  refine step_append_grows hgd s x 54 ho 89 i z 2 16 ty_mark.under hi hz hsz hby hzs (by decide) A n n (mkCells ms) hs (fun h0 => ⟨hA h0, hA h0⟩) (by rw [mkCells_len, hm.1]) ?_ ⟨g, 0, none⟩ 1 1 [.int .i64 k, .int .i64 d] hx rfl hw.news (by simp [Value.oneCell']) (by omega) (by unfold maxLen; omega) (by omega) ?_
  · intro b hb j u hj
    have hjl : j < n * 2 := by
      have := (List.getElem?_eq_some_iff.1 hj).1
      rw [mkCells_len, hm.1] at this; exact this
    obtain ⟨g1, cs, e1, hw1, hc1⟩ := hm.2 (by omega)
    rw [e1] at hb; cases hb
    have e : (⟨g1, 0, none⟩ : Addr).add j = ⟨g1, j, none⟩ := by unfold Addr.add; split <;> simp_all
    rw [e, hw1.cell j, ← hj]
    have hg := mkCells_get ms (j / 2) (by rw [hm.1]; omega)
    have hc2 := hc1 (j / 2) (by omega)
    rcases (by omega : j = j / 2 * 2 ∨ j = j / 2 * 2 + 1) with h2 | h2
    · rw [h2, hc2.1, hg.1]
    · rw [h2, hc2.2, hg.2]
  · intro v' w' hown hgr
    rw [← mkCells_snoc] at hown
    obtain ⟨A', c', rfl, hM⟩ := Mks.of_own hown (by rw [List.length_append, hm.1]; rfl)
    obtain ⟨A2, c2, e2, hA2, hc2, hle⟩ := own_form hown
    simp only [Value.slice.injEq, true_and] at e2
    obtain ⟨rfl, rfl⟩ := e2
    obtain ⟨g', cs, rfl, _⟩ := hM.2 (by omega)
    exact h g' c' w' hM hle (by unfold maxLen at hc2; omega) ((Below.refl _ _).grown hgr (Nat.le_refl _) (fun k hk => by cases hk))
end Go.Proofs.Ytjkbhdocpjekmaa
