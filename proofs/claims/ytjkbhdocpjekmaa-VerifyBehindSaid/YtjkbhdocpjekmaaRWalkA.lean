/- The walks of layer 14's document: marks in memory of their own. -/
import Derived.Test.YtjkbhdocpjekmaaVWalkA
import Derived.Laws.AppendOwnNone
namespace Go.Proofs.Ytjkbhdocpjekmaa
open Go.RowKit
set_option linter.unusedVariables false
attribute [local go_sem ↓] Go.wp_at_zero Go.wp_at_succ

theorem ty_rmark : ElemTy 57 97 2 16 := elemTy (i := none) (z := .agg #[.int .i64 0, .int .i64 0]) Try.underlying57 (by kernel_rfl) rfl (by decide)
theorem Mks.cells {t : TypeId} {w : World} {g : Nat} {n : Nat} {ms : List (Int × Int)} (hm : Mks t w (some ⟨g, 0, none⟩) n ms) : ∀ j u, (mkCells ms)[j]? = some u → w.cell? ((⟨g, 0, none⟩ : Addr).add j) = some u := by
  intro j u hj
  have hjl : j < n * 2 := by
    have := (List.getElem?_eq_some_iff.1 hj).1
    rw [mkCells_len, hm.1] at this; exact this
  obtain ⟨g1, cs, e1, hw1, hc1⟩ := hm.2 (by omega)
  cases e1
  have e : (⟨g, 0, none⟩ : Addr).add j = ⟨g, j, none⟩ := by unfold Addr.add; split <;> simp_all
  rw [e, hw1.cell j, ← hj]
  have hg := mkCells_get ms (j / 2) (by rw [hm.1]; omega)
  have hc2 := hc1 (j / 2) (by omega)
  rcases (by omega : j = j / 2 * 2 ∨ j = j / 2 * 2 + 1) with h2 | h2
  · rw [h2, hc2.1, hg.1]
  · rw [h2, hc2.2, hg.2]
/-- Marks are laid behind nothing. -/
theorem list_own {ops : Array Oper} {rest : List Oper} {o : Oper} {a : Act} {Q : Exit → Act → World → Prop} {w : World} (hgd : o.guard = none) (s x : Operand)
    (ho : o.op = .call { callee := .builtin .append, args := #[s, x], argTypes := #[57, 57] }) (hs : a.eval s = .slice none 0 0) (g m c : Nat) (ms : List (Int × Int)) (hm : Mks 97 w (some ⟨g, 0, none⟩) (m + 1) ms) (hn : m ≤ 1000000) (hx : a.eval x = .slice (some ⟨g, 0, none⟩) (m + 1) c)
    (h : ∀ g' cap w', w'.ownsRow w.heap.size 97 2 (.slice (some ⟨g', 0, none⟩) (m + 1) cap) (m + 1) (mkCells ms) → Below w.heap.size w w' → wpList Try.prog ops Q rest (a.put o.dst (.slice (some ⟨g', 0, none⟩) (m + 1) cap)) w') :
    wpList Try.prog ops Q (o :: rest) a w := by
  obtain ⟨i, z, hi, hz, hsz, hby, hzs⟩ := ty_rmark.info
  refine wpList_append_own _ hgd s x 57 ho w.heap.size 97 i z 2 16 ty_rmark.under hi hz hsz hby hzs (by decide) (.slice none 0 0) 0 [] hs (World.ownsRow_nil _ _ _ _) ⟨g, 0, none⟩ (m + 1) c (mkCells ms) hx (by rw [mkCells_len, hm.1]) hm.cells (mkCells_one ms) (by unfold maxLen; omega) (by omega) (Nat.le_refl _) ?_
  intro v' w' hown hgr hnil
  rw [Nat.zero_add, List.nil_append] at hown
  obtain ⟨A', c', rfl, hA, _⟩ := own_form hown
  cases A' with
  | none =>
    obtain ⟨g0, c0, e0, _⟩ := own_cell hown (k := 0) (by omega)
    cases e0
  | some ad =>
    obtain ⟨g', rfl, _⟩ := hA _ rfl
    exact h g' c' w' hown ((Below.refl _ _).grown hgr (Nat.le_refl _) (fun k hk => by cases hk))
theorem own_any (w : World) (A : Option Addr) (n c : Nat) (ms : List (Int × Int)) (hm : Mks 97 w A n ms) (hn : n ≤ 1000000) (hA : A = none → c = 0) :
    Calls Try.prog 46 #[.slice A n c] w fun e w' => ∃ v', e = .returned v' ∧ w'.ownsRow w.heap.size 97 2 v' n (mkCells ms) ∧ Below w.heap.size w w' := by
  cases n with
  | zero =>
    obtain rfl : ms = [] := List.eq_nil_of_length_eq_zero hm.1
    clear hm
    cases A with
    | none =>
      obtain rfl : c = 0 := hA rfl
      clear hA
      obtain ⟨i, z, hi, hz, hsz, hby, hzs⟩ := ty_rmark.info
      have HZ := Lib.hid hz; have HS := Lib.hid hsz; have HY := Lib.hid hby; have HS2 := Lib.hid hzs; have HI := Lib.hid hi
      clear hz hsz hby hzs hi
      go_enter Try.func46, Try.ntmps46
      go_wp2_with (at_builtin; refine wpList_append_own_none rfl _ _ 57 rfl w.heap.size 97 i 2 ty_rmark.under HI.out (.slice none 0 0) 0 [] rfl (World.ownsRow_nil _ _ _ _) rfl ?_)
      go_ret
      exact ⟨_, rfl, World.ownsRow_nil _ _ _ _, Below.refl _ _⟩
    | some a =>
      clear hA
      obtain ⟨i, z, hi, hz, hsz, hby, hzs⟩ := ty_rmark.info
      have HZ := Lib.hid hz; have HS := Lib.hid hsz; have HY := Lib.hid hby; have HS2 := Lib.hid hzs; have HI := Lib.hid hi
      clear hz hsz hby hzs hi
      go_enter Try.func46, Try.ntmps46
      go_wp2_with (at_builtin; refine wpList_append_own _ rfl _ _ 57 rfl w.heap.size 97 i z 2 16 ty_rmark.under HI.out HZ.out HS.out HY.out HS2.out (by decide) (.slice none 0 0) 0 [] rfl (World.ownsRow_nil _ _ _ _) a 0 c [] rfl rfl (by simp) (by simp) (by decide) (by decide) (Nat.le_refl _) ?_; intro v' w' hown hgr hnil; have HO := Lib.hid hown; have HB : Hid (Below w.heap.size w w') := (Below.refl _ _).grown hgr (Nat.le_refl _) (fun k hk => by cases hk); clear hown hgr hnil)
      go_ret
      exact ⟨_, rfl, HO.out, HB.out⟩
  | succ n =>
    obtain ⟨g, rfl, hg, _⟩ := hm.at_ (k := 0) (by omega)
    have HM := Lib.hid hm
    clear hm hA
    go_enter Try.func46, Try.ntmps46
    go_wp2_with (at_builtin; refine list_own rfl _ _ rfl rfl g n c ms HM.out (by omega) rfl ?_; intro g' cap w' hown hb; have HO := Lib.hid hown; have HB := Lib.hid hb; clear hown hb)
    go_ret
    exact ⟨_, rfl, HO.out, HB.out⟩
end Go.Proofs.Ytjkbhdocpjekmaa
