/- Memory of a collection: a map of places. -/
import Derived.Test.YtcbehllfljjngaaHWalkE
namespace Go.Proofs.Ytcbehllfljjngaa
open Go.RowKit Go.Maps Go.ChangeMaps
set_option linter.unusedVariables false

theorem zero3 (w : World) : (zeroValue 3).run Try.prog w = .ok (.int .i64 0) w := by kernel_rfl
theorem int_inv {v : Value} {x : Int} {ps : List MemPlace} (h : plainElem (H := Unit) Try.prog 3 v = some (.lit (.int .i64 x), ps)) : v = .int .i64 x := by
  obtain ⟨a, rfl, e, _⟩ := plainElem_int_inv Try.underlying3 h
  simp at e
  rw [e.1]
/-- Block b is a map of integers, of at most n, whose answers are f's. -/
def NowAt (w : World) (b n : Nat) (f : Int → Int) : Prop :=
  ∃ D : DataW Unit, w.ownsMap Try.prog 3 (plainElem Try.prog 3) b n D ∧ ∀ z, (Lit.int .i64 z).wf = true → D.atKey (.int .i64 z) (.lit (.int .i64 0)) = .lit (.int .i64 (f z))
theorem NowAt.made (w : World) : NowAt (w.alloc (.map #[] 0)) w.heap.size 0 (fun _ => 0) := ⟨_, World.ownsMap_made w _ _ _, fun z hz => rfl⟩
theorem NowAt.ask {w : World} {b n : Nat} {f : Int → Int} (h : NowAt w b n f) {z : Int} (hz : (Lit.int .i64 z).wf = true) : (Instr.lookup 91 (.map (some b)) (.int .i64 z) false).run Try.prog w = .ok (.int .i64 (f z)) w := by
  obtain ⟨D, hm, hD⟩ := h
  obtain ⟨v, ps, hrun, hv⟩ := hm.lookup keyed3 Try.underlying91 (zero3 w) (plainElem_int Try.underlying3 (by decide)) (keyOf_int_mk Try.underlying3 hz)
  rw [hD z hz] at hv
  rw [hrun, int_inv hv]
theorem NowAt.lt {w : World} {b n : Nat} {f : Int → Int} (h : NowAt w b n f) : b < w.heap.size := by
  obtain ⟨D, hm, _⟩ := h
  exact hm.lt
theorem NowAt.put {w : World} {b n : Nat} {f : Int → Int} (h : NowAt w b n f) (hn : n < 1000000) {z x : Int} (hz : (Lit.int .i64 z).wf = true) (hx : (Lit.int .i64 x).wf = true) : ∃ w', (Instr.mapUpdate 91 (.map (some b)) (.int .i64 z) (.int .i64 x)).run Try.prog w = .ok () w' ∧ NowAt w' b (n + 1) (fun y => if y = z then x else f y) ∧ w.grownBy w' (some b) := by
  obtain ⟨D, hm, hD⟩ := h
  obtain ⟨w', hrun, hm', hg⟩ := hm.update keyed3 Try.underlying91 (by unfold maxLen; omega) (keyOf_int_mk Try.underlying3 hz) (plainElem_int Try.underlying3 hx)
  refine ⟨w', hrun, ⟨_, hm', fun y hy => ?_⟩, hg⟩
  by_cases e : y = z
  · subst e
    rw [atKey_put_same hm.isMap (by simp [WideAt.IsKeyLit])]
    simp
  · rw [atKey_put_other (fun h => e (by simpa using h)), hD y hy]; dsimp only; rw [if_neg e]
theorem NowAt.same {w w' : World} {b n : Nat} {f : Int → Int} (h : NowAt w b n f) (hb : w'.heap[b]? = w.heap[b]?) : NowAt w' b n f := by
  obtain ⟨D, ⟨es, clock, hh, F, hs, hD⟩, hk⟩ := h
  exact ⟨D, ⟨es, clock, hb.trans hh, F, hs, hD⟩, hk⟩
end Go.Proofs.Ytcbehllfljjngaa
