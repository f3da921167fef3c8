/- The walks of layer 3: what stands behind a backslash. -/
import Derived.Test.YtmocjhildphklaaWalkF
import Derived.Maps.Own
import Derived.Maps.OwnOps
import Derived.Maps.OwnSet
namespace Go.Proofs.Ytmocjhildphklaa
open Go.RowKit Go.Maps
set_option linter.unusedVariables false

theorem law5 : Keyed Try.prog 5 := int_keyed Try.underlying5
theorem zero5 (w : World) : (zeroValue 5).run Try.prog w = .ok (.int .u8 0) w := by kernel_rfl
/-- The map of signs, as data. -/
def signD : DataW Unit := (((DataW.map []).put (.int .u8 110) (.lit (.int .u8 10))).put (.int .u8 34) (.lit (.int .u8 34))).put (.int .u8 92) (.lit (.int .u8 92))
set_option maxHeartbeats 400000 in
theorem signs_own (w : World) :
    Calls Try.prog 30 #[] w fun e w' => e = .returned (.map (some w.heap.size)) ∧ w'.ownsMap Try.prog 5 (plainElem Try.prog 5) w.heap.size 3 signD ∧ Below w.heap.size w w' := by
  obtain ⟨w1, r1, h1, g1⟩ := (World.ownsMap_made w Try.prog 5 (plainElem (H := Unit) Try.prog 5)).update law5 Try.underlying47 (by unfold maxLen; omega) (key := .int .u8 110) (keyOf_int_mk Try.underlying5 (by decide)) (plainElem_int Try.underlying5 (a := 10) (by decide))
  obtain ⟨w2, r2, h2, g2⟩ := h1.update law5 Try.underlying47 (by unfold maxLen; omega) (key := .int .u8 34) (keyOf_int_mk Try.underlying5 (by decide)) (plainElem_int Try.underlying5 (a := 34) (by decide))
  obtain ⟨w3, r3, h3, g3⟩ := h2.update law5 Try.underlying47 (by unfold maxLen; omega) (key := .int .u8 92) (keyOf_int_mk Try.underlying5 (by decide)) (plainElem_int Try.underlying5 (a := 92) (by decide))
  have hmm := @run_makeMap Try.prog
  go_enter Try.func30, Try.ntmps30
  go_wp2
  go_ret
  have hb1 : Below w.heap.size w w1 := ((Below.refl _ _).alloc (Nat.le_refl _) _).grown g1 (by simp) (fun k hk => by cases hk; exact Nat.le_refl _)
  have hb2 := hb1.grown g2 hb1.size (fun k hk => by cases hk; exact Nat.le_refl _)
  have hb3 := hb2.grown g3 hb2.size (fun k hk => by cases hk; exact Nat.le_refl _)
  exact ⟨rfl, h3, hb3⟩
theorem signD_eq : signD = .map [(.int .u8 34, .lit (.int .u8 34)), (.int .u8 92, .lit (.int .u8 92)), (.int .u8 110, .lit (.int .u8 10))] := by kernel_rfl
theorem sign_look {w : World} {b n : Nat} (h : w.ownsMap Try.prog 5 (plainElem Try.prog 5) b n signD) (k : Int) (hk : (Lit.int .u8 k).wf = true) (x : Int) (t : Bool)
    (ha : signD.atKey (.int .u8 k) (.lit (.int .u8 0)) = .lit (.int .u8 x)) (hh : Maps.has signD (.int .u8 k) = t) :
    (Instr.lookup 47 (.map (some b)) (.int .u8 k) true).run Try.prog w = .ok (.tuple #[.int .u8 x, .bool t]) w := by
  obtain ⟨v, ps, hrun, hv⟩ := h.look_ok law5 Try.underlying47 (zero5 w) (plainElem_int Try.underlying5 (a := 0) (by decide)) (key := .int .u8 k) (keyOf_int_mk Try.underlying5 hk)
  obtain ⟨c, rfl, hc, _⟩ := plainElem_int_inv Try.underlying5 hv
  rw [ha] at hc
  simp at hc
  rw [hrun, hh, ← hc.1]
theorem sign_n : signD.atKey (.int .u8 110) (.lit (.int .u8 0)) = .lit (.int .u8 10) ∧ Maps.has signD (.int .u8 110) = true := ⟨by kernel_rfl, by kernel_rfl⟩
theorem sign_q : signD.atKey (.int .u8 34) (.lit (.int .u8 0)) = .lit (.int .u8 34) ∧ Maps.has signD (.int .u8 34) = true := ⟨by kernel_rfl, by kernel_rfl⟩
theorem sign_b : signD.atKey (.int .u8 92) (.lit (.int .u8 0)) = .lit (.int .u8 92) ∧ Maps.has signD (.int .u8 92) = true := ⟨by kernel_rfl, by kernel_rfl⟩
theorem sign_no (k : Int) (h1 : k ≠ 34) (h2 : k ≠ 92) (h3 : k ≠ 110) : signD.atKey (.int .u8 k) (.lit (.int .u8 0)) = .lit (.int .u8 0) ∧ Maps.has signD (.int .u8 k) = false := by
  rw [signD_eq]
  constructor
  · simp [DataW.atKey, Lit.sameKey, Ne.symm h1, Ne.symm h2, Ne.symm h3]
  · simp [Maps.has, Lit.sameKey, Ne.symm h1, Ne.symm h2, Ne.symm h3]
end Go.Proofs.Ytmocjhildphklaa
