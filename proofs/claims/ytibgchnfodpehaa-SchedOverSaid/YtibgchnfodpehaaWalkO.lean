/- The walk of SchedOwns. -/
import Derived.Test.YtibgchnfodpehaaWalkN
namespace Go.Proofs.Ytibgchnfodpehaa
open Go.RowKit
set_option linter.unusedVariables false

/-- What a slice of integers handed in reads as, up to its capacity. -/
def IsRow (k : IntKind) (W : World) (a : Option Addr) (len cap : Nat) (zs : List Int) : Prop :=
  (a = none ∧ len = 0 ∧ cap = 0 ∧ zs = []) ∨ ∃ x, a = some x ∧ len ≤ cap ∧ cap ≤ maxLen ∧ zs.length = cap ∧ (∀ i, i < zs.length → W.cell? (x.add i) = some (.int k (zs.getD i 0))) ∧ ∀ n ∈ zs, (Lit.int k n).wf = true
theorem isRow_len {k : IntKind} {W : World} {a : Option Addr} {len cap : Nat} {zs : List Int} (h : IsRow k W a len cap zs) : len ≤ cap ∧ cap ≤ maxLen := by
  rcases h with ⟨_, rfl, rfl, _⟩ | ⟨_, _, h1, h2, _⟩
  · exact ⟨Nat.le_refl _, by unfold maxLen; omega⟩
  · exact ⟨h1, h2⟩
theorem isRow_ints {W : World} {a : Option Addr} {len cap : Nat} {zs : List Int} (h : IsRow .i64 W a len cap zs) (m : Nat) (hm : m ≤ len) :
    Ints W W.heap.size a m (zs.take m) ∧ ∀ j, (zs.take m).getD j 0 < 9223372036854775808 := by
  rcases h with ⟨rfl, rfl, rfl, rfl⟩ | ⟨x, rfl, h1, h2, hl, hc, hw⟩
  · obtain rfl : m = 0 := by omega
    exact ⟨⟨rfl, fun h => absurd h (by omega)⟩, fun j => by simp⟩
  · refine ⟨⟨by rw [List.length_take]; omega, fun h0 => ?_⟩, fun j => ?_⟩
    · obtain ⟨b, off, sp⟩ := x
      have hc0 := hc 0 (by omega)
      have hlt : b < W.heap.size := by
        rcases Nat.lt_or_ge b W.heap.size with h | h
        · exact h
        · unfold World.cell? Addr.add at hc0; rw [if_pos rfl] at hc0; simp [Array.getElem?_eq_none h] at hc0
      have hsp : sp = none := by
        cases sp with
        | none => rfl
        | some y =>
          unfold World.cell? Addr.add at hc0; rw [if_pos rfl] at hc0
          dsimp only at hc0
          split at hc0 <;> simp at hc0
      subst hsp
      refine ⟨b, off, rfl, hlt, fun j hj => ?_⟩
      have := hc j (by omega)
      have e : (⟨b, off, none⟩ : Addr).add j = ⟨b, off + j, none⟩ := by unfold Addr.add; split <;> simp_all
      rw [e] at this
      rw [this, List.getD_eq_getElem?_getD, List.getD_eq_getElem?_getD, List.getElem?_take, if_pos hj]
    · by_cases hj : j < m
      · have hm' : zs.getD j 0 ∈ zs := by
          rw [List.getD_eq_getElem?_getD, List.getElem?_eq_getElem (by omega)]; exact List.getElem_mem _
        have hwf := hw _ hm'
        rw [List.getD_eq_getElem?_getD, List.getElem?_take, if_pos hj, ← List.getD_eq_getElem?_getD]
        simp only [Lit.wf, IntKind.min, IntKind.max, IntKind.signed, IntKind.bits, Bool.and_eq_true, decide_eq_true_eq, if_true] at hwf
        have := hwf.2
        omega
      · rw [List.getD_eq_getElem?_getD, List.getElem?_eq_none (by rw [List.length_take]; omega)]; simp
theorem tab_add1 {w w' w3 : World} {b D' : Nat} {v v' : Value} (h : b + 1 ≤ w.heap.size) (hw : Whole w' b 52 #[v]) (ha : Appended (w.alloc (.cells #[.int .i64 0, .slice none 0 0] 54)) (b + 1) 54 2 v 1 [.int .i64 0, .slice none 0 0] v' w') (h3 : Below (w'.setCell ⟨b, 0, none⟩ v').heap.size (w'.setCell ⟨b, 0, none⟩ v') w3) (hD : D' ≤ w3.heap.size) : TabAt w3 b D' l1 := by
  have hb' : (w'.setCell ⟨b, 0, none⟩ v').heap.size = w'.heap.size := by simp [World.setCell]
  have hg := ha.grows
  have hs := h3.size
  simp at hg
  refine ⟨⟨v', [nilV], (hw.put 0 v').below h3 (by omega), own_below (own_setCell ha.own (fun hh => by have := (ha.own.lt _ hh).1; simp at this; omega) _) h3 (Nat.le_refl _), rfl, fun j hj => ?_⟩, by decide, by omega, hD⟩
  obtain rfl : j = 0 := by simp [l1] at hj; omega
  exact ⟨World.ownsRow_nil _ _ _ _, by decide⟩
set_option maxHeartbeats 1000000 in
theorem add_new (w : World) (b : Nat) (h : TabAt w b b []) :
    Calls Try.prog 9 #[.pointer (some ⟨b, 0, none⟩)] w fun e w' => e = .returned (.tuple #[.int .i64 0, .int .i64 0]) ∧ (∀ D' w3, Below w'.heap.size w' w3 → D' ≤ w3.heap.size → TabAt w3 b D' l1) ∧ Fr 52 54 b w w' := by
  obtain ⟨A, c, us, hw, ho, hv, hc⟩ := h.form
  obtain rfl : us = [] := List.length_eq_zero_iff.1 hv.1
  have HT := Lib.hid h
  have HW := Lib.hid hw
  have HO := Lib.hid ho
  have HV := Lib.hid hv
  have c0 : w.cell? ⟨b, 0, none⟩ = some (.slice A 0 c) := hw.cell 0
  have c0f := hw.free 0
  clear h hw ho hv
  have c0b : ∀ o, (w.alloc o).cell? ⟨b, 0, none⟩ = some (.slice A 0 c) := fun o => (HW.out.alloc o).cell 0
  have HB := Lib.hid HT.out.size
  go_enter Try.func9, Try.ntmps9
  go_wp2_with (at_builtin; refine list_app ty_thr (v := .slice A 0 c) rfl _ _ rfl rfl (HO.out.alloc _) w.heap.size 1 [.int .i64 0, .slice none 0 0] rfl (Whole.made w 54 _) rfl (by simp [Value.oneCell']) (by decide) (by decide) (by decide) (by have := HB.out; simp; omega) ?_; intro gv cv w7 hap; have HA := Lib.hid (tab_add HT.out HW.out HV.out HO.out rfl (by decide) hap); have HA2 := Lib.hid (fun D' w3 h3 hD => tab_add1 (D' := D') (w3 := w3) HB.out HA.out.2.2 hap h3 hD); have z1 : w7.cell? ⟨b, 0, none⟩ = some (.slice A 0 c) := HA.out.2.2.cell 0; have z2 := HA.out.2.2.free 0; have z3 : (w7.setCell ⟨b, 0, none⟩ (.slice (some ⟨gv, 0, none⟩) (0 + 1) cv)).cell? ⟨b, 0, none⟩ = some (.slice (some ⟨gv, 0, none⟩) (0 + 1) cv) := (Whole.put HA.out.2.2 0 _).cell 0; clear hap)
  go_ret2
  exact ⟨rfl, HA2.out, HA.out.2.1⟩
theorem tab_put {w : World} {b D g i : Nat} {L : Tb} {cs : Array Value} {u : Value} (h : TabAt w b D L) (hg : Whole w g 3 cs) (hlt : g < D) : TabAt (w.setCell ⟨g, i, none⟩ u) b D L := by
  obtain ⟨v, us, hw, ho, hv⟩ := h.ex
  have hb' : (w.setCell ⟨g, i, none⟩ u).heap.size = w.heap.size := by simp [World.setCell]
  refine ⟨⟨v, us, hw.far (p := ⟨g, i, none⟩) (fun hh => ?_) u, own_setCell ho (own_whole_ne ho hg (by decide)) u, hv.1, fun j hj => ⟨own_setCell (hv.2 j hj).1 (fun hh => ?_) u, (hv.2 j hj).2⟩⟩, h.len, by rw [hb']; exact h.size, by rw [hb']; exact h.hD⟩
  · obtain rfl : b = g := hh
    unfold Whole at hw hg; rw [hw] at hg
    simp only [Option.some.injEq, Obj.cells.injEq] at hg
    exact absurd hg.2.1 (by decide)
  · have := ((hv.2 j hj).1.lt _ hh).1
    simp at this; omega
theorem owns_wake (vs : List Int) (v : Int) : wakeZ [⟨.waits, vs⟩] v = (if hasF vs v = true then [0] else []) ∧ readyL (wakeL [⟨.waits, vs⟩] v) = (if hasF vs v = true then [0] else []) := by
  have h1 : wakeZ [⟨.waits, vs⟩] v = (if hasF vs v = true then [0] else []) := by
    unfold wakeZ idxL wokeP
    cases h : hasF vs v <;> simp [List.range, List.range.loop, h]
  refine ⟨h1, ?_⟩
  unfold wakeL; rw [h1]
  cases h : hasF vs v <;> rfl
end Go.Proofs.Ytibgchnfodpehaa
