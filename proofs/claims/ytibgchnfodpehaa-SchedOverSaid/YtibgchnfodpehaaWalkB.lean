/- The walks of layer 19: which threads there are of a kind. -/
import Derived.Test.YtibgchnfodpehaaWalkA
namespace Go.Proofs.Ytibgchnfodpehaa
open Go.RowKit
set_option linter.unusedVariables false
attribute [local go_sem ↓] Go.wp_at_zero Go.wp_at_succ

def hasF (zs : List Int) (v : Int) : Bool := zs.any fun x => decide (x = v)
theorem hasF_true {zs : List Int} {v : Int} {k : Nat} (hk : k < zs.length) (h : zs.getD k 0 = v) : hasF zs v = true := by
  unfold hasF
  rw [List.any_eq_true]
  refine ⟨zs.getD k 0, ?_, by simpa using h⟩
  rw [List.getD_eq_getElem?_getD, List.getElem?_eq_getElem hk]; exact List.getElem_mem hk
theorem hasF_false {zs : List Int} {v : Int} (h : ∀ j, j < zs.length → zs.getD j 0 ≠ v) : hasF zs v = false := by
  unfold hasF
  rw [List.any_eq_false]
  intro x hx
  obtain ⟨j, hj, rfl⟩ := List.getElem_of_mem hx
  have := h j hj
  rw [List.getD_eq_getElem?_getD, List.getElem?_eq_getElem hj] at this
  simpa using this
set_option maxHeartbeats 1000000 in
theorem index_any (w : World) (A : Option Addr) (n c : Nat) (zs : List Int) (v : Int) (hz : Ints w w.heap.size A n zs) (hn : n ≤ 1000) :
    Calls Try.prog 36 #[.slice A n c, .int .i64 v] w fun e w' => ∃ r, e = .returned (.int .i64 r) ∧ (decide (0 ≤ r) = hasF zs v) ∧ w = w' := by
  have HZ := Lib.hid hz
  have HL := Lib.hid hz.1
  clear hz
  go_enter Try.func36, Try.ntmps36
  go_wp2
  go_loopw [5, 8] (fun _ i wr => ∃ k : Nat, i = .int .i64 (k : Int) ∧ k ≤ n ∧ (∀ j, j < k → zs.getD j 0 ≠ v) ∧ w = wr) (fun _ i _ => n - (intOf i).toNat)
  case atStart => exact ⟨0, rfl, by omega, fun j hj => absurd hj (by omega), rfl⟩
  case round =>
    obtain ⟨k, rfl, hk, hp, rfl⟩ := hrel
    have HP := Lib.hid hp
    clear hp
    by_cases hlt : k < n
    · obtain ⟨b, off, e1, _, c1⟩ := HZ.out.at_ hlt
      subst e1
      by_cases hq : v = zs.getD k 0
      · have H2 := Lib.hid (hasF_true (by rw [HL.out]; exact hlt) hq.symm)
        rw [← hq] at c1
        clear hq
        go_wp2
        go_ret
        exact ⟨_, rfl, by rw [H2.out]; simp, rfl⟩
      · have H2 : Hid (∀ j, j < k + 1 → zs.getD j 0 ≠ v) := fun j hj => by
          rcases Nat.lt_or_ge j k with h | h
          · exact HP.out j h
          · rw [show j = k from by omega]; exact fun h => hq h.symm
        generalize zs.getD k 0 = q at *
        go_wp2
        exact ⟨⟨k + 1, by go_num, by omega, H2.out, by trivial⟩, by simp [intOf]; omega⟩
    · have H2 := Lib.hid (hasF_false (zs := zs) (v := v) (fun j hj => HP.out j (by rw [HL.out] at hj; omega)))
      go_wp2
      go_ret
      exact ⟨_, rfl, by rw [H2.out]; rfl, rfl⟩
theorem contains_any (w : World) (A : Option Addr) (n c : Nat) (zs : List Int) (v : Int) (hz : Ints w w.heap.size A n zs) (hn : n ≤ 1000) :
    Calls Try.prog 30 #[.slice A n c, .int .i64 v] w fun e w' => e = .returned (.bool (hasF zs v)) ∧ w = w' := by
  have HZ := Lib.hid hz
  clear hz
  go_enter Try.func30, Try.ntmps30
  go_wp2_with fail
  refine (index_any w A n c zs v HZ.out hn).mono ?_
  rintro e w' ⟨r, rfl, hr, rfl⟩
  have H2 := Lib.hid hr
  clear hr
  go_wp2
  go_ret
  refine ⟨ret_b H2.out, ?_⟩
  first | rfl | trivial
theorem isReady_any (w : World) (k : Kd) (A : Option Addr) (n c : Nat) :
    Calls Try.prog 31 #[.agg #[.int .i64 (kN k), .slice A n c]] w fun e w' => e = .returned (.bool (decide (k = .ready))) ∧ Below w.heap.size w w' := by
  have hb : Below w.heap.size w (w.alloc (.cells #[.int .i64 (kN k), .slice A n c] 54)) := (Below.refl _ _).alloc (Nat.le_refl _) _
  cases k <;> unfold kN at * <;> dsimp only at *
  all_goals
    go_enter Try.func31, Try.ntmps31
    go_wp2_with fail
    go_ret
    exact ⟨ret_b (by decide), hb⟩
theorem isWaits_any (w : World) (k : Kd) (A : Option Addr) (n c : Nat) :
    Calls Try.prog 35 #[.agg #[.int .i64 (kN k), .slice A n c]] w fun e w' => e = .returned (.bool (decide (k = .waits))) ∧ Below w.heap.size w w' := by
  have hb : Below w.heap.size w (w.alloc (.cells #[.int .i64 (kN k), .slice A n c] 54)) := (Below.refl _ _).alloc (Nat.le_refl _) _
  cases k <;> unfold kN at * <;> dsimp only at *
  all_goals
    go_enter Try.func35, Try.ntmps35
    go_wp2_with fail
    go_ret
    exact ⟨ret_b (by decide), hb⟩
def wokeP (v : Int) (x : Thr) : Bool := decide (x.k = .waits) && hasF x.vars v
set_option maxHeartbeats 1000000 in
theorem wakes_any (w : World) (x : Thr) (A : Option Addr) (n c p : Nat) (v : Int) (hz : Ints w w.heap.size A n x.vars) (hn : n ≤ 1000) (hp : w.cell? ⟨p, 0, none⟩ = some (.int .i64 v)) :
    Calls Try.prog 29 #[.agg #[.int .i64 (kN x.k), .slice A n c], .pointer (some ⟨p, 0, none⟩)] w fun e w' => e = .returned (.bool (wokeP v x)) ∧ Below w.heap.size w w' := by
  obtain ⟨k, vars⟩ := x
  have HZ := Lib.hid hz
  have hb : Below w.heap.size w (w.alloc (.cells #[.int .i64 (kN k), .slice A n c] 54)) := (Below.refl _ _).alloc (Nat.le_refl _) _
  have HB := Lib.hid hb
  have hlt := World.block_lt_of_cell? w _ hp
  have hp1 : (w.alloc (.cells #[.int .i64 (kN k), .slice A n c] 54)).cell? ⟨p, 0, none⟩ = some (.int .i64 v) := (hb.cell (p := ⟨p, 0, none⟩) hlt).trans hp
  clear hz hb hlt
  unfold wokeP
  dsimp only
  cases k <;> unfold kN at * <;> dsimp only at *
  · go_enter Try.func29, Try.ntmps29
    go_wp2_with fail
    go_ret
    exact ⟨ret_b rfl, HB.out⟩
  · go_enter Try.func29, Try.ntmps29
    go_wp2_with fail
    refine (contains_any _ A n c vars v ((HZ.out.below HB.out).more HB.out.size) hn).mono ?_
    rintro e w' ⟨rfl, rfl⟩
    go_wp2_with fail
    go_ret
    exact ⟨ret_b (by simp), HB.out⟩
  · go_enter Try.func29, Try.ntmps29
    go_wp2_with fail
    go_ret
    exact ⟨ret_b rfl, HB.out⟩
/-- The numbers of the threads of which something is so. -/
def idxL (P : Thr → Bool) (L : Tb) (m : Nat) : List Int := ((List.range m).filter fun i => P (L.getD i thr0)).map fun (i : Nat) => (i : Int)
theorem idxL_succ (P : Thr → Bool) (L : Tb) (m : Nat) : idxL P L (m + 1) = idxL P L m ++ (if P (L.getD m thr0) = true then [(m : Int)] else []) := by
  unfold idxL
  rw [List.range_succ, List.filter_append, List.map_append]
  congr 1
  by_cases h : P (L.getD m thr0) = true
  · rw [if_pos h]; simp only [List.filter_cons, h, if_true, List.filter_nil]; rfl
  · rw [if_neg h]; simp only [List.filter_cons, h, if_false, List.filter_nil, Bool.false_eq_true]; rfl
def readyP (x : Thr) : Bool := decide (x.k = .ready)
set_option maxHeartbeats 1000000 in
theorem of_ready (w : World) (b D : Nat) (L : Tb) (h : TabAt w b D L) :
    Calls Try.prog 28 #[.pointer (some ⟨b, 0, none⟩), .func (.func 31) #[] #[]] w fun e w' => ∃ A n c, e = .returned (.slice A n c) ∧ w'.ownsRow w.heap.size 3 1 (.slice A n c) n ((idxL (readyP) L L.length).map (Value.int .i64)) ∧ Below w.heap.size w w' := by
  obtain ⟨A, c, us, hw, ho, hv, hc⟩ := h.form
  have hl := h.len
  have HO := Lib.hid ho
  have HV := Lib.hid hv
  have c0 : w.cell? ⟨b, 0, none⟩ = some (.slice A L.length c) := hw.cell 0
  clear h hw ho hv
  obtain ⟨q, hq⟩ : ∃ q, q = L.length := ⟨_, rfl⟩
  have HQ := Lib.hid hq
  rw [← hq] at c0 hl
  rw [← HQ.out] at HO ⊢
  clear hq
  go_enter Try.func28, Try.ntmps28
  go_wp2_with fail
  go_loopw [13, 5, 6, 7] (fun i o _ _ wr => ∃ k n, i = .int .i64 (k : Nat) ∧ k ≤ q ∧ wr.ownsRow w.heap.size 3 1 o n ((idxL (readyP) L k).map (Value.int .i64)) ∧ n ≤ k ∧ Below w.heap.size w wr) (fun i _ _ _ _ => q - (intOf i).toNat)
  case atStart => exact ⟨0, 0, rfl, by omega, World.ownsRow_nil _ _ _ _, by omega, Below.refl _ _⟩
  case round =>
    obtain ⟨k, n, rfl, hk, hown, hnk, hb⟩ := hrel
    have HN := Lib.hid hown
    have HB := Lib.hid hb
    have HIX := Lib.hid (idxL_succ (readyP) L k)
    clear hown hb
    by_cases hlt : k < q
    · obtain ⟨g, rfl, _, hgl, x0, x1, _⟩ := tab_cells (k := k) HO.out HV.out.1 HQ.out hlt
      obtain ⟨A2, c2, ev, hI⟩ := vars_at (k := k) HV.out (by rw [← HQ.out]; exact hlt)
      have HV12 := Lib.hid (HV.out.2 k (by rw [← HQ.out]; exact hlt)).2
      rw [ev] at x1
      replace x0 := (HB.out.cell (p := ⟨g, _, none⟩) hgl).trans x0
      replace x1 := (HB.out.cell (p := ⟨g, _, none⟩) hgl).trans x1
      have HI := Lib.hid ((hI.below HB.out).more HB.out.size)
      clear ev hI
      generalize L.getD k thr0 = x at *
      go_wp2_with fail
      refine (isReady_any _ x.k A2 x.vars.length c2).mono ?_
      rintro e w1 ⟨rfl, hb1⟩
      rw [show decide (x.k = Kd.ready) = readyP x from rfl]
      have HN1 := Lib.hid (own_below (HN.out.alloc (.cells #[.int .i64 (kN x.k), .slice A2 x.vars.length c2] 54)) hb1 (Nat.le_refl _))
      have HB1 := Lib.hid ((HB.out.alloc HB.out.size (.cells #[.int .i64 (kN x.k), .slice A2 x.vars.length c2] 54)).trans (hb1.mono (by have := HB.out.size; simp; omega)))
      clear hb1 HN x0 x1
      by_cases hP : (readyP x) = true
      · rw [hP]
        rw [if_pos hP] at HIX
        clear hP
        go_wp2_with (at_builtin; refine list_app ty_ints (v := u5) rfl _ _ rfl rfl (HN1.out.alloc _) w1.heap.size 1 [.int .i64 (k : Int)] rfl (Whole.made w1 3 _) rfl (by simp [Value.oneCell']) (by decide) (by omega) (by decide) (by have := HB1.out.size; simp; omega) ?_; intro gv cv w7 hap; have HA := Lib.hid hap.own; have HB7 := Lib.hid (hap.below (HN1.out.alloc _) (HB1.out.alloc HB1.out.size _) (Nat.le_refl _) (by have := HB1.out.size; simp; omega)); clear hap)
        exact ⟨⟨k + 1, n + 1, by go_num, by omega, by rw [HIX.out, List.map_append]; exact HA.out, by omega, HB7.out⟩, by simp [intOf]; omega⟩
      · rw [Bool.not_eq_true] at hP
        rw [hP]
        rw [hP, if_neg (by decide), List.append_nil] at HIX
        clear hP
        go_wp2_with fail
        exact ⟨⟨k + 1, n, by go_num, by omega, by rw [HIX.out]; exact HN1.out, by omega, HB1.out⟩, by simp [intOf]; omega⟩
    · obtain rfl : k = q := by omega
      obtain ⟨A3, c3, rfl, _⟩ := own_form HN.out
      go_wp2_with fail
      go_ret
      exact ⟨A3, n, c3, rfl, HN.out, HB.out⟩
set_option maxHeartbeats 1000000 in
theorem of_wakes (w : World) (b D : Nat) (v : Int) (p : Nat) (hp : w.cell? ⟨p, 0, none⟩ = some (.int .i64 v)) (L : Tb) (h : TabAt w b D L) :
    Calls Try.prog 28 #[.pointer (some ⟨b, 0, none⟩), .func (.func 29) #[] #[.pointer (some ⟨p, 0, none⟩)]] w fun e w' => ∃ A n c, e = .returned (.slice A n c) ∧ w'.ownsRow w.heap.size 3 1 (.slice A n c) n ((idxL (wokeP v) L L.length).map (Value.int .i64)) ∧ Below w.heap.size w w' := by
  obtain ⟨A, c, us, hw, ho, hv, hc⟩ := h.form
  have hl := h.len
  have HP := Lib.hid hp
  clear hp
  have HO := Lib.hid ho
  have HV := Lib.hid hv
  have c0 : w.cell? ⟨b, 0, none⟩ = some (.slice A L.length c) := hw.cell 0
  clear h hw ho hv
  obtain ⟨q, hq⟩ : ∃ q, q = L.length := ⟨_, rfl⟩
  have HQ := Lib.hid hq
  rw [← hq] at c0 hl
  rw [← HQ.out] at HO ⊢
  clear hq
  go_enter Try.func28, Try.ntmps28
  go_wp2_with fail
  go_loopw [13, 5, 6, 7] (fun i o _ _ wr => ∃ k n, i = .int .i64 (k : Nat) ∧ k ≤ q ∧ wr.ownsRow w.heap.size 3 1 o n ((idxL (wokeP v) L k).map (Value.int .i64)) ∧ n ≤ k ∧ Below w.heap.size w wr) (fun i _ _ _ _ => q - (intOf i).toNat)
  case atStart => exact ⟨0, 0, rfl, by omega, World.ownsRow_nil _ _ _ _, by omega, Below.refl _ _⟩
  case round =>
    obtain ⟨k, n, rfl, hk, hown, hnk, hb⟩ := hrel
    have HN := Lib.hid hown
    have HB := Lib.hid hb
    have HIX := Lib.hid (idxL_succ (wokeP v) L k)
    clear hown hb
    by_cases hlt : k < q
    · obtain ⟨g, rfl, _, hgl, x0, x1, _⟩ := tab_cells (k := k) HO.out HV.out.1 HQ.out hlt
      obtain ⟨A2, c2, ev, hI⟩ := vars_at (k := k) HV.out (by rw [← HQ.out]; exact hlt)
      have HV12 := Lib.hid (HV.out.2 k (by rw [← HQ.out]; exact hlt)).2
      rw [ev] at x1
      replace x0 := (HB.out.cell (p := ⟨g, _, none⟩) hgl).trans x0
      replace x1 := (HB.out.cell (p := ⟨g, _, none⟩) hgl).trans x1
      have HI := Lib.hid ((hI.below HB.out).more HB.out.size)
      clear ev hI
      generalize L.getD k thr0 = x at *
      have HPC : Hid ((wr.alloc (.cells #[.int .i64 (kN x.k), .slice A2 x.vars.length c2] 54)).cell? ⟨p, 0, none⟩ = some (.int .i64 v)) := ((HB.out.alloc HB.out.size _).cell (p := ⟨p, 0, none⟩) (World.block_lt_of_cell? w _ HP.out)).trans HP.out
      go_wp2_with fail
      refine (wakes_any _ x A2 x.vars.length c2 p v (HI.out.below ((Below.refl _ _).alloc (Nat.le_refl _) _) |>.more (by simp)) (by have := HV12.out; omega) HPC.out).mono ?_
      rintro e w1 ⟨rfl, hb1⟩
      have HN1 := Lib.hid (own_below (HN.out.alloc (.cells #[.int .i64 (kN x.k), .slice A2 x.vars.length c2] 54)) hb1 (Nat.le_refl _))
      have HB1 := Lib.hid ((HB.out.alloc HB.out.size (.cells #[.int .i64 (kN x.k), .slice A2 x.vars.length c2] 54)).trans (hb1.mono (by have := HB.out.size; simp; omega)))
      clear hb1 HN x0 x1
      by_cases hP : (wokeP v x) = true
      · rw [hP]
        rw [if_pos hP] at HIX
        clear hP
        go_wp2_with (at_builtin; refine list_app ty_ints (v := u5) rfl _ _ rfl rfl (HN1.out.alloc _) w1.heap.size 1 [.int .i64 (k : Int)] rfl (Whole.made w1 3 _) rfl (by simp [Value.oneCell']) (by decide) (by omega) (by decide) (by have := HB1.out.size; simp; omega) ?_; intro gv cv w7 hap; have HA := Lib.hid hap.own; have HB7 := Lib.hid (hap.below (HN1.out.alloc _) (HB1.out.alloc HB1.out.size _) (Nat.le_refl _) (by have := HB1.out.size; simp; omega)); clear hap)
        exact ⟨⟨k + 1, n + 1, by go_num, by omega, by rw [HIX.out, List.map_append]; exact HA.out, by omega, HB7.out⟩, by simp [intOf]; omega⟩
      · rw [Bool.not_eq_true] at hP
        rw [hP]
        rw [hP, if_neg (by decide), List.append_nil] at HIX
        clear hP
        go_wp2_with fail
        exact ⟨⟨k + 1, n, by go_num, by omega, by rw [HIX.out]; exact HN1.out, by omega, HB1.out⟩, by simp [intOf]; omega⟩
    · obtain rfl : k = q := by omega
      obtain ⟨A3, c3, rfl, _⟩ := own_form HN.out
      go_wp2_with fail
      go_ret
      exact ⟨A3, n, c3, rfl, HN.out, HB.out⟩
end Go.Proofs.Ytibgchnfodpehaa
