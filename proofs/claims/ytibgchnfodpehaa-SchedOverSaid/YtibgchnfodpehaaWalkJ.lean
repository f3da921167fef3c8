/- The walks of layer 19: the document's table: Wake. -/
import Derived.Test.YtibgchnfodpehaaWalkI
namespace Go.Proofs.Ytibgchnfodpehaa
open Go.RowKit
set_option linter.unusedVariables false
attribute [local go_sem ↓] Go.wp_at_zero Go.wp_at_succ

theorem setAll_get (P : Thr → Bool) (L : Tb) (j : Nat) : ∀ k, k ≤ j → (setAll (idxL P L k) L).getD j thr0 = L.getD j thr0
  | 0, _ => rfl
  | k + 1, h => by
    rw [idxL_succ]
    split
    · rw [setAll_snoc]
      have ih := setAll_get P L j k (by omega)
      rw [← ih]
      simp only [List.getD_eq_getElem?_getD]
      rw [List.getElem?_set_ne (by show k ≠ j; omega)]
    · rw [List.append_nil]; exact setAll_get P L j k (by omega)
theorem hasF_snoc (zs : List Int) (z v : Int) : hasF (zs ++ [z]) v = (hasF zs v || decide (z = v)) := by
  unfold hasF; rw [List.any_append]; simp
theorem Fr.appNew {p q : TypeId} {b : Nat} {w w1 w' : World} (h : Fr p q b w w1) {base size n n0 : Nat} {e : TypeId} {v v' : Value} {xs xs0 : List Value} (ha : Appended w1 base e size v n xs v' w') (ho : w1.ownsRow base e size v n0 xs0) (hw : w.heap.size ≤ base) (hb : b ≤ base) (hs : base ≤ w1.heap.size) : Fr p q b w w' :=
  ⟨fun g cs t h1 h2 h3 => ha.far (h.kt g cs t h1 h2 h3) (fun hh => by have := (ho.lt _ hh).1; have := h3.lt; omega), ha.below ho h.below hb hs⟩
/-- The document's table under way: what its threads wait for lay there at the start. -/
structure RabIn (w : World) (b D : Nat) (M : Tb) (wr : World) : Prop where
  ex : ∃ v us, Whole wr b 38 #[v] ∧ wr.ownsRow (b + 1) 59 3 v M.length (rCells M us) ∧ VarsOwn w D M us
  fr : Fr 38 59 b w wr
  len : M.length ≤ 8
  size : b + 1 ≤ w.heap.size
  hD : D ≤ w.heap.size
theorem RabIn.tab {w wr : World} {b D : Nat} {M : Tb} (h : RabIn w b D M wr) : RabAt wr b D M := by
  obtain ⟨v, us, hw, ho, hv⟩ := h.ex
  exact ⟨⟨v, us, hw, ho, hv.1, fun i hi => ⟨h.fr.kt.own (hv.2 i hi).1 (by decide) (by decide), (hv.2 i hi).2⟩⟩, h.len, Nat.le_trans h.size h.fr.below.size, Nat.le_trans h.hD h.fr.below.size⟩
theorem RabIn.start {w : World} {b D : Nat} {M : Tb} (h : RabAt w b D M) : RabIn w b D M w := ⟨h.ex, Fr.refl _ _ _ _, h.len, h.size, h.hD⟩
theorem RabIn.alloc {w wr : World} {b D : Nat} {M : Tb} (h : RabIn w b D M wr) (o : Obj) : RabIn w b D M (wr.alloc o) := by
  obtain ⟨v, us, hw, ho, hv⟩ := h.ex
  exact ⟨⟨v, us, hw.alloc _, ho.alloc _, hv⟩, h.fr.later ((Below.refl _ _).alloc (Nat.le_refl _) _) (by have := h.size; have := h.fr.below.size; omega), h.len, h.size, h.hD⟩
theorem RabIn.app {w wr w' : World} {b D : Nat} {M : Tb} (h : RabIn w b D M wr) {n n0 : Nat} {v v' : Value} {xs xs0 : List Value} (ha : Appended wr w.heap.size 3 1 v n xs v' w') (ho : wr.ownsRow w.heap.size 3 1 v n0 xs0) : RabIn w b D M w' := by
  obtain ⟨u, us, hw, hr, hv⟩ := h.ex
  have hs := h.size
  exact ⟨⟨u, us, ha.stays ho hw (by decide), ha.other hr (own_ne_type ho hr (by decide)), hv⟩, h.fr.appNew ha ho (Nat.le_refl _) (by omega) h.fr.below.size, h.len, h.size, h.hD⟩
theorem RabIn.form {w wr : World} {b D : Nat} {M : Tb} (h : RabIn w b D M wr) {k : Nat} (hk : k < M.length) : ∃ g c us, Whole wr b 38 #[.slice (some ⟨g, 0, none⟩) M.length c] ∧ (us : List Value).length = M.length ∧ VarsOwn w D M us ∧ wr.cell? ⟨g, k * 3, none⟩ = some (.bool (isOver (M.getD k thr0).k)) ∧ wr.cell? ⟨g, k * 3 + 1, none⟩ = some (.bool (isWaits (M.getD k thr0).k)) ∧ wr.cell? ⟨g, k * 3 + 2, none⟩ = some (us.getD k nilV) ∧ (∀ i, wr.frozen? ⟨g, i, none⟩ = false) ∧
    RabIn w b D (M.set k thr0) (((wr.setCell ⟨g, k * 3, none⟩ (.bool false)).setCell ⟨g, k * 3 + 1, none⟩ (.bool false)).setCell ⟨g, k * 3 + 2, none⟩ (.slice none 0 0)) ∧
    Fr 38 59 b wr (((wr.setCell ⟨g, k * 3, none⟩ (.bool false)).setCell ⟨g, k * 3 + 1, none⟩ (.bool false)).setCell ⟨g, k * 3 + 2, none⟩ (.slice none 0 0)) := by
  obtain ⟨v, us, hw, ho, hv⟩ := h.ex
  obtain ⟨A, c, rfl, _⟩ := own_form ho
  obtain ⟨g, rfl, hbg, hg, x0, x1, x2, hf⟩ := rab_cells (k := k) ho hv.1 rfl hk
  have hS := rab_set (x := thr0) (u := .slice none 0 0) h.tab hw ho ⟨hv.1, fun i hi => ⟨h.fr.kt.own (hv.2 i hi).1 (by decide) (by decide), (hv.2 i hi).2⟩⟩ rfl hk (World.ownsRow_nil _ _ _ _) (by decide)
  have h1 := own_put ho (k * 3) (by omega) (.bool (isOver thr0.k))
  have h2 := own_put h1 (k * 3 + 1) (by omega) (.bool (isWaits thr0.k))
  have h3 := own_put h2 (k * 3 + 2) (by omega) (.slice none 0 0)
  refine ⟨g, c, us, hw, hv.1, hv, x0, x1, x2, hf, ⟨⟨_, us.set k (.slice none 0 0), ((hw.far (p := ⟨g, k * 3, none⟩) (by show b ≠ g; omega) _).far (p := ⟨g, k * 3 + 1, none⟩) (by show b ≠ g; omega) _).far (p := ⟨g, k * 3 + 2, none⟩) (by show b ≠ g; omega) _, ?_, hv.set hk (World.ownsRow_nil _ _ _ _) (by decide) (fun h => h)⟩, h.fr.trans hS.2, by rw [List.length_set]; exact h.len, h.size, h.hD⟩, hS.2⟩
  rw [rCells_set _ _ _ _ _ hv.1 hk, List.length_set]
  exact h3
set_option maxHeartbeats 2000000 in
theorem rwake_any (w : World) (b D : Nat) (L : Tb) (v : Int) (h : RabAt w b D L) :
    Calls Try.prog 25 #[.pointer (some ⟨b, 0, none⟩), .int .i64 v] w fun e w' => ∃ A n c, e = .returned (.slice A n c) ∧ w'.ownsRow w.heap.size 3 1 (.slice A n c) n ((wakeZ L v).map (Value.int .i64)) ∧ RabAt w' b D (wakeL L v) ∧ Fr 38 59 b w w' := by
  have HT := Lib.hid h
  have hl := h.len
  clear h
  obtain ⟨q, hq⟩ : ∃ q, q = L.length := ⟨_, rfl⟩
  have HQ := Lib.hid hq
  rw [← hq] at hl
  clear hq
  have HWL : Hid (wakeL L v = setAll (idxL (wokeP v) L q) L ∧ wakeZ L v = idxL (wokeP v) L q) := by show _ ∧ _; rw [HQ.out]; exact ⟨rfl, rfl⟩
  go_enter Try.func25, Try.ntmps25
  go_wp2_with fail
  go_loopw [6, 5, 7, 8] (fun i o _ _ wr => ∃ k n, i = .int .i64 (k : Nat) ∧ k ≤ q ∧ wr.ownsRow w.heap.size 3 1 o n ((idxL (wokeP v) L k).map (Value.int .i64)) ∧ n ≤ k ∧ RabIn w b D (setAll (idxL (wokeP v) L k) L) wr) (fun i _ _ _ _ => q - (intOf i).toNat)
  case atStart => exact ⟨0, 0, rfl, by omega, World.ownsRow_nil _ _ _ _, by omega, RabIn.start HT.out⟩
  case round =>
    obtain ⟨k, n, rfl, hk, hown, hnk, ht⟩ := hrel
    have HN := Lib.hid hown
    have HT1 := Lib.hid ht
    have HIX := Lib.hid (idxL_succ (wokeP v) L k)
    have HML := Lib.hid (setAll_len (idxL (wokeP v) L k) L)
    have HGET := Lib.hid (setAll_get (wokeP v) L k k (Nat.le_refl _))
    have HSN := Lib.hid (fun z => setAll_snoc (idxL (wokeP v) L k) z L)
    clear hown ht HT
    generalize hM : setAll (idxL (wokeP v) L k) L = M at *
    have HM := Lib.hid hM
    clear hM
    have hMq : M.length = q := by rw [HML.out, HQ.out]
    by_cases hlt : k < q
    · obtain ⟨g, c, us, hw, hul, hv, x0, x1, x2, hf, hS1, hS2⟩ := HT1.out.form (k := k) (by omega)
      have HSE := Lib.hid (And.intro hS1 hS2)
      rw [HGET.out] at x0 x1
      obtain ⟨A2, c2, ev, hI⟩ := vars_at (k := k) (w := wr) ⟨hv.1, fun i hi => ⟨HT1.out.fr.kt.own (hv.2 i hi).1 (by decide) (by decide), (hv.2 i hi).2⟩⟩ (by omega)
      have hvl := (hv.2 k (by omega)).2
      rw [ev] at x2
      rw [HGET.out] at x2 hI hvl
      have c0 : wr.cell? ⟨b, 0, none⟩ = some (.slice (some ⟨g, 0, none⟩) M.length c) := hw.cell 0
      have f0 := hf (k * 3)
      have f1 := hf (k * 3 + 1)
      have f2 := hf (k * 3 + 2)
      rw [hMq] at c0
      have HI := Lib.hid hI
      have HIL := Lib.hid hI.1
      have HWD : Hid (wokeP v (L.getD k thr0) = (isWaits (L.getD k thr0).k && hasF (L.getD k thr0).vars v)) := rfl
      clear hw hul hv hf ev hI hMq HGET hS1 hS2
      generalize wokeP v (L.getD k thr0) = wp at *
      generalize isOver (L.getD k thr0).k = p at *
      generalize isWaits (L.getD k thr0).k = r at *
      generalize (L.getD k thr0).vars = zs at *
      obtain ⟨vn, hvn⟩ : ∃ vn, vn = zs.length := ⟨_, rfl⟩
      have HVN := Lib.hid hvn
      rw [← hvn] at x2 hvl
      rw [← HVN.out] at HI
      clear hvn
      obtain ⟨wo, rfl⟩ : ∃ wo : World, wo = wr := ⟨_, rfl⟩
      go_wp2_with fail
      go_loopw [8, 7] (fun i o wi => ∃ j, i = .int .i64 (j : Nat) ∧ j ≤ vn ∧ o = .bool (hasF (zs.take j) v) ∧ wo = wi) (fun i _ _ => vn - (intOf i).toNat)
      case atStart => exact ⟨0, rfl, by omega, rfl, rfl⟩
      case round =>
        obtain ⟨j, rfl, hj, rfl, rfl⟩ := hrel
        by_cases hlj : j < vn
        · obtain ⟨b2, off, e2, _, y0⟩ := HI.out.at_ hlj
          subst e2
          have HHS : Hid (hasF (zs.take (j + 1)) v = (hasF (zs.take j) v || decide (zs.getD j 0 = v))) := by
            show _ = _
            rw [take_snoc' (by rw [← HVN.out]; exact hlj), hasF_snoc]
          generalize hasF (zs.take j) v = hh at *
          generalize zs.getD j 0 = z at *
          rcases hh with _ | _
          · by_cases hzv : z = v
            · subst hzv
              go_wp2_with fail
              exact ⟨⟨j + 1, by go_num, by omega, by rw [HHS.out]; simp, by trivial⟩, by simp [intOf]; omega⟩
            · have hd : decide (z = v) = false := decide_eq_false hzv
              rw [hd] at HHS
              go_wp2_with fail
              exact ⟨⟨j + 1, by go_num, by omega, by rw [HHS.out]; simp [hzv], by trivial⟩, by simp [intOf]; omega⟩
          · go_wp2_with fail
            exact ⟨⟨j + 1, by go_num, by omega, by rw [HHS.out]; simp, by trivial⟩, by simp [intOf]; omega⟩
        · have e : zs.take j = zs := List.take_of_length_le (by rw [← HVN.out]; omega)
          rw [e]
          generalize hasF zs v = hh at *
          by_cases hww : r = true ∧ hh = true
          · obtain ⟨rfl, rfl⟩ := hww
            rw [HWD.out] at HIX
            rw [if_pos (show (true && true) = true from rfl)] at HIX
            have HN2 : Hid ((((wo.setCell ⟨g, k * 3, none⟩ (.bool false)).setCell ⟨g, k * 3 + 1, none⟩ (.bool false)).setCell ⟨g, k * 3 + 2, none⟩ (.slice none 0 0)).ownsRow w.heap.size 3 1 u5 n ((idxL (wokeP v) L k).map (Value.int .i64))) := HSE.out.2.kt.own HN.out (by decide) (by decide)
            have HS2 := Lib.hid HSE.out.1
            have HSZ : Hid (w.heap.size ≤ (((wo.setCell ⟨g, k * 3, none⟩ (.bool false)).setCell ⟨g, k * 3 + 1, none⟩ (.bool false)).setCell ⟨g, k * 3 + 2, none⟩ (.slice none 0 0)).heap.size) := HS2.out.fr.below.size
            have HM7 : Hid (Whole ((((wo.setCell ⟨g, k * 3, none⟩ (.bool false)).setCell ⟨g, k * 3 + 1, none⟩ (.bool false)).setCell ⟨g, k * 3 + 2, none⟩ (.slice none 0 0)).alloc (.cells #[.int .i64 (k : Int)] 3)) wo.heap.size 3 #[.int .i64 (k : Int)]) := by
              have h := Whole.made (((wo.setCell ⟨g, k * 3, none⟩ (.bool false)).setCell ⟨g, k * 3 + 1, none⟩ (.bool false)).setCell ⟨g, k * 3 + 2, none⟩ (.slice none 0 0)) 3 #[.int .i64 (k : Int)]
              rw [show (((wo.setCell ⟨g, k * 3, none⟩ (.bool false)).setCell ⟨g, k * 3 + 1, none⟩ (.bool false)).setCell ⟨g, k * 3 + 2, none⟩ (.slice none 0 0)).heap.size = wo.heap.size from by simp [World.setCell]] at h
              exact h
            have hSN := HSN.out (k : Int)
            rw [show ((k : Nat) : Int).toNat = k from rfl] at hSN
            have HSN2 := Lib.hid hSN
            clear HSN hSN HN HSE
            go_wp2_with (at_builtin; (refine list_app ty_ints (v := u5) rfl _ _ rfl rfl (HN2.out.alloc _) wo.heap.size 1 [.int .i64 (k : Int)] rfl HM7.out rfl (by simp [Value.oneCell']) (by decide) (by omega) (by decide) (Nat.le_trans HSZ.out (by simp)) ?_); (intro gv cv w7 hap; have HA := Lib.hid hap.own; have HR7 := Lib.hid ((HS2.out.alloc _).app hap (HN2.out.alloc _)); clear hap))
            exact ⟨⟨k + 1, n + 1, by go_num, by omega, by rw [HIX.out, List.map_append]; exact HA.out, by omega, by rw [HIX.out, HSN2.out]; exact HR7.out⟩, by simp [intOf]; omega⟩
          · have hwf : (r && hh) = false := by
              rcases r with _ | _
              · rfl
              · rcases hh with _ | _
                · rfl
                · exact absurd ⟨rfl, rfl⟩ hww
            rw [HWD.out, hwf, if_neg (by decide), List.append_nil] at HIX
            rcases r with _ | _
            · go_wp2_with fail
              exact ⟨⟨k + 1, n, by go_num, by omega, by rw [HIX.out]; exact HN.out, by omega, by rw [HIX.out, HM.out]; exact HT1.out⟩, by simp [intOf]; omega⟩
            · rcases hh with _ | _
              · go_wp2_with fail
                exact ⟨⟨k + 1, n, by go_num, by omega, by rw [HIX.out]; exact HN.out, by omega, by rw [HIX.out, HM.out]; exact HT1.out⟩, by simp [intOf]; omega⟩
              · exact absurd ⟨rfl, rfl⟩ hww
    · obtain rfl : k = q := by omega
      obtain ⟨A, c, us, hw, ho, hv, hc⟩ := HT1.out.tab.form
      have c0 : wr.cell? ⟨b, 0, none⟩ = some (.slice A M.length c) := hw.cell 0
      rw [hMq] at c0
      clear hw ho hv hMq
      obtain ⟨A3, c3, rfl, _⟩ := own_form HN.out
      go_wp2_with fail
      go_ret
      exact ⟨A3, n, c3, rfl, by rw [HWL.out.2]; exact HN.out, by rw [HWL.out.1, HM.out]; exact HT1.out.tab, HT1.out.fr⟩
end Go.Proofs.Ytibgchnfodpehaa
