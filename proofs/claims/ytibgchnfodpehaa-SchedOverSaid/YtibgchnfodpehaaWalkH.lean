/- The walks of layer 19: the document's table: Ready, Pick, Status, End. -/
import Derived.Test.YtibgchnfodpehaaWalkG
namespace Go.Proofs.Ytibgchnfodpehaa
open Go.RowKit
set_option linter.unusedVariables false
attribute [local go_sem ↓] Go.wp_at_zero Go.wp_at_succ

theorem readyP_eq (x : Thr) : readyP x = (!isOver x.k && !isWaits x.k) := by
  unfold readyP isOver isWaits
  cases x.k <;> rfl
set_option maxHeartbeats 1000000 in
theorem rready_any (w : World) (b D : Nat) (L : Tb) (h : RabAt w b D L) :
    Calls Try.prog 18 #[.pointer (some ⟨b, 0, none⟩)] w fun e w' => ∃ A n c, e = .returned (.slice A n c) ∧ w'.ownsRow w.heap.size 3 1 (.slice A n c) n ((readyL L).map (Value.int .i64)) ∧ Below w.heap.size w w' := by
  obtain ⟨A, c, us, hw, ho, hv, hc⟩ := h.form
  have hl := h.len
  have HO := Lib.hid ho
  have HV := Lib.hid hv
  have HW := Lib.hid hw
  clear h hw ho hv
  obtain ⟨q, hq⟩ : ∃ q, q = L.length := ⟨_, rfl⟩
  have HQ := Lib.hid hq
  rw [← hq] at hl
  rw [← HQ.out] at HO HW
  clear hq
  have HRL : Hid (readyL L = idxL readyP L q) := by show _ = _; rw [HQ.out]; rfl
  go_enter Try.func18, Try.ntmps18
  go_wp2_with fail
  go_loopw [4, 3] (fun i o wr => ∃ k n, i = .int .i64 (k : Nat) ∧ k ≤ q ∧ wr.ownsRow w.heap.size 3 1 o n ((idxL readyP L k).map (Value.int .i64)) ∧ n ≤ k ∧ Below w.heap.size w wr) (fun i _ _ => q - (intOf i).toNat)
  case atStart => exact ⟨0, 0, rfl, by omega, World.ownsRow_nil _ _ _ _, by omega, Below.refl _ _⟩
  case round =>
    obtain ⟨k, n, rfl, hk, hown, hnk, hb⟩ := hrel
    have HN := Lib.hid hown
    have HB := Lib.hid hb
    have HIX := Lib.hid (idxL_succ readyP L k)
    have c0 : wr.cell? ⟨b, 0, none⟩ = some (.slice A q c) := (HW.out.below hb HW.out.lt).cell 0
    clear hown hb
    by_cases hlt : k < q
    · obtain ⟨g, rfl, _, hgl, x0, x1, _, _⟩ := rab_cells (k := k) HO.out HV.out.1 HQ.out hlt
      replace x0 := (HB.out.cell (p := ⟨g, _, none⟩) hgl).trans x0
      replace x1 := (HB.out.cell (p := ⟨g, _, none⟩) hgl).trans x1
      rw [readyP_eq] at HIX
      generalize isOver (L.getD k thr0).k = p at *
      generalize isWaits (L.getD k thr0).k = r at *
      by_cases hP : p = false ∧ r = false
      · obtain ⟨rfl, rfl⟩ := hP
        rw [if_pos (show (!false && !false) = true from rfl)] at HIX
        go_wp2_with (at_builtin; refine list_app ty_ints (v := u3) rfl _ _ rfl rfl (HN.out.alloc _) wr.heap.size 1 [.int .i64 (k : Int)] rfl (Whole.made wr 3 _) rfl (by simp [Value.oneCell']) (by decide) (by omega) (by decide) (by have := HB.out.size; simp; omega) ?_; intro gv cv w7 hap; have HA := Lib.hid hap.own; have HB7 := Lib.hid (hap.below (HN.out.alloc _) (HB.out.alloc HB.out.size _) (Nat.le_refl _) (by have := HB.out.size; simp; omega)); clear hap)
        exact ⟨⟨k + 1, n + 1, by go_num, by omega, by rw [HIX.out, List.map_append]; exact HA.out, by omega, HB7.out⟩, by simp [intOf]; omega⟩
      · have hpr : (!p && !r) = false := by
          rcases p with _ | _
          · rcases r with _ | _
            · exact absurd ⟨rfl, rfl⟩ hP
            · rfl
          · rfl
        rw [hpr, if_neg (by decide), List.append_nil] at HIX
        clear hpr
        have hcase : p = true ∨ (p = false ∧ r = true) := by
          rcases p with _ | _
          · rcases r with _ | _
            · exact absurd ⟨rfl, rfl⟩ hP
            · exact .inr ⟨rfl, rfl⟩
          · exact .inl rfl
        clear hP
        rcases hcase with rfl | ⟨rfl, rfl⟩
        all_goals
          go_wp2_with fail
          exact ⟨⟨k + 1, n, by go_num, by omega, by rw [HIX.out]; exact HN.out, by omega, HB.out⟩, by simp [intOf]; omega⟩
    · obtain rfl : k = q := by omega
      obtain ⟨A3, c3, rfl, _⟩ := own_form HN.out
      go_wp2_with fail
      go_ret
      exact ⟨A3, n, c3, rfl, by rw [HRL.out]; exact HN.out, HB.out⟩
set_option maxHeartbeats 1000000 in
theorem rpick_any (w : World) (b D : Nat) (L : Tb) (k : Int) (h : RabAt w b D L) (h1 : -9223372036854775808 ≤ k) (h2 : k ≤ 9223372036854775807) :
    Calls Try.prog 19 #[.pointer (some ⟨b, 0, none⟩), .int .i64 k] w fun e w' => e = .returned (.tuple #[.int .i64 (pickN L k), .bool (pickB L)]) ∧ Below w.heap.size w w' := by
  have HT := Lib.hid h
  clear h
  go_enter Try.func19, Try.ntmps19
  go_wp2_with fail
  refine (rready_any w b D L HT.out).mono ?_
  rintro e w1 ⟨A, n, c, rfl, ho, hb⟩
  have HN : Hid ((readyL L).length = n) := own_len ho
  have HO := Lib.hid ho
  have HB := Lib.hid hb
  have hn8 : n ≤ 8 := by have := readyL_len L; have h2 := HT.out.len; rw [HN.out] at this; omega
  clear ho hb
  by_cases h0 : 0 < n
  · have HR := Lib.hid (pick_rem k n h0 h1 h2)
    have HS : Hid (pickN L k = (readyL L).getD (pickK k % (n : Nat)).toNat 0 ∧ pickB L = true) := by show _ ∧ _; unfold pickN pickB; rw [HN.out, if_neg (by omega), decide_eq_true h0]; exact ⟨rfl, rfl⟩
    obtain ⟨g, rfl, _, _, x0⟩ := own_at HO.out HR.out.1
    have hr1 := HR.out.1
    have hr2 := HR.out.2.1
    have hr3 := HR.out.2.2
    have hdp : pickK k = if k < 0 then -(k + 1) else k := rfl
    generalize (pickK k % (n : Nat)).toNat = r at *
    generalize (readyL L).getD r 0 = res at *
    by_cases hk : k < 0
    · rw [if_pos hk] at hdp
      rw [hdp] at hr2 hr3
      have s1 : IntKind.i64.wrap (k + 1) = k + 1 := by rw [wrap_eq]; unfold wrap64; omega
      have s2 : IntKind.i64.wrap (-(k + 1)) = -(k + 1) := by rw [wrap_eq]; unfold wrap64; omega
      clear HR hdp
      generalize hkk : -(k + 1) = kk at *
      go_wp2_with fail
      go_ret2
      exact ⟨by rw [HS.out.1, HS.out.2]; first | done | rfl, HB.out⟩
    · rw [if_neg hk] at hdp
      rw [hdp] at hr2 hr3
      clear HR hdp
      go_wp2_with fail
      go_ret2
      exact ⟨by rw [HS.out.1, HS.out.2]; first | done | rfl, HB.out⟩
  · obtain rfl : n = 0 := by omega
    have HS : Hid (pickN L k = 0 ∧ pickB L = false) := by show _ ∧ _; unfold pickN pickB; rw [HN.out, if_pos rfl]; exact ⟨rfl, rfl⟩
    go_wp2_with fail
    go_ret2
    exact ⟨by rw [HS.out.1, HS.out.2]; first | done | rfl, HB.out⟩
end Go.Proofs.Ytibgchnfodpehaa
