/- The laws of layer 13: so many functions, constants, texts and instructions may be, and no more: the walk. -/
import Derived.Test.YtffpkmoaahkfmaaLe
import Derived.Deep.CutBlock
import Derived.Deep.DeepCutAuto
namespace Go.Proofs.Ytffpkmoaahkfmaa
open Go.RowKit
set_option linter.unusedVariables false

theorem szI_len (k : Nat) : (szI k).length = k := by unfold szI; simp
theorem szT_len (k : Nat) : (szT k).length = k := by unfold szT; simp
theorem szF_len (k n : Nat) : (szF k n).length = k := by unfold szF; simp
theorem szC_len (k : Nat) : (szC k).length = k := by unfold szC; simp
theorem szV_succ (f : Nat) (v : Value) : List.replicate (f + 1) v = List.replicate f v ++ [v] := List.replicate_succ'
theorem box_far {w2 wr w' : World} {G g : Nat} {t e : TypeId} {cs : Array Value} {size n n0 : Nat} {v v' : Value} {xs xs0 : List Value} (h : BoxAt w2 G t cs wr) (ha : Appended wr (g + 1) e size v n xs v' w') (ho : wr.ownsRow (g + 1) e size v n0 xs0) (hg : G + 1 ≤ g) : BoxAt w2 G t cs w' :=
  ⟨h.1.grown ha.2.1 (by have := h.2.2; omega) (fun k hk => by have := (ho.lt k hk).1; omega), ha.far h.2.1 (fun hh => by have := (ho.lt _ hh).1; omega), Nat.le_trans h.2.2 ha.grows⟩
theorem own_far_put {w : World} {g G o n size : Nat} {e : TypeId} {v u : Value} {xs : List Value} (h : w.ownsRow (g + 1) e size v n xs) (hg : G + 1 ≤ g) : (w.setCell ⟨G, o, none⟩ u).ownsRow (g + 1) e size v n xs :=
  own_setCell h (fun hh => by have := (h.lt _ hh).1; simp at this; omega) u
theorem sz_at {w : World} {b1 b2 j q m p : Nat} {iv tv fv cv : Value} (hi : w.ownsRow b1 3 1 iv j ((szI j).map (Value.int .i64))) (ht : w.ownsRow b1 9 1 tv q ((szT q).map Value.string)) (hc : w.ownsRow b2 42 3 cv m (insCells (szC m))) (hf : w.ownsRow b2 40 4 fv p (bdyCells (szF p m) (List.replicate p cv))) (hs : p ≤ 1000 ∧ j ≤ 1000 ∧ q ≤ 1000 ∧ m ≤ 1000) :
    ∃ FA fc IA ic TA tc, fv = .slice FA p fc ∧ iv = .slice IA j ic ∧ tv = .slice TA q tc ∧ CodAt w w.heap.size (.agg #[.slice FA p fc, .slice IA j ic, .slice TA q tc, .int .i64 0]) (szD p j q m) := by
  have hi0 : w.ownsRow b1 3 1 iv (szI j).length ((szI j).map (Value.int .i64)) := by rw [szI_len]; exact hi
  have ht0 : w.ownsRow b1 9 1 tv (szT q).length ((szT q).map Value.string) := by rw [szT_len]; exact ht
  have hf0 : w.ownsRow b2 40 4 fv (szF p m).length (bdyCells (szF p m) (List.replicate p cv)) := by rw [szF_len]; exact hf
  have hc0 : w.ownsRow b2 42 3 cv (szC m).length (insCells (szC m)) := by rw [szC_len]; exact hc
  obtain ⟨IA, ic, e1, hI⟩ := ints_own hi0
  obtain ⟨TA, tc, e2, hT⟩ := strs_own ht0
  obtain ⟨FA, fc, e3, hF⟩ := bdys_at hf0 (by rw [szF_len, List.length_replicate]) (fun k hk => by
    rw [szF_len] at hk
    have h1 : (List.replicate p cv).getD k nilV = cv := by rw [List.getD_eq_getElem?_getD, List.getElem?_replicate, if_pos hk]; rfl
    have h2 : (szF p m).getD k bdy0 = szB m := by unfold szF; rw [List.getD_eq_getElem?_getD, List.getElem?_replicate, if_pos hk]; rfl
    rw [h1, h2]; exact ⟨b2, hc0⟩) (fun b hb => by rw [List.eq_of_mem_replicate hb]; show (szC m).length ≤ _; rw [szC_len]; omega)
  rw [szI_len] at e1 hI
  rw [szT_len] at e2 hT
  rw [szF_len] at e3 hF
  exact ⟨FA, fc, IA, ic, TA, tc, e3, e1, e2, FA, p, fc, IA, j, ic, TA, q, tc, rfl, hF, hI, hT, by omega, by omega, by omega⟩
set_option maxRecDepth 100000 in
set_option maxHeartbeats 8000000 in
theorem codeSizes_walk (a b c d : Int) (w : World) (w0 : (Lit.int .i64 a).wf = true) (w1 : (Lit.int .i64 b).wf = true) (w2 : (Lit.int .i64 c).wf = true) (w3 : (Lit.int .i64 d).wf = true) :
    Calls Try.prog 5 #[.int .i64 a, .int .i64 b, .int .i64 c, .int .i64 d] w fun e w' => e = .returned (.bool true) ∧ Below w.heap.size w w' := by
  have HA := Lib.hid (bounds_i64 w0); have HB := Lib.hid (bounds_i64 w1); have HC := Lib.hid (bounds_i64 w2); have HD := Lib.hid (bounds_i64 w3)
  clear w0 w1 w2 w3
  go_enter Try.func5, Try.ntmps5
  go_wp2_with fail
  refine (size_any a 130 w HA.out.1 HA.out.2 (by decide)).mono ?_
  rintro e w' ⟨f, rfl, hf, rfl⟩
  go_wp2_with fail
  refine (size_any b 130 w HB.out.1 HB.out.2 (by decide)).mono ?_
  rintro e w' ⟨k, rfl, hk, rfl⟩
  go_wp2_with fail
  refine (size_any c 130 w HC.out.1 HC.out.2 (by decide)).mono ?_
  rintro e w' ⟨t, rfl, ht, rfl⟩
  go_wp2_with fail
  refine (size_any d 450 w HD.out.1 HD.out.2 (by decide)).mono ?_
  rintro e w' ⟨n, rfl, hn, rfl⟩
  clear HA HB HC HD
  go_wp2_with fail
  have HO0 := Lib.hid (BoxAt.made w 26 #[.slice none 0 0, .slice none 0 0, .slice none 0 0, .int .i64 0])
  generalize w.alloc (.cells #[.slice none 0 0, .slice none 0 0, .slice none 0 0, .int .i64 0] 26) = wa at *
  go_loopw [14] (fun i wr => ∃ (j : Nat) (iv : Value), i = .int .i64 (j : Int) ∧ j ≤ k ∧ BoxAt w w.heap.size 26 #[.slice none 0 0, iv, .slice none 0 0, .int .i64 0] wr ∧ wr.ownsRow (w.heap.size + 1) 3 1 iv j ((szI j).map (Value.int .i64))) (fun i _ => k - (intOf i).toNat)
  case atStart => exact ⟨0, .slice none 0 0, rfl, by omega, HO0.out, World.ownsRow_nil _ _ _ _⟩
  case round =>
    obtain ⟨j, iv, rfl, hj, ho, hown⟩ := hrel
    have HO := Lib.hid ho
    have HN := Lib.hid hown
    clear ho hown
    by_cases hlt : j < k
    · have o1 : wr.cell? ⟨w.heap.size, 1, none⟩ = some iv := HO.out.cell 1
      have o1b : (wr.alloc (.cells #[.int .i64 (j : Int)] 3)).cell? ⟨w.heap.size, 1, none⟩ = some iv := (HO.out.alloc _).cell 1
      have HSS := Lib.hid (szI_succ j)
      go_wp2_with (at_builtin; go_must (refine list_app ty_ints (v := iv) rfl _ _ rfl rfl (HN.out.alloc _) wr.heap.size 1 [.int .i64 (j : Int)] rfl (Whole.made wr 3 _) rfl (by simp [Value.oneCell']) (by decide) (by omega) (by decide) (by have := HO.out.2.2; simp; omega) ?_); intro gv cv w' hap; have HA := Lib.hid hap; have HO2 := Lib.hid ((HO.out.alloc _).app hap (HN.out.alloc _) (by decide)); have z1 : w'.cell? ⟨w.heap.size, 1, none⟩ = some iv := HO2.out.cell 1; have z2 := HO2.out.free 1; clear hap)
      have HO3 := Lib.hid (HO2.out.put 1 (.slice (some ⟨gv, 0, none⟩) (j + 1) cv))
      have HN3 := Lib.hid (HO2.out.own_put (o := 1) (u := .slice (some ⟨gv, 0, none⟩) (j + 1) cv) HA.out.own)
      exact ⟨⟨j + 1, _, by go_num, by omega, HO3.out, by rw [HSS.out, List.map_append]; exact HN3.out⟩, by simp [intOf]; omega⟩
    · obtain rfl : j = k := by omega
      clear HO0
      go_wp2_with fail
      go_loopw [15] (fun i wr => ∃ (q : Nat) (tv : Value), i = .int .i64 (q : Int) ∧ q ≤ t ∧ BoxAt w w.heap.size 26 #[.slice none 0 0, iv, tv, .int .i64 0] wr ∧ wr.ownsRow (w.heap.size + 1) 3 1 iv j ((szI j).map (Value.int .i64)) ∧ wr.ownsRow (w.heap.size + 1) 9 1 tv q ((szT q).map Value.string)) (fun i _ => t - (intOf i).toNat)
      case atStart => exact ⟨0, .slice none 0 0, rfl, by omega, HO.out, HN.out, World.ownsRow_nil _ _ _ _⟩
      case round =>
        obtain ⟨q, tv, rfl, hq, ho, hi, hown⟩ := hrel
        clear HO HN
        have HO := Lib.hid ho
        have HI := Lib.hid hi
        have HN := Lib.hid hown
        clear ho hown hi
        by_cases hlt2 : q < t
        · have o1 : wr.cell? ⟨w.heap.size, 2, none⟩ = some tv := HO.out.cell 2
          have o1b : (wr.alloc (.cells #[.string ⟨#[]⟩] 9)).cell? ⟨w.heap.size, 2, none⟩ = some tv := (HO.out.alloc _).cell 2
          have HSS := Lib.hid (szT_succ q)
          have N39 : Hid ((3 : TypeId) ≠ 9) := by show (3 : TypeId) ≠ 9; decide
          go_wp2_with (at_builtin; go_must (refine list_app ty_texts (v := tv) rfl _ _ rfl rfl (HN.out.alloc _) wr.heap.size 1 [.string ⟨#[]⟩] rfl (Whole.made wr 9 _) rfl (by simp [Value.oneCell']) (by decide) (by omega) (by decide) (by have := HO.out.2.2; simp; omega) ?_); intro gv cv w' hap; have HA := Lib.hid hap; have HO2 := Lib.hid ((HO.out.alloc _).app hap (HN.out.alloc _) (by decide)); have HI2 := Lib.hid (hap.other (HI.out.alloc _) (own_ne_type HN.out HI.out N39.out)); have z1 : w'.cell? ⟨w.heap.size, 2, none⟩ = some tv := HO2.out.cell 2; have z2 := HO2.out.free 2; clear hap)
          have HO3 := Lib.hid (HO2.out.put 2 (.slice (some ⟨gv, 0, none⟩) (q + 1) cv))
          have HN3 := Lib.hid (HO2.out.own_put (o := 2) (u := .slice (some ⟨gv, 0, none⟩) (q + 1) cv) HA.out.own)
          have HI3 := Lib.hid (HO2.out.own_put (o := 2) (u := .slice (some ⟨gv, 0, none⟩) (q + 1) cv) HI2.out)
          exact ⟨⟨q + 1, _, by go_num, by omega, HO3.out, HI3.out, by rw [HSS.out, List.map_append]; exact HN3.out⟩, by simp [intOf]; omega⟩
        · obtain rfl : q = t := by omega
          go_wp2_with fail
          obtain ⟨wo, rfl⟩ : ∃ wo : World, wo = wr := ⟨_, rfl⟩
          have HB0 := Lib.hid (BoxAt.made wo 40 #[.int .i64 0, .int .i64 0, .int .i64 1, .slice none 0 0])
          have HGB : Hid (w.heap.size + 1 ≤ wo.heap.size) := HO.out.2.2
          generalize wo.alloc (.cells #[.int .i64 0, .int .i64 0, .int .i64 1, .slice none 0 0] 40) = wb at *
          go_loopw [17] (fun i wi => ∃ (m : Nat) (cv : Value), i = .int .i64 (m : Int) ∧ m ≤ n ∧ BoxAt wo wo.heap.size 40 #[.int .i64 0, .int .i64 0, .int .i64 1, cv] wi ∧ wi.ownsRow (wo.heap.size + 1) 42 3 cv m (insCells (szC m))) (fun i _ => n - (intOf i).toNat)
          case atStart => exact ⟨0, .slice none 0 0, rfl, by omega, HB0.out, World.ownsRow_nil _ _ _ _⟩
          case round =>
            obtain ⟨m, cv, rfl, hm, hbx, hcv⟩ := hrel
            clear HB0
            have HBX := Lib.hid hbx
            have HCV := Lib.hid hcv
            clear hbx hcv
            by_cases hlt3 : m < n
            · have o1 : wr.cell? ⟨wo.heap.size, 3, none⟩ = some cv := HBX.out.cell 3
              have o1b : (wr.alloc (.cells #[.int .i64 9, .int .i64 0, .int .i64 0] 42)).cell? ⟨wo.heap.size, 3, none⟩ = some cv := (HBX.out.alloc _).cell 3
              have HSS : Hid (insCells (szC (m + 1)) = insCells (szC m) ++ [.int .i64 9, .int .i64 0, .int .i64 0]) := by show _ = _; rw [szC_succ, insCells_snoc]
              go_wp2_with (at_builtin; go_must (refine list_app ty_code (v := cv) rfl _ _ rfl rfl (HCV.out.alloc _) wr.heap.size 1 [.int .i64 9, .int .i64 0, .int .i64 0] rfl (Whole.made wr 42 _) rfl (by simp [Value.oneCell']) (by decide) (by omega) (by decide) (by have := HBX.out.2.2; simp; omega) ?_); intro gv cw w' hap; have HA := Lib.hid hap; have HB2 := Lib.hid ((HBX.out.alloc _).app hap (HCV.out.alloc _) (by decide)); have z1 : w'.cell? ⟨wo.heap.size, 3, none⟩ = some cv := HB2.out.cell 3; have z2 := HB2.out.free 3; clear hap)
              have HB3 := Lib.hid (HB2.out.put 3 (.slice (some ⟨gv, 0, none⟩) (m + 1) cw))
              have HC3 := Lib.hid (HB2.out.own_put (o := 3) (u := .slice (some ⟨gv, 0, none⟩) (m + 1) cw) HA.out.own)
              exact ⟨⟨m + 1, _, by go_num, by omega, HB3.out, by rw [HSS.out]; exact HC3.out⟩, by simp [intOf]; omega⟩
            · obtain rfl : m = n := by omega
              have HOW := Lib.hid (HO.out.below HBX.out.1 (by have := HGB.out; omega))
              have HIW := Lib.hid (own_below HI.out HBX.out.1 (Nat.le_refl _))
              have HTW := Lib.hid (own_below HN.out HBX.out.1 (Nat.le_refl _))
              have HBW := Lib.hid HBX.out.2.1
              have HSZ := Lib.hid HBX.out.2.2
              go_wp2_with fail
              clear HO HI HN HBX
              obtain ⟨w3, rfl⟩ : ∃ w3 : World, w3 = wr := ⟨_, rfl⟩
              have h3cv := HCV.out
              go_loopw [18] (fun i wi => ∃ (p : Nat) (fv : Value), i = .int .i64 (p : Int) ∧ p ≤ f ∧ BoxAt w w.heap.size 26 #[fv, iv, tv, .int .i64 0] wi ∧ wi.ownsRow (w.heap.size + 1) 3 1 iv j ((szI j).map (Value.int .i64)) ∧ wi.ownsRow (w.heap.size + 1) 9 1 tv q ((szT q).map Value.string) ∧
                Whole wi wo.heap.size 40 #[.int .i64 0, .int .i64 0, .int .i64 1, cv] ∧ wi.ownsRow (wo.heap.size + 1) 42 3 cv m (insCells (szC m)) ∧ wi.ownsRow (wo.heap.size + 1) 40 4 fv p (bdyCells (szF p m) (List.replicate p cv)) ∧ wo.heap.size + 1 ≤ wi.heap.size) (fun i _ => f - (intOf i).toNat)
              case atStart => exact ⟨0, .slice none 0 0, rfl, by omega, HOW.out, HIW.out, HTW.out, HBW.out, h3cv, World.ownsRow_nil _ _ _ _, HSZ.out⟩
              case round =>
                obtain ⟨p, fv, rfl, hp, ho, hi, ht', hb', hc', hf', hs'⟩ := hrel
                clear HOW HIW HTW HBW HSZ HCV h3cv
                have HO := Lib.hid ho
                have HI := Lib.hid hi
                have HT := Lib.hid ht'
                have HB := Lib.hid hb'
                have HC := Lib.hid hc'
                have HF := Lib.hid hf'
                have HZ := Lib.hid hs'
                clear ho hi ht' hb' hc' hf' hs'
                have o1 : wr.cell? ⟨w.heap.size, 0, none⟩ = some fv := HO.out.cell 0
                have hlm := szC_len m
                have HLM := Lib.hid hlm
                clear hlm
                by_cases hlt4 : p < f
                · have o1b : (wr.alloc (.cells #[.int .i64 0, .int .i64 0, .int .i64 1, cv] 40)).cell? ⟨w.heap.size, 0, none⟩ = some fv := (HO.out.alloc _).cell 0
                  have b0 : wr.cell? ⟨wo.heap.size, 0, none⟩ = some (.int .i64 0) := HB.out.cell 0
                  have b1 : wr.cell? ⟨wo.heap.size, 1, none⟩ = some (.int .i64 0) := HB.out.cell 1
                  have b2 : wr.cell? ⟨wo.heap.size, 2, none⟩ = some (.int .i64 1) := HB.out.cell 2
                  have b3 : wr.cell? ⟨wo.heap.size, 3, none⟩ = some cv := HB.out.cell 3
                  have HV1 := Lib.hid (own_one HC.out)
                  have HN3 : Hid ((3 : TypeId) ≠ 40) := by show (3 : TypeId) ≠ 40; decide
                  have HN9 : Hid ((9 : TypeId) ≠ 40) := by show (9 : TypeId) ≠ 40; decide
                  have HN42 : Hid ((42 : TypeId) ≠ 40) := by show (42 : TypeId) ≠ 40; decide
                  have HNB : Hid (fv.ownBlock ≠ some wo.heap.size) := fun hh => by have := (HF.out.lt _ hh).1; omega
                  have HSS : Hid (bdyCells (szF (p + 1) m) (List.replicate (p + 1) cv) = bdyCells (szF p m) (List.replicate p cv) ++ [.int .i64 0, .int .i64 0, .int .i64 1, cv]) := by
                    show _ = _; rw [szF_succ, szV_succ, bdyCells_snoc _ _ _ _ (by rw [szF_len, List.length_replicate])]; rfl
                  go_wp2_with (at_builtin; go_must (refine list_app ty_funs (v := fv) rfl _ _ rfl rfl (HF.out.alloc _) wr.heap.size 1 [.int .i64 0, .int .i64 0, .int .i64 1, cv] rfl (Whole.made wr 40 _) rfl (by intro u hu; simp at hu; rcases hu with rfl | rfl | rfl <;> first | rfl | exact HV1.out) (by decide) (by omega) (by decide) (by have := HZ.out; simp; omega) ?_); intro gv cw w' hap; have HA := Lib.hid hap.own; have HO2 := Lib.hid (box_far (HO.out.alloc _) hap (HF.out.alloc _) HGB.out); have HI2 := Lib.hid (hap.other (HI.out.alloc _) (own_ne_type HF.out HI.out HN3.out)); have HT2 := Lib.hid (hap.other (HT.out.alloc _) (own_ne_type HF.out HT.out HN9.out)); have HC2 := Lib.hid (hap.other (HC.out.alloc _) (own_ne_type HF.out HC.out HN42.out)); have HB2 := Lib.hid (hap.far (HB.out.alloc _) HNB.out); have HZ2 := Lib.hid hap.grows; have z1 : w'.cell? ⟨w.heap.size, 0, none⟩ = some fv := HO2.out.cell 0; have z2 := HO2.out.free 0; clear hap)
                  have HO3 := Lib.hid (HO2.out.put 0 (.slice (some ⟨gv, 0, none⟩) (p + 1) cw))
                  have HI3 := Lib.hid (HO2.out.own_put (o := 0) (u := .slice (some ⟨gv, 0, none⟩) (p + 1) cw) HI2.out)
                  have HT3 := Lib.hid (HO2.out.own_put (o := 0) (u := .slice (some ⟨gv, 0, none⟩) (p + 1) cw) HT2.out)
                  have HC3 := Lib.hid (own_far_put (u := .slice (some ⟨gv, 0, none⟩) (p + 1) cw) (o := 0) HC2.out HGB.out)
                  have HF3 := Lib.hid (own_far_put (u := .slice (some ⟨gv, 0, none⟩) (p + 1) cw) (o := 0) HA.out HGB.out)
                  have HB3 := Lib.hid (HB2.out.far (p := ⟨w.heap.size, 0, none⟩) (by have := HGB.out; show wo.heap.size ≠ w.heap.size; omega) (.slice (some ⟨gv, 0, none⟩) (p + 1) cw))
                  exact ⟨⟨p + 1, _, by go_num, by omega, HO3.out, HI3.out, HT3.out, HB3.out, HC3.out, by rw [HSS.out]; exact HF3.out, by have h1 := HZ.out; have h2 := HZ2.out; simp at h2; simp [World.setCell]; omega⟩, by simp [intOf]; omega⟩
                · obtain rfl : p = f := by omega
                  obtain ⟨FA, fc, IA, ic, TA, tc, rfl, rfl, rfl, hD⟩ := sz_at HI.out HT.out HC.out HF.out (by omega)
                  have HD := Lib.hid hD
                  have HOK := Lib.hid (szD_ok p j q m (by omega))
                  have o2 : wr.cell? ⟨w.heap.size, 1, none⟩ = some (.slice IA j ic) := HO.out.cell 1
                  have o3 : wr.cell? ⟨w.heap.size, 2, none⟩ = some (.slice TA q tc) := HO.out.cell 2
                  have o4 : wr.cell? ⟨w.heap.size, 3, none⟩ = some (.int .i64 0) := HO.out.cell 3
                  have HBL := Lib.hid (HO.out.1)
                  have HG5 := Lib.hid HO.out.2.2
                  clear hD HI HT HC HF HB HZ HO hk hj hlt hq hlt2 hm hlt3 hp hlt4
                  by_cases hP : 1 ≤ p ∧ p ≤ 120 ∧ j ≤ 120 ∧ q ≤ 120 ∧ 1 ≤ m ∧ m ≤ 400
                  · have HT := Lib.hid (HOK.out.trans (decide_eq_true hP))
                    obtain ⟨p1, p2, p3, p4, p5, p6⟩ := hP
                    go_wp2_with (first
                      | (go_at_call 13; refine (may_any wr _ (szD p j q m) HD.out).mono ?_; rintro e w4 ⟨rfl, hb4⟩; rw [HT.out])
                      | (go_at_call 15; refine (lives_any _).mono ?_; rintro e w5 ⟨rfl, hb5⟩))
                    go_ret
                    exact ⟨rfl, HBL.out.trans ((hb4.trans (hb5.mono hb4.size)).mono (by have := HG5.out; omega))⟩
                  · have HT := Lib.hid (HOK.out.trans (decide_eq_false hP))
                    have HX := Lib.hid hP
                    clear hP
                    go_wp2_with (first
                      | (go_at_call 13; refine (may_any wr _ (szD p j q m) HD.out).mono ?_; rintro e w4 ⟨rfl, hb4⟩; rw [HT.out])
                      | (go_at_call 15; refine (lives_any _).mono ?_; rintro e w5 ⟨rfl, hb5⟩))
                    all_goals first
                      | (exfalso; exact HX.out (by omega))
                      | (go_ret; exact ⟨rfl, HBL.out.trans ((hb4.trans (hb5.mono hb4.size)).mono (by have := HG5.out; omega))⟩)
                      | (go_ret; refine ⟨ret_b ?_, HBL.out.trans ((hb4.trans (hb5.mono hb4.size)).mono (by have := HG5.out; omega))⟩; have hx := HX.out; simp; omega)
                      | (go_ret; refine ⟨ret_b ?_, HBL.out.trans (hb4.mono (by have := HG5.out; omega))⟩; have hx := HX.out; simp; omega)
end Go.Proofs.Ytffpkmoaahkfmaa
