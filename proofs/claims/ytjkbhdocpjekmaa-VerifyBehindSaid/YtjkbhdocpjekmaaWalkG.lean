/- The walks of layer 13: whether a code may be, by the document. -/
import Derived.Test.YtjkbhdocpjekmaaWalkF
namespace Go.Proofs.Ytjkbhdocpjekmaa
open Go.RowKit
set_option linter.unusedVariables false

theorem all_bad {α : Type} {l : List α} {d : α} {f : α → Bool} {n k : Nat} (hl : l.length = n) (hk : k < n) (h : f (l.getD k d) = false) : l.all f = false := by
  rw [Bool.eq_false_iff]; intro hh; rw [List.all_eq_true] at hh
  have h1 := hh _ (List.getElem_mem (hl ▸ hk : k < l.length))
  rw [List.getD_eq_getElem?_getD, List.getElem?_eq_getElem (hl ▸ hk : k < l.length), Option.getD_some, h1] at h
  cases h
theorem all_good {α : Type} {l : List α} {d : α} {f : α → Bool} {n : Nat} (hl : l.length = n) (h : ∀ j, j < n → f (l.getD j d) = true) : l.all f = true := by
  rw [List.all_eq_true]; intro x hx
  obtain ⟨j, hj, e⟩ := List.getElem_of_mem hx
  have h1 := h j (hl ▸ hj)
  rw [List.getD_eq_getElem?_getD, List.getElem?_eq_getElem hj, Option.getD_some, e] at h1
  exact h1
theorem so_far {α : Type} {l : List α} {d : α} {f : α → Bool} {k : Nat} (hp : ∀ j, j < k → f (l.getD j d) = true) (h : f (l.getD k d) = true) : ∀ j, j < k + 1 → f (l.getD j d) = true := fun j hj => by
  rcases Nat.lt_or_ge j k with h1 | h1
  · exact hp j h1
  · rw [show j = k from by omega]; exact h
theorem cod_int {c : Cod} (h : c.ints.all intOK = false) : codOK c = false := by unfold codOK; rw [h]; simp
theorem cod_txt {c : Cod} (h : c.texts.all txtOK = false) : codOK c = false := by unfold codOK; rw [h]; simp
theorem cod_bdy {c : Cod} (h : c.funs.all bdyOK = false) : codOK c = false := by unfold codOK; rw [h]; simp
theorem cod_head {c : Cod} {fn inn tn : Nat} {lets : Int} (h1 : c.funs.length = fn) (h2 : c.ints.length = inn) (h3 : c.texts.length = tn) (h4 : c.lets = lets) (h : ¬ (1 ≤ fn ∧ fn ≤ 120 ∧ inn ≤ 120 ∧ tn ≤ 120 ∧ 0 ≤ lets ∧ lets ≤ 60)) : codOK c = false := by
  rw [Bool.eq_false_iff]; intro hh; apply h
  unfold codOK at hh
  simp only [Bool.and_eq_true, inF_iff, decide_eq_true_eq] at hh
  omega
theorem cod_good {c : Cod} {fn inn tn : Nat} {lets : Int} (h1 : c.funs.length = fn) (h2 : c.ints.length = inn) (h3 : c.texts.length = tn) (h4 : c.lets = lets) (h : 1 ≤ fn ∧ fn ≤ 120 ∧ inn ≤ 120 ∧ tn ≤ 120 ∧ 0 ≤ lets ∧ lets ≤ 60)
    (ha : c.ints.all intOK = true) (hb : c.texts.all txtOK = true) (hc : c.funs.all bdyOK = true) : codOK c = true := by
  unfold codOK
  simp only [Bool.and_eq_true, inF_iff, decide_eq_true_eq]
  refine ⟨⟨⟨⟨⟨⟨?_, ?_⟩, ?_⟩, ?_⟩, hc⟩, ha⟩, hb⟩ <;> omega
theorem bdy_head {b : Bdy} {n : Nat} (hl : b.code.length = n) (h : ¬ (0 ≤ b.kept ∧ b.kept ≤ 59 ∧ 0 ≤ b.locals ∧ b.locals ≤ 60 ∧ 1 ≤ b.stack ∧ b.stack ≤ 60 ∧ 1 ≤ n ∧ n ≤ 400)) : bdyOK b = false := by
  rw [Bool.eq_false_iff]; intro hh; apply h
  unfold bdyOK at hh
  simp only [Bool.and_eq_true, inF_iff] at hh
  omega
theorem bdy_code {b : Bdy} (h : b.code.all Ins.ok = false) : bdyOK b = false := by unfold bdyOK; rw [h]; simp
theorem bdy_good {b : Bdy} {n : Nat} (hl : b.code.length = n) (h : 0 ≤ b.kept ∧ b.kept ≤ 59 ∧ 0 ≤ b.locals ∧ b.locals ≤ 60 ∧ 1 ≤ b.stack ∧ b.stack ≤ 60 ∧ 1 ≤ n ∧ n ≤ 400) (hc : b.code.all Ins.ok = true) : bdyOK b = true := by
  unfold bdyOK
  simp only [Bool.and_eq_true, inF_iff]
  refine ⟨⟨⟨⟨?_, ?_⟩, ?_⟩, ?_⟩, hc⟩ <;> omega
set_option maxRecDepth 100000 in
set_option maxHeartbeats 4000000 in
theorem rmay_any (w : World) (v : Value) (c : Cod) (hc : CodAt w w.heap.size v c) :
    Calls Try.prog 18 #[v] w fun e w' => e = .returned (.bool (codOK c)) ∧ Below w.heap.size w w' := by
  obtain ⟨FA, fn, fc, IA, inn, ic, TA, tn, tc, rfl, h1, h2, h3, hf, hi, ht⟩ := hc.form
  clear hc
  obtain ⟨w2, hw2⟩ : ∃ w2, w2 = w.alloc (.cells #[.slice FA fn fc, .slice IA inn ic, .slice TA tn tc, .int .i64 c.lets] 26) := ⟨_, rfl⟩
  have HB : Hid (Below w.heap.size w w2) := by show Below _ _ _; rw [hw2]; exact (Below.refl _ _).alloc (Nat.le_refl _) _
  have hW : Whole w2 w.heap.size 26 #[.slice FA fn fc, .slice IA inn ic, .slice TA tn tc, .int .i64 c.lets] := by rw [hw2]; exact Whole.made _ _ _
  have HW := Lib.hid hW
  have HF := Lib.hid ((h1.below HB.out).more HB.out.size)
  have HI := Lib.hid ((h2.below HB.out).more HB.out.size)
  have HT := Lib.hid ((h3.below HB.out).more HB.out.size)
  have HS : Hid (w.heap.size < w2.heap.size) := by show _ < _; rw [hw2]; simp
  have HH := Lib.hid (fun h => cod_head (c := c) h1.1 h2.1 h3.1 rfl h)
  have HG := Lib.hid (fun h ha hb hd => cod_good (c := c) h1.1 h2.1 h3.1 rfl h ha hb hd)
  have HL1 := Lib.hid h1.1; have HL2 := Lib.hid h2.1; have HL3 := Lib.hid h3.1
  clear h1 h2 h3
  by_cases hh : 1 ≤ fn ∧ fn ≤ 120 ∧ inn ≤ 120 ∧ tn ≤ 120 ∧ 0 ≤ c.lets ∧ c.lets ≤ 60
  · obtain ⟨g1, g2, g3, g4, g5, g6⟩ := hh
    have HOK := Lib.hid (HG.out ⟨g1, g2, g3, g4, g5, g6⟩)
    clear HH HG
    have c0 : w2.cell? ⟨w.heap.size, 0, none⟩ = some (.slice FA fn fc) := hW.cell 0
    have c1 : w2.cell? ⟨w.heap.size, 1, none⟩ = some (.slice IA inn ic) := hW.cell 1
    have c2 : w2.cell? ⟨w.heap.size, 2, none⟩ = some (.slice TA tn tc) := hW.cell 2
    have c3 : w2.cell? ⟨w.heap.size, 3, none⟩ = some (.int .i64 c.lets) := hW.cell 3
    clear hW
    go_enter Try.func18, Try.ntmps18
    go_wp2
    rw [← hw2]
    clear hw2
    go_loop [3] (fun v => ∃ k : Nat, v = .int .i64 (k : Int) ∧ k ≤ inn ∧ ∀ j, j < k → intOK (c.ints.getD j 0) = true) (fun v => inn - (intOf v).toNat)
    case atStart => exact ⟨0, rfl, by omega, fun j hj => absurd hj (by omega)⟩
    case round =>
      obtain ⟨k, rfl, hk, hp⟩ := hrel
      have HP := Lib.hid hp
      clear hp
      by_cases hlt : k < inn
      · obtain ⟨b, off, e1, _, d1⟩ := HI.out.at_ hlt
        obtain ⟨x, hx⟩ : ∃ x, x = c.ints.getD k 0 := ⟨_, rfl⟩
        rw [← hx] at d1
        have HX := Lib.hid hx.symm
        clear hx
        subst e1
        by_cases hlo : x < -4611686018427387904
        · have H2 := Lib.hid (cod_int (all_bad HL2.out hlt (by rw [HX.out]; unfold intOK; rw [inF_not]; omega)))
          go_wp2
          go_ret
          exact ⟨ret_b H2.out.symm, HB.out⟩
        · by_cases hhi : 4611686018427387903 < x
          · have H2 := Lib.hid (cod_int (all_bad HL2.out hlt (by rw [HX.out]; unfold intOK; rw [inF_not]; omega)))
            go_wp2
            go_ret
            exact ⟨ret_b H2.out.symm, HB.out⟩
          · have H2 := Lib.hid (so_far HP.out (by rw [HX.out]; unfold intOK; rw [inF_iff]; omega))
            go_wp2
            go_round
            case rel => exact ⟨k + 1, by go_num, by omega, H2.out⟩
            case measure => simp [intOf]; omega
      · have HA := Lib.hid (all_good HL2.out (fun j hj => HP.out j (by omega)))
        clear HP
        go_wp2
        go_loop [4] (fun v => ∃ k : Nat, v = .int .i64 (k : Int) ∧ k ≤ tn ∧ ∀ j, j < k → txtOK (c.texts.getD j ByteArray.empty) = true) (fun v => tn - (intOf v).toNat)
        case atStart => exact ⟨0, rfl, by omega, fun j hj => absurd hj (by omega)⟩
        case round =>
          obtain ⟨k, rfl, hk, hp⟩ := hrel
          have HP := Lib.hid hp
          clear hp
          by_cases hlt : k < tn
          · obtain ⟨b, off, e1, _, d1⟩ := HT.out.at_ hlt
            obtain ⟨x, hx⟩ : ∃ x, x = c.texts.getD k ByteArray.empty := ⟨_, rfl⟩
            rw [← hx] at d1
            have HX := Lib.hid hx.symm
            clear hx
            subst e1
            by_cases hlo : 60 < x.size
            · have H2 := Lib.hid (cod_txt (all_bad HL3.out hlt (by rw [HX.out]; unfold txtOK; rw [decide_eq_false_iff_not]; omega)))
              go_wp2
              go_ret
              exact ⟨ret_b H2.out.symm, HB.out⟩
            · have H2 := Lib.hid (so_far HP.out (by rw [HX.out]; unfold txtOK; rw [decide_eq_true_eq]; omega))
              go_wp2
              go_round
              case rel => exact ⟨k + 1, by go_num, by omega, H2.out⟩
              case measure => simp [intOf]; omega
          · have HD := Lib.hid (all_good HL3.out (fun j hj => HP.out j (by omega)))
            clear HP
            go_wp2
            go_loopw [5] (fun v wr => ∃ k : Nat, v = .int .i64 (k : Int) ∧ k ≤ fn ∧ (∀ j, j < k → bdyOK (c.funs.getD j bdy0) = true) ∧ Below w2.heap.size w2 wr) (fun v _ => fn - (intOf v).toNat)
            case atStart => exact ⟨0, rfl, by omega, fun j hj => absurd hj (by omega), Below.refl _ _⟩
            case round =>
              obtain ⟨k, rfl, hk, hp, hw⟩ := hrel
              have HP := Lib.hid hp
              clear hp
              have HWr := HW.out.below hw HS.out
              have c0 : wr.cell? ⟨w.heap.size, 0, none⟩ = some (.slice FA fn fc) := HWr.cell 0
              by_cases hlt : k < fn
              · obtain ⟨b, off, e1, _, d1, d2, d3, A2, n2, cp2, d4, hI, hn2⟩ := (HF.out.below hw).at_ hlt
                obtain ⟨x, hx⟩ : ∃ x, x = c.funs.getD k bdy0 := ⟨_, rfl⟩
                rw [← hx] at d1 d2 d3 hI
                have HX := Lib.hid hx.symm
                clear hx
                subst e1
                obtain ⟨kept, locals, stack, code⟩ := x
                dsimp only at d1 d2 d3 hI
                have HI2 := Lib.hid (hI.more hw.size)
                clear hI
                by_cases hb : 0 ≤ kept ∧ kept ≤ 59 ∧ 0 ≤ locals ∧ locals ≤ 60 ∧ 1 ≤ stack ∧ stack ≤ 60 ∧ 1 ≤ n2 ∧ n2 ≤ 400
                · have HBG := Lib.hid (bdy_good (b := ⟨kept, locals, stack, code⟩) HI2.out.1 hb)
                  obtain ⟨b1, b2, b3, b4, b5, b6, b7, b8⟩ := hb
                  obtain ⟨w4, hw4⟩ : ∃ w4, w4 = wr.alloc (.cells #[.int .i64 kept, .int .i64 locals, .int .i64 stack, .slice A2 n2 cp2] 40) := ⟨_, rfl⟩
                  have HW4 : Hid (Whole w4 wr.heap.size 40 #[.int .i64 kept, .int .i64 locals, .int .i64 stack, .slice A2 n2 cp2]) := by show Whole _ _ _ _; rw [hw4]; exact Whole.made _ _ _
                  have HB4 : Hid (Below wr.heap.size wr w4) := by show Below _ _ _; rw [hw4]; exact (Below.refl _ _).alloc (Nat.le_refl _) _
                  have HS4 : Hid (wr.heap.size < w4.heap.size) := by show _ < _; rw [hw4]; simp
                  have HI4 := Lib.hid ((HI2.out.below HB4.out).more HB4.out.size)
                  have HO4 := Lib.hid (hw.trans (HB4.out.mono hw.size))
                  have HL4 := Lib.hid HI2.out.1
                  go_wp2
                  rw [← hw4]
                  clear hw4 HI2 d1 d2 d3 d4 HWr c0 HB4 hw
                  generalize wr.heap.size = g at *
                  go_loopw [7] (fun v wi => ∃ j : Nat, v = .int .i64 (j : Int) ∧ j ≤ n2 ∧ (∀ t, t < j → Ins.ok (code.getD t ins0) = true) ∧ Below w4.heap.size w4 wi) (fun v _ => n2 - (intOf v).toNat)
                  case atStart => exact ⟨0, rfl, by omega, fun j hj => absurd hj (by omega), Below.refl _ _⟩
                  case round =>
                    obtain ⟨j, rfl, hj, hp, hwi⟩ := hrel
                    have HP2 := Lib.hid hp
                    clear hp
                    have HWi := Lib.hid (HW4.out.below hwi HS4.out)
                    have e3 : wr.cell? ⟨g, 3, none⟩ = some (.slice A2 n2 cp2) := HWi.out.cell 3
                    by_cases hlt2 : j < n2
                    · obtain ⟨b', off', e2, _, f1, f2, f3⟩ := (HI4.out.below hwi).at_ hlt2
                      subst e2
                      generalize hq : code.getD j ins0 = q at *
                      obtain ⟨op, ia, ib⟩ := q
                      have HQ := Lib.hid hq
                      clear hq
                      dsimp only at f1 f2 f3
                      rcases ho : insOK op ia ib with _ | _
                      · have H2 := Lib.hid (cod_bdy (all_bad HL1.out hlt (by rw [HX.out]; exact bdy_code (all_bad (d := ins0) HL4.out hlt2 (by show Ins.ok (code.getD j ins0) = _; rw [HQ.out]; exact ho)))))
                        go_wp2_with (go_at_call 15; refine (instr_any _ _ _ _).mono ?_; rintro e w' ⟨rfl, hb'⟩; rw [ho])
                        go_ret
                        exact ⟨ret_b H2.out.symm, HB.out.trans ((HO4.out.trans ((hwi.trans (hb'.mono hwi.size)).mono HO4.out.size)).mono HB.out.size)⟩
                      · have H2 := Lib.hid (so_far HP2.out (by rw [HQ.out]; exact ho))
                        go_wp2_with (go_at_call 15; refine (instr_any _ _ _ _).mono ?_; rintro e w' ⟨rfl, hb'⟩; rw [ho])
                        exact ⟨⟨j + 1, by go_num, by omega, H2.out, hwi.trans (hb'.mono hwi.size)⟩, by simp [intOf]; omega⟩
                    · have HC := Lib.hid (all_good HL4.out (fun t ht => HP2.out t (by omega)))
                      have H2 := Lib.hid (so_far HP.out (by rw [HX.out]; exact HBG.out HC.out))
                      go_wp2
                      exact ⟨⟨k + 1, by go_num, by omega, H2.out, HO4.out.trans (hwi.mono HO4.out.size)⟩, by simp [intOf]; omega⟩
                · have H2 := Lib.hid (cod_bdy (all_bad HL1.out hlt (by rw [HX.out]; exact bdy_head HI2.out.1 hb)))
                  have HN := Lib.hid hb
                  clear hb
                  go_wp2
                  all_goals first | (exfalso; exact HN.out (by omega)) | (go_ret; exact ⟨ret_b H2.out.symm, HB.out.trans ((hw.alloc hw.size _).mono HB.out.size)⟩)
              · have HE := Lib.hid (all_good HL1.out (fun j hj => HP.out j (by omega)))
                go_wp2
                go_ret
                exact ⟨ret_b (HOK.out HA.out HD.out HE.out).symm, HB.out.trans (hw.mono HB.out.size)⟩
  · have H2 := Lib.hid (HH.out hh)
    have HN := Lib.hid hh
    clear hh hW HH HG
    subst hw2
    go_enter Try.func18, Try.ntmps18
    go_wp2
    all_goals first | (exfalso; exact HN.out (by omega)) | (go_ret; exact ⟨ret_b H2.out.symm, HB.out⟩)
end Go.Proofs.Ytjkbhdocpjekmaa
