/- The walks of layer 4, the document's: a token that is a name. -/
import Derived.Test.YtmjjjnmfkdidgaaDoorWalkO
namespace Go.Proofs.YtmjjjnmfkdidgaaDoor
open Go.RowKit
set_option linter.unusedVariables false
attribute [local go_sem ↓] Go.wp_at_zero Go.wp_at_succ

theorem ext_take (s : ByteArray) (k : Nat) : s.extract 0 k = ⟨(s.data.toList.take k).toArray⟩ := by
  refine ba_ext ?_
  rw [ByteArray.data_extract, Array.toList_extract]; simp [List.extract]
set_option maxRecDepth 100000 in
set_option maxHeartbeats 40000000 in
theorem rtoken_name (w : World) (s : ByteArray) (c : UInt8) (hs : s.size ≤ 10000) (h0 : 0 < s.size) (hc : s[0] = c) (h1 : digB c = false) (h2 : c ≠ 34) (hl : (smaB c || larB c) = true) : Calls Tryd.prog 19 #[.string s] w (RTok (tokF s.data.toList) w) := by
  have he : tokF s.data.toList = if 16 < runN innB s 0 then ⟨0, [], 0, 0, 12⟩ else ⟨nameK c (s.data.toList.take (runN innB s 0)), s.data.toList.take (runN innB s 0), 0, runN innB s 0, 0⟩ := by
    have h3 := list0 s h0
    rw [← take_run]
    unfold runN
    rw [List.drop_zero, h3, hc]; exact tok_name c _ h1 h2 hl
  obtain ⟨r, hr⟩ : ∃ r, tokF s.data.toList = r := ⟨_, rfl⟩
  rw [hr] at he ⊢
  clear hr
  have hin : innB s[0] = true := by rw [hc]; unfold innB; rw [hl]; rfl
  have hrl := runN_le innB s 0 (Nat.zero_le _)
  obtain ⟨N, hN⟩ : ∃ N, runN innB s 0 = N := ⟨_, rfl⟩
  rw [hN] at hrl he
  have HN := Lib.hid hN
  have HRR := Lib.hid he
  have HI := Lib.hid hin
  clear hN he hin
  subst hc
  have i0 : (0 : Int) < (s.size : Int) := by omega
  have q34 : ((s[0].toNat : Int) == 34) = false := u8_ne s[0] 34 h2
  have CD : Hid (∀ wx : World, Calls Tryd.prog 32 #[.int .u8 (s[0].toNat : Int)] wx fun e w' => e = .returned (.bool false) ∧ wx = w') := fun wx => (rdigit_any _ wx).mono fun e w' ⟨a, b⟩ => ⟨by rw [a, h1], b⟩
  have CM : Hid (∀ wx : World, Calls Tryd.prog 34 #[.int .u8 (s[0].toNat : Int)] wx fun e w' => e = .returned (.bool (smaB s[0])) ∧ wx = w') := fun wx => rsmall_any _ wx
  have CG : Hid (∀ wx : World, Calls Tryd.prog 35 #[.int .u8 (s[0].toNat : Int)] wx fun e w' => e = .returned (.bool (larB s[0])) ∧ wx = w') := fun wx => rlarge_any _ wx
  have HZ : Hid (Whole (w.alloc (.cells #[.int .i64 0, .string ⟨#[]⟩, .int .i64 0, .int .i64 0] 32)) w.heap.size 32 #[.int .i64 0, .string ⟨#[]⟩, .int .i64 0, .int .i64 0]) := Whole.made _ _ _
  have HB : Hid (Below w.heap.size w (w.alloc (.cells #[.int .i64 0, .string ⟨#[]⟩, .int .i64 0, .int .i64 0] 32))) := (Below.refl _ _).alloc (Nat.le_refl _) _
  have HLT : Hid (smaB s[0] = true ∨ smaB s[0] = false ∧ larB s[0] = true) := by
    show _ ∨ _
    rcases hq : smaB s[0] with _ | _
    · rw [hq, Bool.false_or] at hl; exact .inr ⟨rfl, hl⟩
    · exact .inl rfl
  clear h1 h2 hl
  generalize hb1 : smaB s[0] = b1 at *
  generalize hb2 : larB s[0] = b2 at *
  have HB2 := Lib.hid hb2
  clear hb1 hb2
  go_enter Tryd.func19, Tryd.ntmps19
  go_upto_region 18 with (first
    | (go_at_call 32; refine (CD.out _).mono ?_; rintro e w1 ⟨rfl, rfl⟩)
    | (go_at_call 34; refine (CM.out _).mono ?_; rintro e w1 ⟨rfl, rfl⟩)
    | (go_at_call 35; refine (CG.out _).mono ?_; rintro e w1 ⟨rfl, rfl⟩))
  generalize w.alloc (.cells #[.int .i64 0, .string ⟨#[]⟩, .int .i64 0, .int .i64 0] 32) = w2 at *
  go_cut [70] (fun x wx => x = .bool true ∧ w2 = wx)
  case first =>
    rcases HLT.out with rfl | ⟨rfl, rfl⟩
    all_goals
      go_wp2_with (first
          | (go_at_call 32; refine (CD.out _).mono ?_; rintro e w1 ⟨rfl, rfl⟩)
          | (go_at_call 34; refine (CM.out _).mono ?_; rintro e w1 ⟨rfl, rfl⟩)
          | (go_at_call 35; refine (CG.out _).mono ?_; rintro e w1 ⟨rfl, rfl⟩))
      go_meet
      exact ⟨rfl, rfl⟩
  case rest =>
    obtain ⟨rfl, rfl⟩ := hcut
    clear HLT
    go_wp2_with fail
    go_loopg [6] (s.size - 1) (fun gk ks wr => ∃ k : Nat, ks = .int .i64 (k : Int) ∧ 1 ≤ k ∧ k + gk = s.size ∧ (∀ j, 0 ≤ j → j < k → ∀ h : j < s.size, innB s[j] = true) ∧ w2 = wr)
    case atStart => exact ⟨1, rfl, Nat.le_refl _, by omega, fun j _ h1 h => by obtain rfl : j = 0 := by omega
                                                                               exact HI.out, rfl⟩
    case round =>
      obtain ⟨k, rfl, hk1, hkg, hp, hw⟩ := hrel
      subst hw
      have HP := Lib.hid hp
      clear hp
      obtain ⟨b, hb⟩ : ∃ b : Bool, b = if h : k < s.size then innB s[k] else false := ⟨_, rfl⟩
      have HBV := Lib.hid hb
      clear hb
      go_upto_region 19 with (fail)
      go_cut [98] (fun x wx => x = .bool b ∧ w2 = wx)
      case first =>
        by_cases hlt : k < s.size
        · have d1 : decide ((k : Int) < (s.size : Int)) = true := decide_eq_true (by omega)
          have d1n : decide (k < s.size) = true := decide_eq_true hlt
          have i1 : (0 : Int) ≤ (k : Int) := by omega
          have i2 : (k : Int) < (s.size : Int) := by omega
          have KM : Hid (∀ wx : World, Calls Tryd.prog 34 #[.int .u8 (s[k].toNat : Int)] wx fun e w' => e = .returned (.bool (smaB s[k])) ∧ wx = w') := fun wx => rsmall_any _ wx
          have KG : Hid (∀ wx : World, Calls Tryd.prog 35 #[.int .u8 (s[k].toNat : Int)] wx fun e w' => e = .returned (.bool (larB s[k])) ∧ wx = w') := fun wx => rlarge_any _ wx
          have KD : Hid (∀ wx : World, Calls Tryd.prog 32 #[.int .u8 (s[k].toNat : Int)] wx fun e w' => e = .returned (.bool (digB s[k])) ∧ wx = w') := fun wx => rdigit_any _ wx
          have hq95 : ((s[k].toNat : Int) == 95) = (s[k] == 95) := by
            by_cases h : s[k] = 95
            · exact (show ((s[k].toNat : Int) == 95) = true from u8_eq s[k] 95 h).trans (beq_iff_eq.2 h).symm
            · exact (show ((s[k].toNat : Int) == 95) = false from u8_ne s[k] 95 h).trans (beq_eq_false_iff_ne.2 h).symm
          have hb : b = (smaB s[k] || larB s[k] || digB s[k] || s[k] == 95) := by rw [HBV.out, dif_pos hlt]; rfl
          clear HBV HP
          generalize smaB s[k] = x1 at *
          generalize larB s[k] = x2 at *
          generalize digB s[k] = x3 at *
          generalize (s[k] == 95) = x4 at *
          subst hb
          rcases x1 with _ | _
          · rcases x2 with _ | _
            · rcases x3 with _ | _
              · rcases x4 with _ | _
                · go_wp2_with (first
                      | (go_at_call 34; refine (KM.out _).mono ?_; rintro e w1 ⟨rfl, rfl⟩)
                      | (go_at_call 35; refine (KG.out _).mono ?_; rintro e w1 ⟨rfl, rfl⟩)
                      | (go_at_call 32; refine (KD.out _).mono ?_; rintro e w1 ⟨rfl, rfl⟩))
                  go_meet
                  exact ⟨rfl, rfl⟩
                · go_wp2_with (first
                      | (go_at_call 34; refine (KM.out _).mono ?_; rintro e w1 ⟨rfl, rfl⟩)
                      | (go_at_call 35; refine (KG.out _).mono ?_; rintro e w1 ⟨rfl, rfl⟩)
                      | (go_at_call 32; refine (KD.out _).mono ?_; rintro e w1 ⟨rfl, rfl⟩))
                  go_meet
                  exact ⟨rfl, rfl⟩
              · go_wp2_with (first
                    | (go_at_call 34; refine (KM.out _).mono ?_; rintro e w1 ⟨rfl, rfl⟩)
                    | (go_at_call 35; refine (KG.out _).mono ?_; rintro e w1 ⟨rfl, rfl⟩)
                    | (go_at_call 32; refine (KD.out _).mono ?_; rintro e w1 ⟨rfl, rfl⟩))
                go_meet
                exact ⟨rfl, rfl⟩
            · go_wp2_with (first
                  | (go_at_call 34; refine (KM.out _).mono ?_; rintro e w1 ⟨rfl, rfl⟩)
                  | (go_at_call 35; refine (KG.out _).mono ?_; rintro e w1 ⟨rfl, rfl⟩)
                  | (go_at_call 32; refine (KD.out _).mono ?_; rintro e w1 ⟨rfl, rfl⟩))
              go_meet
              exact ⟨rfl, rfl⟩
          · go_wp2_with (first
                | (go_at_call 34; refine (KM.out _).mono ?_; rintro e w1 ⟨rfl, rfl⟩)
                | (go_at_call 35; refine (KG.out _).mono ?_; rintro e w1 ⟨rfl, rfl⟩)
                | (go_at_call 32; refine (KD.out _).mono ?_; rintro e w1 ⟨rfl, rfl⟩))
            go_meet
            exact ⟨rfl, rfl⟩
        · have d1 : decide ((k : Int) < (s.size : Int)) = false := decide_eq_false (by omega)
          have d1n : decide (k < s.size) = false := decide_eq_false hlt
          have hb : b = false := by rw [HBV.out, dif_neg hlt]
          subst hb
          clear HBV HP
          go_wp2_with fail
          go_meet
          exact ⟨rfl, rfl⟩
      case rest =>
        obtain ⟨rfl, rfl⟩ := hcut
        rcases b with _ | _
        · have HE : Hid (k = 0 + runN innB s 0) := run_len (Nat.zero_le _) (by omega) HP.out (fun h => by have := HBV.out; rw [dif_pos h] at this; exact this.symm)
          clear HBV
          have hkN : k = N := by have := HE.out; have := HN.out; omega
          clear HP HE HN HI
          subst hkN
          by_cases hbig : 16 < k
          · have e1 : decide ((16 : Int) < (k : Int)) = true := decide_eq_true (by omega)
            have e1n : decide (16 < k) = true := decide_eq_true hbig
            have hr := HRR.out
            rw [if_pos hbig] at hr
            subst hr
            clear HRR hbig CG CM CD
            have z0 : w2.cell? ⟨w.heap.size, 0, none⟩ = some (.int .i64 0) := HZ.out.cell 0
            have z1 : w2.cell? ⟨w.heap.size, 1, none⟩ = some (.string ⟨#[]⟩) := HZ.out.cell 1
            have z2 : w2.cell? ⟨w.heap.size, 2, none⟩ = some (.int .i64 0) := HZ.out.cell 2
            have z3 : w2.cell? ⟨w.heap.size, 3, none⟩ = some (.int .i64 0) := HZ.out.cell 3
            have y0 := HZ.out.free 0
            have y1 := HZ.out.free 1
            have y2 := HZ.out.free 2
            have y3 := HZ.out.free 3
            go_wp2_with (fail)
            have HZF : Hid (Whole ((((w2.setCell ⟨w.heap.size, 0, none⟩ (.int .i64 0)).setCell ⟨w.heap.size, 1, none⟩ (.string ⟨#[]⟩)).setCell ⟨w.heap.size, 2, none⟩ (.int .i64 0)).setCell ⟨w.heap.size, 3, none⟩ (.int .i64 0)) w.heap.size 32 #[.int .i64 0, .string ⟨#[]⟩, .int .i64 0, .int .i64 0]) := (((Whole.put (w := w2) HZ.out 0 (.int .i64 0)).put 1 (.string ⟨#[]⟩)).put 2 (.int .i64 0)).put 3 (.int .i64 0)
            have HBF : Hid (Below w.heap.size w ((((w2.setCell ⟨w.heap.size, 0, none⟩ (.int .i64 0)).setCell ⟨w.heap.size, 1, none⟩ (.string ⟨#[]⟩)).setCell ⟨w.heap.size, 2, none⟩ (.int .i64 0)).setCell ⟨w.heap.size, 3, none⟩ (.int .i64 0))) := (((HB.out.setCell (p := ⟨w.heap.size, 0, none⟩) (Nat.le_refl _) (.int .i64 0)).setCell (p := ⟨w.heap.size, 1, none⟩) (Nat.le_refl _) (.string ⟨#[]⟩)).setCell (p := ⟨w.heap.size, 2, none⟩) (Nat.le_refl _) (.int .i64 0)).setCell (p := ⟨w.heap.size, 3, none⟩) (Nat.le_refl _) (.int .i64 0)
            generalize ((((w2.setCell ⟨w.heap.size, 0, none⟩ (.int .i64 0)).setCell ⟨w.heap.size, 1, none⟩ (.string ⟨#[]⟩)).setCell ⟨w.heap.size, 2, none⟩ (.int .i64 0)).setCell ⟨w.heap.size, 3, none⟩ (.int .i64 0)) = wf at *
            have g0 := HZF.out.cell 0
            have g1 := HZF.out.cell 1
            have g2 := HZF.out.cell 2
            have g3 := HZF.out.cell 3
            simp only [List.getElem?_toArray, List.getElem?_cons_zero, List.getElem?_cons_succ] at g0 g1 g2 g3
            exact bodyPost_ret (v := .tuple #[tkV 0 ⟨#[]⟩ 0 0, .int .i64 0, .int .i64 12]) (by simp [results, Tryd.results19, go_sem, tkV, g0, g1, g2, g3]) rfl ⟨0, 0, 0, ⟨#[]⟩, rfl, HBF.out, fun h => absurd h (by decide)⟩
          · have e1 : decide ((16 : Int) < (k : Int)) = false := decide_eq_false (by omega)
            have e1n : decide (16 < k) = false := decide_eq_false hbig
            have hr := HRR.out
            rw [if_neg hbig] at hr
            have j1 : (0 : Int) ≤ (k : Int) := by omega
            have j2 : (k : Int) ≤ (s.size : Int) := by omega
            clear HRR hbig CM CD
            obtain ⟨X, hX⟩ : ∃ X, s.extract 0 k = X := ⟨_, rfl⟩
            have HX : Hid (X = ⟨(s.data.toList.take k).toArray⟩) := by rw [← hX]; exact ext_take s k
            rcases b2 with _ | _
            · have CK := Lib.hid (fun wx => rkey_any X wx)
              have hkx : X.data.toList = s.data.toList.take k := by rw [HX.out]
              rw [← hkx] at hr
              unfold nameK at hr
              rw [HB2.out, if_neg (by decide)] at hr
              rcases hkey : keyB X.data.toList with _ | _
              · rw [hkey, if_neg (by decide)] at hr
                rw [hkey] at CK
                have HX2 : Hid (X = ⟨X.data.toList.toArray⟩) := ba_list X
                subst hr
                clear hkey hkx HX HB2
                have HX := HX2
                clear HX2
                go_upto_region 24 with (fail)
                have HT3 : Hid (Whole (w2.alloc (Obj.cells #[.int .i64 3, .string X, .int .i64 0, .int .i64 0] 32)) w2.heap.size 32 #[.int .i64 3, .string X, .int .i64 0, .int .i64 0]) := Whole.made _ _ _
                have HZ3 := Lib.hid (HZ.out.alloc (Obj.cells #[.int .i64 3, .string X, .int .i64 0, .int .i64 0] 32))
                have HB3 := Lib.hid (HB.out.alloc (Nat.le_of_lt HZ.out.lt) (Obj.cells #[.int .i64 3, .string X, .int .i64 0, .int .i64 0] 32))
                have HNE : Hid (w.heap.size < w2.heap.size) := HZ.out.lt
                clear HZ HB
                generalize w2.alloc (Obj.cells #[.int .i64 3, .string X, .int .i64 0, .int .i64 0] 32) = w3 at *
                generalize w2.heap.size = T at *
                go_upto_region 28 with (first
                    | (go_at_call 35; refine (CG.out _).mono ?_; rintro e w1 ⟨rfl, rfl⟩)
                    | (go_at_call 16; refine (CK.out _).mono ?_; rintro e w4 ⟨rfl, h4⟩; have H4 := Lib.hid h4; clear h4))
                have HT := Lib.hid (HT3.out.below H4.out HT3.out.lt)
                have HZ := Lib.hid (HZ3.out.below H4.out HZ3.out.lt)
                have HB := Lib.hid (HB3.out.trans (H4.out.mono HB3.out.size))
                clear HT3 HZ3 HB3 H4 CK CG
                generalize w4 = w5 at *
                have t0 : w5.cell? ⟨T, 0, none⟩ = some (.int .i64 3) := HT.out.cell 0
                have t1 : w5.cell? ⟨T, 1, none⟩ = some (.string X) := HT.out.cell 1
                have t2 : w5.cell? ⟨T, 2, none⟩ = some (.int .i64 0) := HT.out.cell 2
                have t3 : w5.cell? ⟨T, 3, none⟩ = some (.int .i64 0) := HT.out.cell 3
                have z0 : w5.cell? ⟨w.heap.size, 0, none⟩ = some (.int .i64 0) := HZ.out.cell 0
                have z1 : w5.cell? ⟨w.heap.size, 1, none⟩ = some (.string ⟨#[]⟩) := HZ.out.cell 1
                have z2 : w5.cell? ⟨w.heap.size, 2, none⟩ = some (.int .i64 0) := HZ.out.cell 2
                have z3 : w5.cell? ⟨w.heap.size, 3, none⟩ = some (.int .i64 0) := HZ.out.cell 3
                have y0 := HZ.out.free 0
                have y1 := HZ.out.free 1
                have y2 := HZ.out.free 2
                have y3 := HZ.out.free 3
                go_wp2_with fail
                have HZF : Hid (Whole ((((w5.setCell ⟨w.heap.size, 0, none⟩ (.int .i64 3)).setCell ⟨w.heap.size, 1, none⟩ (.string X)).setCell ⟨w.heap.size, 2, none⟩ (.int .i64 0)).setCell ⟨w.heap.size, 3, none⟩ (.int .i64 0)) w.heap.size 32 #[.int .i64 3, .string X, .int .i64 0, .int .i64 0]) := (((Whole.put (w := w5) HZ.out 0 (.int .i64 3)).put 1 (.string X)).put 2 (.int .i64 0)).put 3 (.int .i64 0)
                have HBF : Hid (Below w.heap.size w ((((w5.setCell ⟨w.heap.size, 0, none⟩ (.int .i64 3)).setCell ⟨w.heap.size, 1, none⟩ (.string X)).setCell ⟨w.heap.size, 2, none⟩ (.int .i64 0)).setCell ⟨w.heap.size, 3, none⟩ (.int .i64 0))) := (((HB.out.setCell (p := ⟨w.heap.size, 0, none⟩) (Nat.le_refl _) (.int .i64 3)).setCell (p := ⟨w.heap.size, 1, none⟩) (Nat.le_refl _) (.string X)).setCell (p := ⟨w.heap.size, 2, none⟩) (Nat.le_refl _) (.int .i64 0)).setCell (p := ⟨w.heap.size, 3, none⟩) (Nat.le_refl _) (.int .i64 0)
                generalize ((((w5.setCell ⟨w.heap.size, 0, none⟩ (.int .i64 3)).setCell ⟨w.heap.size, 1, none⟩ (.string X)).setCell ⟨w.heap.size, 2, none⟩ (.int .i64 0)).setCell ⟨w.heap.size, 3, none⟩ (.int .i64 0)) = wf at *
                have g0 := HZF.out.cell 0
                have g1 := HZF.out.cell 1
                have g2 := HZF.out.cell 2
                have g3 := HZF.out.cell 3
                simp only [List.getElem?_toArray, List.getElem?_cons_zero, List.getElem?_cons_succ] at g0 g1 g2 g3
                exact bodyPost_ret (v := .tuple #[tkV 3 X 0 0, .int .i64 (k : Int), .int .i64 0]) (by simp [results, Tryd.results19, go_sem, tkV, g0, g1, g2, g3]) rfl ⟨3, 0, (k : Int), X, rfl, HBF.out, fun _ => ⟨rfl, ba_list X, rfl, rfl⟩⟩
              · rw [hkey, if_pos rfl] at hr
                rw [hkey] at CK
                have HX2 : Hid (X = ⟨X.data.toList.toArray⟩) := ba_list X
                subst hr
                clear hkey hkx HX HB2
                have HX := HX2
                clear HX2
                go_upto_region 24 with (fail)
                have HT3 : Hid (Whole (w2.alloc (Obj.cells #[.int .i64 3, .string X, .int .i64 0, .int .i64 0] 32)) w2.heap.size 32 #[.int .i64 3, .string X, .int .i64 0, .int .i64 0]) := Whole.made _ _ _
                have HZ3 := Lib.hid (HZ.out.alloc (Obj.cells #[.int .i64 3, .string X, .int .i64 0, .int .i64 0] 32))
                have HB3 := Lib.hid (HB.out.alloc (Nat.le_of_lt HZ.out.lt) (Obj.cells #[.int .i64 3, .string X, .int .i64 0, .int .i64 0] 32))
                have HNE : Hid (w.heap.size < w2.heap.size) := HZ.out.lt
                clear HZ HB
                generalize w2.alloc (Obj.cells #[.int .i64 3, .string X, .int .i64 0, .int .i64 0] 32) = w3 at *
                generalize w2.heap.size = T at *
                go_upto_region 27 with (first
                    | (go_at_call 35; refine (CG.out _).mono ?_; rintro e w1 ⟨rfl, rfl⟩)
                    | (go_at_call 16; refine (CK.out _).mono ?_; rintro e w4 ⟨rfl, h4⟩; have H4 := Lib.hid h4; clear h4))
                have HT := Lib.hid (HT3.out.below H4.out HT3.out.lt)
                have HZ := Lib.hid (HZ3.out.below H4.out HZ3.out.lt)
                have HB := Lib.hid (HB3.out.trans (H4.out.mono HB3.out.size))
                clear HT3 HZ3 HB3 H4 CK CG
                have t0 : w4.cell? ⟨T, 0, none⟩ = some (.int .i64 3) := HT.out.cell 0
                have f0 := HT.out.free 0
                go_upto_region 28 with (fail)
                clear t0 f0
                have HT4 := Lib.hid (HT.out.put 0 (.int .i64 6))
                have HZ4 := Lib.hid (HZ.out.far (p := ⟨T, 0, none⟩) (Nat.ne_of_lt HNE.out) (.int .i64 6))
                have HB4 := Lib.hid (HB.out.setCell (p := ⟨T, 0, none⟩) (Nat.le_of_lt HNE.out) (.int .i64 6))
                clear HT HZ HB
                have HT := HT4
                have HZ := HZ4
                have HB := HB4
                clear HT4 HZ4 HB4
                generalize w4.setCell ⟨T, 0, none⟩ (.int .i64 6) = w5 at *
                have t0 : w5.cell? ⟨T, 0, none⟩ = some (.int .i64 6) := HT.out.cell 0
                have t1 : w5.cell? ⟨T, 1, none⟩ = some (.string X) := HT.out.cell 1
                have t2 : w5.cell? ⟨T, 2, none⟩ = some (.int .i64 0) := HT.out.cell 2
                have t3 : w5.cell? ⟨T, 3, none⟩ = some (.int .i64 0) := HT.out.cell 3
                have z0 : w5.cell? ⟨w.heap.size, 0, none⟩ = some (.int .i64 0) := HZ.out.cell 0
                have z1 : w5.cell? ⟨w.heap.size, 1, none⟩ = some (.string ⟨#[]⟩) := HZ.out.cell 1
                have z2 : w5.cell? ⟨w.heap.size, 2, none⟩ = some (.int .i64 0) := HZ.out.cell 2
                have z3 : w5.cell? ⟨w.heap.size, 3, none⟩ = some (.int .i64 0) := HZ.out.cell 3
                have y0 := HZ.out.free 0
                have y1 := HZ.out.free 1
                have y2 := HZ.out.free 2
                have y3 := HZ.out.free 3
                go_wp2_with fail
                have HZF : Hid (Whole ((((w5.setCell ⟨w.heap.size, 0, none⟩ (.int .i64 6)).setCell ⟨w.heap.size, 1, none⟩ (.string X)).setCell ⟨w.heap.size, 2, none⟩ (.int .i64 0)).setCell ⟨w.heap.size, 3, none⟩ (.int .i64 0)) w.heap.size 32 #[.int .i64 6, .string X, .int .i64 0, .int .i64 0]) := (((Whole.put (w := w5) HZ.out 0 (.int .i64 6)).put 1 (.string X)).put 2 (.int .i64 0)).put 3 (.int .i64 0)
                have HBF : Hid (Below w.heap.size w ((((w5.setCell ⟨w.heap.size, 0, none⟩ (.int .i64 6)).setCell ⟨w.heap.size, 1, none⟩ (.string X)).setCell ⟨w.heap.size, 2, none⟩ (.int .i64 0)).setCell ⟨w.heap.size, 3, none⟩ (.int .i64 0))) := (((HB.out.setCell (p := ⟨w.heap.size, 0, none⟩) (Nat.le_refl _) (.int .i64 6)).setCell (p := ⟨w.heap.size, 1, none⟩) (Nat.le_refl _) (.string X)).setCell (p := ⟨w.heap.size, 2, none⟩) (Nat.le_refl _) (.int .i64 0)).setCell (p := ⟨w.heap.size, 3, none⟩) (Nat.le_refl _) (.int .i64 0)
                generalize ((((w5.setCell ⟨w.heap.size, 0, none⟩ (.int .i64 6)).setCell ⟨w.heap.size, 1, none⟩ (.string X)).setCell ⟨w.heap.size, 2, none⟩ (.int .i64 0)).setCell ⟨w.heap.size, 3, none⟩ (.int .i64 0)) = wf at *
                have g0 := HZF.out.cell 0
                have g1 := HZF.out.cell 1
                have g2 := HZF.out.cell 2
                have g3 := HZF.out.cell 3
                simp only [List.getElem?_toArray, List.getElem?_cons_zero, List.getElem?_cons_succ] at g0 g1 g2 g3
                exact bodyPost_ret (v := .tuple #[tkV 6 X 0 0, .int .i64 (k : Int), .int .i64 0]) (by simp [results, Tryd.results19, go_sem, tkV, g0, g1, g2, g3]) rfl ⟨6, 0, (k : Int), X, rfl, HBF.out, fun _ => ⟨rfl, ba_list X, rfl, rfl⟩⟩
            · have hkx : X.data.toList = s.data.toList.take k := by rw [HX.out]
              rw [← hkx] at hr
              unfold nameK at hr
              rw [HB2.out, if_pos rfl] at hr
              have HX2 : Hid (X = ⟨X.data.toList.toArray⟩) := ba_list X
              subst hr
              clear hkx HX HB2
              have HX := HX2
              clear HX2
              go_upto_region 24 with (fail)
              have HT3 : Hid (Whole (w2.alloc (Obj.cells #[.int .i64 3, .string X, .int .i64 0, .int .i64 0] 32)) w2.heap.size 32 #[.int .i64 3, .string X, .int .i64 0, .int .i64 0]) := Whole.made _ _ _
              have HZ3 := Lib.hid (HZ.out.alloc (Obj.cells #[.int .i64 3, .string X, .int .i64 0, .int .i64 0] 32))
              have HB3 := Lib.hid (HB.out.alloc (Nat.le_of_lt HZ.out.lt) (Obj.cells #[.int .i64 3, .string X, .int .i64 0, .int .i64 0] 32))
              have HNE : Hid (w.heap.size < w2.heap.size) := HZ.out.lt
              clear HZ HB
              generalize w2.alloc (Obj.cells #[.int .i64 3, .string X, .int .i64 0, .int .i64 0] 32) = w3 at *
              generalize w2.heap.size = T at *
              have t0 : w3.cell? ⟨T, 0, none⟩ = some (.int .i64 3) := HT3.out.cell 0
              have f0 := HT3.out.free 0
              go_upto_region 28 with (go_at_call 35; refine (CG.out _).mono ?_; rintro e w1 ⟨rfl, rfl⟩)
              clear t0 f0 CG
              have HT := Lib.hid (HT3.out.put 0 (.int .i64 4))
              have HZ := Lib.hid (HZ3.out.far (p := ⟨T, 0, none⟩) (Nat.ne_of_lt HNE.out) (.int .i64 4))
              have HB := Lib.hid (HB3.out.setCell (p := ⟨T, 0, none⟩) (Nat.le_of_lt HNE.out) (.int .i64 4))
              clear HT3 HZ3 HB3
              generalize w3.setCell ⟨T, 0, none⟩ (.int .i64 4) = w5 at *
              have t0 : w5.cell? ⟨T, 0, none⟩ = some (.int .i64 4) := HT.out.cell 0
              have t1 : w5.cell? ⟨T, 1, none⟩ = some (.string X) := HT.out.cell 1
              have t2 : w5.cell? ⟨T, 2, none⟩ = some (.int .i64 0) := HT.out.cell 2
              have t3 : w5.cell? ⟨T, 3, none⟩ = some (.int .i64 0) := HT.out.cell 3
              have z0 : w5.cell? ⟨w.heap.size, 0, none⟩ = some (.int .i64 0) := HZ.out.cell 0
              have z1 : w5.cell? ⟨w.heap.size, 1, none⟩ = some (.string ⟨#[]⟩) := HZ.out.cell 1
              have z2 : w5.cell? ⟨w.heap.size, 2, none⟩ = some (.int .i64 0) := HZ.out.cell 2
              have z3 : w5.cell? ⟨w.heap.size, 3, none⟩ = some (.int .i64 0) := HZ.out.cell 3
              have y0 := HZ.out.free 0
              have y1 := HZ.out.free 1
              have y2 := HZ.out.free 2
              have y3 := HZ.out.free 3
              go_wp2_with fail
              have HZF : Hid (Whole ((((w5.setCell ⟨w.heap.size, 0, none⟩ (.int .i64 4)).setCell ⟨w.heap.size, 1, none⟩ (.string X)).setCell ⟨w.heap.size, 2, none⟩ (.int .i64 0)).setCell ⟨w.heap.size, 3, none⟩ (.int .i64 0)) w.heap.size 32 #[.int .i64 4, .string X, .int .i64 0, .int .i64 0]) := (((Whole.put (w := w5) HZ.out 0 (.int .i64 4)).put 1 (.string X)).put 2 (.int .i64 0)).put 3 (.int .i64 0)
              have HBF : Hid (Below w.heap.size w ((((w5.setCell ⟨w.heap.size, 0, none⟩ (.int .i64 4)).setCell ⟨w.heap.size, 1, none⟩ (.string X)).setCell ⟨w.heap.size, 2, none⟩ (.int .i64 0)).setCell ⟨w.heap.size, 3, none⟩ (.int .i64 0))) := (((HB.out.setCell (p := ⟨w.heap.size, 0, none⟩) (Nat.le_refl _) (.int .i64 4)).setCell (p := ⟨w.heap.size, 1, none⟩) (Nat.le_refl _) (.string X)).setCell (p := ⟨w.heap.size, 2, none⟩) (Nat.le_refl _) (.int .i64 0)).setCell (p := ⟨w.heap.size, 3, none⟩) (Nat.le_refl _) (.int .i64 0)
              generalize ((((w5.setCell ⟨w.heap.size, 0, none⟩ (.int .i64 4)).setCell ⟨w.heap.size, 1, none⟩ (.string X)).setCell ⟨w.heap.size, 2, none⟩ (.int .i64 0)).setCell ⟨w.heap.size, 3, none⟩ (.int .i64 0)) = wf at *
              have g0 := HZF.out.cell 0
              have g1 := HZF.out.cell 1
              have g2 := HZF.out.cell 2
              have g3 := HZF.out.cell 3
              simp only [List.getElem?_toArray, List.getElem?_cons_zero, List.getElem?_cons_succ] at g0 g1 g2 g3
              exact bodyPost_ret (v := .tuple #[tkV 4 X 0 0, .int .i64 (k : Int), .int .i64 0]) (by simp [results, Tryd.results19, go_sem, tkV, g0, g1, g2, g3]) rfl ⟨4, 0, (k : Int), X, rfl, HBF.out, fun _ => ⟨rfl, ba_list X, rfl, rfl⟩⟩
        · have hlt : k < s.size := by
            rcases Nat.lt_or_ge k s.size with h | h
            · exact h
            · have := HBV.out; rw [dif_neg (by omega)] at this; cases this
          have HP2 : Hid (∀ j, 0 ≤ j → j < k + 1 → ∀ h : j < s.size, innB s[j] = true) := fun j h1 h2 h => by
            rcases Nat.lt_or_ge j k with h3 | h3
            · exact HP.out j h1 h3 h
            · obtain rfl : j = k := by omega
              have := HBV.out; rw [dif_pos h] at this; exact this.symm
          clear HP HBV HI CM CG CD
          go_wp2_with fail
          go_roundg (gk - 1)
          case measure => omega
          case rel => exact ⟨k + 1, rfl, by omega, by omega, HP2.out, rfl⟩
end Go.Proofs.YtmjjjnmfkdidgaaDoor
