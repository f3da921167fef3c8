/- The walks of layer 4, the document's: a token that is a text, a sign, or none. -/
import Derived.Test.YtmjjjnmfkdidgaaDoorWalkN
namespace Go.Proofs.YtmjjjnmfkdidgaaDoor
open Go.RowKit
set_option linter.unusedVariables false
attribute [local go_sem ↓] Go.wp_at_zero Go.wp_at_succ

theorem list0 (s : ByteArray) (h : 0 < s.size) : s.data.toList = s[0] :: s.data.toList.drop 1 := by
  have := drop_cons s 0 h
  rwa [List.drop_zero] at this
theorem list1 (s : ByteArray) (h : 1 < s.size) : s.data.toList = s[0] :: s[1] :: s.data.toList.drop 2 := by
  rw [list0 s (by omega), drop_cons s 1 h]; rfl
theorem arr_yes (s : ByteArray) (h : 1 < s.size) (h0 : s[0] = 45) (h1 : s[1] = 62) : arrB s.data.toList = true := by
  rw [list1 s h, h0, h1]; rfl
theorem arr_no (s : ByteArray) (h : 0 < s.size) (hn : ∀ h1 : 1 < s.size, s[0] = 45 → s[1] ≠ 62) : arrB s.data.toList = false := by
  by_cases h1 : 1 < s.size
  · rw [list1 s h1]
    unfold arrB
    refine beq_eq_false_iff_ne.2 fun e => ?_
    simp only [List.take_succ_cons, List.take_zero, List.cons.injEq] at e
    exact hn h1 e.1 e.2.1
  · unfold arrB
    refine beq_eq_false_iff_ne.2 fun e => ?_
    have := congrArg List.length e
    rw [List.length_take, size_list] at this
    simp at this; omega
set_option maxRecDepth 100000 in
set_option maxHeartbeats 4000000 in
theorem rtoken_text (w : World) (s : ByteArray) (c : UInt8) (hs : s.size ≤ 10000) (h0 : 0 < s.size) (hc : s[0] = c) (h : c = 34) (hq : s.size ≤ 1000) : Calls Tryd.prog 19 #[.string s] w (RTok (tokF s.data.toList) w) := by
  have he : tokF s.data.toList = ⟨2, (S.unqF s.data.toList).1, 0, (S.unqF s.data.toList).2.1, (S.unqF s.data.toList).2.2⟩ := by
    have h1 := list0 s h0
    rw [hc, h] at h1
    rw [h1]; exact tok_text _
  obtain ⟨r, hr⟩ : ∃ r, tokF s.data.toList = r := ⟨_, rfl⟩
  rw [hr] at he ⊢
  clear hr
  have HRR := Lib.hid he
  clear he
  subst hc
  have i0 : (0 : Int) < (s.size : Int) := by omega
  have CD : Hid (∀ wx : World, Calls Tryd.prog 32 #[.int .u8 (s[0].toNat : Int)] wx fun e w' => e = .returned (.bool (digB s[0])) ∧ wx = w') := fun wx => rdigit_any _ wx
  have CM : Hid (∀ wx : World, Calls Tryd.prog 34 #[.int .u8 (s[0].toNat : Int)] wx fun e w' => e = .returned (.bool (smaB s[0])) ∧ wx = w') := fun wx => rsmall_any _ wx
  have CG : Hid (∀ wx : World, Calls Tryd.prog 35 #[.int .u8 (s[0].toNat : Int)] wx fun e w' => e = .returned (.bool (larB s[0])) ∧ wx = w') := fun wx => rlarge_any _ wx
  have CI : Hid (∀ wx : World, Calls Tryd.prog 36 #[.int .u8 (s[0].toNat : Int)] wx fun e w' => e = .returned (.bool (signL.contains s[0])) ∧ wx = w') := fun wx => rsign_any _ wx
  have hd : digB s[0] = false := by rw [h]; rfl
  rw [hd] at CD
  have q34 : ((s[0].toNat : Int) == 34) = true := u8_eq s[0] 34 h
  have CU : Hid (∀ wx : World, Calls Tryd.prog 33 #[.string s] wx fun e w' => e = .returned (.tuple #[.string ⟨(S.unqF s.data.toList).1.toArray⟩, .int .i64 ((S.unqF s.data.toList).2.1 : Int), .int .i64 (S.unqF s.data.toList).2.2]) ∧ Below wx.heap.size wx w') := fun wx => S.runquote_any s wx hq
  clear hd h hq
  generalize S.unqF s.data.toList = u at *
  obtain ⟨ut, un, ue⟩ := u
  dsimp only at CU HRR
  have HZ : Hid (Whole (w.alloc (.cells #[.int .i64 0, .string ⟨#[]⟩, .int .i64 0, .int .i64 0] 32)) w.heap.size 32 #[.int .i64 0, .string ⟨#[]⟩, .int .i64 0, .int .i64 0]) := Whole.made _ _ _
  have HB : Hid (Below w.heap.size w (w.alloc (.cells #[.int .i64 0, .string ⟨#[]⟩, .int .i64 0, .int .i64 0] 32))) := (Below.refl _ _).alloc (Nat.le_refl _) _
  go_enter Tryd.func19, Tryd.ntmps19
  go_upto_region 17 with (first
    | (go_at_call 32; refine (CD.out _).mono ?_; rintro e w1 ⟨rfl, rfl⟩)
    | (go_at_call 34; refine (CM.out _).mono ?_; rintro e w1 ⟨rfl, rfl⟩)
    | (go_at_call 35; refine (CG.out _).mono ?_; rintro e w1 ⟨rfl, rfl⟩)
    | (go_at_call 36; refine (CI.out _).mono ?_; rintro e w1 ⟨rfl, rfl⟩)
    | (go_at_call 33; refine (CU.out _).mono ?_; rintro e w2 ⟨rfl, hb⟩; have HB2 := Lib.hid hb; clear hb))
  have HZ2 := Lib.hid (HZ.out.below HB2.out HZ.out.lt)
  have HBB := Lib.hid (HB.out.trans (HB2.out.mono (by simp)))
  clear HZ HB HB2 CU
  have HZ := HZ2
  have HB := HBB
  clear HZ2 HBB
  have hr := HRR.out
  subst hr
  clear HRR
  have z0 : w2.cell? ⟨w.heap.size, 0, none⟩ = some (.int .i64 0) := HZ.out.cell 0
  have z1 : w2.cell? ⟨w.heap.size, 1, none⟩ = some (.string ⟨#[]⟩) := HZ.out.cell 1
  have z2 : w2.cell? ⟨w.heap.size, 2, none⟩ = some (.int .i64 0) := HZ.out.cell 2
  have z3 : w2.cell? ⟨w.heap.size, 3, none⟩ = some (.int .i64 0) := HZ.out.cell 3
  have y0 := HZ.out.free 0
  have y1 := HZ.out.free 1
  have y2 := HZ.out.free 2
  have y3 := HZ.out.free 3
  go_wp2_with fail
  have HZF : Hid (Whole ((((w2.setCell ⟨w.heap.size, 0, none⟩ (.int .i64 2)).setCell ⟨w.heap.size, 1, none⟩ (.string ⟨ut.toArray⟩)).setCell ⟨w.heap.size, 2, none⟩ (.int .i64 0)).setCell ⟨w.heap.size, 3, none⟩ (.int .i64 0)) w.heap.size 32 #[.int .i64 2, .string ⟨ut.toArray⟩, .int .i64 0, .int .i64 0]) := (((Whole.put (w := w2) HZ.out 0 (.int .i64 2)).put 1 (.string ⟨ut.toArray⟩)).put 2 (.int .i64 0)).put 3 (.int .i64 0)
  have HBF : Hid (Below w.heap.size w ((((w2.setCell ⟨w.heap.size, 0, none⟩ (.int .i64 2)).setCell ⟨w.heap.size, 1, none⟩ (.string ⟨ut.toArray⟩)).setCell ⟨w.heap.size, 2, none⟩ (.int .i64 0)).setCell ⟨w.heap.size, 3, none⟩ (.int .i64 0))) := (((HB.out.setCell (p := ⟨w.heap.size, 0, none⟩) (Nat.le_refl _) (.int .i64 2)).setCell (p := ⟨w.heap.size, 1, none⟩) (Nat.le_refl _) (.string ⟨ut.toArray⟩)).setCell (p := ⟨w.heap.size, 2, none⟩) (Nat.le_refl _) (.int .i64 0)).setCell (p := ⟨w.heap.size, 3, none⟩) (Nat.le_refl _) (.int .i64 0)
  generalize ((((w2.setCell ⟨w.heap.size, 0, none⟩ (.int .i64 2)).setCell ⟨w.heap.size, 1, none⟩ (.string ⟨ut.toArray⟩)).setCell ⟨w.heap.size, 2, none⟩ (.int .i64 0)).setCell ⟨w.heap.size, 3, none⟩ (.int .i64 0)) = wf at *
  have g0 := HZF.out.cell 0
  have g1 := HZF.out.cell 1
  have g2 := HZF.out.cell 2
  have g3 := HZF.out.cell 3
  simp only [List.getElem?_toArray, List.getElem?_cons_zero, List.getElem?_cons_succ] at g0 g1 g2 g3
  exact bodyPost_ret (v := .tuple #[tkV 2 ⟨ut.toArray⟩ 0 0, .int .i64 (un : Int), .int .i64 ue]) (by simp [results, Tryd.results19, go_sem, tkV, g0, g1, g2, g3]) rfl ⟨2, 0, (un : Int), ⟨ut.toArray⟩, rfl, HBF.out, fun _ => ⟨rfl, rfl, rfl, rfl⟩⟩
set_option maxRecDepth 100000 in
set_option maxHeartbeats 4000000 in
theorem rtoken_odd (w : World) (s : ByteArray) (c : UInt8) (hs : s.size ≤ 10000) (h0 : 0 < s.size) (hc : s[0] = c) (h1 : digB c = false) (h2 : c ≠ 34) (h3 : (smaB c || larB c) = false) (h : signL.contains c = false) : Calls Tryd.prog 19 #[.string s] w (RTok (tokF s.data.toList) w) := by
  have he : tokF s.data.toList = ⟨0, [], 0, 0, 10⟩ := by
    rw [list0 s h0, hc]; exact tok_odd c _ h1 h2 h3 h
  obtain ⟨r, hr⟩ : ∃ r, tokF s.data.toList = r := ⟨_, rfl⟩
  rw [hr] at he ⊢
  clear hr
  have HRR := Lib.hid he
  clear he
  subst hc
  have i0 : (0 : Int) < (s.size : Int) := by omega
  have CD : Hid (∀ wx : World, Calls Tryd.prog 32 #[.int .u8 (s[0].toNat : Int)] wx fun e w' => e = .returned (.bool (digB s[0])) ∧ wx = w') := fun wx => rdigit_any _ wx
  have CM : Hid (∀ wx : World, Calls Tryd.prog 34 #[.int .u8 (s[0].toNat : Int)] wx fun e w' => e = .returned (.bool (smaB s[0])) ∧ wx = w') := fun wx => rsmall_any _ wx
  have CG : Hid (∀ wx : World, Calls Tryd.prog 35 #[.int .u8 (s[0].toNat : Int)] wx fun e w' => e = .returned (.bool (larB s[0])) ∧ wx = w') := fun wx => rlarge_any _ wx
  have CI : Hid (∀ wx : World, Calls Tryd.prog 36 #[.int .u8 (s[0].toNat : Int)] wx fun e w' => e = .returned (.bool (signL.contains s[0])) ∧ wx = w') := fun wx => rsign_any _ wx
  rw [Bool.or_eq_false_iff] at h3
  rw [h1] at CD
  rw [h3.1] at CM
  rw [h3.2] at CG
  rw [h] at CI
  have q34 : ((s[0].toNat : Int) == 34) = false := u8_ne s[0] 34 h2
  have q45 : ((s[0].toNat : Int) == 45) = false := u8_ne s[0] 45 (fun e => by rw [e] at h; exact absurd h (by decide))
  clear h1 h2 h3 h
  have HZ : Hid (Whole (w.alloc (.cells #[.int .i64 0, .string ⟨#[]⟩, .int .i64 0, .int .i64 0] 32)) w.heap.size 32 #[.int .i64 0, .string ⟨#[]⟩, .int .i64 0, .int .i64 0]) := Whole.made _ _ _
  have HB : Hid (Below w.heap.size w (w.alloc (.cells #[.int .i64 0, .string ⟨#[]⟩, .int .i64 0, .int .i64 0] 32))) := (Below.refl _ _).alloc (Nat.le_refl _) _
  go_enter Tryd.func19, Tryd.ntmps19
  go_upto_region 33 with (first
    | (go_at_call 32; refine (CD.out _).mono ?_; rintro e w1 ⟨rfl, rfl⟩)
    | (go_at_call 34; refine (CM.out _).mono ?_; rintro e w1 ⟨rfl, rfl⟩)
    | (go_at_call 35; refine (CG.out _).mono ?_; rintro e w1 ⟨rfl, rfl⟩)
    | (go_at_call 36; refine (CI.out _).mono ?_; rintro e w1 ⟨rfl, rfl⟩))
  have hr := HRR.out
  subst hr
  clear HRR
  generalize w.alloc (.cells #[.int .i64 0, .string ⟨#[]⟩, .int .i64 0, .int .i64 0] 32) = w2 at *
  have z0 : w2.cell? ⟨w.heap.size, 0, none⟩ = some (.int .i64 0) := HZ.out.cell 0
  have z1 : w2.cell? ⟨w.heap.size, 1, none⟩ = some (.string ⟨#[]⟩) := HZ.out.cell 1
  have z2 : w2.cell? ⟨w.heap.size, 2, none⟩ = some (.int .i64 0) := HZ.out.cell 2
  have z3 : w2.cell? ⟨w.heap.size, 3, none⟩ = some (.int .i64 0) := HZ.out.cell 3
  have y0 := HZ.out.free 0
  have y1 := HZ.out.free 1
  have y2 := HZ.out.free 2
  have y3 := HZ.out.free 3
  go_wp2_with fail
  have HZF : Hid (Whole ((((w2.setCell ⟨w.heap.size, 0, none⟩ (.int .i64 0)).setCell ⟨w.heap.size, 1, none⟩ (.string ⟨#[]⟩)).setCell ⟨w.heap.size, 2, none⟩ (.int .i64 0)).setCell ⟨w.heap.size, 3, none⟩ (.int .i64 0)) w.heap.size 32 #[.int .i64 0, .string ⟨#[]⟩, .int .i64 0, .int .i64 0]) := (((Whole.put (w := w2) HZ.out 0 (.int .i64 0)).put 1 (.string ⟨#[]⟩)).put 2 (.int .i64 0)).put 3 (.int .i64 0)
  have HBF : Hid (Below w.heap.size w ((((w2.setCell ⟨w.heap.size, 0, none⟩ (.int .i64 0)).setCell ⟨w.heap.size, 1, none⟩ (.string ⟨#[]⟩)).setCell ⟨w.heap.size, 2, none⟩ (.int .i64 0)).setCell ⟨w.heap.size, 3, none⟩ (.int .i64 0))) := (((HB.out.setCell (p := ⟨w.heap.size, 0, none⟩) (Nat.le_refl _) (.int .i64 0)).setCell (p := ⟨w.heap.size, 1, none⟩) (Nat.le_refl _) (.string ⟨#[]⟩)).setCell (p := ⟨w.heap.size, 2, none⟩) (Nat.le_refl _) (.int .i64 0)).setCell (p := ⟨w.heap.size, 3, none⟩) (Nat.le_refl _) (.int .i64 0)
  generalize ((((w2.setCell ⟨w.heap.size, 0, none⟩ (.int .i64 0)).setCell ⟨w.heap.size, 1, none⟩ (.string ⟨#[]⟩)).setCell ⟨w.heap.size, 2, none⟩ (.int .i64 0)).setCell ⟨w.heap.size, 3, none⟩ (.int .i64 0)) = wf at *
  have g0 := HZF.out.cell 0
  have g1 := HZF.out.cell 1
  have g2 := HZF.out.cell 2
  have g3 := HZF.out.cell 3
  simp only [List.getElem?_toArray, List.getElem?_cons_zero, List.getElem?_cons_succ] at g0 g1 g2 g3
  exact bodyPost_ret (v := .tuple #[tkV 0 ⟨#[]⟩ 0 0, .int .i64 0, .int .i64 10]) (by simp [results, Tryd.results19, go_sem, tkV, g0, g1, g2, g3]) rfl ⟨0, 0, 0, ⟨#[]⟩, rfl, HBF.out, fun h => absurd h (by decide)⟩
set_option maxRecDepth 100000 in
set_option maxHeartbeats 4000000 in
theorem rtoken_arrow (w : World) (s : ByteArray) (c : UInt8) (hs : s.size ≤ 10000) (h0 : 0 < s.size) (hc : s[0] = c) (h1 : 1 < s.size) (h2 : c = 45) (h3 : s[1] = 62) : Calls Tryd.prog 19 #[.string s] w (RTok (tokF s.data.toList) w) := by
  have he : tokF s.data.toList = ⟨5, [45, 62], 0, 2, 0⟩ := by
    have ha := arr_yes s h1 (hc.trans h2) h3
    have hl := list0 s h0
    rw [hc, h2] at hl
    rw [hl] at ha ⊢
    rw [tok_sign 45 _ rfl (by decide) rfl (by decide), if_pos ha]
  obtain ⟨r, hr⟩ : ∃ r, tokF s.data.toList = r := ⟨_, rfl⟩
  rw [hr] at he ⊢
  clear hr
  have HRR := Lib.hid he
  clear he
  subst hc
  have i0 : (0 : Int) < (s.size : Int) := by omega
  have CD : Hid (∀ wx : World, Calls Tryd.prog 32 #[.int .u8 (s[0].toNat : Int)] wx fun e w' => e = .returned (.bool (digB s[0])) ∧ wx = w') := fun wx => rdigit_any _ wx
  have CM : Hid (∀ wx : World, Calls Tryd.prog 34 #[.int .u8 (s[0].toNat : Int)] wx fun e w' => e = .returned (.bool (smaB s[0])) ∧ wx = w') := fun wx => rsmall_any _ wx
  have CG : Hid (∀ wx : World, Calls Tryd.prog 35 #[.int .u8 (s[0].toNat : Int)] wx fun e w' => e = .returned (.bool (larB s[0])) ∧ wx = w') := fun wx => rlarge_any _ wx
  have CI : Hid (∀ wx : World, Calls Tryd.prog 36 #[.int .u8 (s[0].toNat : Int)] wx fun e w' => e = .returned (.bool (signL.contains s[0])) ∧ wx = w') := fun wx => rsign_any _ wx
  have hd : digB s[0] = false := by rw [h2]; rfl
  have hm : smaB s[0] = false := by rw [h2]; rfl
  have hg : larB s[0] = false := by rw [h2]; rfl
  rw [hd] at CD
  rw [hm] at CM
  rw [hg] at CG
  have q34 : ((s[0].toNat : Int) == 34) = false := u8_ne s[0] 34 (by rw [h2]; decide)
  have q45 : ((s[0].toNat : Int) == 45) = true := u8_eq s[0] 45 h2
  have q62 : ((s[1].toNat : Int) == 62) = true := u8_eq s[1] 62 h3
  have j1 : (1 : Int) < (s.size : Int) := by omega
  have j1d : decide ((1 : Int) < (s.size : Int)) = true := decide_eq_true j1
  have j1e : decide (1 < s.size) = true := decide_eq_true h1
  clear hd hm hg h2 h3
  have HZ : Hid (Whole (w.alloc (.cells #[.int .i64 0, .string ⟨#[]⟩, .int .i64 0, .int .i64 0] 32)) w.heap.size 32 #[.int .i64 0, .string ⟨#[]⟩, .int .i64 0, .int .i64 0]) := Whole.made _ _ _
  have HB : Hid (Below w.heap.size w (w.alloc (.cells #[.int .i64 0, .string ⟨#[]⟩, .int .i64 0, .int .i64 0] 32))) := (Below.refl _ _).alloc (Nat.le_refl _) _
  go_enter Tryd.func19, Tryd.ntmps19
  go_upto_region 30 with (first
    | (go_at_call 32; refine (CD.out _).mono ?_; rintro e w1 ⟨rfl, rfl⟩)
    | (go_at_call 34; refine (CM.out _).mono ?_; rintro e w1 ⟨rfl, rfl⟩)
    | (go_at_call 35; refine (CG.out _).mono ?_; rintro e w1 ⟨rfl, rfl⟩)
    | (go_at_call 36; refine (CI.out _).mono ?_; rintro e w1 ⟨rfl, rfl⟩))
  have hr := HRR.out
  subst hr
  clear HRR
  generalize w.alloc (.cells #[.int .i64 0, .string ⟨#[]⟩, .int .i64 0, .int .i64 0] 32) = w2 at *
  have z0 : w2.cell? ⟨w.heap.size, 0, none⟩ = some (.int .i64 0) := HZ.out.cell 0
  have z1 : w2.cell? ⟨w.heap.size, 1, none⟩ = some (.string ⟨#[]⟩) := HZ.out.cell 1
  have z2 : w2.cell? ⟨w.heap.size, 2, none⟩ = some (.int .i64 0) := HZ.out.cell 2
  have z3 : w2.cell? ⟨w.heap.size, 3, none⟩ = some (.int .i64 0) := HZ.out.cell 3
  have y0 := HZ.out.free 0
  have y1 := HZ.out.free 1
  have y2 := HZ.out.free 2
  have y3 := HZ.out.free 3
  go_wp2_with fail
  have HZF : Hid (Whole ((((w2.setCell ⟨w.heap.size, 0, none⟩ (.int .i64 5)).setCell ⟨w.heap.size, 1, none⟩ (.string ⟨#[45, 62]⟩)).setCell ⟨w.heap.size, 2, none⟩ (.int .i64 0)).setCell ⟨w.heap.size, 3, none⟩ (.int .i64 0)) w.heap.size 32 #[.int .i64 5, .string ⟨#[45, 62]⟩, .int .i64 0, .int .i64 0]) := (((Whole.put (w := w2) HZ.out 0 (.int .i64 5)).put 1 (.string ⟨#[45, 62]⟩)).put 2 (.int .i64 0)).put 3 (.int .i64 0)
  have HBF : Hid (Below w.heap.size w ((((w2.setCell ⟨w.heap.size, 0, none⟩ (.int .i64 5)).setCell ⟨w.heap.size, 1, none⟩ (.string ⟨#[45, 62]⟩)).setCell ⟨w.heap.size, 2, none⟩ (.int .i64 0)).setCell ⟨w.heap.size, 3, none⟩ (.int .i64 0))) := (((HB.out.setCell (p := ⟨w.heap.size, 0, none⟩) (Nat.le_refl _) (.int .i64 5)).setCell (p := ⟨w.heap.size, 1, none⟩) (Nat.le_refl _) (.string ⟨#[45, 62]⟩)).setCell (p := ⟨w.heap.size, 2, none⟩) (Nat.le_refl _) (.int .i64 0)).setCell (p := ⟨w.heap.size, 3, none⟩) (Nat.le_refl _) (.int .i64 0)
  generalize ((((w2.setCell ⟨w.heap.size, 0, none⟩ (.int .i64 5)).setCell ⟨w.heap.size, 1, none⟩ (.string ⟨#[45, 62]⟩)).setCell ⟨w.heap.size, 2, none⟩ (.int .i64 0)).setCell ⟨w.heap.size, 3, none⟩ (.int .i64 0)) = wf at *
  have g0 := HZF.out.cell 0
  have g1 := HZF.out.cell 1
  have g2 := HZF.out.cell 2
  have g3 := HZF.out.cell 3
  simp only [List.getElem?_toArray, List.getElem?_cons_zero, List.getElem?_cons_succ] at g0 g1 g2 g3
  exact bodyPost_ret (v := .tuple #[tkV 5 ⟨#[45, 62]⟩ 0 0, .int .i64 2, .int .i64 0]) (by simp [results, Tryd.results19, go_sem, tkV, g0, g1, g2, g3]) rfl ⟨5, 0, 2, ⟨#[45, 62]⟩, rfl, HBF.out, fun _ => ⟨rfl, rfl, rfl, rfl⟩⟩
set_option maxRecDepth 100000 in
set_option maxHeartbeats 4000000 in
theorem rtoken_sign (w : World) (s : ByteArray) (c : UInt8) (hs : s.size ≤ 10000) (h0 : 0 < s.size) (hc : s[0] = c) (h1 : digB c = false) (h2 : c ≠ 34) (h3 : (smaB c || larB c) = false) (h : signL.contains c = true) (ha : ∀ h1 : 1 < s.size, c = 45 → s[1] ≠ 62) : Calls Tryd.prog 19 #[.string s] w (RTok (tokF s.data.toList) w) := by
  have he : tokF s.data.toList = ⟨5, [c], 0, 1, 0⟩ := by
    have hb := arr_no s h0 (by rw [hc]; exact ha)
    have hl := list0 s h0
    rw [hc] at hl
    rw [hl] at hb ⊢
    rw [tok_sign c _ h1 h2 h3 h, if_neg (by rw [hb]; decide)]
  obtain ⟨r, hr⟩ : ∃ r, tokF s.data.toList = r := ⟨_, rfl⟩
  rw [hr] at he ⊢
  clear hr
  have HRR := Lib.hid he
  clear he
  subst hc
  have i0 : (0 : Int) < (s.size : Int) := by omega
  have CD : Hid (∀ wx : World, Calls Tryd.prog 32 #[.int .u8 (s[0].toNat : Int)] wx fun e w' => e = .returned (.bool (digB s[0])) ∧ wx = w') := fun wx => rdigit_any _ wx
  have CM : Hid (∀ wx : World, Calls Tryd.prog 34 #[.int .u8 (s[0].toNat : Int)] wx fun e w' => e = .returned (.bool (smaB s[0])) ∧ wx = w') := fun wx => rsmall_any _ wx
  have CG : Hid (∀ wx : World, Calls Tryd.prog 35 #[.int .u8 (s[0].toNat : Int)] wx fun e w' => e = .returned (.bool (larB s[0])) ∧ wx = w') := fun wx => rlarge_any _ wx
  have CI : Hid (∀ wx : World, Calls Tryd.prog 36 #[.int .u8 (s[0].toNat : Int)] wx fun e w' => e = .returned (.bool (signL.contains s[0])) ∧ wx = w') := fun wx => rsign_any _ wx
  rw [Bool.or_eq_false_iff] at h3
  rw [h1] at CD
  rw [h3.1] at CM
  rw [h3.2] at CG
  rw [h] at CI
  have q34 : ((s[0].toNat : Int) == 34) = false := u8_ne s[0] 34 h2
  have i1 : (1 : Int) ≤ (s.size : Int) := by omega
  have HX : Hid (s.extract 0 1 = ⟨[s[0]].toArray⟩) := by
    refine ba_ext ?_
    rw [ByteArray.data_extract, Array.toList_extract, list0 s h0]; rfl
  clear h1 h2 h3 h
  have HZ : Hid (Whole (w.alloc (.cells #[.int .i64 0, .string ⟨#[]⟩, .int .i64 0, .int .i64 0] 32)) w.heap.size 32 #[.int .i64 0, .string ⟨#[]⟩, .int .i64 0, .int .i64 0]) := Whole.made _ _ _
  have HB : Hid (Below w.heap.size w (w.alloc (.cells #[.int .i64 0, .string ⟨#[]⟩, .int .i64 0, .int .i64 0] 32))) := (Below.refl _ _).alloc (Nat.le_refl _) _
  by_cases h45 : s[0] = 45
  · have q45 : ((s[0].toNat : Int) == 45) = true := u8_eq s[0] 45 h45
    by_cases h1 : 1 < s.size
    · have q62 : ((s[1].toNat : Int) == 62) = false := u8_ne s[1] 62 (ha h1 h45)
      have j1 : (1 : Int) < (s.size : Int) := by omega
      have j1d : decide ((1 : Int) < (s.size : Int)) = true := decide_eq_true j1
      have j1e : decide (1 < s.size) = true := decide_eq_true h1
      clear h45 ha
      go_enter Tryd.func19, Tryd.ntmps19
      go_upto_region 32 with (first
        | (go_at_call 32; refine (CD.out _).mono ?_; rintro e w1 ⟨rfl, rfl⟩)
        | (go_at_call 34; refine (CM.out _).mono ?_; rintro e w1 ⟨rfl, rfl⟩)
        | (go_at_call 35; refine (CG.out _).mono ?_; rintro e w1 ⟨rfl, rfl⟩)
        | (go_at_call 36; refine (CI.out _).mono ?_; rintro e w1 ⟨rfl, rfl⟩))
      have hr := HRR.out
      subst hr
      clear HRR
      generalize w.alloc (.cells #[.int .i64 0, .string ⟨#[]⟩, .int .i64 0, .int .i64 0] 32) = w2 at *
      have z0 : w2.cell? ⟨w.heap.size, 0, none⟩ = some (.int .i64 0) := HZ.out.cell 0
      have z1 : w2.cell? ⟨w.heap.size, 1, none⟩ = some (.string ⟨#[]⟩) := HZ.out.cell 1
      have z2 : w2.cell? ⟨w.heap.size, 2, none⟩ = some (.int .i64 0) := HZ.out.cell 2
      have z3 : w2.cell? ⟨w.heap.size, 3, none⟩ = some (.int .i64 0) := HZ.out.cell 3
      have y0 := HZ.out.free 0
      have y1 := HZ.out.free 1
      have y2 := HZ.out.free 2
      have y3 := HZ.out.free 3
      go_wp2_with fail
      have HZF : Hid (Whole ((((w2.setCell ⟨w.heap.size, 0, none⟩ (.int .i64 5)).setCell ⟨w.heap.size, 1, none⟩ (.string (s.extract 0 1))).setCell ⟨w.heap.size, 2, none⟩ (.int .i64 0)).setCell ⟨w.heap.size, 3, none⟩ (.int .i64 0)) w.heap.size 32 #[.int .i64 5, .string (s.extract 0 1), .int .i64 0, .int .i64 0]) := (((Whole.put (w := w2) HZ.out 0 (.int .i64 5)).put 1 (.string (s.extract 0 1))).put 2 (.int .i64 0)).put 3 (.int .i64 0)
      have HBF : Hid (Below w.heap.size w ((((w2.setCell ⟨w.heap.size, 0, none⟩ (.int .i64 5)).setCell ⟨w.heap.size, 1, none⟩ (.string (s.extract 0 1))).setCell ⟨w.heap.size, 2, none⟩ (.int .i64 0)).setCell ⟨w.heap.size, 3, none⟩ (.int .i64 0))) := (((HB.out.setCell (p := ⟨w.heap.size, 0, none⟩) (Nat.le_refl _) (.int .i64 5)).setCell (p := ⟨w.heap.size, 1, none⟩) (Nat.le_refl _) (.string (s.extract 0 1))).setCell (p := ⟨w.heap.size, 2, none⟩) (Nat.le_refl _) (.int .i64 0)).setCell (p := ⟨w.heap.size, 3, none⟩) (Nat.le_refl _) (.int .i64 0)
      generalize ((((w2.setCell ⟨w.heap.size, 0, none⟩ (.int .i64 5)).setCell ⟨w.heap.size, 1, none⟩ (.string (s.extract 0 1))).setCell ⟨w.heap.size, 2, none⟩ (.int .i64 0)).setCell ⟨w.heap.size, 3, none⟩ (.int .i64 0)) = wf at *
      have g0 := HZF.out.cell 0
      have g1 := HZF.out.cell 1
      have g2 := HZF.out.cell 2
      have g3 := HZF.out.cell 3
      simp only [List.getElem?_toArray, List.getElem?_cons_zero, List.getElem?_cons_succ] at g0 g1 g2 g3
      exact bodyPost_ret (v := .tuple #[tkV 5 (s.extract 0 1) 0 0, .int .i64 1, .int .i64 0]) (by simp [results, Tryd.results19, go_sem, tkV, g0, g1, g2, g3]) rfl ⟨5, 0, 1, (s.extract 0 1), rfl, HBF.out, fun _ => ⟨rfl, HX.out, rfl, rfl⟩⟩
    · have j1d : decide ((1 : Int) < (s.size : Int)) = false := decide_eq_false (by omega)
      have j1e : decide (1 < s.size) = false := decide_eq_false h1
      clear h45 ha
      go_enter Tryd.func19, Tryd.ntmps19
      go_upto_region 32 with (first
        | (go_at_call 32; refine (CD.out _).mono ?_; rintro e w1 ⟨rfl, rfl⟩)
        | (go_at_call 34; refine (CM.out _).mono ?_; rintro e w1 ⟨rfl, rfl⟩)
        | (go_at_call 35; refine (CG.out _).mono ?_; rintro e w1 ⟨rfl, rfl⟩)
        | (go_at_call 36; refine (CI.out _).mono ?_; rintro e w1 ⟨rfl, rfl⟩))
      have hr := HRR.out
      subst hr
      clear HRR
      generalize w.alloc (.cells #[.int .i64 0, .string ⟨#[]⟩, .int .i64 0, .int .i64 0] 32) = w2 at *
      have z0 : w2.cell? ⟨w.heap.size, 0, none⟩ = some (.int .i64 0) := HZ.out.cell 0
      have z1 : w2.cell? ⟨w.heap.size, 1, none⟩ = some (.string ⟨#[]⟩) := HZ.out.cell 1
      have z2 : w2.cell? ⟨w.heap.size, 2, none⟩ = some (.int .i64 0) := HZ.out.cell 2
      have z3 : w2.cell? ⟨w.heap.size, 3, none⟩ = some (.int .i64 0) := HZ.out.cell 3
      have y0 := HZ.out.free 0
      have y1 := HZ.out.free 1
      have y2 := HZ.out.free 2
      have y3 := HZ.out.free 3
      go_wp2_with fail
      have HZF : Hid (Whole ((((w2.setCell ⟨w.heap.size, 0, none⟩ (.int .i64 5)).setCell ⟨w.heap.size, 1, none⟩ (.string (s.extract 0 1))).setCell ⟨w.heap.size, 2, none⟩ (.int .i64 0)).setCell ⟨w.heap.size, 3, none⟩ (.int .i64 0)) w.heap.size 32 #[.int .i64 5, .string (s.extract 0 1), .int .i64 0, .int .i64 0]) := (((Whole.put (w := w2) HZ.out 0 (.int .i64 5)).put 1 (.string (s.extract 0 1))).put 2 (.int .i64 0)).put 3 (.int .i64 0)
      have HBF : Hid (Below w.heap.size w ((((w2.setCell ⟨w.heap.size, 0, none⟩ (.int .i64 5)).setCell ⟨w.heap.size, 1, none⟩ (.string (s.extract 0 1))).setCell ⟨w.heap.size, 2, none⟩ (.int .i64 0)).setCell ⟨w.heap.size, 3, none⟩ (.int .i64 0))) := (((HB.out.setCell (p := ⟨w.heap.size, 0, none⟩) (Nat.le_refl _) (.int .i64 5)).setCell (p := ⟨w.heap.size, 1, none⟩) (Nat.le_refl _) (.string (s.extract 0 1))).setCell (p := ⟨w.heap.size, 2, none⟩) (Nat.le_refl _) (.int .i64 0)).setCell (p := ⟨w.heap.size, 3, none⟩) (Nat.le_refl _) (.int .i64 0)
      generalize ((((w2.setCell ⟨w.heap.size, 0, none⟩ (.int .i64 5)).setCell ⟨w.heap.size, 1, none⟩ (.string (s.extract 0 1))).setCell ⟨w.heap.size, 2, none⟩ (.int .i64 0)).setCell ⟨w.heap.size, 3, none⟩ (.int .i64 0)) = wf at *
      have g0 := HZF.out.cell 0
      have g1 := HZF.out.cell 1
      have g2 := HZF.out.cell 2
      have g3 := HZF.out.cell 3
      simp only [List.getElem?_toArray, List.getElem?_cons_zero, List.getElem?_cons_succ] at g0 g1 g2 g3
      exact bodyPost_ret (v := .tuple #[tkV 5 (s.extract 0 1) 0 0, .int .i64 1, .int .i64 0]) (by simp [results, Tryd.results19, go_sem, tkV, g0, g1, g2, g3]) rfl ⟨5, 0, 1, (s.extract 0 1), rfl, HBF.out, fun _ => ⟨rfl, HX.out, rfl, rfl⟩⟩
  · have q45 : ((s[0].toNat : Int) == 45) = false := u8_ne s[0] 45 h45
    clear h45 ha
    go_enter Tryd.func19, Tryd.ntmps19
    go_upto_region 32 with (first
      | (go_at_call 32; refine (CD.out _).mono ?_; rintro e w1 ⟨rfl, rfl⟩)
      | (go_at_call 34; refine (CM.out _).mono ?_; rintro e w1 ⟨rfl, rfl⟩)
      | (go_at_call 35; refine (CG.out _).mono ?_; rintro e w1 ⟨rfl, rfl⟩)
      | (go_at_call 36; refine (CI.out _).mono ?_; rintro e w1 ⟨rfl, rfl⟩))
    have hr := HRR.out
    subst hr
    clear HRR
    generalize w.alloc (.cells #[.int .i64 0, .string ⟨#[]⟩, .int .i64 0, .int .i64 0] 32) = w2 at *
    have z0 : w2.cell? ⟨w.heap.size, 0, none⟩ = some (.int .i64 0) := HZ.out.cell 0
    have z1 : w2.cell? ⟨w.heap.size, 1, none⟩ = some (.string ⟨#[]⟩) := HZ.out.cell 1
    have z2 : w2.cell? ⟨w.heap.size, 2, none⟩ = some (.int .i64 0) := HZ.out.cell 2
    have z3 : w2.cell? ⟨w.heap.size, 3, none⟩ = some (.int .i64 0) := HZ.out.cell 3
    have y0 := HZ.out.free 0
    have y1 := HZ.out.free 1
    have y2 := HZ.out.free 2
    have y3 := HZ.out.free 3
    go_wp2_with fail
    have HZF : Hid (Whole ((((w2.setCell ⟨w.heap.size, 0, none⟩ (.int .i64 5)).setCell ⟨w.heap.size, 1, none⟩ (.string (s.extract 0 1))).setCell ⟨w.heap.size, 2, none⟩ (.int .i64 0)).setCell ⟨w.heap.size, 3, none⟩ (.int .i64 0)) w.heap.size 32 #[.int .i64 5, .string (s.extract 0 1), .int .i64 0, .int .i64 0]) := (((Whole.put (w := w2) HZ.out 0 (.int .i64 5)).put 1 (.string (s.extract 0 1))).put 2 (.int .i64 0)).put 3 (.int .i64 0)
    have HBF : Hid (Below w.heap.size w ((((w2.setCell ⟨w.heap.size, 0, none⟩ (.int .i64 5)).setCell ⟨w.heap.size, 1, none⟩ (.string (s.extract 0 1))).setCell ⟨w.heap.size, 2, none⟩ (.int .i64 0)).setCell ⟨w.heap.size, 3, none⟩ (.int .i64 0))) := (((HB.out.setCell (p := ⟨w.heap.size, 0, none⟩) (Nat.le_refl _) (.int .i64 5)).setCell (p := ⟨w.heap.size, 1, none⟩) (Nat.le_refl _) (.string (s.extract 0 1))).setCell (p := ⟨w.heap.size, 2, none⟩) (Nat.le_refl _) (.int .i64 0)).setCell (p := ⟨w.heap.size, 3, none⟩) (Nat.le_refl _) (.int .i64 0)
    generalize ((((w2.setCell ⟨w.heap.size, 0, none⟩ (.int .i64 5)).setCell ⟨w.heap.size, 1, none⟩ (.string (s.extract 0 1))).setCell ⟨w.heap.size, 2, none⟩ (.int .i64 0)).setCell ⟨w.heap.size, 3, none⟩ (.int .i64 0)) = wf at *
    have g0 := HZF.out.cell 0
    have g1 := HZF.out.cell 1
    have g2 := HZF.out.cell 2
    have g3 := HZF.out.cell 3
    simp only [List.getElem?_toArray, List.getElem?_cons_zero, List.getElem?_cons_succ] at g0 g1 g2 g3
    exact bodyPost_ret (v := .tuple #[tkV 5 (s.extract 0 1) 0 0, .int .i64 1, .int .i64 0]) (by simp [results, Tryd.results19, go_sem, tkV, g0, g1, g2, g3]) rfl ⟨5, 0, 1, (s.extract 0 1), rfl, HBF.out, fun _ => ⟨rfl, HX.out, rfl, rfl⟩⟩
end Go.Proofs.YtmjjjnmfkdidgaaDoor
