/- The walks of layer 4, the document's: a token that is a number. -/
import Derived.Test.YtmjjjnmfkdidgaaDoorWalkM
namespace Go.Proofs.YtmjjjnmfkdidgaaDoor
open Go.RowKit
set_option linter.unusedVariables false
attribute [local go_sem ↓] Go.wp_at_zero Go.wp_at_succ

/-- What the document's token is told to be. -/
def RTok (r : TokR) (w : World) (e : Ending) (w' : World) : Prop :=
  ∃ kd nm n : Int, ∃ tx : ByteArray, e = .returned (.tuple #[tkV kd tx nm 0, .int .i64 n, .int .i64 r.e]) ∧ Below w.heap.size w w' ∧
    (r.e = 0 → kd = r.kind ∧ tx = ⟨r.text.toArray⟩ ∧ nm = r.num ∧ n = (r.n : Int))
theorem valT_snoc (l : List UInt8) (c : UInt8) : valT (l ++ [c]) = 10 * valT l + (c.toNat - 48) := by simp [valT]
theorem valT_le : ∀ (l m : List UInt8), valT l ≤ valT (l ++ m)
  | l, [] => by rw [List.append_nil]; exact Nat.le_refl _
  | l, c :: m => by
    have h := valT_le (l ++ [c]) m
    rw [List.append_assoc, List.singleton_append] at h
    have h2 := valT_snoc l c
    omega
theorem valT_take (s : ByteArray) (k : Nat) (h : k < s.size) : valT (s.data.toList.take (k + 1)) = 10 * valT (s.data.toList.take k) + (s[k].toNat - 48) := by
  rw [List.take_add_one, get_list s k h]
  exact valT_snoc _ _
theorem valT_more (l : List UInt8) {a b : Nat} (h : a ≤ b) : valT (l.take a) ≤ valT (l.take b) := by
  have e : l.take a ++ (l.take b).drop a = l.take b := by
    have := List.take_append_drop a (l.take b)
    rwa [List.take_take, Nat.min_eq_left h] at this
  rw [← e]; exact valT_le _ _
theorem take_run (P : UInt8 → Bool) (s : ByteArray) : s.data.toList.takeWhile P = s.data.toList.take (runN P s 0) := by
  have h := List.prefix_iff_eq_take.1 (List.takeWhile_prefix (l := s.data.toList) P)
  rw [h]; unfold runN; simp
theorem dig_lo {c : UInt8} (h : digB c = true) : 48 ≤ (c.toNat : Int) := by simp [digB] at h; omega
theorem dig_hi {c : UInt8} (h : digB c = true) : (c.toNat : Int) ≤ 57 := by simp [digB] at h; omega
set_option maxRecDepth 100000 in
set_option maxHeartbeats 4000000 in
theorem rtoken_num (w : World) (s : ByteArray) (c : UInt8) (hs : s.size ≤ 10000) (h0 : 0 < s.size) (hc : s[0] = c) (hd : digB c = true) : Calls Tryd.prog 19 #[.string s] w (RTok (tokF s.data.toList) w) := by
  have he : tokF s.data.toList = if 4611686018427387903 < valT (s.data.toList.take (runN digB s 0)) then ⟨0, [], 0, 0, 13⟩ else ⟨1, [], valT (s.data.toList.take (runN digB s 0)), runN digB s 0, 0⟩ := by
    have h1 := drop_cons s 0 h0
    rw [List.drop_zero] at h1
    rw [← take_run]
    unfold runN
    rw [List.drop_zero, h1, hc]; exact tok_num c _ hd
  obtain ⟨r, hr⟩ : ∃ r, tokF s.data.toList = r := ⟨_, rfl⟩
  rw [hr] at he ⊢
  clear hr
  have hdg : ∀ j, j < runN digB s 0 → ∀ h : j < s.size, digB s[j] = true := fun j hj h => by
    have h1 := get_list s j h
    have h2 : (s.data.toList.takeWhile digB)[j]? = some s[j] := by rw [take_run, List.getElem?_take, if_pos hj, h1]
    exact mem_tw (List.mem_of_getElem? h2)
  have hrl := runN_le digB s 0 (Nat.zero_le _)
  subst hc
  have CD : Hid (∀ (c : UInt8) (wx : World), Calls Tryd.prog 32 #[.int .u8 (c.toNat : Int)] wx fun e w' => e = .returned (.bool (digB c)) ∧ wx = w') := rdigit_any
  obtain ⟨N, hN⟩ : ∃ N, runN digB s 0 = N := ⟨_, rfl⟩
  rw [hN] at hdg hrl he
  have HN := Lib.hid hN
  have HRR := Lib.hid he
  have HD := Lib.hid hdg
  clear hN he hdg
  have i0 : (0 : Int) < (s.size : Int) := by omega
  have CT : Hid (∀ wx, Calls Tryd.prog 32 #[.int .u8 (s[0].toNat : Int)] wx fun e w' => e = .returned (.bool true) ∧ wx = w') := fun wx => (rdigit_any _ wx).mono fun e w' ⟨h1, h2⟩ => ⟨by rw [h1, hd], h2⟩
  have HI := Lib.hid hd
  clear hd
  have HZ : Hid (Whole (w.alloc (.cells #[.int .i64 0, .string ⟨#[]⟩, .int .i64 0, .int .i64 0] 32)) w.heap.size 32 #[.int .i64 0, .string ⟨#[]⟩, .int .i64 0, .int .i64 0]) := Whole.made _ _ _
  have HB : Hid (Below w.heap.size w (w.alloc (.cells #[.int .i64 0, .string ⟨#[]⟩, .int .i64 0, .int .i64 0] 32))) := (Below.refl _ _).alloc (Nat.le_refl _) _
  go_enter Tryd.func19, Tryd.ntmps19
  go_wp2_with (go_at_call 32; refine (CT.out _).mono ?_; rintro e w1 ⟨rfl, rfl⟩)
  generalize w.alloc (.cells #[.int .i64 0, .string ⟨#[]⟩, .int .i64 0, .int .i64 0] 32) = w2 at *
  go_loopg [6] (s.size - 1) (fun gk ks wr => ∃ k : Nat, ks = .int .i64 (k : Int) ∧ 1 ≤ k ∧ k + gk = s.size ∧ (∀ j, 0 ≤ j → j < k → ∀ h : j < s.size, digB s[j] = true) ∧ w2 = wr)
  case atStart => exact ⟨1, rfl, Nat.le_refl _, by omega, fun j _ h1 h => by obtain rfl : j = 0 := by omega
                                                                             exact HI.out, rfl⟩
  case round =>
    obtain ⟨k, rfl, hk1, hkg, hp, hw⟩ := hrel
    subst hw
    have HP := Lib.hid hp
    clear hp
    by_cases hlt : k < s.size
    · have d1 : decide ((k : Int) < (s.size : Int)) = true := decide_eq_true (by omega)
      have d1n : decide (k < s.size) = true := decide_eq_true hlt
      have i1 : (0 : Int) ≤ (k : Int) := by omega
      have i2 : (k : Int) < (s.size : Int) := by omega
      rcases hpk : digB s[k] with _ | _
      · have HE : Hid (k = 0 + runN digB s 0) := run_len (Nat.zero_le _) (by omega) HP.out (fun h => hpk)
        have CK : Hid (∀ wx : World, Calls Tryd.prog 32 #[.int .u8 (s[k].toNat : Int)] wx fun e w' => e = .returned (.bool false) ∧ wx = w') := fun wx => (rdigit_any _ wx).mono fun e w' ⟨h1, h2⟩ => ⟨by rw [h1, hpk], h2⟩
        have hkN : k = N := by have := HE.out; have := HN.out; omega
        clear hpk HP HE HN
        subst hkN
        clear CT HI CD
        go_wp2_with (go_at_call 32; refine (CK.out _).mono ?_; rintro e w1 ⟨rfl, rfl⟩)
        clear CK
        go_loopg [7, 8] k (fun gk vs ks wr => ∃ i V : Nat, vs = .int .i64 (V : Int) ∧ ks = .int .i64 (i : Int) ∧ i + gk = k ∧ V = valT (s.data.toList.take i) ∧ V ≤ 4611686018427387903 ∧ w2 = wr)
        case atStart => exact ⟨0, 0, rfl, rfl, by omega, rfl, by omega, rfl⟩
        case round =>
          obtain ⟨i, V, rfl, rfl, hik, hV, hVM, hw⟩ := hrel
          subst hw
          by_cases hlt2 : i < k
          · have e1 : decide ((i : Int) < (k : Int)) = true := decide_eq_true (by omega)
            have e1n : decide (i < k) = true := decide_eq_true hlt2
            have j1 : (0 : Int) ≤ (i : Int) := by omega
            have j2 : (i : Int) < (s.size : Int) := by omega
            have hdi := HD.out i hlt2 (by omega)
            have hc1 := dig_lo hdi
            have hc2 := dig_hi hdi
            have hst := valT_take s i (by omega)
            have hmo := valT_more s.data.toList (show i + 1 ≤ k from hlt2)
            rw [← hV] at hst
            have hq : (4611686018427387903 - ((s[i].toNat : Int) - 48)).tdiv 10 = (4611686018427387903 - ((s[i].toNat : Int) - 48)) / 10 := Int.tdiv_eq_ediv_of_nonneg (by omega)
            clear hdi hV
            by_cases hbig : 4611686018427387903 < 10 * V + (s[i].toNat - 48)
            · have ht : decide ((4611686018427387903 - ((s[i].toNat : Int) - 48)) / 10 < (V : Int)) = true := decide_eq_true (by omega)
              have ht2 : decide ((4611686018427387903 - ((s[i].toNat : Int) - 48)).tdiv 10 < (V : Int)) = true := by rw [hq]; exact ht
              have hr := HRR.out
              rw [if_pos (by omega)] at hr
              subst hr
              clear hst hmo hbig HRR hq
              have z0 : w2.cell? ⟨w.heap.size, 0, none⟩ = some (.int .i64 0) := HZ.out.cell 0
              have z1 : w2.cell? ⟨w.heap.size, 1, none⟩ = some (.string ⟨#[]⟩) := HZ.out.cell 1
              have z2 : w2.cell? ⟨w.heap.size, 2, none⟩ = some (.int .i64 0) := HZ.out.cell 2
              have z3 : w2.cell? ⟨w.heap.size, 3, none⟩ = some (.int .i64 0) := HZ.out.cell 3
              have y0 := HZ.out.free 0
              have y1 := HZ.out.free 1
              have y2 := HZ.out.free 2
              have y3 := HZ.out.free 3
              go_wp2_with fail
              have HZF : Hid (Whole ((((w2.setCell ⟨w.heap.size, 0, none⟩ (.int .i64 0)).setCell ⟨w.heap.size, 1, none⟩ (.string ⟨#[]⟩)).setCell ⟨w.heap.size, 2, none⟩ (.int .i64 0)).setCell ⟨w.heap.size, 3, none⟩ (.int .i64 0)) w.heap.size 32 #[.int .i64 0, .string ⟨#[]⟩, .int .i64 0, .int .i64 0]) := (((Whole.put (w := w2) HZ.out 0 (.int .i64 0)).put 1 (.string ⟨#[]⟩)).put 2 (.int .i64 0)).put 3 (.int .i64 0)
              have HBF : Hid (Below w.heap.size w ((((w2.setCell ⟨w.heap.size, 0, none⟩ (.int .i64 0)).setCell ⟨w.heap.size, 1, none⟩ (.string ⟨#[]⟩)).setCell ⟨w.heap.size, 2, none⟩ (.int .i64 0)).setCell ⟨w.heap.size, 3, none⟩ (.int .i64 0))) := (((HB.out.setCell (p := ⟨w.heap.size, 0, none⟩) (Nat.le_refl _) (.int .i64 0)).setCell (p := ⟨w.heap.size, 1, none⟩) (Nat.le_refl _) (.string ⟨#[]⟩)).setCell (p := ⟨w.heap.size, 2, none⟩) (Nat.le_refl _) (.int .i64 0)).setCell (p := ⟨w.heap.size, 3, none⟩) (Nat.le_refl _) (.int .i64 0)
              generalize ((((w2.setCell ⟨w.heap.size, 0, none⟩ (.int .i64 0)).setCell ⟨w.heap.size, 1, none⟩ (.string ⟨#[]⟩)).setCell ⟨w.heap.size, 2, none⟩ (.int .i64 0)).setCell ⟨w.heap.size, 3, none⟩ (.int .i64 0)) = wf at *
              have g0 := HZF.out.cell 0
              have g1 := HZF.out.cell 1
              have g2 := HZF.out.cell 2
              have g3 := HZF.out.cell 3
              simp only [List.getElem?_toArray, List.getElem?_cons_zero, List.getElem?_cons_succ] at g0 g1 g2 g3
              exact bodyPost_ret (v := .tuple #[tkV 0 ⟨#[]⟩ 0 0, .int .i64 0, .int .i64 13]) (by simp [results, Tryd.results19, go_sem, tkV, g0, g1, g2, g3]) rfl ⟨0, 0, 0, ⟨#[]⟩, rfl, HBF.out, fun h => absurd h (by decide)⟩
            · have ht : decide ((4611686018427387903 - ((s[i].toNat : Int) - 48)) / 10 < (V : Int)) = false := decide_eq_false (by omega)
              have ht2 : decide ((4611686018427387903 - ((s[i].toNat : Int) - 48)).tdiv 10 < (V : Int)) = false := by rw [hq]; exact ht
              have HST := Lib.hid hst
              have hle : 10 * (V : Int) + ((s[i].toNat : Int) - 48) ≤ 4611686018427387903 := by omega
              clear hst hmo hq
              go_wp2_with fail
              go_roundg (gk - 1)
              case measure => omega
              case rel => exact ⟨i + 1, 10 * V + (s[i].toNat - 48), by go_num, rfl, by omega, HST.out.symm, by omega, rfl⟩
          · have e1 : decide ((i : Int) < (k : Int)) = false := decide_eq_false (by omega)
            have e1n : decide (i < k) = false := decide_eq_false hlt2
            obtain rfl : i = k := by omega
            have hr := HRR.out
            rw [← hV, if_neg (by omega)] at hr
            subst hr
            clear HRR hV
            have z0 : w2.cell? ⟨w.heap.size, 0, none⟩ = some (.int .i64 0) := HZ.out.cell 0
            have z1 : w2.cell? ⟨w.heap.size, 1, none⟩ = some (.string ⟨#[]⟩) := HZ.out.cell 1
            have z2 : w2.cell? ⟨w.heap.size, 2, none⟩ = some (.int .i64 0) := HZ.out.cell 2
            have z3 : w2.cell? ⟨w.heap.size, 3, none⟩ = some (.int .i64 0) := HZ.out.cell 3
            have y0 := HZ.out.free 0
            have y1 := HZ.out.free 1
            have y2 := HZ.out.free 2
            have y3 := HZ.out.free 3
            go_wp2_with fail
            have HZF : Hid (Whole ((((w2.setCell ⟨w.heap.size, 0, none⟩ (.int .i64 1)).setCell ⟨w.heap.size, 1, none⟩ (.string ⟨#[]⟩)).setCell ⟨w.heap.size, 2, none⟩ (.int .i64 (V : Int))).setCell ⟨w.heap.size, 3, none⟩ (.int .i64 0)) w.heap.size 32 #[.int .i64 1, .string ⟨#[]⟩, .int .i64 (V : Int), .int .i64 0]) := (((Whole.put (w := w2) HZ.out 0 (.int .i64 1)).put 1 (.string ⟨#[]⟩)).put 2 (.int .i64 (V : Int))).put 3 (.int .i64 0)
            have HBF : Hid (Below w.heap.size w ((((w2.setCell ⟨w.heap.size, 0, none⟩ (.int .i64 1)).setCell ⟨w.heap.size, 1, none⟩ (.string ⟨#[]⟩)).setCell ⟨w.heap.size, 2, none⟩ (.int .i64 (V : Int))).setCell ⟨w.heap.size, 3, none⟩ (.int .i64 0))) := (((HB.out.setCell (p := ⟨w.heap.size, 0, none⟩) (Nat.le_refl _) (.int .i64 1)).setCell (p := ⟨w.heap.size, 1, none⟩) (Nat.le_refl _) (.string ⟨#[]⟩)).setCell (p := ⟨w.heap.size, 2, none⟩) (Nat.le_refl _) (.int .i64 (V : Int))).setCell (p := ⟨w.heap.size, 3, none⟩) (Nat.le_refl _) (.int .i64 0)
            generalize ((((w2.setCell ⟨w.heap.size, 0, none⟩ (.int .i64 1)).setCell ⟨w.heap.size, 1, none⟩ (.string ⟨#[]⟩)).setCell ⟨w.heap.size, 2, none⟩ (.int .i64 (V : Int))).setCell ⟨w.heap.size, 3, none⟩ (.int .i64 0)) = wf at *
            have g0 := HZF.out.cell 0
            have g1 := HZF.out.cell 1
            have g2 := HZF.out.cell 2
            have g3 := HZF.out.cell 3
            simp only [List.getElem?_toArray, List.getElem?_cons_zero, List.getElem?_cons_succ] at g0 g1 g2 g3
            exact bodyPost_ret (v := .tuple #[tkV 1 ⟨#[]⟩ (V : Int) 0, .int .i64 (i : Int), .int .i64 0]) (by simp [results, Tryd.results19, go_sem, tkV, g0, g1, g2, g3]) rfl ⟨1, (V : Int), (i : Int), ⟨#[]⟩, rfl, HBF.out, fun _ => ⟨rfl, rfl, rfl, rfl⟩⟩
      · have CK : Hid (∀ wx : World, Calls Tryd.prog 32 #[.int .u8 (s[k].toNat : Int)] wx fun e w' => e = .returned (.bool true) ∧ wx = w') := fun wx => (rdigit_any _ wx).mono fun e w' ⟨h1, h2⟩ => ⟨by rw [h1, hpk], h2⟩
        have HP2 : Hid (∀ j, 0 ≤ j → j < k + 1 → ∀ h : j < s.size, digB s[j] = true) := fun j h1 h2 h => by
          rcases Nat.lt_or_ge j k with h3 | h3
          · exact HP.out j h1 h3 h
          · obtain rfl : j = k := by omega
            exact hpk
        clear hpk HP CT HI CD
        go_wp2_with (go_at_call 32; refine (CK.out _).mono ?_; rintro e w1 ⟨rfl, rfl⟩)
        go_roundg (gk - 1)
        case measure => omega
        case rel => exact ⟨k + 1, rfl, by omega, by omega, HP2.out, rfl⟩
    · have d1 : decide ((k : Int) < (s.size : Int)) = false := decide_eq_false (by omega)
      have d1n : decide (k < s.size) = false := decide_eq_false hlt
      have HE : Hid (k = 0 + runN digB s 0) := run_len (Nat.zero_le _) (by omega) HP.out (fun h => absurd h hlt)
      have hkN : k = N := by have := HE.out; have := HN.out; omega
      clear HP HE HN
      subst hkN
      clear CT HI CD
      go_wp2_with fail
      go_loopg [7, 8] k (fun gk vs ks wr => ∃ i V : Nat, vs = .int .i64 (V : Int) ∧ ks = .int .i64 (i : Int) ∧ i + gk = k ∧ V = valT (s.data.toList.take i) ∧ V ≤ 4611686018427387903 ∧ w2 = wr)
      case atStart => exact ⟨0, 0, rfl, rfl, by omega, rfl, by omega, rfl⟩
      case round =>
        obtain ⟨i, V, rfl, rfl, hik, hV, hVM, hw⟩ := hrel
        subst hw
        by_cases hlt2 : i < k
        · have e1 : decide ((i : Int) < (k : Int)) = true := decide_eq_true (by omega)
          have e1n : decide (i < k) = true := decide_eq_true hlt2
          have j1 : (0 : Int) ≤ (i : Int) := by omega
          have j2 : (i : Int) < (s.size : Int) := by omega
          have hdi := HD.out i hlt2 (by omega)
          have hc1 := dig_lo hdi
          have hc2 := dig_hi hdi
          have hst := valT_take s i (by omega)
          have hmo := valT_more s.data.toList (show i + 1 ≤ k from hlt2)
          rw [← hV] at hst
          have hq : (4611686018427387903 - ((s[i].toNat : Int) - 48)).tdiv 10 = (4611686018427387903 - ((s[i].toNat : Int) - 48)) / 10 := Int.tdiv_eq_ediv_of_nonneg (by omega)
          clear hdi hV
          by_cases hbig : 4611686018427387903 < 10 * V + (s[i].toNat - 48)
          · have ht : decide ((4611686018427387903 - ((s[i].toNat : Int) - 48)) / 10 < (V : Int)) = true := decide_eq_true (by omega)
            have ht2 : decide ((4611686018427387903 - ((s[i].toNat : Int) - 48)).tdiv 10 < (V : Int)) = true := by rw [hq]; exact ht
            have hr := HRR.out
            rw [if_pos (by omega)] at hr
            subst hr
            clear hst hmo hbig HRR hq
            have z0 : w2.cell? ⟨w.heap.size, 0, none⟩ = some (.int .i64 0) := HZ.out.cell 0
            have z1 : w2.cell? ⟨w.heap.size, 1, none⟩ = some (.string ⟨#[]⟩) := HZ.out.cell 1
            have z2 : w2.cell? ⟨w.heap.size, 2, none⟩ = some (.int .i64 0) := HZ.out.cell 2
            have z3 : w2.cell? ⟨w.heap.size, 3, none⟩ = some (.int .i64 0) := HZ.out.cell 3
            have y0 := HZ.out.free 0
            have y1 := HZ.out.free 1
            have y2 := HZ.out.free 2
            have y3 := HZ.out.free 3
            go_wp2_with fail
            have HZF : Hid (Whole ((((w2.setCell ⟨w.heap.size, 0, none⟩ (.int .i64 0)).setCell ⟨w.heap.size, 1, none⟩ (.string ⟨#[]⟩)).setCell ⟨w.heap.size, 2, none⟩ (.int .i64 0)).setCell ⟨w.heap.size, 3, none⟩ (.int .i64 0)) w.heap.size 32 #[.int .i64 0, .string ⟨#[]⟩, .int .i64 0, .int .i64 0]) := (((Whole.put (w := w2) HZ.out 0 (.int .i64 0)).put 1 (.string ⟨#[]⟩)).put 2 (.int .i64 0)).put 3 (.int .i64 0)
            have HBF : Hid (Below w.heap.size w ((((w2.setCell ⟨w.heap.size, 0, none⟩ (.int .i64 0)).setCell ⟨w.heap.size, 1, none⟩ (.string ⟨#[]⟩)).setCell ⟨w.heap.size, 2, none⟩ (.int .i64 0)).setCell ⟨w.heap.size, 3, none⟩ (.int .i64 0))) := (((HB.out.setCell (p := ⟨w.heap.size, 0, none⟩) (Nat.le_refl _) (.int .i64 0)).setCell (p := ⟨w.heap.size, 1, none⟩) (Nat.le_refl _) (.string ⟨#[]⟩)).setCell (p := ⟨w.heap.size, 2, none⟩) (Nat.le_refl _) (.int .i64 0)).setCell (p := ⟨w.heap.size, 3, none⟩) (Nat.le_refl _) (.int .i64 0)
            generalize ((((w2.setCell ⟨w.heap.size, 0, none⟩ (.int .i64 0)).setCell ⟨w.heap.size, 1, none⟩ (.string ⟨#[]⟩)).setCell ⟨w.heap.size, 2, none⟩ (.int .i64 0)).setCell ⟨w.heap.size, 3, none⟩ (.int .i64 0)) = wf at *
            have g0 := HZF.out.cell 0
            have g1 := HZF.out.cell 1
            have g2 := HZF.out.cell 2
            have g3 := HZF.out.cell 3
            simp only [List.getElem?_toArray, List.getElem?_cons_zero, List.getElem?_cons_succ] at g0 g1 g2 g3
            exact bodyPost_ret (v := .tuple #[tkV 0 ⟨#[]⟩ 0 0, .int .i64 0, .int .i64 13]) (by simp [results, Tryd.results19, go_sem, tkV, g0, g1, g2, g3]) rfl ⟨0, 0, 0, ⟨#[]⟩, rfl, HBF.out, fun h => absurd h (by decide)⟩
          · have ht : decide ((4611686018427387903 - ((s[i].toNat : Int) - 48)) / 10 < (V : Int)) = false := decide_eq_false (by omega)
            have ht2 : decide ((4611686018427387903 - ((s[i].toNat : Int) - 48)).tdiv 10 < (V : Int)) = false := by rw [hq]; exact ht
            have HST := Lib.hid hst
            have hle : 10 * (V : Int) + ((s[i].toNat : Int) - 48) ≤ 4611686018427387903 := by omega
            clear hst hmo hq
            go_wp2_with fail
            go_roundg (gk - 1)
            case measure => omega
            case rel => exact ⟨i + 1, 10 * V + (s[i].toNat - 48), by go_num, rfl, by omega, HST.out.symm, by omega, rfl⟩
        · have e1 : decide ((i : Int) < (k : Int)) = false := decide_eq_false (by omega)
          have e1n : decide (i < k) = false := decide_eq_false hlt2
          obtain rfl : i = k := by omega
          have hr := HRR.out
          rw [← hV, if_neg (by omega)] at hr
          subst hr
          clear HRR hV
          have z0 : w2.cell? ⟨w.heap.size, 0, none⟩ = some (.int .i64 0) := HZ.out.cell 0
          have z1 : w2.cell? ⟨w.heap.size, 1, none⟩ = some (.string ⟨#[]⟩) := HZ.out.cell 1
          have z2 : w2.cell? ⟨w.heap.size, 2, none⟩ = some (.int .i64 0) := HZ.out.cell 2
          have z3 : w2.cell? ⟨w.heap.size, 3, none⟩ = some (.int .i64 0) := HZ.out.cell 3
          have y0 := HZ.out.free 0
          have y1 := HZ.out.free 1
          have y2 := HZ.out.free 2
          have y3 := HZ.out.free 3
          go_wp2_with fail
          have HZF : Hid (Whole ((((w2.setCell ⟨w.heap.size, 0, none⟩ (.int .i64 1)).setCell ⟨w.heap.size, 1, none⟩ (.string ⟨#[]⟩)).setCell ⟨w.heap.size, 2, none⟩ (.int .i64 (V : Int))).setCell ⟨w.heap.size, 3, none⟩ (.int .i64 0)) w.heap.size 32 #[.int .i64 1, .string ⟨#[]⟩, .int .i64 (V : Int), .int .i64 0]) := (((Whole.put (w := w2) HZ.out 0 (.int .i64 1)).put 1 (.string ⟨#[]⟩)).put 2 (.int .i64 (V : Int))).put 3 (.int .i64 0)
          have HBF : Hid (Below w.heap.size w ((((w2.setCell ⟨w.heap.size, 0, none⟩ (.int .i64 1)).setCell ⟨w.heap.size, 1, none⟩ (.string ⟨#[]⟩)).setCell ⟨w.heap.size, 2, none⟩ (.int .i64 (V : Int))).setCell ⟨w.heap.size, 3, none⟩ (.int .i64 0))) := (((HB.out.setCell (p := ⟨w.heap.size, 0, none⟩) (Nat.le_refl _) (.int .i64 1)).setCell (p := ⟨w.heap.size, 1, none⟩) (Nat.le_refl _) (.string ⟨#[]⟩)).setCell (p := ⟨w.heap.size, 2, none⟩) (Nat.le_refl _) (.int .i64 (V : Int))).setCell (p := ⟨w.heap.size, 3, none⟩) (Nat.le_refl _) (.int .i64 0)
          generalize ((((w2.setCell ⟨w.heap.size, 0, none⟩ (.int .i64 1)).setCell ⟨w.heap.size, 1, none⟩ (.string ⟨#[]⟩)).setCell ⟨w.heap.size, 2, none⟩ (.int .i64 (V : Int))).setCell ⟨w.heap.size, 3, none⟩ (.int .i64 0)) = wf at *
          have g0 := HZF.out.cell 0
          have g1 := HZF.out.cell 1
          have g2 := HZF.out.cell 2
          have g3 := HZF.out.cell 3
          simp only [List.getElem?_toArray, List.getElem?_cons_zero, List.getElem?_cons_succ] at g0 g1 g2 g3
          exact bodyPost_ret (v := .tuple #[tkV 1 ⟨#[]⟩ (V : Int) 0, .int .i64 (i : Int), .int .i64 0]) (by simp [results, Tryd.results19, go_sem, tkV, g0, g1, g2, g3]) rfl ⟨1, (V : Int), (i : Int), ⟨#[]⟩, rfl, HBF.out, fun _ => ⟨rfl, rfl, rfl, rfl⟩⟩
end Go.Proofs.YtmjjjnmfkdidgaaDoor
