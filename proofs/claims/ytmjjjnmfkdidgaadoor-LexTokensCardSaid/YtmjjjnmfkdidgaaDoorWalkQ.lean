/- The walks of layer 4, the document's: a source's tokens. -/
import Derived.Test.YtmjjjnmfkdidgaaDoorPlainE
import Derived.Test.YtmjjjnmfkdidgaaDoorWalkP
import Derived.Test.YtmjjjnmfkdidgaaDoorRead
namespace Go.Proofs.YtmjjjnmfkdidgaaDoor
open Go.RowKit
set_option linter.unusedVariables false
attribute [local go_sem ↓] Go.wp_at_zero Go.wp_at_succ

theorem rtoken_any (w : World) (s : ByteArray) (hs : s.size ≤ 10000) (h0 : 0 < s.size) (hq : s[0] = 34 → s.size ≤ 1000) : Calls Tryd.prog 19 #[.string s] w (RTok (tokF s.data.toList) w) := by
  rcases h1 : digB s[0] with _ | _
  · by_cases h2 : s[0] = 34
    · exact rtoken_text w s s[0] hs h0 rfl h2 (hq h2)
    · rcases h3 : (smaB s[0] || larB s[0]) with _ | _
      · rcases h4 : signL.contains s[0] with _ | _
        · exact rtoken_odd w s s[0] hs h0 rfl h1 h2 h3 h4
        · by_cases h5 : ∃ h1 : 1 < s.size, s[0] = 45 ∧ s[1] = 62
          · obtain ⟨h5, h6, h7⟩ := h5
            exact rtoken_arrow w s s[0] hs h0 rfl h5 h6 h7
          · exact rtoken_sign w s s[0] hs h0 rfl h1 h2 h3 h4 (fun a b c => h5 ⟨a, b, c⟩)
      · exact rtoken_name w s s[0] hs h0 rfl h1 h2 h3
  · exact rtoken_num w s s[0] hs h0 rfl h1
theorem rest_list (s : ByteArray) (i : Nat) : (s.extract i s.size).data.toList = s.data.toList.drop i := by
  rw [ByteArray.data_extract, Array.toList_extract]
  simp [List.extract]
  exact List.take_of_length_le (by rw [List.length_drop, size_list]; exact Nat.le_refl _)
set_option maxRecDepth 100000 in
set_option maxHeartbeats 8000000 in
theorem rtokens_any (w : World) (s : ByteArray) (hs : s.size ≤ 10000) (hq : ShortQ s.data.toList) :
    Calls Tryd.prog 12 #[.string s] w fun e w' => ∃ v, e = .returned (.tuple #[v, .int .i64 ((tokensF s.data.toList).2.1 : Int), .int .i64 (tokensF s.data.toList).2.2]) ∧ ToksAt w' w.heap.size v (tokensF s.data.toList).1 ∧ Below w.heap.size w w' := by
  have HQ := Lib.hid hq
  clear hq
  by_cases hbig : 2000 < s.size
  · have hf : tokensF s.data.toList = ([], 0, 12) := if_pos (by rw [size_list]; exact hbig)
    rw [hf]
    have d1 : decide ((2000 : Int) < (s.size : Int)) = true := decide_eq_true (by omega)
    go_enter Tryd.func12, Tryd.ntmps12
    go_wp2_with fail
    go_ret3
    exact ⟨_, rfl, ⟨rfl, .inl ⟨rfl, rfl⟩⟩, Below.refl _ _⟩
  · have d1 : decide ((2000 : Int) < (s.size : Int)) = false := decide_eq_false (by omega)
    have hf : tokensF s.data.toList = runT s.data.toList 0 [] := by
      show (if _ then _ else _) = _
      rw [if_neg (by rw [size_list]; exact hbig)]; rfl
    rw [hf]
    clear hf
    generalize hF : runT s.data.toList 0 [] = F at *
    have HF := Lib.hid hF
    clear hF
    obtain ⟨ts, p, er⟩ := F
    dsimp only
    go_enter Tryd.func12, Tryd.ntmps12
    go_wp2_with fail
    go_loopg [5, 6] (s.size + 1) (fun gk out is wr => ∃ (i : Nat) (acc : List Tok), is = .int .i64 (i : Int) ∧ i ≤ s.size ∧ s.size + 1 ≤ gk + i ∧ runT (s.data.toList.drop i) i acc = (ts, p, er) ∧ acc.length ≤ i ∧
      wr.ownsRow w.heap.size 32 4 out acc.length (mkToks acc) ∧ Below w.heap.size w wr)
    case atStart => exact ⟨0, [], rfl, Nat.zero_le _, Nat.le_refl _, HF.out, Nat.le_refl _, ⟨rfl, .inl ⟨rfl, rfl⟩⟩, Below.refl _ _⟩
    case round =>
      obtain ⟨i, acc, rfl, hi, hgk, htk, hai, ho, hbw⟩ := hrel
      obtain ⟨f, rfl⟩ : ∃ f, gk = f + 1 := ⟨gk - 1, by omega⟩
      have HT := Lib.hid htk
      have HO := Lib.hid ho
      have HB := Lib.hid hbw
      clear htk ho hbw HF
      by_cases hlt : i < s.size
      · have d2 : decide ((i : Int) < (s.size : Int)) = true := decide_eq_true (by omega)
        have d2n : decide (i < s.size) = true := decide_eq_true hlt
        have i1 : (0 : Int) ≤ (i : Int) := by omega
        have i2 : (i : Int) < (s.size : Int) := by omega
        have hdc := drop_cons s i hlt
        by_cases hbl : s[i] = 32 ∨ s[i] = 9 ∨ s[i] = 10
        · have HN : Hid (runT (s.data.toList.drop (i + 1)) (i + 1) acc = (ts, p, er)) := by
            show _ = _
            rw [← HT.out]
            have := runT_gap (s.data.toList.drop i) i 1 acc (by rw [List.drop_drop, hdc, gapL_blank _ _ hbl])
            rw [List.drop_drop] at this
            exact this.symm
          clear hdc HT
          rcases hbl with hb | hb | hb
          · have q1 : ((s[i].toNat : Int) == 32) = true := u8_eq s[i] 32 hb
            clear hb
            go_wp2_with fail
            go_roundg f
            case measure => exact Nat.lt_succ_self _
            case rel => exact ⟨i + 1, acc, rfl, by omega, by omega, HN.out, by omega, HO.out, HB.out⟩
          · have q1 : ((s[i].toNat : Int) == 32) = false := u8_ne s[i] 32 (by rw [hb]; decide)
            have q2 : ((s[i].toNat : Int) == 9) = true := u8_eq s[i] 9 hb
            clear hb
            go_wp2_with fail
            go_roundg f
            case measure => exact Nat.lt_succ_self _
            case rel => exact ⟨i + 1, acc, rfl, by omega, by omega, HN.out, by omega, HO.out, HB.out⟩
          · have q1 : ((s[i].toNat : Int) == 32) = false := u8_ne s[i] 32 (by rw [hb]; decide)
            have q2 : ((s[i].toNat : Int) == 9) = false := u8_ne s[i] 9 (by rw [hb]; decide)
            have q3 : ((s[i].toNat : Int) == 10) = true := u8_eq s[i] 10 hb
            clear hb
            go_wp2_with fail
            go_roundg f
            case measure => exact Nat.lt_succ_self _
            case rel => exact ⟨i + 1, acc, rfl, by omega, by omega, HN.out, by omega, HO.out, HB.out⟩
        · have q1 : ((s[i].toNat : Int) == 32) = false := u8_ne s[i] 32 (fun h => hbl (.inl h))
          have q2 : ((s[i].toNat : Int) == 9) = false := u8_ne s[i] 9 (fun h => hbl (.inr (.inl h)))
          have q3 : ((s[i].toNat : Int) == 10) = false := u8_ne s[i] 10 (fun h => hbl (.inr (.inr h)))
          by_cases h35 : s[i] = 35
          · have q4 : ((s[i].toNat : Int) == 35) = true := u8_eq s[i] 35 h35
            have hrp := remN_pos s i hlt h35
            have hrl := remN_le s i hi
            have HN : Hid (runT (s.data.toList.drop (i + remN s i)) (i + remN s i) acc = (ts, p, er)) := by
              show _ = _
              rw [← HT.out]
              have := runT_gap (s.data.toList.drop i) i (remN s i) acc (by
                have h := gapL_rem s[i] (s.data.toList.drop (i + 1)) h35
                rw [← hdc] at h
                exact h)
              rw [List.drop_drop] at this
              exact this.symm
            obtain ⟨R, hR⟩ : ∃ R, remN s i = R := ⟨_, rfl⟩
            rw [hR] at HN hrp hrl
            have HR := Lib.hid hR
            have HNB := Lib.hid hbl
            clear hdc HT hbl h35 hR
            go_wp2_with fail
            go_loopg [6] (s.size + 1 - i) (fun hk ks wx => ∃ k : Nat, ks = .int .i64 (k : Int) ∧ i ≤ k ∧ k ≤ s.size ∧ hk + k = s.size + 1 ∧ (∀ j, i ≤ j → j < k → ∀ h : j < s.size, s[j] ≠ 10) ∧ wr = wx)
            case atStart => exact ⟨i, rfl, Nat.le_refl _, by omega, by omega, fun j h1 h2 => by omega, rfl⟩
            case round =>
              obtain ⟨k, rfl, hk1, hk2, hk3, hp, hw⟩ := hrel
              subst hw
              have HP := Lib.hid hp
              clear hp
              by_cases hlt2 : k < s.size
              · have d3 : decide ((k : Int) < (s.size : Int)) = true := decide_eq_true (by omega)
                have d3n : decide (k < s.size) = true := decide_eq_true hlt2
                have j1 : (0 : Int) ≤ (k : Int) := by omega
                have j2 : (k : Int) < (s.size : Int) := by omega
                by_cases h10 : s[k] = 10
                · have q5 : ((s[k].toNat : Int) != 10) = false := by rw [bne_eq_false_iff_eq]; exact beq_iff_eq.1 (u8_eq s[k] 10 h10)
                  have hkR : k = i + R := by
                    have := run_len (P := fun c => decide (c ≠ 10)) hk1 (by omega) (fun j h1 h2 h => decide_eq_true (HP.out j h1 h2 h)) (fun h => decide_eq_false (fun hn => hn h10))
                    rw [← HR.out]; exact this
                  clear h10 HP HR
                  subst hkR
                  go_wp2_with fail
                  go_roundg f
                  case measure => exact Nat.lt_succ_self _
                  case rel => exact ⟨i + R, acc, rfl, by omega, by omega, HN.out, by omega, HO.out, HB.out⟩
                · have q5 : ((s[k].toNat : Int) != 10) = true := by rw [bne_iff_ne]; exact beq_eq_false_iff_ne.1 (u8_ne s[k] 10 h10)
                  have HP2 : Hid (∀ j, i ≤ j → j < k + 1 → ∀ h : j < s.size, s[j] ≠ 10) := fun j h1 h2 h => by
                    rcases Nat.lt_or_ge j k with h3 | h3
                    · exact HP.out j h1 h3 h
                    · obtain rfl : j = k := by omega
                      exact h10
                  clear h10 HP HR HN
                  go_wp2_with fail
                  go_roundg (gk - 1)
                  case measure => omega
                  case rel => exact ⟨k + 1, rfl, by omega, by omega, by omega, HP2.out, rfl⟩
              · have d3 : decide ((k : Int) < (s.size : Int)) = false := decide_eq_false (by omega)
                have d3n : decide (k < s.size) = false := decide_eq_false hlt2
                have hkR : k = i + R := by
                  have := run_len (P := fun c => decide (c ≠ 10)) hk1 (by omega) (fun j h1 h2 h => decide_eq_true (HP.out j h1 h2 h)) (fun h => absurd h hlt2)
                  rw [← HR.out]; exact this
                clear HP HR
                subst hkR
                go_wp2_with fail
                go_roundg f
                case measure => exact Nat.lt_succ_self _
                case rel => exact ⟨i + R, acc, rfl, by omega, by omega, HN.out, by omega, HO.out, HB.out⟩
          · have q4 : ((s[i].toNat : Int) == 35) = false := u8_ne s[i] 35 h35
            have hg : gapL (s.data.toList.drop i) = 0 := by rw [hdc]; exact gapL_other _ _ hbl h35
            have hrs := rest_list s i
            have hsz : (s.extract i s.size).size = s.size - i := by rw [← size_list, hrs, List.length_drop, size_list]
            have hx0 : ∀ h : 0 < (s.extract i s.size).size, (s.extract i s.size)[0] = s[i] := fun h => by
              have h2 := get_list (s.extract i s.size) 0 h
              rw [hrs, hdc] at h2
              exact (Option.some.inj h2).symm
            have CT : Hid (∀ wx : World, Calls Tryd.prog 19 #[.string (s.extract i s.size)] wx (RTok (tokF (s.data.toList.drop i)) wx)) := fun wx => by
              have := rtoken_any wx (s.extract i s.size) (by omega) (by omega) (fun h => by
                have h2 := HQ.out i (by rw [hdc]; exact congrArg some ((hx0 (by omega)).symm.trans h))
                rw [size_list] at h2; omega)
              rw [hrs] at this
              exact this
            have hfit := tok_fit (s.data.toList.drop i)
            have he := runT_err (s.data.toList.drop i) i acc hg
            have hmo := runT_more (s.data.toList.drop i) i acc hg
            have hne : s.data.toList.drop i ≠ [] := by rw [hdc]; simp
            rw [List.drop_drop] at hmo
            rw [HT.out] at he hmo
            rw [List.length_drop, size_list] at hfit
            clear hg hrs hsz hx0 hdc HT hbl h35
            unfold RTok at CT
            generalize tokF (s.data.toList.drop i) = r at *
            by_cases h0 : r.e = 0
            · obtain ⟨rk, rt, rn, rl, re⟩ := r
              dsimp only at h0 he hmo hfit CT
              subst h0
              have hk : rk ≠ 0 := fun h => hne (hfit.1.1 ⟨rfl, h⟩)
              have HE := Lib.hid (hmo rfl hk)
              have HF2 := Lib.hid (hfit.2.1 rfl hk)
              have HF3 := Lib.hid (hfit.2.2 rfl)
              clear he hmo hfit hk hne
              go_upto_region 13 with (go_at_call 19; refine (CT.out _).mono ?_; rintro e w1 ⟨kd, nm, n, tx, rfl, h2, h3⟩; obtain ⟨h3a, h3b, h3c, h3d⟩ := h3 rfl; subst h3a h3b h3c h3d; have H2 := Lib.hid h2; clear h2 h3 CT; unfold tkV)
              have HO1 := Lib.hid (own_below HO.out H2.out (Nat.le_refl _))
              have HB1 : Hid (Below w.heap.size w w1) := HB.out.trans (H2.out.mono HB.out.size)
              have HT2 : Hid (Whole (w1.alloc (Obj.cells #[.int .i64 kd, .string ⟨rt.toArray⟩, .int .i64 nm, .int .i64 0] 32)) w1.heap.size 32 #[.int .i64 kd, .string ⟨rt.toArray⟩, .int .i64 nm, .int .i64 0]) := Whole.made _ _ _
              have HO2 := Lib.hid (own_more_alloc HO1.out (Obj.cells #[.int .i64 kd, .string ⟨rt.toArray⟩, .int .i64 nm, .int .i64 0] 32))
              have HB2 := Lib.hid (HB1.out.alloc HB1.out.size (Obj.cells #[.int .i64 kd, .string ⟨rt.toArray⟩, .int .i64 nm, .int .i64 0] 32))
              have HTU : Hid (u5.ownBlock ≠ some w1.heap.size) := fun hh => by have := (HO1.out.lt _ hh).2; omega
              have HBT : Hid (w.heap.size ≤ w1.heap.size) := HB1.out.size
              clear HO HB HO1 HB1 H2
              generalize w1.alloc (Obj.cells #[.int .i64 kd, .string ⟨rt.toArray⟩, .int .i64 nm, .int .i64 0] 32) = w2 at *
              generalize w1.heap.size = T at *
              go_upto_region 15 with (fail)
              have f3 := HT2.out.free 3
              have t3 : w2.cell? ⟨T, 3, none⟩ = some (.int .i64 0) := HT2.out.cell 3
              go_upto_region 16 with (fail)
              clear f3 t3
              have HT3 : Hid (Whole (w2.setCell ⟨T, 3, none⟩ (.int .i64 (i : Int))) T 32 #[.int .i64 kd, .string ⟨rt.toArray⟩, .int .i64 nm, .int .i64 (i : Int)]) := HT2.out.put 3 (.int .i64 (i : Int))
              have HO3 := Lib.hid (own_setCell HO2.out (p := ⟨T, 3, none⟩) HTU.out (.int .i64 (i : Int)))
              have HB3 := Lib.hid (HB2.out.setCell (p := ⟨T, 3, none⟩) HBT.out (.int .i64 (i : Int)))
              clear HO2 HB2 HT2
              generalize w2.setCell ⟨T, 3, none⟩ (.int .i64 (i : Int)) = w3 at *
              have c0 := HT3.out.cell 0
              have c1 := HT3.out.cell 1
              have c2 := HT3.out.cell 2
              have c3 := HT3.out.cell 3
              simp only [List.getElem?_toArray, List.getElem?_cons_zero, List.getElem?_cons_succ] at c0 c1 c2 c3
              have HO4 := Lib.hid (own_more_alloc HO3.out (Obj.cells #[.int .i64 kd, .string ⟨rt.toArray⟩, .int .i64 nm, .int .i64 (i : Int)] 32))
              have HB4 := Lib.hid (HB3.out.alloc HB3.out.size (Obj.cells #[.int .i64 kd, .string ⟨rt.toArray⟩, .int .i64 nm, .int .i64 (i : Int)] 32))
              have hbase := HB4.out.size
              go_upto_region 17 with (at_builtin; refine list_app ty_tok (v := u5) rfl _ _ rfl rfl HO4.out w3.heap.size 1 [.int .i64 kd, .string ⟨rt.toArray⟩, .int .i64 nm, .int .i64 (i : Int)] rfl (Whole.made w3 32 _) rfl (by simp [Value.oneCell']) (by decide) (by omega) (by decide) hbase ?_; intro g' cap' w5 hap; have HAP := Lib.hid hap; clear hap)
              have HO5 := Lib.hid HAP.out.own
              have HB5 := Lib.hid (HAP.out.below HO4.out HB4.out (Nat.le_refl _) hbase)
              clear c0 c1 c2 c3 HO3 HO4 HB3 HB4 HT3 HAP hbase
              have hj1 := HF3.out
              go_wp2_with fail
              go_roundg f
              case measure => exact Nat.lt_succ_self _
              case rel =>
                refine ⟨i + rl, acc ++ [⟨kd, rt, nm, i⟩], rfl, by omega, by have := HF2.out; omega, HE.out.symm, by have := HF2.out; rw [List.length_append, List.length_singleton]; omega, ?_, HB5.out⟩
                rw [List.length_append, mkToks_snoc]
                exact HO5.out
            · have HE := Lib.hid (he h0)
              have q1 : (r.e != 0) = true := bne_iff_ne.2 h0
              clear he hmo hfit h0 hne
              go_upto_region 13 with (go_at_call 19; refine (CT.out _).mono ?_; rintro e w1 ⟨kd, nm, n, tx, rfl, h2, h3⟩; have H2 := Lib.hid h2; clear h2 h3 CT; unfold tkV)
              have HB1 : Hid (Below w.heap.size w w1) := HB.out.trans (H2.out.mono HB.out.size)
              have HB2 := Lib.hid (HB1.out.alloc HB1.out.size (Obj.cells #[.int .i64 kd, .string tx, .int .i64 nm, .int .i64 0] 32))
              generalize w1.alloc (Obj.cells #[.int .i64 kd, .string tx, .int .i64 nm, .int .i64 0] 32) = w2 at *
              go_wp2_with fail
              go_ret3
              have he := HE.out
              injection he with e1 e2
              injection e2 with e2 e3
              subst e1 e2 e3
              exact ⟨_, rfl, ⟨rfl, .inl ⟨rfl, rfl⟩⟩, HB2.out⟩
      · have d2 : decide ((i : Int) < (s.size : Int)) = false := decide_eq_false (by omega)
        have d2n : decide (i < s.size) = false := decide_eq_false hlt
        obtain rfl : i = s.size := by omega
        have HE : Hid ((acc ++ [⟨0, [], 0, s.size⟩], 0, 0) = (ts, p, er)) := by
          show _ = _
          rw [← HT.out, List.drop_eq_nil_of_le (by rw [size_list]; exact Nat.le_refl _), runT_end]
        clear HT
        have HO4 := Lib.hid (own_more_alloc HO.out (Obj.cells #[.int .i64 0, .string ⟨#[]⟩, .int .i64 0, .int .i64 (s.size : Int)] 32))
        have HB4 := Lib.hid (HB.out.alloc HB.out.size (Obj.cells #[.int .i64 0, .string ⟨#[]⟩, .int .i64 0, .int .i64 (s.size : Int)] 32))
        have hbase := HB4.out.size
        go_wp2_with (at_builtin; refine list_app ty_tok (v := u5) rfl _ _ rfl rfl HO4.out wr.heap.size 1 [.int .i64 0, .string ⟨#[]⟩, .int .i64 0, .int .i64 (s.size : Int)] rfl (Whole.made wr 32 _) rfl (by simp [Value.oneCell']) (by decide) (by omega) (by decide) hbase ?_; intro g' cap' w5 hap; have HAP := Lib.hid hap; clear hap)
        have HO5 := Lib.hid HAP.out.own
        have HB5 := Lib.hid (HAP.out.below HO4.out HB4.out (Nat.le_refl _) hbase)
        go_ret3
        have he := HE.out
        injection he with e1 e2
        injection e2 with e2 e3
        subst e1 e2 e3
        refine ⟨_, rfl, ?_, HB5.out⟩
        unfold ToksAt
        rw [List.length_append, mkToks_snoc]
        exact HO5.out
end Go.Proofs.YtmjjjnmfkdidgaaDoor
