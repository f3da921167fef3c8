/- The law LexNames: its walk. -/
import Derived.Test.YtmjjjnmfkdidgaaDoorLa
import Derived.Test.YtmjjjnmfkdidgaaDoorWalkN
namespace Go.Proofs.YtmjjjnmfkdidgaaDoor
open Go.RowKit
set_option linter.unusedVariables false
attribute [local go_sem ↓] Go.wp_at_zero Go.wp_at_succ

theorem tw_each {P : UInt8 → Bool} : ∀ {l : List UInt8}, (∀ c ∈ l, P c = true) → l.takeWhile P = l
  | [], _ => rfl
  | c :: l, h => by rw [List.takeWhile_cons, if_pos (h c (by simp)), tw_each (fun d hd => h d (by simp [hd]))]
def allS : ByteArray := ⟨#[97, 98, 99, 100, 101, 102, 103, 104, 105, 106, 107, 108, 109, 110, 111, 112, 113, 114, 115, 116, 117, 118, 119, 120, 121, 122, 65, 66, 67, 68, 69, 70, 71, 72, 73, 74, 75, 76, 77, 78, 79, 80, 81, 82, 83, 84, 85, 86, 87, 88, 89, 90, 48, 49, 50, 51, 52, 53, 54, 55, 56, 57, 95]⟩
theorem all_inn (k : Nat) (h : k < allS.size) : innB allS[k] = true := by
  have h2 : ∀ k : Fin 63, innB (allS[k.val]'k.isLt) = true := by decide +kernel
  exact h2 ⟨k, h⟩
theorem all_let (k : Nat) (h : k < allS.size) (h5 : k < 52) : (smaB allS[k] || larB allS[k]) = true := by
  have h2 : ∀ k : Fin 52, (smaB (allS[k.val]'(Nat.lt_of_lt_of_le k.isLt (by decide))) || larB (allS[k.val]'(Nat.lt_of_lt_of_le k.isLt (by decide)))) = true := by decide +kernel
  exact h2 ⟨k, h5⟩
/-- Letters, digits and lines below, a letter ahead. -/
def Wordy (l : List UInt8) : Prop := (∀ c ∈ l, innB c = true) ∧ ∀ c r, l = c :: r → (smaB c || larB c) = true
theorem Wordy.snoc {l : List UInt8} (h : Wordy l) (c : UInt8) (hc : innB c = true) (h0 : l = [] → (smaB c || larB c) = true) : Wordy (l ++ [c]) := by
  refine ⟨fun d hd => ?_, fun d r e => ?_⟩
  · rw [List.mem_append] at hd
    rcases hd with hd | hd
    · exact h.1 d hd
    · simp only [List.mem_singleton] at hd; subst hd; exact hc
  · rcases l with _ | ⟨x, l⟩
    · simp only [List.nil_append, List.cons.injEq] at e
      rw [← e.1]; exact h0 rfl
    · simp only [List.cons_append, List.cons.injEq] at e
      exact h.2 d l (by rw [e.1])
theorem letter_what {c : UInt8} (h : (smaB c || larB c) = true) : digB c = false ∧ c ≠ 34 ∧ ¬ (c = 32 ∨ c = 9 ∨ c = 10) ∧ c ≠ 35 := by
  simp only [smaB, larB, Bool.or_eq_true, Bool.and_eq_true, decide_eq_true_eq] at h
  refine ⟨?_, ?_, ?_, ?_⟩
  · unfold digB
    rw [Bool.and_eq_false_iff]
    right
    exact decide_eq_false (by omega)
  · rintro rfl; exact absurd h (by decide)
  · rintro (rfl | rfl | rfl) <;> exact absurd h (by decide)
  · rintro rfl; exact absurd h (by decide)
theorem word_tok (c : UInt8) (r : List UInt8) (h : Wordy (c :: r)) : gapL (c :: r) = 0 ∧ tokF (c :: r) = if 16 < (c :: r).length then ⟨0, [], 0, 0, 12⟩ else ⟨nameK c (c :: r), c :: r, 0, (c :: r).length, 0⟩ := by
  obtain ⟨h1, h2, h3, h4⟩ := letter_what (h.2 c r rfl)
  refine ⟨gapL_other _ _ h3 h4, ?_⟩
  rw [tok_name c r h1 h2 (h.2 c r rfl), tw_each h.1]
theorem word_no (l : List UInt8) (h : Wordy l) (h1 : 16 < l.length) (h2 : l.length ≤ 2000) : tokensF l = ([], 0, 12) := by
  rcases l with _ | ⟨c, r⟩
  · simp at h1
  · obtain ⟨hg, ht⟩ := word_tok c r h
    rw [if_pos h1] at ht
    unfold tokensF
    rw [if_neg (by omega), toks_err _ _ _ _ (by rw [hg, List.drop_zero, ht]; decide), hg, List.drop_zero, ht]
theorem word_ok (c : UInt8) (r : List UInt8) (h : Wordy (c :: r)) (h1 : (c :: r).length ≤ 16) : tokensF (c :: r) = ([⟨nameK c (c :: r), c :: r, 0, 0⟩, ⟨0, [], 0, (c :: r).length⟩], 0, 0) := by
  obtain ⟨hg, ht⟩ := word_tok c r h
  rw [if_neg (by omega)] at ht
  have hk : nameK c (c :: r) ≠ 0 := by rcases nameK_pos c (c :: r) with e | e | e <;> rw [e] <;> decide
  have h := Toks.one (c :: r) 0 [⟨0, [], 0, (c :: r).length⟩] (nameK c (c :: r)) (c :: r) 0 (c :: r).length (by rw [hg, List.drop_zero]; exact ht) hk (by
    rw [hg, Nat.zero_add, List.drop_length]
    exact .fin [] _ rfl)
  rw [hg] at h
  exact tokensF_of h (by omega)
theorem word_end : tokensF [] = ([⟨0, [], 0, 0⟩], 0, 0) := by decide +kernel
theorem lar_lt {c : UInt8} (h : (smaB c || larB c) = true) : decide ((c.toNat : Int) < 97) = larB c := by
  simp only [smaB, larB, Bool.or_eq_true, Bool.and_eq_true, decide_eq_true_eq] at h
  unfold larB
  by_cases h2 : c.toNat < 97
  · rw [decide_eq_true (show (c.toNat : Int) < 97 by omega), decide_eq_true (show 65 ≤ c.toNat by omega), decide_eq_true (show c.toNat ≤ 90 by omega)]; rfl
  · rw [decide_eq_false (show ¬ (c.toNat : Int) < 97 by omega), decide_eq_false (show ¬ c.toNat ≤ 90 by omega), Bool.and_false]
set_option maxRecDepth 100000 in
set_option maxHeartbeats 4000000 in
/-- Behind the loop. -/
theorem lexNames_in (s : ByteArray) (w : World) (m : Int) (hm : w.cell? ⟨0, 0, none⟩ = some (.int .i64 m)) (hs : s.size ≤ 20) (s0 : ByteArray) (hcut : (20 < s0.size ∧ s0.extract 0 20 = s) ∨ (s0.size ≤ 20 ∧ s = s0)) :
    Calls Tryd.prog 8 #[.string s0] w fun e w' => e = .returned (.bool true) ∧ Below w.heap.size w w' := by
  have HM : Hid (w.cell? ⟨0, 0, none⟩ = some (.int .i64 m)) := hm
  have HP := Lib.hid (heap_pos hm)
  have HSZ := Lib.hid hs
  clear hm
  rcases hcut with ⟨hc, hx⟩ | ⟨hc, hx⟩
  all_goals
    first
    | (have d0 : decide ((20 : Int) < (s0.size : Int)) = true := decide_eq_true (by omega)
       have d0n : decide (20 < s0.size) = true := decide_eq_true hc
       have d0i : (20 : Int) < (s0.size : Int) := by omega)
    | (have d0 : decide ((20 : Int) < (s0.size : Int)) = false := decide_eq_false (by omega)
       have d0n : decide (20 < s0.size) = false := decide_eq_false (by omega)
       subst hx)
    go_enter Tryd.func8, Tryd.ntmps8
    go_wp2_with fail
    go_loopg [4, 5] 20 (fun gk bs ks wr => ∃ (k : Nat) (acc : List UInt8), ks = .int .i64 (k : Int) ∧ k + gk = 20 ∧ acc.length = k ∧ Wordy acc ∧ wr.ownsRow w.heap.size 5 1 bs k (acc.map S.u8v) ∧ Below w.heap.size w wr)
    case atStart => exact ⟨0, [], rfl, by omega, rfl, ⟨fun c h => by simp at h, fun c r h => by cases h⟩, World.ownsRow_nil _ _ _ _, Below.refl _ _⟩
    case round =>
      obtain ⟨k, acc, rfl, hkg, hal, hwd, hown, hw⟩ := hrel
      by_cases hlt : k < s.size
      · have d1 : decide ((k : Int) < (s.size : Int)) = true := decide_eq_true (by omega)
        have d1n : decide (k < s.size) = true := decide_eq_true hlt
        have i1 : (0 : Int) ≤ (k : Int) := by omega
        have i2 : (k : Int) < (s.size : Int) := by omega
        obtain ⟨A, cp, hvv⟩ := S.own_val hown
        rw [hvv] at hown ⊢
        clear hvv
        by_cases hk0 : k = 0
        · subst hk0
          have u1 : (s[0].toNat : Int) ≤ 255 := by have := s[0].toNat_lt; omega
          obtain ⟨q, hq⟩ : ∃ q, q = s[0].toNat % 52 := ⟨_, rfl⟩
          have hqb : q < 52 := by omega
          have r1 : (s[0].toNat : Int).tmod 52 = (q : Int) := by rw [Int.tmod_eq_emod_of_nonneg (by omega)]; omega
          have r2 : (s[0].toNat : Int) % 52 = (q : Int) := by omega
          have j1 : (0 : Int) ≤ (q : Int) := by omega
          have j2 : (q : Int) < 63 := by omega
          have hqs : q < allS.size := Nat.lt_trans hqb (by decide)
          have HW2 := Lib.hid (hwd.snoc allS[q] (all_inn q hqs) (fun _ => all_let q hqs hqb))
          obtain ⟨q63, hq63⟩ : ∃ q63, q63 = s[0].toNat % 63 := ⟨_, rfl⟩
          have r3 : (s[0].toNat : Int).tmod 63 = (q63 : Int) := by rw [Int.tmod_eq_emod_of_nonneg (by omega)]; omega
          have r4 : (s[0].toNat : Int) % 63 = (q63 : Int) := by omega
          clear hq hq63 hwd
          go_wp2_with (at_builtin; go_must (refine S.app_u8 rfl _ _ rfl rfl hown hw hw.size rfl rfl (by intro u hu; simp at hu; subst hu; rfl) (by omega) ?_); intro v' w' hown' hw' _)
          go_roundg (gk - 1)
          case measure => omega
          case rel => exact ⟨1, acc ++ [allS[q]], rfl, by omega, by rw [List.length_append, hal]; rfl, HW2.out, by rw [List.map_append]; exact hown', hw'⟩
        · have hk0b : ((k : Int) == 0) = false := beq_eq_false_iff_ne.2 (by omega)
          have u1 : (s[k].toNat : Int) ≤ 255 := by have := s[k].toNat_lt; omega
          obtain ⟨q, hq⟩ : ∃ q, q = s[k].toNat % 63 := ⟨_, rfl⟩
          have hqb : q < 63 := by omega
          have r1 : (s[k].toNat : Int).tmod 63 = (q : Int) := by rw [Int.tmod_eq_emod_of_nonneg (by omega)]; omega
          have r2 : (s[k].toNat : Int) % 63 = (q : Int) := by omega
          have j1 : (0 : Int) ≤ (q : Int) := by omega
          have j2 : (q : Int) < 63 := by omega
          have hqs : q < allS.size := Nat.lt_of_lt_of_le hqb (by decide)
          have HW2 := Lib.hid (hwd.snoc allS[q] (all_inn q hqs) (fun h => by rw [h] at hal; exact absurd hal.symm hk0))
          clear hq hwd
          go_wp2_with (at_builtin; go_must (refine S.app_u8 rfl _ _ rfl rfl hown hw hw.size rfl rfl (by intro u hu; simp at hu; subst hu; rfl) (by omega) ?_); intro v' w' hown' hw' _)
          go_roundg (gk - 1)
          case measure => omega
          case rel => exact ⟨k + 1, acc ++ [allS[q]], rfl, by omega, by rw [List.length_append, hal]; rfl, HW2.out, by rw [List.map_append]; exact hown', hw'⟩
      · have d1 : decide ((k : Int) < (s.size : Int)) = false := decide_eq_false (by omega)
        have d1n : decide (k < s.size) = false := decide_eq_false hlt
        obtain ⟨A, cp, hvv⟩ := S.own_val hown
        rw [hvv] at hown ⊢
        clear hvv
        have hcv := S.conv_own hown rfl
        obtain ⟨t, ht⟩ : ∃ t : ByteArray, t = ⟨acc.toArray⟩ := ⟨_, rfl⟩
        rw [← ht] at hcv
        have htl : t.data.toList = acc := by rw [ht]
        have hts : t.size = acc.length := by rw [← htl]; simp
        have hts2 : t.size ≤ 20 := by omega
        have hmr := Lib.hid ((hw.cell (p := ⟨0, 0, none⟩) HP.out).trans HM.out)
        have HW := Lib.hid hw
        have HT := Lib.hid ht
        have HQ : Hid (ShortQ t.data.toList) := shortQ _ (by rw [htl]; omega)
        clear hw hown ht
        by_cases hbig : 16 < t.size
        · have d2 : decide ((16 : Int) < (t.size : Int)) = true := decide_eq_true (by omega)
          have d2n : decide (16 < t.size) = true := decide_eq_true hbig
          have hf : tokensF t.data.toList = ([], 0, 12) := by rw [htl]; exact word_no acc hwd (by omega) (by omega)
          have HFF := Lib.hid hf
          clear htl hts hf
          go_wp2_with fail
          refine (toks_any wr t m [] 0 12 HFF.out (by omega) hmr.out HQ.out).mono ?_
          rintro e w1 ⟨A1, c1, rfl, h1, hc1, b1, m1⟩
          have B1 := Lib.hid (HW.out.trans (b1.mono HW.out.size))
          have M1 := Lib.hid m1
          clear h1 hc1 b1 m1 hcv
          go_wp2_with fail
          refine (lives_any w1 m M1.out).mono ?_
          rintro e w2 ⟨rfl, h2⟩
          go_wp2_with fail
          go_ret
          exact ⟨rfl, B1.out.trans (h2.mono B1.out.size)⟩
        · have d2 : decide ((16 : Int) < (t.size : Int)) = false := decide_eq_false (by omega)
          have d2n : decide (16 < t.size) = false := decide_eq_false hbig
          rcases acc with _ | ⟨c, r⟩
          · have hf : tokensF t.data.toList = ([⟨0, [], 0, 0⟩], 0, 0) := by rw [htl]; exact word_end
            have HFF := Lib.hid hf
            have hz : t.size = 0 := hts
            have d3 : ((t.size : Int) == 0) = true := beq_iff_eq.2 (by omega)
            clear htl hts hf hz
            go_wp2_with fail
            refine (toks_any wr t m _ 0 0 HFF.out (by omega) hmr.out HQ.out).mono ?_
            rintro e w1 ⟨A1, c1, rfl, h1, hc1, b1, m1⟩
            have B1 := Lib.hid (HW.out.trans (b1.mono HW.out.size))
            have M1 := Lib.hid m1
            clear h1 hc1 b1 m1 hcv
            go_wp2_with fail
            refine (lives_any w1 m M1.out).mono ?_
            rintro e w2 ⟨rfl, h2⟩
            go_wp2_with fail
            go_ret
            exact ⟨rfl, B1.out.trans (h2.mono B1.out.size)⟩
          · have hf : tokensF t.data.toList = ([⟨nameK c (c :: r), c :: r, 0, 0⟩, ⟨0, [], 0, (c :: r).length⟩], 0, 0) := by rw [htl]; exact word_ok c r hwd (by omega)
            have HFF := Lib.hid hf
            have hpos : 0 < t.size := by rw [hts]; simp
            have h0 : t[0] = c := by
              have h := get_list t 0 hpos
              rw [htl] at h
              exact (Option.some.inj h).symm
            have hll := lar_lt (hwd.2 c r rfl)
            rw [← h0] at hll
            have hkk : keyB t.data.toList = keyB (c :: r) := by rw [htl]
            have d3 : ((t.size : Int) == 0) = false := beq_eq_false_iff_ne.2 (by omega)
            have k1 : (0 : Int) < (t.size : Int) := by omega
            have HTS := Lib.hid hts
            have HH0 := Lib.hid h0
            have HKK := Lib.hid hkk
            have HT2 := Lib.hid (show (⟨(c :: r).toArray⟩ : ByteArray) = t from HT.out.symm)
            obtain ⟨kd, hkd⟩ : ∃ kd, kd = nameK c (c :: r) := ⟨_, rfl⟩
            have HKD := Lib.hid hkd
            rw [← hkd] at HFF
            clear htl hts hf h0 hkk hkd
            go_wp2_with fail
            refine (toks_any wr t m _ 0 0 HFF.out (by omega) hmr.out HQ.out).mono ?_
            rintro e w1 ⟨A1, c1, rfl, h1, hc1, b1, m1⟩
            have B1 := Lib.hid (HW.out.trans (b1.mono HW.out.size))
            have M1 := Lib.hid m1
            obtain ⟨g, rfl, x0, x1, _, _⟩ := h1.at_ (k := 0) rfl
            obtain ⟨g', e', _, _, _, x3⟩ := h1.at_ (k := 1) rfl
            simp only [Option.some.injEq, Addr.mk.injEq] at e'
            obtain ⟨rfl, _⟩ := e'
            dsimp only at x0 x1 x3
            rw [HT2.out] at x1
            rw [← HTS.out] at x3
            clear h1 hc1 b1 m1 hcv
            rcases hlar : larB c with _ | _
            · have hll2 : decide ((t[0].toNat : Int) < 97) = false := by rw [hll, HH0.out, hlar]
              clear hll
              have CK := Lib.hid (key_any t m w1 (by omega) M1.out)
              rcases hkey : keyB (c :: r) with _ | _
              · rw [HKK.out, hkey] at CK
                have hkd : kd = 3 := by rw [HKD.out]; unfold nameK; rw [hlar, hkey]; rfl
                subst hkd
                clear hlar hkey
                go_wp2_with (go_at_call 15; refine CK.out.mono ?_; rintro e w' ⟨rfl, rfl⟩)
                refine (lives_any w1 m M1.out).mono ?_
                rintro e w2 ⟨rfl, h2⟩
                go_wp2_with fail
                go_ret
                exact ⟨rfl, B1.out.trans (h2.mono B1.out.size)⟩
              · rw [HKK.out, hkey] at CK
                have hkd : kd = 6 := by rw [HKD.out]; unfold nameK; rw [hlar, hkey]; rfl
                subst hkd
                clear hlar hkey
                go_wp2_with (go_at_call 15; refine CK.out.mono ?_; rintro e w' ⟨rfl, rfl⟩)
                refine (lives_any w1 m M1.out).mono ?_
                rintro e w2 ⟨rfl, h2⟩
                go_wp2_with fail
                go_ret
                exact ⟨rfl, B1.out.trans (h2.mono B1.out.size)⟩
            · have hll2 : decide ((t[0].toNat : Int) < 97) = true := by rw [hll, HH0.out, hlar]
              clear hll
              have hkd : kd = 4 := by rw [HKD.out]; unfold nameK; rw [hlar]; rfl
              subst hkd
              clear hlar
              go_wp2_with fail
              refine (lives_any w1 m M1.out).mono ?_
              rintro e w2 ⟨rfl, h2⟩
              go_wp2_with fail
              go_ret
              exact ⟨rfl, B1.out.trans (h2.mono B1.out.size)⟩
theorem lexNames_walk (s : ByteArray) (w : World) (m : Int) (hm : w.cell? ⟨0, 0, none⟩ = some (.int .i64 m)) (hs : s.size ≤ maxLen) : Calls Tryd.prog 8 #[.string s] w fun e w' => e = .returned (.bool true) ∧ Below w.heap.size w w' := by
  by_cases h : 20 < s.size
  · exact lexNames_in (s.extract 0 20) w m hm (by simp; omega) s (.inl ⟨h, rfl⟩)
  · exact lexNames_in s w m hm (by omega) s (.inr ⟨by omega, rfl⟩)
end Go.Proofs.YtmjjjnmfkdidgaaDoor
