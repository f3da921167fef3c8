/- The walks of layer 4: a source's tokens. -/
import Derived.Test.YtmjjjnmfkdidgaaDoorPlainC
namespace Go.Proofs.YtmjjjnmfkdidgaaDoor
open Go.RowKit
set_option linter.unusedVariables false
attribute [local go_sem ↓] Go.wp_at_zero Go.wp_at_succ

theorem ty_tok : ElemTy 23 32 4 40 := elemTy (i := none) (z := .agg #[.int .i64 0, .string ⟨#[]⟩, .int .i64 0, .int .i64 0]) Tryd.underlying23 (by kernel_rfl) rfl (by decide)
/-- Each quote has no more than 1000 bytes behind it. -/
def ShortQ (l : List UInt8) : Prop := ∀ j, (l.drop j).head? = some 34 → l.length - j ≤ 1000
/-- What a list of tokens is. -/
def ToksAt (w : World) (base : Nat) (v : Value) (ts : List Tok) : Prop := w.ownsRow base 32 4 v ts.length (mkToks ts)
set_option maxRecDepth 100000 in
set_option maxHeartbeats 4000000 in
theorem tokens_any (w : World) (s : ByteArray) (m : Int) (hs : s.size ≤ 10000) (hm : w.cell? ⟨0, 0, none⟩ = some (.int .i64 m)) (hq : ShortQ s.data.toList) :
    Calls Tryd.prog 11 #[.string s] w fun e w' => ∃ v, e = .returned (.tuple #[v, .int .i64 ((tokensF s.data.toList).2.1 : Int), .int .i64 (tokensF s.data.toList).2.2]) ∧ ToksAt w' w.heap.size v (tokensF s.data.toList).1 ∧ Below w.heap.size w w' := by
  have HM : Hid (w.cell? ⟨0, 0, none⟩ = some (.int .i64 m)) := hm
  have HQ := Lib.hid hq
  have HW0 : Hid (0 < w.heap.size) := by
    show _ < _
    rcases Nat.eq_zero_or_pos w.heap.size with h | h
    · have h2 : w.heap[0]? = none := Array.getElem?_eq_none (by omega)
      simp [World.cell?, h2] at hm
    · exact h
  clear hm hq
  by_cases hbig : 2000 < s.size
  · have hf : tokensF s.data.toList = ([], 0, 12) := if_pos (by rw [size_list]; exact hbig)
    rw [hf]
    have d1 : decide ((2000 : Int) < (s.size : Int)) = true := decide_eq_true (by omega)
    go_enter Tryd.func11, Tryd.ntmps11
    go_wp2_with fail
    go_ret3
    exact ⟨_, rfl, ⟨rfl, .inl ⟨rfl, rfl⟩⟩, Below.refl _ _⟩
  · have d1 : decide ((2000 : Int) < (s.size : Int)) = false := decide_eq_false (by omega)
    have hf : tokensF s.data.toList = toksA (s.size + 1) s.data.toList 0 [] := by
      show (if _ then _ else _) = _
      rw [if_neg (by rw [size_list]; exact hbig), size_list]
    rw [hf]
    clear hf
    generalize hF : toksA (s.size + 1) s.data.toList 0 [] = F at *
    have HF := Lib.hid hF
    clear hF
    obtain ⟨ts, p, er⟩ := F
    dsimp only
    go_enter Tryd.func11, Tryd.ntmps11
    go_wp2_with fail
    go_loopg [6] (s.size + 1) (fun gk out wr => ∃ (i : Nat) (acc : List Tok), i ≤ s.size ∧ s.size + 1 ≤ gk + i ∧ toksA gk (s.data.toList.drop i) i acc = (ts, p, er) ∧ acc.length ≤ i ∧ RdAt wr w.heap.size s i ∧
      wr.ownsRow (w.heap.size + 1) 32 4 out acc.length (mkToks acc) ∧ Below w.heap.size w wr)
    case atStart => exact ⟨0, [], Nat.zero_le _, Nat.le_refl _, HF.out, Nat.le_refl _, Whole.made w 40 _, ⟨rfl, .inl ⟨rfl, rfl⟩⟩, (Below.refl _ _).alloc (Nat.le_refl _) _⟩
    case round =>
      obtain ⟨i, acc, hi, hgk, htk, hai, hr, ho, hbw⟩ := hrel
      obtain ⟨f, rfl⟩ : ∃ f, gk = f + 1 := ⟨gk - 1, by omega⟩
      obtain ⟨j, hj⟩ : ∃ j, j = i + gapL (s.data.toList.drop i) := ⟨_, rfl⟩
      have hjl : j ≤ s.size := by
        have h := gapL_le (s.data.toList.drop i)
        rw [List.length_drop, size_list] at h
        omega
      have hij : i ≤ j := by omega
      have hdd : (s.data.toList.drop i).drop (gapL (s.data.toList.drop i)) = s.data.toList.drop j := by rw [List.drop_drop, ← hj]
      have hm2 : wr.cell? ⟨0, 0, none⟩ = some (.int .i64 m) := (hbw.cell (p := ⟨0, 0, none⟩) HW0.out).trans HM.out
      have CN := Lib.hid (next_any wr w.heap.size s i j m hj hr hi hs hm2 (fun h => by have := HQ.out j h; rwa [size_list] at this))
      have hfit := tok_fit (s.data.toList.drop j)
      have he := toks_err f (s.data.toList.drop i) i acc
      have hn := toks_end f (s.data.toList.drop i) i acc
      have hmo := toks_more f (s.data.toList.drop i) i acc
      rw [hdd, ← hj, htk] at he hn hmo
      rw [List.drop_drop] at hmo
      rw [List.length_drop, size_list] at hfit
      have hz := tok_zero (s.data.toList.drop j)
      have hz := tok_zero (s.data.toList.drop j)
      have hz := tok_zero (s.data.toList.drop j)
      clear hdd htk
      have HO := Lib.hid ho
      have HB := Lib.hid hbw
      have HR := Lib.hid hr
      clear ho hbw hr hm2 hj
      generalize tokF (s.data.toList.drop j) = r at *
      by_cases h0 : r.e = 0
      · obtain ⟨rk, rt, rn, rl, re⟩ := r
        dsimp only at h0 he hn hmo hfit hz
        subst h0
        have hz2 := hz rfl
        have hmo2 := hmo rfl
        have hn2 := hn rfl
        have hf2 := hfit.2.1 rfl
        have hf3 := hfit.2.2 rfl
        clear he hn hmo hfit
        by_cases hk : rk = 0
        · have HE := Lib.hid (hn2 hk)
          have hz3 := hz2 hk
          injection hz3 with q1 q2 q3 q4 q5
          subst q1 q2 q3 q4
          clear hn2 hmo2 hf2 hf3 hz hz2
          go_upto_region 8 with (go_at_call 18; refine CN.out.mono ?_; rintro e w1 ⟨kd, nm, tx, n, rfl, h1, h2, h3⟩; dsimp only at h3 ⊢; obtain ⟨rfl, rfl, rfl, rfl⟩ := h3 rfl; have H1 := Lib.hid h1; have H2 := Lib.hid h2; clear h1 h2 h3 CN; unfold tkV)
          have HO1 : Hid (w1.ownsRow (w.heap.size + 1) 32 4 u6 acc.length (mkToks acc)) := own_of_block HO.out (fun g hg => H2.out.block g (HO.out.lt g hg).2 (by have := (HO.out.lt g hg).1; omega))
          have HB1 : Hid (Below w.heap.size w w1) := HB.out.trans (H2.out.below (Nat.le_of_lt HR.out.lt) (Nat.le_refl _))
          have HS1 : Hid (w.heap.size + 1 ≤ w1.heap.size) := Nat.le_trans HR.out.lt H2.out.size
          have HT2 : Hid (Whole (w1.alloc (Obj.cells #[.int .i64 0, .string ⟨#[]⟩, .int .i64 0, .int .i64 (j : Int)] 32)) w1.heap.size 32 #[.int .i64 0, .string ⟨#[]⟩, .int .i64 0, .int .i64 (j : Int)]) := Whole.made _ _ _
          have HO2 := Lib.hid (own_more_alloc HO1.out (Obj.cells #[.int .i64 0, .string ⟨#[]⟩, .int .i64 0, .int .i64 (j : Int)] 32))
          have HB2 := Lib.hid (HB1.out.alloc (Nat.le_of_succ_le HS1.out) (Obj.cells #[.int .i64 0, .string ⟨#[]⟩, .int .i64 0, .int .i64 (j : Int)] 32))
          have HR2 := Lib.hid (Whole.alloc (show Whole w1 w.heap.size 40 _ from H1.out) (Obj.cells #[.int .i64 0, .string ⟨#[]⟩, .int .i64 0, .int .i64 (j : Int)] 32))
          have HS2 : Hid (w.heap.size + 1 ≤ (w1.alloc (Obj.cells #[.int .i64 0, .string ⟨#[]⟩, .int .i64 0, .int .i64 (j : Int)] 32)).heap.size) := by show _ ≤ _; have := HS1.out; simp; omega
          have HTU : Hid (u6.ownBlock ≠ some w1.heap.size) := fun hh => by have := (HO1.out.lt _ hh).2; omega
          clear HO HB HR HO1 HB1 HS1 H1 H2
          generalize w1.alloc (Obj.cells #[.int .i64 0, .string ⟨#[]⟩, .int .i64 0, .int .i64 (j : Int)] 32) = w2 at *
          generalize w1.heap.size = T at *
          have c0 := HT2.out.cell 0
          have c1 := HT2.out.cell 1
          have c2 := HT2.out.cell 2
          have c3 := HT2.out.cell 3
          simp only [List.getElem?_toArray, List.getElem?_cons_zero, List.getElem?_cons_succ] at c0 c1 c2 c3
          have HO3 := Lib.hid (own_more_alloc HO2.out (Obj.cells #[.int .i64 0, .string ⟨#[]⟩, .int .i64 0, .int .i64 (j : Int)] 32))
          have HB3 := Lib.hid (HB2.out.alloc (Nat.le_of_succ_le HS2.out) (Obj.cells #[.int .i64 0, .string ⟨#[]⟩, .int .i64 0, .int .i64 (j : Int)] 32))
          have HR3 := Lib.hid (HR2.out.alloc (Obj.cells #[.int .i64 0, .string ⟨#[]⟩, .int .i64 0, .int .i64 (j : Int)] 32))
          have HT3 := Lib.hid (HT2.out.alloc (Obj.cells #[.int .i64 0, .string ⟨#[]⟩, .int .i64 0, .int .i64 (j : Int)] 32))
          have HS3 : Hid (w.heap.size + 1 ≤ (w2.alloc (Obj.cells #[.int .i64 0, .string ⟨#[]⟩, .int .i64 0, .int .i64 (j : Int)] 32)).heap.size) := by show _ ≤ _; have := HS2.out; simp; omega
          have hbase := HS3.out
          go_upto_region 9 with (at_builtin; refine list_app ty_tok (v := u6) rfl _ _ rfl rfl HO3.out w2.heap.size 1 [.int .i64 0, .string ⟨#[]⟩, .int .i64 0, .int .i64 (j : Int)] rfl (Whole.made w2 32 _) rfl (by simp [Value.oneCell']) (by decide) (by omega) (by decide) hbase ?_; intro g' cap' w5 hap; have HAP := Lib.hid hap; clear hap)
          have HO5 := Lib.hid HAP.out.own
          have HR5 := Lib.hid (HAP.out.stays HO3.out HR3.out (by decide))
          have HB5 := Lib.hid (HAP.out.below HO3.out HB3.out (Nat.le_succ _) hbase)
          have t0 : w5.cell? ⟨T, 0, none⟩ = some (.int .i64 0) := (HAP.out.far HT3.out HTU.out).cell 0
          clear c0 c1 c2 c3 HO2 HO3 HB2 HB3 HR2 HR3 HT2 HT3 HAP HS2 HS3 hbase
          go_wp2_with fail
          go_ret3
          have he := HE.out
          injection he with e1 e2
          injection e2 with e2 e3
          subst e1 e2 e3
          refine ⟨_, rfl, ?_, HB5.out⟩
          unfold ToksAt
          rw [List.length_append, mkToks_snoc]
          exact own_more HO5.out (Nat.le_succ _)
        · have HE := Lib.hid (hmo2 hk)
          have hk2 : (rk == 0) = false := beq_eq_false_iff_ne.2 hk
          have HF2 := Lib.hid (hf2 hk)
          have HF3 := Lib.hid hf3
          have HJ := Lib.hid hjl
          clear hn2 hmo2 hf2 hf3 hz hz2 hk hjl
          go_upto_region 8 with (go_at_call 18; refine CN.out.mono ?_; rintro e w1 ⟨kd, nm, tx, n, rfl, h1, h2, h3⟩; dsimp only at h3 ⊢; obtain ⟨h3a, h3b, h3c, h3d⟩ := h3 rfl; subst h3a h3b h3c h3d; have H1 := Lib.hid h1; have H2 := Lib.hid h2; clear h1 h2 h3 CN; unfold tkV)
          have HO1 : Hid (w1.ownsRow (w.heap.size + 1) 32 4 u6 acc.length (mkToks acc)) := own_of_block HO.out (fun g hg => H2.out.block g (HO.out.lt g hg).2 (by have := (HO.out.lt g hg).1; omega))
          have HB1 : Hid (Below w.heap.size w w1) := HB.out.trans (H2.out.below (Nat.le_of_lt HR.out.lt) (Nat.le_refl _))
          have HS1 : Hid (w.heap.size + 1 ≤ w1.heap.size) := Nat.le_trans HR.out.lt H2.out.size
          have HT2 : Hid (Whole (w1.alloc (Obj.cells #[.int .i64 kd, .string ⟨rt.toArray⟩, .int .i64 nm, .int .i64 (j : Int)] 32)) w1.heap.size 32 #[.int .i64 kd, .string ⟨rt.toArray⟩, .int .i64 nm, .int .i64 (j : Int)]) := Whole.made _ _ _
          have HO2 := Lib.hid (own_more_alloc HO1.out (Obj.cells #[.int .i64 kd, .string ⟨rt.toArray⟩, .int .i64 nm, .int .i64 (j : Int)] 32))
          have HB2 := Lib.hid (HB1.out.alloc (Nat.le_of_succ_le HS1.out) (Obj.cells #[.int .i64 kd, .string ⟨rt.toArray⟩, .int .i64 nm, .int .i64 (j : Int)] 32))
          have HR2 := Lib.hid (Whole.alloc (show Whole w1 w.heap.size 40 _ from H1.out) (Obj.cells #[.int .i64 kd, .string ⟨rt.toArray⟩, .int .i64 nm, .int .i64 (j : Int)] 32))
          have HS2 : Hid (w.heap.size + 1 ≤ (w1.alloc (Obj.cells #[.int .i64 kd, .string ⟨rt.toArray⟩, .int .i64 nm, .int .i64 (j : Int)] 32)).heap.size) := by show _ ≤ _; have := HS1.out; simp; omega
          have HTU : Hid (u6.ownBlock ≠ some w1.heap.size) := fun hh => by have := (HO1.out.lt _ hh).2; omega
          clear HO HB HR HO1 HB1 HS1 H1 H2
          generalize w1.alloc (Obj.cells #[.int .i64 kd, .string ⟨rt.toArray⟩, .int .i64 nm, .int .i64 (j : Int)] 32) = w2 at *
          generalize w1.heap.size = T at *
          have c0 := HT2.out.cell 0
          have c1 := HT2.out.cell 1
          have c2 := HT2.out.cell 2
          have c3 := HT2.out.cell 3
          simp only [List.getElem?_toArray, List.getElem?_cons_zero, List.getElem?_cons_succ] at c0 c1 c2 c3
          have HO3 := Lib.hid (own_more_alloc HO2.out (Obj.cells #[.int .i64 kd, .string ⟨rt.toArray⟩, .int .i64 nm, .int .i64 (j : Int)] 32))
          have HB3 := Lib.hid (HB2.out.alloc (Nat.le_of_succ_le HS2.out) (Obj.cells #[.int .i64 kd, .string ⟨rt.toArray⟩, .int .i64 nm, .int .i64 (j : Int)] 32))
          have HR3 := Lib.hid (HR2.out.alloc (Obj.cells #[.int .i64 kd, .string ⟨rt.toArray⟩, .int .i64 nm, .int .i64 (j : Int)] 32))
          have HT3 := Lib.hid (HT2.out.alloc (Obj.cells #[.int .i64 kd, .string ⟨rt.toArray⟩, .int .i64 nm, .int .i64 (j : Int)] 32))
          have HS3 : Hid (w.heap.size + 1 ≤ (w2.alloc (Obj.cells #[.int .i64 kd, .string ⟨rt.toArray⟩, .int .i64 nm, .int .i64 (j : Int)] 32)).heap.size) := by show _ ≤ _; have := HS2.out; simp; omega
          have hbase := HS3.out
          go_upto_region 9 with (at_builtin; refine list_app ty_tok (v := u6) rfl _ _ rfl rfl HO3.out w2.heap.size 1 [.int .i64 kd, .string ⟨rt.toArray⟩, .int .i64 nm, .int .i64 (j : Int)] rfl (Whole.made w2 32 _) rfl (by simp [Value.oneCell']) (by decide) (by omega) (by decide) hbase ?_; intro g' cap' w5 hap; have HAP := Lib.hid hap; clear hap)
          have HO5 := Lib.hid HAP.out.own
          have HR5 := Lib.hid (HAP.out.stays HO3.out HR3.out (by decide))
          have HB5 := Lib.hid (HAP.out.below HO3.out HB3.out (Nat.le_succ _) hbase)
          have t0 : w5.cell? ⟨T, 0, none⟩ = some (.int .i64 kd) := (HAP.out.far HT3.out HTU.out).cell 0
          clear c0 c1 c2 c3 HO2 HO3 HB2 HB3 HR2 HR3 HT2 HT3 HAP HS2 HS3 hbase
          go_wp2_with fail
          go_roundg f
          case measure => exact Nat.lt_succ_self _
          case rel =>
            refine ⟨j + n, acc ++ [⟨kd, rt, nm, j⟩], by have := HF3.out; have := HJ.out; omega, by have := HF2.out; omega, HE.out.symm, by have := HF2.out; rw [List.length_append, List.length_singleton]; omega, HR5.out, ?_, HB5.out⟩
            rw [List.length_append, mkToks_snoc]
            exact HO5.out
      · have HE := Lib.hid (he h0)
        have q1 : (r.e != 0) = true := bne_iff_ne.2 h0
        clear he hn hmo hfit hz h0
        go_upto_region 7 with (go_at_call 18; refine CN.out.mono ?_; rintro e w1 ⟨kd, nm, tx, n, rfl, h1, h2, h3⟩; have H2 := Lib.hid h2; clear h1 h2 h3 CN; unfold tkV)
        have HB1 : Hid (Below w.heap.size w w1) := HB.out.trans (H2.out.below (Nat.le_of_lt HR.out.lt) (Nat.le_refl _))
        have HT2 : Hid (Whole (w1.alloc (Obj.cells #[.int .i64 kd, .string tx, .int .i64 nm, .int .i64 (j : Int)] 32)) w1.heap.size 32 #[.int .i64 kd, .string tx, .int .i64 nm, .int .i64 (j : Int)]) := Whole.made _ _ _
        have HB2 := Lib.hid (HB1.out.alloc (Nat.le_trans (Nat.le_of_lt HR.out.lt) H2.out.size) (Obj.cells #[.int .i64 kd, .string tx, .int .i64 nm, .int .i64 (j : Int)] 32))
        generalize w1.alloc (Obj.cells #[.int .i64 kd, .string tx, .int .i64 nm, .int .i64 (j : Int)] 32) = w2 at *
        generalize w1.heap.size = T at *
        have c3 := HT2.out.cell 3
        simp only [List.getElem?_toArray, List.getElem?_cons_zero, List.getElem?_cons_succ] at c3
        go_quiet (fail)
        go_wp2_with fail
        go_ret3
        have he := HE.out
        injection he with e1 e2
        injection e2 with e2 e3
        subst e1 e2 e3
        exact ⟨_, rfl, ⟨rfl, .inl ⟨rfl, rfl⟩⟩, below_drewN HB2.out _⟩
end Go.Proofs.YtmjjjnmfkdidgaaDoor
