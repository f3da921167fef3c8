/- The laws of layer 14: more behind what there is. -/
import Derived.Test.YtjkbhdocpjekmaaVLa
import Derived.Test.YtjkbhdocpjekmaaVLb
import Derived.StillTailTactics
namespace Go.Proofs.Ytjkbhdocpjekmaa
open Go.RowKit
set_option linter.unusedVariables false
attribute [local go_sem ↓] Go.wp_at_zero Go.wp_at_succ

theorem own_alloc2 {w : World} {base e size n : Nat} {v : Value} {xs : List Value} (h : w.ownsRow base e size v n xs) (o : Obj) : (w.alloc o).ownsRow base e size v n xs := own_below h ((Below.refl _ _).alloc (Nat.le_refl _) o) (Nat.le_refl _)
theorem own_made2 {w : World} {base e size n : Nat} {cs : List Value} (hl : cs.length = n * size) (hb : base ≤ w.heap.size) (hn : n ≤ maxLen) : (w.alloc (.cells cs.toArray e)).ownsRow base e size (.slice (some ⟨w.heap.size, 0, none⟩) n n) n cs :=
  ⟨hl, .inr ⟨w.heap.size, n, cs.toArray, rfl, hb, Whole.made w e cs.toArray, Nat.le_refl _, hn, by simp [hl], by simp [← hl]⟩⟩
theorem more_small (c : Cod) (n : Int) (s : ByteArray) : (more (cutC c) n s).funs.length ≤ 100 ∧ (more (cutC c) n s).ints.length ≤ 100 ∧ (more (cutC c) n s).texts.length ≤ 100 ∧ ∀ b ∈ (more (cutC c) n s).funs, b.code.length ≤ 100 := by
  obtain ⟨h1, h2, h3, h4⟩ := cut_small c
  refine ⟨by simp [more]; omega, by simp [more]; omega, by simp [more]; omega, fun b hb => ?_⟩
  simp only [more, List.mem_append, List.mem_singleton] at hb
  rcases hb with hb | rfl
  · have := h4 b hb; omega
  · decide
set_option maxRecDepth 100000 in
set_option maxHeartbeats 8000000 in
theorem verifyMore_walk (v : Value) (c : Cod) (n : Int) (s : ByteArray) (w : World) (hc : CodAt w w.heap.size v c) (hn : (Lit.int .i64 n).wf = true) (hs : s.size ≤ maxLen) :
    Calls Try.prog 7 #[v, .int .i64 n, .string s] w fun e w' => e = .returned (.bool true) ∧ Below w.heap.size w w' := by
  clear hn
  unfold maxLen at hs
  obtain ⟨FA, fn, fc, IA, inn, ic, TA, tn, tc, rfl, h1, h2, h3, hf, hi, ht⟩ := hc.form
  have HC : Hid (CodAt (w.alloc (.cells #[.slice FA fn fc, .slice IA inn ic, .slice TA tn tc, .int .i64 c.lets] 26)) (w.alloc (.cells #[.slice FA fn fc, .slice IA inn ic, .slice TA tn tc, .int .i64 c.lets] 26)).heap.size _ c) :=
    (hc.below ((Below.refl _ _).alloc (Nat.le_refl _) _)).more (by simp)
  clear hc h1 h2 h3 hf hi ht
  go_enter Try.func7, Try.ntmps7
  go_wp2_with fail
  refine (cut_form _ _ c HC.out).mono ?_
  rintro e w1 ⟨FA2, fn2, fc2, IA2, inn2, ic2, TA2, tn2, tc2, rfl, ho, hb⟩
  rw [show (w.alloc (.cells #[.slice FA fn fc, .slice IA inn ic, .slice TA tn tc, .int .i64 c.lets] 26)).heap.size = w.heap.size + 1 from by simp] at ho hb
  have hW := (Whole.made w 26 #[.slice FA fn fc, .slice IA inn ic, .slice TA tn tc, .int .i64 c.lets]).below hb (by omega)
  have c0 : w1.cell? ⟨w.heap.size, 0, none⟩ = some (.slice FA fn fc) := hW.cell 0
  have c1 : w1.cell? ⟨w.heap.size, 1, none⟩ = some (.slice IA inn ic) := hW.cell 1
  have c2 : w1.cell? ⟨w.heap.size, 2, none⟩ = some (.slice TA tn tc) := hW.cell 2
  have c3 : w1.cell? ⟨w.heap.size, 3, none⟩ = some (.int .i64 c.lets) := hW.cell 3
  have f0 := hW.free 0
  have f1 := hW.free 1
  have f2 := hW.free 2
  have f3 := hW.free 3
  have HST := Lib.hid (cut_stored (a := .slice FA2 fn2 fc2) (b := .slice IA2 inn2 ic2) (d := .slice TA2 tn2 tc2) (e := .int .i64 c.lets) rfl ho hb)
  clear ho hb hW HC
  go_upto_region 2 with (fail)
  generalize (((w1.setCell ⟨w.heap.size, 0, none⟩ (.slice FA2 fn2 fc2)).setCell ⟨w.heap.size, 1, none⟩ (.slice IA2 inn2 ic2)).setCell ⟨w.heap.size, 2, none⟩ (.slice TA2 tn2 tc2)).setCell ⟨w.heap.size, 3, none⟩ (.int .i64 c.lets) = w2 at *
  clear c0 c1 c2 c3 f0 f1 f2 f3
  by_cases h60 : 60 < s.size
  · go_upto_region 4 with (fail)
    have hs2 : (s.extract 0 60).size ≤ 60 := by rw [ByteArray.size_extract]; omega
    generalize s.extract 0 60 = s2v at *
    clear h60 hs
    obtain ⟨s0, s1, s2, s3⟩ := HST.out.cells
    obtain ⟨x, hx⟩ := code_total (cutC c)
    have CM := Lib.hid (code_st hx HST.out)
    have HX := Lib.hid hx
    clear hx
    by_cases hx0 : x = 0
    case neg =>
      have t0 : (x != 0) = true := bne_iff_ne.2 hx0
      as_aux_lemma =>
        go_wp2_with (first
          | (go_at_call 9; refine CM.out.mono ?_; rintro e w3 ⟨rfl, hs3, y0, y1, y2, y3⟩; have HS3 := Lib.hid hs3; clear hs3)
          | (go_at_call 11; refine (lives_any _).mono ?_; rintro e w9 ⟨rfl, hb9⟩; have HB9 := Lib.hid hb9; clear hb9))
        go_ret
        exact ⟨rfl, HS3.out.below.trans (HB9.out.mono (by have := HS3.out.size; omega))⟩
    subst hx0
    by_cases hn1 : n < -4611686018427387904
    case pos =>
      have t1 : decide (n < -4611686018427387904) = true := decide_eq_true hn1
      as_aux_lemma =>
        go_wp2_with (first
          | (go_at_call 9; refine CM.out.mono ?_; rintro e w3 ⟨rfl, hs3, y0, y1, y2, y3⟩; have HS3 := Lib.hid hs3; clear hs3)
          | (go_at_call 11; refine (lives_any _).mono ?_; rintro e w9 ⟨rfl, hb9⟩; have HB9 := Lib.hid hb9; clear hb9))
        go_ret
        exact ⟨rfl, HS3.out.below.trans (HB9.out.mono (by have := HS3.out.size; omega))⟩
    have t1 : decide (n < -4611686018427387904) = false := decide_eq_false hn1
    by_cases hn2 : 4611686018427387903 < n
    case pos =>
      have t2 : decide (4611686018427387903 < n) = true := decide_eq_true hn2
      as_aux_lemma =>
        go_wp2_with (first
          | (go_at_call 9; refine CM.out.mono ?_; rintro e w3 ⟨rfl, hs3, y0, y1, y2, y3⟩; have HS3 := Lib.hid hs3; clear hs3)
          | (go_at_call 11; refine (lives_any _).mono ?_; rintro e w9 ⟨rfl, hb9⟩; have HB9 := Lib.hid hb9; clear hb9))
        go_ret
        exact ⟨rfl, HS3.out.below.trans (HB9.out.mono (by have := HS3.out.size; omega))⟩
    have t2 : decide (4611686018427387903 < n) = false := decide_eq_false hn2
    by_cases hl : 50 < c.lets
    case pos =>
      have t3 : decide (50 < c.lets) = true := decide_eq_true hl
      as_aux_lemma =>
        go_wp2_with (first
          | (go_at_call 9; refine CM.out.mono ?_; rintro e w3 ⟨rfl, hs3, y0, y1, y2, y3⟩; have HS3 := Lib.hid hs3; clear hs3)
          | (go_at_call 11; refine (lives_any _).mono ?_; rintro e w9 ⟨rfl, hb9⟩; have HB9 := Lib.hid hb9; clear hb9))
        go_ret
        exact ⟨rfl, HS3.out.below.trans (HB9.out.mono (by have := HS3.out.size; omega))⟩
    have t3 : decide (50 < c.lets) = false := decide_eq_false hl
    go_upto_region 6 with (go_at_call 9; refine CM.out.mono ?_; rintro e w3 ⟨rfl, hs3, y0, y1, y2, y3⟩; have HS3 := Lib.hid hs3; clear hs3)
    have HM : Hid (CodeIs (more (cutC c) n s2v) 0) := more_law HX.out (inF_iff.2 ⟨by omega, by omega⟩) (decide_eq_true hs2) (by show c.lets ≤ 50; omega) (by have := (cut_small c).1; omega) (by have := (cut_small c).2.1; omega) (by have := (cut_small c).2.2.1; omega)
    have hlet0 : 0 ≤ c.lets := by
      rcases HX.out with ⟨_, h⟩ | ⟨h, _, _⟩ | ⟨_, _, h⟩
      · cases h
      · unfold codOK at h; simp only [Bool.and_eq_true, inF_iff] at h; exact h.1.1.1.2.1
      · cases h
    clear CM t1 t2 t3 s0 s1 s2 s3 y0 y1 y2 y3 HST
    have HBO3 : Hid (BoxAt w w.heap.size 26 #[.slice FA2 fn2 fc2, .slice IA2 inn2 ic2, .slice TA2 tn2 tc2, .int .i64 c.lets] w3) := ⟨HS3.out.below, HS3.out.box, HS3.out.size⟩
    obtain ⟨_, _, _, vs, e, hf3, hcs3, hi3, ht3⟩ := HS3.out.own
    cases e
    have hfn : fn2 = (cutC c).funs.length := by
      obtain ⟨_, _, e1, _⟩ := own_form hf3
      simp only [Value.slice.injEq] at e1
      exact e1.2.1
    subst hfn
    have HVL : Hid (vs.length = (cutC c).funs.length) := hcs3.1
    have hil : (cutC c).ints.length ≤ 6 := (cut_small c).2.1
    have htl : (cutC c).texts.length ≤ 6 := (cut_small c).2.2.1
    have hfl : (cutC c).funs.length ≤ 6 := (cut_small c).1
    have HF3 := Lib.hid hf3
    have HC3 := Lib.hid hcs3
    have HI3 := Lib.hid hi3
    have HT3 := Lib.hid ht3
    clear hf3 hcs3 hi3 ht3 HS3
    have s1 : w3.cell? ⟨w.heap.size, 1, none⟩ = some (.slice IA2 inn2 ic2) := HBO3.out.cell 1
    have HIA := Lib.hid (own_alloc2 HI3.out (.cells #[.int .i64 n] 3))
    have HBA := Lib.hid (HBO3.out.alloc (.cells #[.int .i64 n] 3))
    have hsa : w.heap.size + 1 ≤ (w3.alloc (.cells #[.int .i64 n] 3)).heap.size := HBA.out.2.2
    go_upto_region 7 with (at_builtin; refine list_app ty_ints (v := .slice IA2 inn2 ic2) rfl _ _ rfl rfl HIA.out w3.heap.size 1 [.int .i64 n] rfl (Whole.made w3 3 _) rfl (by simp [Value.oneCell']) (by decide) (by omega) (by decide) hsa ?_; intro gi ci w4 hap; have HAP := Lib.hid hap; have HBO4 := Lib.hid (HBA.out.app hap HIA.out (by decide)); have z1 : w4.cell? ⟨w.heap.size, 1, none⟩ = some (.slice IA2 inn2 ic2) := HBO4.out.cell 1; have z2 := HBO4.out.free 1; clear hap)
    have HF4 := Lib.hid (HBO4.out.own_put (o := 1) (u := .slice (some ⟨gi, 0, none⟩) ((cutC c).ints.length + 1) ci) (HAP.out.other (own_alloc2 HF3.out _) (own_ne_type HIA.out (own_alloc2 HF3.out _) (by decide))))
    have HT4 := Lib.hid (HBO4.out.own_put (o := 1) (u := .slice (some ⟨gi, 0, none⟩) ((cutC c).ints.length + 1) ci) (HAP.out.other (own_alloc2 HT3.out _) (own_ne_type HIA.out (own_alloc2 HT3.out _) (by decide))))
    have HI4 := Lib.hid (HBO4.out.own_put (o := 1) (u := .slice (some ⟨gi, 0, none⟩) ((cutC c).ints.length + 1) ci) HAP.out.own)
    have HC4 := Lib.hid ((((HC3.out.below ((Below.refl _ _).alloc (Nat.le_refl _) (.cells #[.int .i64 n] 3)) (Nat.le_refl _)).other HAP.out HIA.out (by decide))).setCell (p := ⟨w.heap.size, 1, none⟩) HBO4.out.2.1 (by decide) (.slice (some ⟨gi, 0, none⟩) ((cutC c).ints.length + 1) ci))
    have HBO5 := Lib.hid (HBO4.out.put 1 (.slice (some ⟨gi, 0, none⟩) ((cutC c).ints.length + 1) ci))
    clear HF3 HT3 HC3 HI3 HBO3 HIA HBA hsa HAP HBO4 z1 z2 s1
    generalize w4.setCell ⟨w.heap.size, 1, none⟩ (.slice (some ⟨gi, 0, none⟩) ((cutC c).ints.length + 1) ci) = w5 at *
    have s1 : w5.cell? ⟨w.heap.size, 2, none⟩ = some (.slice TA2 tn2 tc2) := HBO5.out.cell 2
    have HTA := Lib.hid (own_alloc2 HT4.out (.cells #[.string s2v] 9))
    have HBA := Lib.hid (HBO5.out.alloc (.cells #[.string s2v] 9))
    have hsa : w.heap.size + 1 ≤ (w5.alloc (.cells #[.string s2v] 9)).heap.size := HBA.out.2.2
    go_upto_region 8 with (at_builtin; refine list_app ty_texts (v := .slice TA2 tn2 tc2) rfl _ _ rfl rfl HTA.out w5.heap.size 1 [.string s2v] rfl (Whole.made w5 9 _) rfl (by simp [Value.oneCell']) (by decide) (by omega) (by decide) hsa ?_; intro gt ct w6 hap; have HAP := Lib.hid hap; have HBO6 := Lib.hid (HBA.out.app hap HTA.out (by decide)); have z1 : w6.cell? ⟨w.heap.size, 2, none⟩ = some (.slice TA2 tn2 tc2) := HBO6.out.cell 2; have z2 := HBO6.out.free 2; clear hap)
    have HF6 := Lib.hid (HBO6.out.own_put (o := 2) (u := .slice (some ⟨gt, 0, none⟩) ((cutC c).texts.length + 1) ct) (HAP.out.other (own_alloc2 HF4.out _) (own_ne_type HTA.out (own_alloc2 HF4.out _) (by decide))))
    have HI6 := Lib.hid (HBO6.out.own_put (o := 2) (u := .slice (some ⟨gt, 0, none⟩) ((cutC c).texts.length + 1) ct) (HAP.out.other (own_alloc2 HI4.out _) (own_ne_type HTA.out (own_alloc2 HI4.out _) (by decide))))
    have HT6 := Lib.hid (HBO6.out.own_put (o := 2) (u := .slice (some ⟨gt, 0, none⟩) ((cutC c).texts.length + 1) ct) HAP.out.own)
    have HC6 := Lib.hid ((((HC4.out.below ((Below.refl _ _).alloc (Nat.le_refl _) (.cells #[.string s2v] 9)) (Nat.le_refl _)).other HAP.out HTA.out (by decide))).setCell (p := ⟨w.heap.size, 2, none⟩) HBO6.out.2.1 (by decide) (.slice (some ⟨gt, 0, none⟩) ((cutC c).texts.length + 1) ct))
    have HBO7 := Lib.hid (HBO6.out.put 2 (.slice (some ⟨gt, 0, none⟩) ((cutC c).texts.length + 1) ct))
    clear HF4 HT4 HC4 HI4 HBO5 HTA HBA hsa HAP HBO6 z1 z2 s1
    generalize w6.setCell ⟨w.heap.size, 2, none⟩ (.slice (some ⟨gt, 0, none⟩) ((cutC c).texts.length + 1) ct) = w7 at *
    have s1 : w7.cell? ⟨w.heap.size, 3, none⟩ = some (.int .i64 c.lets) := HBO7.out.cell 3
    have z2 := HBO7.out.free 3
    go_upto_region 9 with (fail)
    have HF8 := Lib.hid (HBO7.out.own_put (o := 3) (u := .int .i64 (c.lets + 1)) HF6.out)
    have HI8 := Lib.hid (HBO7.out.own_put (o := 3) (u := .int .i64 (c.lets + 1)) HI6.out)
    have HT8 := Lib.hid (HBO7.out.own_put (o := 3) (u := .int .i64 (c.lets + 1)) HT6.out)
    have HC8 := Lib.hid (HC6.out.setCell (p := ⟨w.heap.size, 3, none⟩) HBO7.out.2.1 (by decide) (.int .i64 (c.lets + 1)))
    have HBO8 := Lib.hid (HBO7.out.put 3 (.int .i64 (c.lets + 1)))
    clear HF6 HI6 HT6 HC6 HBO7 s1 z2
    generalize w7.setCell ⟨w.heap.size, 3, none⟩ (.int .i64 (c.lets + 1)) = w8 at *
    obtain ⟨wa, hwa⟩ : ∃ wa, wa = w8.alloc (.cells #[.int .i64 3, .int .i64 0, .int .i64 0, .int .i64 15, .int .i64 0, .int .i64 0] 36) := ⟨_, rfl⟩
    have HFA : Hid (wa.ownsRow (w.heap.size + 1) 40 4 (.slice FA2 (cutC c).funs.length fc2) (cutC c).funs.length (bdyCells (cutC c).funs vs)) := by show World.ownsRow _ _ _ _ _ _ _; rw [hwa]; exact own_alloc2 HF8.out _
    have HIA : Hid (wa.ownsRow (w.heap.size + 1) 3 1 (.slice (some ⟨gi, 0, none⟩) ((cutC c).ints.length + 1) ci) ((cutC c).ints.length + 1) ((cutC c).ints.map (Value.int .i64) ++ [.int .i64 n])) := by show World.ownsRow _ _ _ _ _ _ _; rw [hwa]; exact own_alloc2 HI8.out _
    have HTA : Hid (wa.ownsRow (w.heap.size + 1) 9 1 (.slice (some ⟨gt, 0, none⟩) ((cutC c).texts.length + 1) ct) ((cutC c).texts.length + 1) ((cutC c).texts.map Value.string ++ [.string s2v])) := by show World.ownsRow _ _ _ _ _ _ _; rw [hwa]; exact own_alloc2 HT8.out _
    have HCA : Hid (CodesOwn wa (w.heap.size + 1) ((cutC c).funs ++ [newF]) (vs ++ [.slice (some ⟨w8.heap.size, 0, none⟩) 2 2])) := by
      show CodesOwn _ _ _ _; rw [hwa]
      exact HC8.out.snoc (B := w8.heap.size) (b2 := w8.heap.size) (Nat.le_refl _) ((Below.refl _ _).alloc (Nat.le_refl _) _) (own_made2 (cs := insCells newF.code) rfl (Nat.le_refl _) (by unfold maxLen; omega)) (Nat.le_refl _) HBO8.out.2.2
    have HBOA : Hid (BoxAt w w.heap.size 26 #[.slice FA2 (cutC c).funs.length fc2, .slice (some ⟨gi, 0, none⟩) ((cutC c).ints.length + 1) ci, .slice (some ⟨gt, 0, none⟩) ((cutC c).texts.length + 1) ct, .int .i64 (c.lets + 1)] wa) := by show BoxAt _ _ _ _ _; rw [hwa]; exact HBO8.out.alloc _
    have HNWA : Hid (wa = w8.alloc (.cells #[.int .i64 3, .int .i64 0, .int .i64 0, .int .i64 15, .int .i64 0, .int .i64 0] 36)) := hwa
    have s1 : w8.cell? ⟨w.heap.size, 0, none⟩ = some (.slice FA2 (cutC c).funs.length fc2) := HBO8.out.cell 0
    have HFB := Lib.hid (own_alloc2 HFA.out (.cells #[.int .i64 0, .int .i64 1, .int .i64 1, .slice (some ⟨w8.heap.size, 0, none⟩) 2 2] 40))
    have HBOB := Lib.hid (HBOA.out.alloc (.cells #[.int .i64 0, .int .i64 1, .int .i64 1, .slice (some ⟨w8.heap.size, 0, none⟩) 2 2] 40))
    have hsb : w.heap.size + 1 ≤ (wa.alloc (.cells #[.int .i64 0, .int .i64 1, .int .i64 1, .slice (some ⟨w8.heap.size, 0, none⟩) 2 2] 40)).heap.size := HBOB.out.2.2
    have HSZ : Hid (wa.heap.size = w8.heap.size + 1) := by show _ = _; rw [hwa]; simp
    clear HF8 HI8 HT8 HC8 HBO8 hwa
    go_upto_region 10 with (at_builtin; rw [← HNWA.out]; refine list_app ty_funs (v := .slice FA2 (cutC c).funs.length fc2) rfl _ _ rfl rfl HFB.out (w8.heap.size + 1) 1 [.int .i64 0, .int .i64 1, .int .i64 1, .slice (some ⟨w8.heap.size, 0, none⟩) 2 2] rfl (HSZ.out ▸ Whole.made wa 40 _) rfl (by simp [Value.oneCell']) (by decide) (by omega) (by decide) hsb ?_; intro gf cf w9 hap; have HAP := Lib.hid hap; have HBO9 := Lib.hid (HBOB.out.app hap HFB.out (by decide)); have z1 : w9.cell? ⟨w.heap.size, 0, none⟩ = some (.slice FA2 (cutC c).funs.length fc2) := HBO9.out.cell 0; have z2 := HBO9.out.free 0; clear hap)
    have HF9 := Lib.hid (HBO9.out.own_put (o := 0) (u := .slice (some ⟨gf, 0, none⟩) ((cutC c).funs.length + 1) cf) HAP.out.own)
    have HI9 := Lib.hid (HBO9.out.own_put (o := 0) (u := .slice (some ⟨gf, 0, none⟩) ((cutC c).funs.length + 1) cf) (HAP.out.other (own_alloc2 HIA.out _) (own_ne_type HFB.out (own_alloc2 HIA.out _) (by decide))))
    have HT9 := Lib.hid (HBO9.out.own_put (o := 0) (u := .slice (some ⟨gf, 0, none⟩) ((cutC c).funs.length + 1) cf) (HAP.out.other (own_alloc2 HTA.out _) (own_ne_type HFB.out (own_alloc2 HTA.out _) (by decide))))
    have HC9 := Lib.hid ((((HCA.out.below ((Below.refl _ _).alloc (Nat.le_refl _) (.cells #[.int .i64 0, .int .i64 1, .int .i64 1, .slice (some ⟨w8.heap.size, 0, none⟩) 2 2] 40)) (Nat.le_refl _)).other HAP.out HFB.out (by decide))).setCell (p := ⟨w.heap.size, 0, none⟩) HBO9.out.2.1 (by decide) (.slice (some ⟨gf, 0, none⟩) ((cutC c).funs.length + 1) cf))
    have HBX := Lib.hid (HBO9.out.put 0 (.slice (some ⟨gf, 0, none⟩) ((cutC c).funs.length + 1) cf))
    clear HFA HIA HTA HCA HBOA HNWA HFB HBOB hsb HSZ HAP HBO9 z1 z2 s1
    generalize w9.setCell ⟨w.heap.size, 0, none⟩ (.slice (some ⟨gf, 0, none⟩) ((cutC c).funs.length + 1) cf) = w10 at *
    have HOWN : Hid (OwnCod w10 (w.heap.size + 1) (.agg #[.slice (some ⟨gf, 0, none⟩) ((cutC c).funs.length + 1) cf, .slice (some ⟨gi, 0, none⟩) ((cutC c).ints.length + 1) ci, .slice (some ⟨gt, 0, none⟩) ((cutC c).texts.length + 1) ct, .int .i64 (c.lets + 1)]) (more (cutC c) n s2v)) := by
      refine ⟨_, _, _, vs ++ [Value.slice (some ⟨w8.heap.size, 0, none⟩) 2 2], rfl, ?_, ?_, ?_, ?_⟩
      rotate_left
      · exact HC9.out
      rotate_right
      · rw [show (more (cutC c) n s2v).funs.length = (cutC c).funs.length + 1 from by simp [more]]
        show World.ownsRow _ _ _ _ _ _ (bdyCells ((cutC c).funs ++ [newF]) _)
        rw [bdyCells_snoc _ _ _ _ HVL.out]
        exact HF9.out
      · rw [show (more (cutC c) n s2v).ints.length = (cutC c).ints.length + 1 from by simp [more]]
        show World.ownsRow _ _ _ _ _ _ (((cutC c).ints ++ [n]).map (Value.int .i64))
        rw [List.map_append]
        exact HI9.out
      · rw [show (more (cutC c) n s2v).texts.length = (cutC c).texts.length + 1 from by simp [more]]
        show World.ownsRow _ _ _ _ _ _ (((cutC c).texts ++ [s2v]).map Value.string)
        rw [List.map_append]
        exact HT9.out
    have CK : Hid (Calls Try.prog 9 #[.agg #[.slice (some ⟨gf, 0, none⟩) ((cutC c).funs.length + 1) cf, .slice (some ⟨gi, 0, none⟩) ((cutC c).ints.length + 1) ci, .slice (some ⟨gt, 0, none⟩) ((cutC c).texts.length + 1) ct, .int .i64 (c.lets + 1)]] w10 fun e w' => e = .returned (.int .i64 0) ∧ Below w10.heap.size w10 w') :=
      (code_any w10 _ _ (HOWN.out.small (more_small c n s2v).1 (more_small c n s2v).2.1 (more_small c n s2v).2.2.1 (more_small c n s2v).2.2.2)).mono fun e w' ⟨y, h1, h2, h3⟩ => ⟨by rw [h1, h2.uniq HM.out], h3⟩
    clear HF9 HI9 HT9 HC9 HOWN
    have s0 : w10.cell? ⟨w.heap.size, 0, none⟩ = some (.slice (some ⟨gf, 0, none⟩) ((cutC c).funs.length + 1) cf) := HBX.out.cell 0
    have s1 : w10.cell? ⟨w.heap.size, 1, none⟩ = some (.slice (some ⟨gi, 0, none⟩) ((cutC c).ints.length + 1) ci) := HBX.out.cell 1
    have s2 : w10.cell? ⟨w.heap.size, 2, none⟩ = some (.slice (some ⟨gt, 0, none⟩) ((cutC c).texts.length + 1) ct) := HBX.out.cell 2
    have s3 : w10.cell? ⟨w.heap.size, 3, none⟩ = some (.int .i64 (c.lets + 1)) := HBX.out.cell 3
    go_wp2_with (first
      | (go_at_call 9; refine CK.out.mono ?_; rintro e wk ⟨rfl, hbk⟩; have HBK := Lib.hid hbk; clear hbk)
      | (go_at_call 11; refine (lives_any _).mono ?_; rintro e wl ⟨rfl, hbl⟩; have HBL := Lib.hid hbl; clear hbl))
    go_ret
    exact ⟨rfl, HBX.out.1.trans ((HBK.out.trans (HBL.out.mono HBK.out.size)).mono (by have := HBX.out.2.2; omega))⟩
  · have hs2 : s.size ≤ 60 := by omega
    go_upto_region 4 with (fail)
    clear h60 hs
    generalize s = s2v at *
    obtain ⟨s0, s1, s2, s3⟩ := HST.out.cells
    obtain ⟨x, hx⟩ := code_total (cutC c)
    have CM := Lib.hid (code_st hx HST.out)
    have HX := Lib.hid hx
    clear hx
    by_cases hx0 : x = 0
    case neg =>
      have t0 : (x != 0) = true := bne_iff_ne.2 hx0
      as_aux_lemma =>
        go_wp2_with (first
          | (go_at_call 9; refine CM.out.mono ?_; rintro e w3 ⟨rfl, hs3, y0, y1, y2, y3⟩; have HS3 := Lib.hid hs3; clear hs3)
          | (go_at_call 11; refine (lives_any _).mono ?_; rintro e w9 ⟨rfl, hb9⟩; have HB9 := Lib.hid hb9; clear hb9))
        go_ret
        exact ⟨rfl, HS3.out.below.trans (HB9.out.mono (by have := HS3.out.size; omega))⟩
    subst hx0
    by_cases hn1 : n < -4611686018427387904
    case pos =>
      have t1 : decide (n < -4611686018427387904) = true := decide_eq_true hn1
      as_aux_lemma =>
        go_wp2_with (first
          | (go_at_call 9; refine CM.out.mono ?_; rintro e w3 ⟨rfl, hs3, y0, y1, y2, y3⟩; have HS3 := Lib.hid hs3; clear hs3)
          | (go_at_call 11; refine (lives_any _).mono ?_; rintro e w9 ⟨rfl, hb9⟩; have HB9 := Lib.hid hb9; clear hb9))
        go_ret
        exact ⟨rfl, HS3.out.below.trans (HB9.out.mono (by have := HS3.out.size; omega))⟩
    have t1 : decide (n < -4611686018427387904) = false := decide_eq_false hn1
    by_cases hn2 : 4611686018427387903 < n
    case pos =>
      have t2 : decide (4611686018427387903 < n) = true := decide_eq_true hn2
      as_aux_lemma =>
        go_wp2_with (first
          | (go_at_call 9; refine CM.out.mono ?_; rintro e w3 ⟨rfl, hs3, y0, y1, y2, y3⟩; have HS3 := Lib.hid hs3; clear hs3)
          | (go_at_call 11; refine (lives_any _).mono ?_; rintro e w9 ⟨rfl, hb9⟩; have HB9 := Lib.hid hb9; clear hb9))
        go_ret
        exact ⟨rfl, HS3.out.below.trans (HB9.out.mono (by have := HS3.out.size; omega))⟩
    have t2 : decide (4611686018427387903 < n) = false := decide_eq_false hn2
    by_cases hl : 50 < c.lets
    case pos =>
      have t3 : decide (50 < c.lets) = true := decide_eq_true hl
      as_aux_lemma =>
        go_wp2_with (first
          | (go_at_call 9; refine CM.out.mono ?_; rintro e w3 ⟨rfl, hs3, y0, y1, y2, y3⟩; have HS3 := Lib.hid hs3; clear hs3)
          | (go_at_call 11; refine (lives_any _).mono ?_; rintro e w9 ⟨rfl, hb9⟩; have HB9 := Lib.hid hb9; clear hb9))
        go_ret
        exact ⟨rfl, HS3.out.below.trans (HB9.out.mono (by have := HS3.out.size; omega))⟩
    have t3 : decide (50 < c.lets) = false := decide_eq_false hl
    go_upto_region 6 with (go_at_call 9; refine CM.out.mono ?_; rintro e w3 ⟨rfl, hs3, y0, y1, y2, y3⟩; have HS3 := Lib.hid hs3; clear hs3)
    have HM : Hid (CodeIs (more (cutC c) n s2v) 0) := more_law HX.out (inF_iff.2 ⟨by omega, by omega⟩) (decide_eq_true hs2) (by show c.lets ≤ 50; omega) (by have := (cut_small c).1; omega) (by have := (cut_small c).2.1; omega) (by have := (cut_small c).2.2.1; omega)
    have hlet0 : 0 ≤ c.lets := by
      rcases HX.out with ⟨_, h⟩ | ⟨h, _, _⟩ | ⟨_, _, h⟩
      · cases h
      · unfold codOK at h; simp only [Bool.and_eq_true, inF_iff] at h; exact h.1.1.1.2.1
      · cases h
    clear CM t1 t2 t3 s0 s1 s2 s3 y0 y1 y2 y3 HST
    have HBO3 : Hid (BoxAt w w.heap.size 26 #[.slice FA2 fn2 fc2, .slice IA2 inn2 ic2, .slice TA2 tn2 tc2, .int .i64 c.lets] w3) := ⟨HS3.out.below, HS3.out.box, HS3.out.size⟩
    obtain ⟨_, _, _, vs, e, hf3, hcs3, hi3, ht3⟩ := HS3.out.own
    cases e
    have hfn : fn2 = (cutC c).funs.length := by
      obtain ⟨_, _, e1, _⟩ := own_form hf3
      simp only [Value.slice.injEq] at e1
      exact e1.2.1
    subst hfn
    have HVL : Hid (vs.length = (cutC c).funs.length) := hcs3.1
    have hil : (cutC c).ints.length ≤ 6 := (cut_small c).2.1
    have htl : (cutC c).texts.length ≤ 6 := (cut_small c).2.2.1
    have hfl : (cutC c).funs.length ≤ 6 := (cut_small c).1
    have HF3 := Lib.hid hf3
    have HC3 := Lib.hid hcs3
    have HI3 := Lib.hid hi3
    have HT3 := Lib.hid ht3
    clear hf3 hcs3 hi3 ht3 HS3
    have s1 : w3.cell? ⟨w.heap.size, 1, none⟩ = some (.slice IA2 inn2 ic2) := HBO3.out.cell 1
    have HIA := Lib.hid (own_alloc2 HI3.out (.cells #[.int .i64 n] 3))
    have HBA := Lib.hid (HBO3.out.alloc (.cells #[.int .i64 n] 3))
    have hsa : w.heap.size + 1 ≤ (w3.alloc (.cells #[.int .i64 n] 3)).heap.size := HBA.out.2.2
    go_upto_region 7 with (at_builtin; refine list_app ty_ints (v := .slice IA2 inn2 ic2) rfl _ _ rfl rfl HIA.out w3.heap.size 1 [.int .i64 n] rfl (Whole.made w3 3 _) rfl (by simp [Value.oneCell']) (by decide) (by omega) (by decide) hsa ?_; intro gi ci w4 hap; have HAP := Lib.hid hap; have HBO4 := Lib.hid (HBA.out.app hap HIA.out (by decide)); have z1 : w4.cell? ⟨w.heap.size, 1, none⟩ = some (.slice IA2 inn2 ic2) := HBO4.out.cell 1; have z2 := HBO4.out.free 1; clear hap)
    have HF4 := Lib.hid (HBO4.out.own_put (o := 1) (u := .slice (some ⟨gi, 0, none⟩) ((cutC c).ints.length + 1) ci) (HAP.out.other (own_alloc2 HF3.out _) (own_ne_type HIA.out (own_alloc2 HF3.out _) (by decide))))
    have HT4 := Lib.hid (HBO4.out.own_put (o := 1) (u := .slice (some ⟨gi, 0, none⟩) ((cutC c).ints.length + 1) ci) (HAP.out.other (own_alloc2 HT3.out _) (own_ne_type HIA.out (own_alloc2 HT3.out _) (by decide))))
    have HI4 := Lib.hid (HBO4.out.own_put (o := 1) (u := .slice (some ⟨gi, 0, none⟩) ((cutC c).ints.length + 1) ci) HAP.out.own)
    have HC4 := Lib.hid ((((HC3.out.below ((Below.refl _ _).alloc (Nat.le_refl _) (.cells #[.int .i64 n] 3)) (Nat.le_refl _)).other HAP.out HIA.out (by decide))).setCell (p := ⟨w.heap.size, 1, none⟩) HBO4.out.2.1 (by decide) (.slice (some ⟨gi, 0, none⟩) ((cutC c).ints.length + 1) ci))
    have HBO5 := Lib.hid (HBO4.out.put 1 (.slice (some ⟨gi, 0, none⟩) ((cutC c).ints.length + 1) ci))
    clear HF3 HT3 HC3 HI3 HBO3 HIA HBA hsa HAP HBO4 z1 z2 s1
    generalize w4.setCell ⟨w.heap.size, 1, none⟩ (.slice (some ⟨gi, 0, none⟩) ((cutC c).ints.length + 1) ci) = w5 at *
    have s1 : w5.cell? ⟨w.heap.size, 2, none⟩ = some (.slice TA2 tn2 tc2) := HBO5.out.cell 2
    have HTA := Lib.hid (own_alloc2 HT4.out (.cells #[.string s2v] 9))
    have HBA := Lib.hid (HBO5.out.alloc (.cells #[.string s2v] 9))
    have hsa : w.heap.size + 1 ≤ (w5.alloc (.cells #[.string s2v] 9)).heap.size := HBA.out.2.2
    go_upto_region 8 with (at_builtin; refine list_app ty_texts (v := .slice TA2 tn2 tc2) rfl _ _ rfl rfl HTA.out w5.heap.size 1 [.string s2v] rfl (Whole.made w5 9 _) rfl (by simp [Value.oneCell']) (by decide) (by omega) (by decide) hsa ?_; intro gt ct w6 hap; have HAP := Lib.hid hap; have HBO6 := Lib.hid (HBA.out.app hap HTA.out (by decide)); have z1 : w6.cell? ⟨w.heap.size, 2, none⟩ = some (.slice TA2 tn2 tc2) := HBO6.out.cell 2; have z2 := HBO6.out.free 2; clear hap)
    have HF6 := Lib.hid (HBO6.out.own_put (o := 2) (u := .slice (some ⟨gt, 0, none⟩) ((cutC c).texts.length + 1) ct) (HAP.out.other (own_alloc2 HF4.out _) (own_ne_type HTA.out (own_alloc2 HF4.out _) (by decide))))
    have HI6 := Lib.hid (HBO6.out.own_put (o := 2) (u := .slice (some ⟨gt, 0, none⟩) ((cutC c).texts.length + 1) ct) (HAP.out.other (own_alloc2 HI4.out _) (own_ne_type HTA.out (own_alloc2 HI4.out _) (by decide))))
    have HT6 := Lib.hid (HBO6.out.own_put (o := 2) (u := .slice (some ⟨gt, 0, none⟩) ((cutC c).texts.length + 1) ct) HAP.out.own)
    have HC6 := Lib.hid ((((HC4.out.below ((Below.refl _ _).alloc (Nat.le_refl _) (.cells #[.string s2v] 9)) (Nat.le_refl _)).other HAP.out HTA.out (by decide))).setCell (p := ⟨w.heap.size, 2, none⟩) HBO6.out.2.1 (by decide) (.slice (some ⟨gt, 0, none⟩) ((cutC c).texts.length + 1) ct))
    have HBO7 := Lib.hid (HBO6.out.put 2 (.slice (some ⟨gt, 0, none⟩) ((cutC c).texts.length + 1) ct))
    clear HF4 HT4 HC4 HI4 HBO5 HTA HBA hsa HAP HBO6 z1 z2 s1
    generalize w6.setCell ⟨w.heap.size, 2, none⟩ (.slice (some ⟨gt, 0, none⟩) ((cutC c).texts.length + 1) ct) = w7 at *
    have s1 : w7.cell? ⟨w.heap.size, 3, none⟩ = some (.int .i64 c.lets) := HBO7.out.cell 3
    have z2 := HBO7.out.free 3
    go_upto_region 9 with (fail)
    have HF8 := Lib.hid (HBO7.out.own_put (o := 3) (u := .int .i64 (c.lets + 1)) HF6.out)
    have HI8 := Lib.hid (HBO7.out.own_put (o := 3) (u := .int .i64 (c.lets + 1)) HI6.out)
    have HT8 := Lib.hid (HBO7.out.own_put (o := 3) (u := .int .i64 (c.lets + 1)) HT6.out)
    have HC8 := Lib.hid (HC6.out.setCell (p := ⟨w.heap.size, 3, none⟩) HBO7.out.2.1 (by decide) (.int .i64 (c.lets + 1)))
    have HBO8 := Lib.hid (HBO7.out.put 3 (.int .i64 (c.lets + 1)))
    clear HF6 HI6 HT6 HC6 HBO7 s1 z2
    generalize w7.setCell ⟨w.heap.size, 3, none⟩ (.int .i64 (c.lets + 1)) = w8 at *
    obtain ⟨wa, hwa⟩ : ∃ wa, wa = w8.alloc (.cells #[.int .i64 3, .int .i64 0, .int .i64 0, .int .i64 15, .int .i64 0, .int .i64 0] 36) := ⟨_, rfl⟩
    have HFA : Hid (wa.ownsRow (w.heap.size + 1) 40 4 (.slice FA2 (cutC c).funs.length fc2) (cutC c).funs.length (bdyCells (cutC c).funs vs)) := by show World.ownsRow _ _ _ _ _ _ _; rw [hwa]; exact own_alloc2 HF8.out _
    have HIA : Hid (wa.ownsRow (w.heap.size + 1) 3 1 (.slice (some ⟨gi, 0, none⟩) ((cutC c).ints.length + 1) ci) ((cutC c).ints.length + 1) ((cutC c).ints.map (Value.int .i64) ++ [.int .i64 n])) := by show World.ownsRow _ _ _ _ _ _ _; rw [hwa]; exact own_alloc2 HI8.out _
    have HTA : Hid (wa.ownsRow (w.heap.size + 1) 9 1 (.slice (some ⟨gt, 0, none⟩) ((cutC c).texts.length + 1) ct) ((cutC c).texts.length + 1) ((cutC c).texts.map Value.string ++ [.string s2v])) := by show World.ownsRow _ _ _ _ _ _ _; rw [hwa]; exact own_alloc2 HT8.out _
    have HCA : Hid (CodesOwn wa (w.heap.size + 1) ((cutC c).funs ++ [newF]) (vs ++ [.slice (some ⟨w8.heap.size, 0, none⟩) 2 2])) := by
      show CodesOwn _ _ _ _; rw [hwa]
      exact HC8.out.snoc (B := w8.heap.size) (b2 := w8.heap.size) (Nat.le_refl _) ((Below.refl _ _).alloc (Nat.le_refl _) _) (own_made2 (cs := insCells newF.code) rfl (Nat.le_refl _) (by unfold maxLen; omega)) (Nat.le_refl _) HBO8.out.2.2
    have HBOA : Hid (BoxAt w w.heap.size 26 #[.slice FA2 (cutC c).funs.length fc2, .slice (some ⟨gi, 0, none⟩) ((cutC c).ints.length + 1) ci, .slice (some ⟨gt, 0, none⟩) ((cutC c).texts.length + 1) ct, .int .i64 (c.lets + 1)] wa) := by show BoxAt _ _ _ _ _; rw [hwa]; exact HBO8.out.alloc _
    have HNWA : Hid (wa = w8.alloc (.cells #[.int .i64 3, .int .i64 0, .int .i64 0, .int .i64 15, .int .i64 0, .int .i64 0] 36)) := hwa
    have s1 : w8.cell? ⟨w.heap.size, 0, none⟩ = some (.slice FA2 (cutC c).funs.length fc2) := HBO8.out.cell 0
    have HFB := Lib.hid (own_alloc2 HFA.out (.cells #[.int .i64 0, .int .i64 1, .int .i64 1, .slice (some ⟨w8.heap.size, 0, none⟩) 2 2] 40))
    have HBOB := Lib.hid (HBOA.out.alloc (.cells #[.int .i64 0, .int .i64 1, .int .i64 1, .slice (some ⟨w8.heap.size, 0, none⟩) 2 2] 40))
    have hsb : w.heap.size + 1 ≤ (wa.alloc (.cells #[.int .i64 0, .int .i64 1, .int .i64 1, .slice (some ⟨w8.heap.size, 0, none⟩) 2 2] 40)).heap.size := HBOB.out.2.2
    have HSZ : Hid (wa.heap.size = w8.heap.size + 1) := by show _ = _; rw [hwa]; simp
    clear HF8 HI8 HT8 HC8 HBO8 hwa
    go_upto_region 10 with (at_builtin; rw [← HNWA.out]; refine list_app ty_funs (v := .slice FA2 (cutC c).funs.length fc2) rfl _ _ rfl rfl HFB.out (w8.heap.size + 1) 1 [.int .i64 0, .int .i64 1, .int .i64 1, .slice (some ⟨w8.heap.size, 0, none⟩) 2 2] rfl (HSZ.out ▸ Whole.made wa 40 _) rfl (by simp [Value.oneCell']) (by decide) (by omega) (by decide) hsb ?_; intro gf cf w9 hap; have HAP := Lib.hid hap; have HBO9 := Lib.hid (HBOB.out.app hap HFB.out (by decide)); have z1 : w9.cell? ⟨w.heap.size, 0, none⟩ = some (.slice FA2 (cutC c).funs.length fc2) := HBO9.out.cell 0; have z2 := HBO9.out.free 0; clear hap)
    have HF9 := Lib.hid (HBO9.out.own_put (o := 0) (u := .slice (some ⟨gf, 0, none⟩) ((cutC c).funs.length + 1) cf) HAP.out.own)
    have HI9 := Lib.hid (HBO9.out.own_put (o := 0) (u := .slice (some ⟨gf, 0, none⟩) ((cutC c).funs.length + 1) cf) (HAP.out.other (own_alloc2 HIA.out _) (own_ne_type HFB.out (own_alloc2 HIA.out _) (by decide))))
    have HT9 := Lib.hid (HBO9.out.own_put (o := 0) (u := .slice (some ⟨gf, 0, none⟩) ((cutC c).funs.length + 1) cf) (HAP.out.other (own_alloc2 HTA.out _) (own_ne_type HFB.out (own_alloc2 HTA.out _) (by decide))))
    have HC9 := Lib.hid ((((HCA.out.below ((Below.refl _ _).alloc (Nat.le_refl _) (.cells #[.int .i64 0, .int .i64 1, .int .i64 1, .slice (some ⟨w8.heap.size, 0, none⟩) 2 2] 40)) (Nat.le_refl _)).other HAP.out HFB.out (by decide))).setCell (p := ⟨w.heap.size, 0, none⟩) HBO9.out.2.1 (by decide) (.slice (some ⟨gf, 0, none⟩) ((cutC c).funs.length + 1) cf))
    have HBX := Lib.hid (HBO9.out.put 0 (.slice (some ⟨gf, 0, none⟩) ((cutC c).funs.length + 1) cf))
    clear HFA HIA HTA HCA HBOA HNWA HFB HBOB hsb HSZ HAP HBO9 z1 z2 s1
    generalize w9.setCell ⟨w.heap.size, 0, none⟩ (.slice (some ⟨gf, 0, none⟩) ((cutC c).funs.length + 1) cf) = w10 at *
    have HOWN : Hid (OwnCod w10 (w.heap.size + 1) (.agg #[.slice (some ⟨gf, 0, none⟩) ((cutC c).funs.length + 1) cf, .slice (some ⟨gi, 0, none⟩) ((cutC c).ints.length + 1) ci, .slice (some ⟨gt, 0, none⟩) ((cutC c).texts.length + 1) ct, .int .i64 (c.lets + 1)]) (more (cutC c) n s2v)) := by
      refine ⟨_, _, _, vs ++ [Value.slice (some ⟨w8.heap.size, 0, none⟩) 2 2], rfl, ?_, ?_, ?_, ?_⟩
      rotate_left
      · exact HC9.out
      rotate_right
      · rw [show (more (cutC c) n s2v).funs.length = (cutC c).funs.length + 1 from by simp [more]]
        show World.ownsRow _ _ _ _ _ _ (bdyCells ((cutC c).funs ++ [newF]) _)
        rw [bdyCells_snoc _ _ _ _ HVL.out]
        exact HF9.out
      · rw [show (more (cutC c) n s2v).ints.length = (cutC c).ints.length + 1 from by simp [more]]
        show World.ownsRow _ _ _ _ _ _ (((cutC c).ints ++ [n]).map (Value.int .i64))
        rw [List.map_append]
        exact HI9.out
      · rw [show (more (cutC c) n s2v).texts.length = (cutC c).texts.length + 1 from by simp [more]]
        show World.ownsRow _ _ _ _ _ _ (((cutC c).texts ++ [s2v]).map Value.string)
        rw [List.map_append]
        exact HT9.out
    have CK : Hid (Calls Try.prog 9 #[.agg #[.slice (some ⟨gf, 0, none⟩) ((cutC c).funs.length + 1) cf, .slice (some ⟨gi, 0, none⟩) ((cutC c).ints.length + 1) ci, .slice (some ⟨gt, 0, none⟩) ((cutC c).texts.length + 1) ct, .int .i64 (c.lets + 1)]] w10 fun e w' => e = .returned (.int .i64 0) ∧ Below w10.heap.size w10 w') :=
      (code_any w10 _ _ (HOWN.out.small (more_small c n s2v).1 (more_small c n s2v).2.1 (more_small c n s2v).2.2.1 (more_small c n s2v).2.2.2)).mono fun e w' ⟨y, h1, h2, h3⟩ => ⟨by rw [h1, h2.uniq HM.out], h3⟩
    clear HF9 HI9 HT9 HC9 HOWN
    have s0 : w10.cell? ⟨w.heap.size, 0, none⟩ = some (.slice (some ⟨gf, 0, none⟩) ((cutC c).funs.length + 1) cf) := HBX.out.cell 0
    have s1 : w10.cell? ⟨w.heap.size, 1, none⟩ = some (.slice (some ⟨gi, 0, none⟩) ((cutC c).ints.length + 1) ci) := HBX.out.cell 1
    have s2 : w10.cell? ⟨w.heap.size, 2, none⟩ = some (.slice (some ⟨gt, 0, none⟩) ((cutC c).texts.length + 1) ct) := HBX.out.cell 2
    have s3 : w10.cell? ⟨w.heap.size, 3, none⟩ = some (.int .i64 (c.lets + 1)) := HBX.out.cell 3
    go_wp2_with (first
      | (go_at_call 9; refine CK.out.mono ?_; rintro e wk ⟨rfl, hbk⟩; have HBK := Lib.hid hbk; clear hbk)
      | (go_at_call 11; refine (lives_any _).mono ?_; rintro e wl ⟨rfl, hbl⟩; have HBL := Lib.hid hbl; clear hbl))
    go_ret
    exact ⟨rfl, HBX.out.1.trans ((HBK.out.trans (HBL.out.mono HBK.out.size)).mono (by have := HBX.out.2.2; omega))⟩
end Go.Proofs.Ytjkbhdocpjekmaa
