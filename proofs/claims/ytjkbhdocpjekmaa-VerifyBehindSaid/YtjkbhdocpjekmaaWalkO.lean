/- The walks of layer 13: a code with few of all. -/
import Derived.Test.YtjkbhdocpjekmaaOwn
import Derived.Deep.CutBlock
import Derived.Deep.DeepCutAuto
namespace Go.Proofs.Ytjkbhdocpjekmaa
open Go.RowKit
set_option linter.unusedVariables false
attribute [local go_sem ↓] Go.wp_at_zero Go.wp_at_succ

theorem cutT_cut {s : ByteArray} (h : 70 < s.size) : cutT s = s.extract 0 70 := if_pos h
theorem ins_take {is : List Ins} {k : Nat} (h : k < is.length) : insCells (is.take (k + 1)) = insCells (is.take k) ++ [.int .i64 (is.getD k ins0).op, .int .i64 (is.getD k ins0).a, .int .i64 (is.getD k ins0).b] := by
  have := take_succ_map (f := fun i : Ins => i) (d := ins0) (l := is) (k := k) h
  rw [List.map_id'', List.map_id''] at this
  · rw [this, insCells_snoc]
  · exact fun _ => rfl
  · exact fun _ => rfl
theorem own_one {w : World} {base n size : Nat} {e : TypeId} {v : Value} {xs : List Value} (h : w.ownsRow base e size v n xs) : v.oneCell' = true := by
  obtain ⟨A, c, rfl, _⟩ := own_form h; rfl
theorem cut_end {w w2 wr : World} {B : Nat} {c : Cod} {fv iv tv : Value} {vs : List Value} {is6 : List Int} {ts6 : List ByteArray} {nf : Nat} (hB0 : B = w.heap.size) (h0 : Below B w w2) (hr : Whole wr (B + 1) 26 #[.slice none 0 0, .slice none 0 0, .slice none 0 0, .int .i64 0]) (ho : BoxAt w2 (B + 1 + 1) 26 #[fv, iv, tv, .int .i64 c.lets] wr)
    (hi : wr.ownsRow (B + 1 + 1 + 1) 3 1 iv is6.length (is6.map (Value.int .i64))) (ht : wr.ownsRow (B + 1 + 1 + 1) 9 1 tv ts6.length (ts6.map Value.string)) (hn : nf = ((c.funs.take 6).map cutF).length)
    (hf : wr.ownsRow (B + 1 + 1 + 1) 40 4 fv nf (bdyCells ((c.funs.take 6).map cutF) vs)) (hc : CodesOwn wr (B + 1 + 1 + 1) ((c.funs.take 6).map cutF) vs) (his : c.ints.take 6 = is6) (hts : (c.texts.take 6).map cutT = ts6) :
    OwnCod ((((wr.setCell ⟨B + 1, 0, none⟩ fv).setCell ⟨B + 1, 1, none⟩ iv).setCell ⟨B + 1, 2, none⟩ tv).setCell ⟨B + 1, 3, none⟩ (.int .i64 c.lets)) (B + 1) (.agg #[fv, iv, tv, .int .i64 c.lets]) (cutC c) ∧
    Below B w ((((wr.setCell ⟨B + 1, 0, none⟩ fv).setCell ⟨B + 1, 1, none⟩ iv).setCell ⟨B + 1, 2, none⟩ tv).setCell ⟨B + 1, 3, none⟩ (.int .i64 c.lets)) ∧
    B + 1 ≤ ((((wr.setCell ⟨B + 1, 0, none⟩ fv).setCell ⟨B + 1, 1, none⟩ iv).setCell ⟨B + 1, 2, none⟩ tv).setCell ⟨B + 1, 3, none⟩ (.int .i64 c.lets)).heap.size ∧
    Whole ((((wr.setCell ⟨B + 1, 0, none⟩ fv).setCell ⟨B + 1, 1, none⟩ iv).setCell ⟨B + 1, 2, none⟩ tv).setCell ⟨B + 1, 3, none⟩ (.int .i64 c.lets)) (B + 1) 26 #[fv, iv, tv, .int .i64 c.lets] := by
  subst hn
  have w1 := hr.put 0 fv
  have w2' := w1.put 1 iv
  have w3 := w2'.put 2 tv
  have w4 := w3.put 3 (.int .i64 c.lets)
  have key : ∀ {e : TypeId} {size n : Nat} {v : Value} {xs : List Value}, wr.ownsRow (B + 1 + 1 + 1) e size v n xs →
      ((((wr.setCell ⟨B + 1, 0, none⟩ fv).setCell ⟨B + 1, 1, none⟩ iv).setCell ⟨B + 1, 2, none⟩ tv).setCell ⟨B + 1, 3, none⟩ (.int .i64 c.lets)).ownsRow (B + 1) e size v n xs := fun h => by
    have hne : ∀ o, _ ≠ some (⟨B + 1, o, none⟩ : Addr).block := fun o hh => by have := (h.lt _ hh).1; simp at this; omega
    exact own_more (own_setCell (own_setCell (own_setCell (own_setCell h (hne 0) _) (hne 1) _) (hne 2) _) (hne 3) _) (by omega)
  refine ⟨⟨fv, iv, tv, vs, rfl, key hf, ⟨hc.1, fun k hk => key (hc.2.1 k hk), hc.2.2⟩, ?_, ?_⟩, ?_, ?_, w4⟩
  · show World.ownsRow _ _ _ _ _ (c.ints.take 6).length ((c.ints.take 6).map _); rw [his]; exact key hi
  · show World.ownsRow _ _ _ _ _ ((c.texts.take 6).map cutT).length (((c.texts.take 6).map cutT).map _); rw [hts]; exact key ht
  · exact ((((h0.trans (ho.1.mono (by omega))).setCell (by show B ≤ B + 1; omega) _).setCell (by show B ≤ B + 1; omega) _).setCell (by show B ≤ B + 1; omega) _).setCell (by show B ≤ B + 1; omega) _
  · have := ho.2.2; simp [World.setCell]; omega
theorem cutT_same {s : ByteArray} (h : ¬ 70 < s.size) : cutT s = s := if_neg h
set_option maxRecDepth 100000 in
set_option maxHeartbeats 8000000 in
theorem cut_any (w : World) (v : Value) (c : Cod) (hc : CodAt w w.heap.size v c) :
    Calls Try.prog 8 #[v] w fun e w' => ∃ v', e = .returned v' ∧ OwnCod w' (w.heap.size + 1) v' (cutC c) ∧ Below w.heap.size w w' ∧ w.heap.size + 1 ≤ w'.heap.size := by
  obtain ⟨FA, fn, fc, IA, inn, ic, TA, tn, tc, rfl, h1, h2, h3, hf, hi, ht⟩ := hc.form
  clear hc
  obtain ⟨w2, hw2⟩ : ∃ w2, w2 = ((w.alloc (.cells #[.slice FA fn fc, .slice IA inn ic, .slice TA tn tc, .int .i64 c.lets] 26)).alloc (.cells #[.slice none 0 0, .slice none 0 0, .slice none 0 0, .int .i64 0] 26)).alloc (.cells #[.slice none 0 0, .slice none 0 0, .slice none 0 0, .int .i64 c.lets] 26) := ⟨_, rfl⟩
  have HB : Hid (Below w.heap.size w w2) := by show Below _ _ _; rw [hw2]; exact (((Below.refl _ _).alloc (Nat.le_refl _) _).alloc (by simp) _).alloc (by simp; omega) _
  have HW0 : Hid (Whole w2 w.heap.size 26 #[.slice FA fn fc, .slice IA inn ic, .slice TA tn tc, .int .i64 c.lets]) := by show Whole _ _ _ _; rw [hw2]; exact ((Whole.made _ _ _).alloc _).alloc _
  have HW1 : Hid (Whole w2 (w.heap.size + 1) 26 #[.slice none 0 0, .slice none 0 0, .slice none 0 0, .int .i64 0]) := by show Whole _ _ _ _; rw [hw2]; exact Whole.alloc (by have := Whole.made (w.alloc (.cells #[.slice FA fn fc, .slice IA inn ic, .slice TA tn tc, .int .i64 c.lets] 26)) 26 #[.slice none 0 0, .slice none 0 0, .slice none 0 0, .int .i64 0]; simpa using this) _
  have HW2 : Hid (Whole w2 (w.heap.size + 1 + 1) 26 #[.slice none 0 0, .slice none 0 0, .slice none 0 0, .int .i64 c.lets]) := by
    show Whole _ _ _ _; rw [hw2]
    have := Whole.made ((w.alloc (.cells #[.slice FA fn fc, .slice IA inn ic, .slice TA tn tc, .int .i64 c.lets] 26)).alloc (.cells #[.slice none 0 0, .slice none 0 0, .slice none 0 0, .int .i64 0] 26)) 26 #[.slice none 0 0, .slice none 0 0, .slice none 0 0, .int .i64 c.lets]
    simpa using this
  have HZ : Hid (w2.heap.size = w.heap.size + 1 + 1 + 1) := by show _ = _; rw [hw2]; simp
  have HF : Hid (BdysAt w2 w.heap.size FA fn c.funs) := h1.below HB.out
  have HI : Hid (Ints w2 w.heap.size IA inn c.ints) := h2.below HB.out
  have HT : Hid (StrsAt w2 w.heap.size TA tn c.texts) := h3.below HB.out
  have HL1 := Lib.hid h1.1; have HL2 := Lib.hid h2.1; have HL3 := Lib.hid h3.1
  clear h1 h2 h3
  go_enter Try.func8, Try.ntmps8
  go_upto_block 0 with (fail)
  rw [← hw2]
  clear hw2
  have HO0 : Hid (BoxAt w2 (w.heap.size + 1 + 1) 26 #[.slice none 0 0, .slice none 0 0, .slice none 0 0, .int .i64 c.lets] w2) := ⟨Below.refl _ _, HW2.out, by rw [HZ.out]; omega⟩
  go_cut [4] (fun _ wc => ∃ iv, BoxAt w2 (w.heap.size + 1 + 1) 26 #[.slice none 0 0, iv, .slice none 0 0, .int .i64 c.lets] wc ∧ wc.ownsRow (w.heap.size + 1 + 1 + 1) 3 1 iv (c.ints.take 6).length ((c.ints.take 6).map (Value.int .i64)))
  case rest =>
    obtain ⟨iv, ho, hown⟩ := hcut
    have HI6 := Lib.hid hown
    have HO6 := Lib.hid ho
    clear ho hown
    generalize hq : c.ints.take 6 = is6 at *
    have HIS := Lib.hid hq
    clear hq
    go_upto_block 2 with (fail)
    go_cut [5, 6] (fun _ _ wd => ∃ tv, BoxAt w2 (w.heap.size + 1 + 1) 26 #[.slice none 0 0, iv, tv, .int .i64 c.lets] wd ∧ wd.ownsRow (w.heap.size + 1 + 1 + 1) 3 1 iv is6.length (is6.map (Value.int .i64)) ∧ wd.ownsRow (w.heap.size + 1 + 1 + 1) 9 1 tv ((c.texts.take 6).map cutT).length (((c.texts.take 6).map cutT).map Value.string))
    case rest =>
      obtain ⟨tv, ho, hi6, hn6⟩ := hcut
      have HI7 := Lib.hid hi6
      have HT7 := Lib.hid hn6
      have HO7 := Lib.hid ho
      clear ho hi6 hn6 HI6 HO6
      generalize hq : (c.texts.take 6).map cutT = ts6 at *
      have HTS := Lib.hid hq
      clear hq
      go_wp2_with fail
      go_loopw [7, 8, 9] (fun i _ _ wr => ∃ (k : Nat) (fv : Value) (vs : List Value), i = .int .i64 (k : Int) ∧ k ≤ fn ∧ k ≤ 6 ∧ BoxAt w2 (w.heap.size + 1 + 1) 26 #[fv, iv, tv, .int .i64 c.lets] wr ∧ wr.ownsRow (w.heap.size + 1 + 1 + 1) 3 1 iv is6.length (is6.map (Value.int .i64)) ∧ wr.ownsRow (w.heap.size + 1 + 1 + 1) 9 1 tv ts6.length (ts6.map Value.string) ∧
        wr.ownsRow (w.heap.size + 1 + 1 + 1) 40 4 fv k (bdyCells ((c.funs.take k).map cutF) vs) ∧ CodesOwn wr (w.heap.size + 1 + 1 + 1) ((c.funs.take k).map cutF) vs) (fun i _ _ _ => 6 - (intOf i).toNat)
      case atStart => exact ⟨0, .slice none 0 0, [], rfl, by omega, by omega, HO7.out, HI7.out, HT7.out, World.ownsRow_nil _ _ _ _, CodesOwn.nil _ _⟩
      case round =>
        obtain ⟨k, fv, vs, rfl, hk, hk6, ho, hi6, hn6, hfv, hcs⟩ := hrel
        have c1 : wr.cell? ⟨w.heap.size, 0, none⟩ = some (.slice FA fn fc) := (HW0.out.below ho.1 (by omega)).cell 0
        have HO := Lib.hid ho
        have HI8 := Lib.hid hi6
        have HT8 := Lib.hid hn6
        have HFV := Lib.hid hfv
        have HCS := Lib.hid hcs
        clear ho hi6 hn6 hfv hcs
        by_cases h12 : k < fn ∧ k < 6
        · obtain ⟨h1, h2⟩ := h12
          obtain ⟨b, off, e1, hbl, q1, q2, q3, A2, n2, cp2, q4, hI0, _⟩ := HF.out.at_ h1
          have hbm : ∀ o, wr.cell? ⟨b, o, none⟩ = w2.cell? ⟨b, o, none⟩ := fun o => HO.out.1.cell (p := ⟨b, o, none⟩) (by show b < _; omega)
          replace q1 := (hbm _).trans q1
          replace q2 := (hbm _).trans q2
          replace q3 := (hbm _).trans q3
          replace q4 := (hbm _).trans q4
          clear hbm
          have HTK := Lib.hid (take_succ_map (f := cutF) (d := bdy0) (l := c.funs) (k := k) (by rw [HL1.out]; exact h1))
          generalize c.funs.getD k bdy0 = x at *
          obtain ⟨kept, locals, stack, code⟩ := x
          dsimp only at q1 q2 q3 hI0
          have HIX := Lib.hid hI0
          have HLX := Lib.hid hI0.1
          clear hI0
          subst e1
          have Q4 := Lib.hid q4
          clear q4
          go_wp2_with fail
          have n1 := World.new_ne wr _ c1
          have n2' := World.new_ne wr _ q1
          go_region_held3 (fun W => W.cell? ⟨w.heap.size, 0, none⟩ = some (.slice (some ⟨b, off, none⟩) fn fc) ∧ W.cell? ⟨b, off + k * 4, none⟩ = some (.int .i64 kept) ∧ W.cell? ⟨b, off + k * 4 + 1, none⟩ = some (.int .i64 locals) ∧ W.cell? ⟨b, off + k * 4 + 2, none⟩ = some (.int .i64 stack))
            (first | go_keep)
            (fail)
          obtain ⟨wb, hwb⟩ : ∃ wb, wb = (wr.alloc (.cells #[.int .i64 kept, .int .i64 locals, .int .i64 stack, .slice none 0 0] 40)).drew := ⟨_, rfl⟩
          have HBX : Hid (BoxAt wr wr.heap.size 40 #[.int .i64 kept, .int .i64 locals, .int .i64 stack, .slice none 0 0] wb) := by show BoxAt _ _ _ _ _; rw [hwb]; exact (BoxAt.made _ _ _).drew
          rw [← hwb]
          have C1 := Lib.hid c1
          have HGB : Hid (w.heap.size + 1 + 1 + 1 ≤ wr.heap.size) := HO.out.2.2
          clear hwb c1 q1 q2 q3 n1 n2'
          obtain ⟨wo, rfl⟩ : ∃ wo : World, wo = wr := ⟨_, rfl⟩
          go_wp2_with fail
          go_loopw [9] (fun i wi => ∃ (j : Nat) (cv : Value), i = .int .i64 (j : Int) ∧ j ≤ n2 ∧ j ≤ 60 ∧ BoxAt wo wo.heap.size 40 #[.int .i64 kept, .int .i64 locals, .int .i64 stack, cv] wi ∧ wi.ownsRow (wo.heap.size + 1) 36 3 cv j (insCells (code.take j))) (fun i _ => 60 - (intOf i).toNat)
          case atStart => exact ⟨0, .slice none 0 0, rfl, by omega, by omega, HBX.out, World.ownsRow_nil _ _ _ _⟩
          case round =>
            obtain ⟨j, cv, rfl, hj, hj6, hbx, hcv⟩ := hrel
            have c1 : wr.cell? ⟨w.heap.size, 0, none⟩ = some (.slice (some ⟨b, off, none⟩) fn fc) := (hbx.1.cell (p := ⟨w.heap.size, 0, none⟩) (by have := HGB.out; show w.heap.size < _; omega)).trans C1.out
            have q4 : wr.cell? ⟨b, off + k * 4 + 3, none⟩ = some (.slice A2 n2 cp2) := (hbx.1.cell (p := ⟨b, _, none⟩) (by have := HGB.out; show b < _; omega)).trans Q4.out
            have o3 : wr.cell? ⟨wo.heap.size, 3, none⟩ = some cv := hbx.cell 3
            have HBI := Lib.hid hbx
            have HCV := Lib.hid hcv
            clear hbx hcv
            by_cases h12 : j < n2 ∧ j < 60
            · obtain ⟨h3, h4⟩ := h12
              obtain ⟨b', off', e2, hbl', r1, r2, r3⟩ := ((HIX.out.below (HO.out.1.mono (by omega))).below (HBI.out.1.mono (by have := HGB.out; omega))).at_ h3
              have HTI := Lib.hid (ins_take (is := code) (k := j) (by rw [HLX.out]; exact h3))
              generalize code.getD j ins0 = q at *
              obtain ⟨op, ia, ib⟩ := q
              dsimp only at r1 r2 r3
              subst e2
              have o3b : (wr.alloc (.cells #[.int .i64 op, .int .i64 ia, .int .i64 ib] 36)).cell? ⟨wo.heap.size, 3, none⟩ = some cv := (HBI.out.alloc _).cell 3
              go_wp2_with fail
              go_region_law ((refine step_app ty_code (v := cv) (by rfl) _ _ (by rfl) (by rfl) (own_drew (HCV.out.alloc _)) wr.heap.size 1 [.int .i64 op, .int .i64 ia, .int .i64 ib] (by rfl) (Whole.made wr 36 _) (by rfl) (by simp [Value.oneCell']) (by decide) (by omega) (by decide) (by have := HBI.out.2.2; simp; omega) ?_; intro gv cw w' hap; have HA := Lib.hid hap; have HB2 := Lib.hid ((HBI.out.alloc _).drew.app hap (own_drew (HCV.out.alloc _)) (by decide)); have z1 : w'.cell? ⟨wo.heap.size, 3, none⟩ = some cv := HB2.out.cell 3; have z2 := HB2.out.free 3; clear hap))
              all_goals
                have HB3 := Lib.hid (HB2.out.put 3 (.slice (some ⟨gv, 0, none⟩) (j + 1) cw))
                have HC3 := Lib.hid (HB2.out.own_put (o := 3) (u := .slice (some ⟨gv, 0, none⟩) (j + 1) cw) HA.out.own)
                generalize w'.setCell ⟨wo.heap.size, 3, none⟩ (.slice (some ⟨gv, 0, none⟩) (j + 1) cw) = w5 at *
                go_wp2
                exact ⟨⟨j + 1, _, by go_num, by omega, by omega, HB3.out, by rw [HTI.out]; exact HC3.out⟩, by simp [intOf]; omega⟩
            · have e6 : (code.take j).length = j := by rw [List.length_take, HLX.out]; omega
              have e7 : code.take j = code.take 60 := by
                rcases (by omega : j = 60 ∨ n2 ≤ j ∧ j < 60) with h | h
                · rw [h]
                · rw [List.take_of_length_le (by rw [HLX.out]; omega), List.take_of_length_le (by rw [HLX.out]; omega)]
              have HCV2 : Hid (wr.ownsRow (wo.heap.size + 1) 36 3 cv (code.take 60).length (insCells (code.take 60))) := by show World.ownsRow _ _ _ _ _ _ _; rw [← e7, e6]; exact HCV.out
              have HX := Lib.hid h12
              have p0 : wr.cell? ⟨wo.heap.size, 0, none⟩ = some (.int .i64 kept) := HBI.out.cell 0
              have p1 : wr.cell? ⟨wo.heap.size, 1, none⟩ = some (.int .i64 locals) := HBI.out.cell 1
              have p2 : wr.cell? ⟨wo.heap.size, 2, none⟩ = some (.int .i64 stack) := HBI.out.cell 2
              have HBW := Lib.hid HBI.out.1
              have HOW := Lib.hid ((HO.out.below HBW.out (by have := HGB.out; omega)).alloc (.cells #[.int .i64 kept, .int .i64 locals, .int .i64 stack, cv] 40))
              have g0 : (wr.alloc (.cells #[.int .i64 kept, .int .i64 locals, .int .i64 stack, cv] 40)).cell? ⟨w.heap.size + 1 + 1, 0, none⟩ = some fv := HOW.out.cell 0
              have HFW := Lib.hid ((own_below HFV.out HBW.out (Nat.le_refl _)).alloc (.cells #[.int .i64 kept, .int .i64 locals, .int .i64 stack, cv] 40))
              have HIW := Lib.hid ((own_below HI8.out HBW.out (Nat.le_refl _)).alloc (.cells #[.int .i64 kept, .int .i64 locals, .int .i64 stack, cv] 40))
              have HTW := Lib.hid ((own_below HT8.out HBW.out (Nat.le_refl _)).alloc (.cells #[.int .i64 kept, .int .i64 locals, .int .i64 stack, cv] 40))
              have HCW := Lib.hid ((HCS.out.snoc (b := ⟨kept, locals, stack, code.take 60⟩) (Nat.le_refl _) HBW.out HCV2.out (by omega) (by have := HGB.out; omega)).below ((Below.refl _ _).alloc (Nat.le_refl _) (.cells #[.int .i64 kept, .int .i64 locals, .int .i64 stack, cv] 40)) (Nat.le_refl _))
              have HV1 := Lib.hid (own_one HCV2.out)
              have HLV : Hid (vs.length = ((c.funs.take k).map cutF).length) := HCS.out.1
              have HN26 : Hid ((26 : TypeId) ≠ 40) := by show (26 : TypeId) ≠ 40; decide
              have HN3 : Hid ((3 : TypeId) ≠ 40) := by show (3 : TypeId) ≠ 40; decide
              have HN9 : Hid ((9 : TypeId) ≠ 40) := by show (9 : TypeId) ≠ 40; decide
              have HN42 : Hid ((36 : TypeId) ≠ 40) := by show (36 : TypeId) ≠ 40; decide
              clear e6 e7 h12 HCV
              have g0' : wr.cell? ⟨w.heap.size + 1 + 1, 0, none⟩ = some fv := (HO.out.below HBW.out (by have := HGB.out; omega)).cell 0
              go_wp2_with (at_builtin; go_must (refine list_app ty_funs (v := fv) rfl _ _ rfl rfl HFW.out wr.heap.size 1 [.int .i64 kept, .int .i64 locals, .int .i64 stack, cv] rfl (Whole.made wr 40 _) rfl (by intro u hu; simp at hu; rcases hu with rfl | rfl | rfl | rfl <;> first | rfl | exact HV1.out) (by decide) (by omega) (by decide) (by have := HOW.out.2.2; omega) ?_); intro gv cw w' hap; have HO9 := Lib.hid (HOW.out.app hap HFW.out HN26.out); have HI9 := Lib.hid (hap.other HIW.out (own_ne_type HFW.out HIW.out HN3.out)); have HT9 := Lib.hid (hap.other HTW.out (own_ne_type HFW.out HTW.out HN9.out)); have HC9 := Lib.hid (HCW.out.other hap HFW.out HN42.out); have HF9 := Lib.hid hap.own; have z1 : w'.cell? ⟨w.heap.size + 1 + 1, 0, none⟩ = some fv := HO9.out.cell 0; have z2 := HO9.out.free 0; clear hap)
              all_goals first
                | (exfalso; exact HX.out (by omega))
                | (have HCX := Lib.hid (HC9.out.setCell (p := ⟨w.heap.size + 1 + 1, 0, none⟩) HO9.out.2.1 (by decide) (.slice (some ⟨gv, 0, none⟩) (k + 1) cw))
                   have HOX := Lib.hid (HO9.out.put 0 (.slice (some ⟨gv, 0, none⟩) (k + 1) cw))
                   have HIX := Lib.hid (HO9.out.own_put (o := 0) (u := .slice (some ⟨gv, 0, none⟩) (k + 1) cw) HI9.out)
                   have HTX := Lib.hid (HO9.out.own_put (o := 0) (u := .slice (some ⟨gv, 0, none⟩) (k + 1) cw) HT9.out)
                   have HFX := Lib.hid (HO9.out.own_put (o := 0) (u := .slice (some ⟨gv, 0, none⟩) (k + 1) cw) HF9.out)
                   exact ⟨⟨k + 1, _, vs ++ [cv], by go_num, by omega, by omega, HOX.out, HIX.out, HTX.out, by rw [HTK.out, bdyCells_snoc _ _ _ _ HLV.out]; exact HFX.out, by rw [HTK.out]; exact HCX.out⟩, by simp [intOf]; omega⟩)
        · have HX := Lib.hid h12
          have e6 : ((c.funs.take k).map cutF).length = k := by rw [List.length_map, List.length_take, HL1.out]; omega
          have e7 : c.funs.take k = c.funs.take 6 := by
            rcases (by omega : k = 6 ∨ fn ≤ k ∧ k < 6) with h | h
            · rw [h]
            · rw [List.take_of_length_le (by rw [HL1.out]; omega), List.take_of_length_le (by rw [HL1.out]; omega)]
          have HFV2 : Hid (wr.ownsRow (w.heap.size + 1 + 1 + 1) 40 4 fv ((c.funs.take 6).map cutF).length (bdyCells ((c.funs.take 6).map cutF) vs)) := by show World.ownsRow _ _ _ _ _ _ _; rw [← e7, e6]; exact HFV.out
          have HCS2 : Hid (CodesOwn wr (w.heap.size + 1 + 1 + 1) ((c.funs.take 6).map cutF) vs) := by show CodesOwn _ _ _ _; rw [← e7]; exact HCS.out
          have HR := Lib.hid (HW1.out.below HO.out.1 (by omega))
          have g0 : wr.cell? ⟨w.heap.size + 1 + 1, 0, none⟩ = some fv := HO.out.cell 0
          have g1 : wr.cell? ⟨w.heap.size + 1 + 1, 1, none⟩ = some iv := HO.out.cell 1
          have g2 : wr.cell? ⟨w.heap.size + 1 + 1, 2, none⟩ = some tv := HO.out.cell 2
          have g3 : wr.cell? ⟨w.heap.size + 1 + 1, 3, none⟩ = some (.int .i64 c.lets) := HO.out.cell 3
          have r0 : wr.cell? ⟨w.heap.size + 1, 0, none⟩ = some (.slice none 0 0) := HR.out.cell 0
          have r1 : wr.cell? ⟨w.heap.size + 1, 1, none⟩ = some (.slice none 0 0) := HR.out.cell 1
          have r2 : wr.cell? ⟨w.heap.size + 1, 2, none⟩ = some (.slice none 0 0) := HR.out.cell 2
          have r3 : wr.cell? ⟨w.heap.size + 1, 3, none⟩ = some (.int .i64 0) := HR.out.cell 3
          have f0 := HR.out.free 0
          have f1 := HR.out.free 1
          have f2 := HR.out.free 2
          have f3 := HR.out.free 3
          clear e6 e7 h12 HFV HCS
          obtain ⟨nf, hnf⟩ : ∃ nf, nf = ((c.funs.take 6).map cutF).length := ⟨_, rfl⟩
          have HFV3 : Hid (wr.ownsRow (w.heap.size + 1 + 1 + 1) 40 4 fv nf (bdyCells ((c.funs.take 6).map cutF) vs)) := by show World.ownsRow _ _ _ _ _ _ _; rw [hnf]; exact HFV2.out
          have HNF := Lib.hid hnf
          clear hnf HFV2
          obtain ⟨FA2, fc2, rfl, _⟩ := own_form HFV3.out
          obtain ⟨IA2, ic2, rfl, _⟩ := own_form HI8.out
          obtain ⟨TA2, tc2, rfl, _⟩ := own_form HT8.out
          have HEND := Lib.hid (cut_end rfl HB.out HR.out HO.out HI8.out HT8.out HNF.out HFV3.out HCS2.out HIS.out HTS.out)
          generalize is6.length = ni at *
          generalize ts6.length = nt at *
          go_wp2_with fail
          all_goals first
            | (exfalso; exact HX.out (by omega))
            | (generalize (((wr.setCell ⟨w.heap.size + 1, 0, none⟩ (.slice FA2 nf fc2)).setCell ⟨w.heap.size + 1, 1, none⟩ (.slice IA2 ni ic2)).setCell ⟨w.heap.size + 1, 2, none⟩ (.slice TA2 nt tc2)).setCell ⟨w.heap.size + 1, 3, none⟩ (.int .i64 c.lets) = wf at *
               obtain ⟨hO, hB, hS, hW⟩ := HEND.out
               have z0 : wf.cell? ⟨w.heap.size + 1, 0, none⟩ = some (.slice FA2 nf fc2) := hW.cell 0
               have z1 : wf.cell? ⟨w.heap.size + 1, 1, none⟩ = some (.slice IA2 ni ic2) := hW.cell 1
               have z2 : wf.cell? ⟨w.heap.size + 1, 2, none⟩ = some (.slice TA2 nt tc2) := hW.cell 2
               have z3 : wf.cell? ⟨w.heap.size + 1, 3, none⟩ = some (.int .i64 c.lets) := hW.cell 3
               exact bodyPost_ret (v := .agg #[.slice FA2 nf fc2, .slice IA2 ni ic2, .slice TA2 nt tc2, .int .i64 c.lets]) (by simp [results, Try.results8, go_sem, z0, z1, z2, z3]) rfl ⟨_, rfl, hO, hB, hS⟩)
    go_wp2_with fail
    go_loopw [5, 6] (fun i _ wr => ∃ (k : Nat) (tv : Value), i = .int .i64 (k : Int) ∧ k ≤ tn ∧ k ≤ 6 ∧ BoxAt w2 (w.heap.size + 1 + 1) 26 #[.slice none 0 0, iv, tv, .int .i64 c.lets] wr ∧ wr.ownsRow (w.heap.size + 1 + 1 + 1) 3 1 iv is6.length (is6.map (Value.int .i64)) ∧ wr.ownsRow (w.heap.size + 1 + 1 + 1) 9 1 tv k (((c.texts.take k).map cutT).map Value.string)) (fun i _ _ => 6 - (intOf i).toNat)
    case atStart => exact ⟨0, .slice none 0 0, rfl, by omega, by omega, HO6.out, HI6.out, World.ownsRow_nil _ _ _ _⟩
    case round =>
      obtain ⟨k, tv, rfl, hk, hk6, ho, hi6, hown⟩ := hrel
      have c1 : wr.cell? ⟨w.heap.size, 2, none⟩ = some (.slice TA tn tc) := (HW0.out.below ho.1 (by omega)).cell 2
      by_cases h12 : k < tn ∧ k < 6
      · obtain ⟨h1, h2⟩ := h12
        obtain ⟨b, off, e1, hbl, d1⟩ := (HT.out.below (ho.1.mono (by omega))).at_ h1
        have HTK := Lib.hid (take_succ_map (f := cutT) (d := ByteArray.empty) (l := c.texts) (k := k) (by rw [HL3.out]; exact h1))
        generalize c.texts.getD k ByteArray.empty = x at *
        subst e1
        have o1 : wr.cell? ⟨w.heap.size + 1 + 1, 2, none⟩ = some tv := ho.cell 2
        have HO := Lib.hid ho
        have HI7 := Lib.hid hi6
        have HN := Lib.hid hown
        clear ho hown hi6
        have N26 : Hid ((26 : TypeId) ≠ 9) := by show (26 : TypeId) ≠ 9; decide
        have N39 : Hid ((3 : TypeId) ≠ 9) := by show (3 : TypeId) ≠ 9; decide
        by_cases hx : 70 < x.size
        · have HCT := Lib.hid (cutT_cut hx)
          go_wp2_with (at_builtin; refine list_app ty_texts (v := tv) rfl _ _ rfl rfl (HN.out.alloc _) wr.heap.size 1 [.string (x.extract 0 70)] rfl (Whole.made wr 9 _) rfl (by simp [Value.oneCell']) (by decide) (by omega) (by decide) (by have := HO.out.2.2; simp; omega) ?_; intro gv cv w' hap; have HA := Lib.hid hap; have HO2 := Lib.hid ((HO.out.alloc _).app hap (HN.out.alloc _) N26.out); have HI2 := Lib.hid (hap.other (HI7.out.alloc _) (own_ne_type HN.out HI7.out N39.out)); have z1 : w'.cell? ⟨w.heap.size + 1 + 1, 2, none⟩ = some tv := HO2.out.cell 2; have z2 := HO2.out.free 2; clear hap)
          have HO3 := Lib.hid (HO2.out.put 2 (.slice (some ⟨gv, 0, none⟩) (k + 1) cv))
          have HN3 := Lib.hid (HO2.out.own_put (o := 2) (u := .slice (some ⟨gv, 0, none⟩) (k + 1) cv) HA.out.own)
          have HI3 := Lib.hid (HO2.out.own_put (o := 2) (u := .slice (some ⟨gv, 0, none⟩) (k + 1) cv) HI2.out)
          exact ⟨⟨k + 1, _, by go_num, by omega, by omega, HO3.out, HI3.out, by rw [HTK.out, HCT.out, List.map_append]; exact HN3.out⟩, by simp [intOf]; omega⟩
        · have HCT := Lib.hid (cutT_same hx)
          go_wp2_with (at_builtin; refine list_app ty_texts (v := tv) rfl _ _ rfl rfl (HN.out.alloc _) wr.heap.size 1 [.string x] rfl (Whole.made wr 9 _) rfl (by simp [Value.oneCell']) (by decide) (by omega) (by decide) (by have := HO.out.2.2; simp; omega) ?_; intro gv cv w' hap; have HA := Lib.hid hap; have HO2 := Lib.hid ((HO.out.alloc _).app hap (HN.out.alloc _) N26.out); have HI2 := Lib.hid (hap.other (HI7.out.alloc _) (own_ne_type HN.out HI7.out N39.out)); have z1 : w'.cell? ⟨w.heap.size + 1 + 1, 2, none⟩ = some tv := HO2.out.cell 2; have z2 := HO2.out.free 2; clear hap)
          have HO3 := Lib.hid (HO2.out.put 2 (.slice (some ⟨gv, 0, none⟩) (k + 1) cv))
          have HN3 := Lib.hid (HO2.out.own_put (o := 2) (u := .slice (some ⟨gv, 0, none⟩) (k + 1) cv) HA.out.own)
          have HI3 := Lib.hid (HO2.out.own_put (o := 2) (u := .slice (some ⟨gv, 0, none⟩) (k + 1) cv) HI2.out)
          exact ⟨⟨k + 1, _, by go_num, by omega, by omega, HO3.out, HI3.out, by rw [HTK.out, HCT.out, List.map_append]; exact HN3.out⟩, by simp [intOf]; omega⟩
      · have e6 : (c.texts.take k).length = k := by rw [List.length_take, HL3.out]; omega
        have e7 : c.texts.take k = c.texts.take 6 := by
          rcases (by omega : k = 6 ∨ tn ≤ k ∧ k < 6) with h | h
          · rw [h]
          · rw [List.take_of_length_le (by rw [HL3.out]; omega), List.take_of_length_le (by rw [HL3.out]; omega)]
        have HN : Hid (wr.ownsRow (w.heap.size + 1 + 1 + 1) 9 1 tv ((c.texts.take 6).map cutT).length (((c.texts.take 6).map cutT).map Value.string)) := by show World.ownsRow _ _ _ _ _ _ _; rw [← e7, List.length_map, e6]; exact hown
        have HO := Lib.hid ho
        have HI7 := Lib.hid hi6
        have HX := Lib.hid h12
        clear ho hown e6 e7 h12 hi6
        go_wp2_with fail
        all_goals first | (exfalso; exact HX.out (by omega)) | (go_meet; exact ⟨tv, HO.out, HI7.out, HN.out⟩)
  go_wp2_with fail
  go_loopw [4] (fun i wr => ∃ (k : Nat) (iv : Value), i = .int .i64 (k : Int) ∧ k ≤ inn ∧ k ≤ 6 ∧ BoxAt w2 (w.heap.size + 1 + 1) 26 #[.slice none 0 0, iv, .slice none 0 0, .int .i64 c.lets] wr ∧ wr.ownsRow (w.heap.size + 1 + 1 + 1) 3 1 iv k ((c.ints.take k).map (Value.int .i64))) (fun i _ => 6 - (intOf i).toNat)
  case atStart => exact ⟨0, .slice none 0 0, rfl, by omega, by omega, HO0.out, World.ownsRow_nil _ _ _ _⟩
  case round =>
    obtain ⟨k, iv, rfl, hk, hk6, ho, hown⟩ := hrel
    have c1 : wr.cell? ⟨w.heap.size, 1, none⟩ = some (.slice IA inn ic) := (HW0.out.below ho.1 (by omega)).cell 1
    by_cases h12 : k < inn ∧ k < 6
    · obtain ⟨h1, h2⟩ := h12
      obtain ⟨b, off, e1, hbl, d1⟩ := (HI.out.below (ho.1.mono (by omega))).at_ h1
      have HTK := Lib.hid (take_succ_map (f := Value.int .i64) (d := (0 : Int)) (l := c.ints) (k := k) (by rw [HL2.out]; exact h1))
      generalize c.ints.getD k 0 = x at *
      subst e1
      have o1 : wr.cell? ⟨w.heap.size + 1 + 1, 1, none⟩ = some iv := ho.cell 1
      have HO := Lib.hid ho
      have HN := Lib.hid hown
      clear ho hown
      have o1b : (wr.alloc (.cells #[.int .i64 x] 3)).cell? ⟨w.heap.size + 1 + 1, 1, none⟩ = some iv := (HO.out.alloc _).cell 1
      go_wp2_with fail
      go_region_law ((refine step_app ty_ints (by rfl) _ _ (by rfl) (by rfl) (own_drew (HN.out.alloc _)) wr.heap.size 1 [.int .i64 x] (by rfl) (Whole.made wr 3 _) (by rfl) (by simp [Value.oneCell']) (by decide) (by omega) (by decide) (by have := HO.out.2.2; simp; omega) ?_; intro gv cv w' hap; have HA := Lib.hid hap; have HO2 := Lib.hid ((HO.out.alloc _).drew.app hap (own_drew (HN.out.alloc _)) (by decide)); have z1 : w'.cell? ⟨w.heap.size + 1 + 1, 1, none⟩ = some iv := HO2.out.cell 1; have z2 := HO2.out.free 1; clear hap))
      all_goals
        have HO3 := Lib.hid (HO2.out.put 1 (.slice (some ⟨gv, 0, none⟩) (k + 1) cv))
        have HN3 := Lib.hid (HO2.out.own_put (o := 1) (u := .slice (some ⟨gv, 0, none⟩) (k + 1) cv) HA.out.own)
        generalize w'.setCell ⟨w.heap.size + 1 + 1, 1, none⟩ (.slice (some ⟨gv, 0, none⟩) (k + 1) cv) = w5 at *
        go_wp2
        exact ⟨⟨k + 1, _, by go_num, by omega, by omega, HO3.out, by rw [HTK.out]; exact HN3.out⟩, by simp [intOf]; omega⟩
    · have e6 : (c.ints.take k).length = k := by rw [List.length_take, HL2.out]; omega
      have e7 : c.ints.take k = c.ints.take 6 := by
        rcases (by omega : k = 6 ∨ inn ≤ k ∧ k < 6) with h | h
        · rw [h]
        · rw [List.take_of_length_le (by rw [HL2.out]; omega), List.take_of_length_le (by rw [HL2.out]; omega)]
      have HN : Hid (wr.ownsRow (w.heap.size + 1 + 1 + 1) 3 1 iv (c.ints.take 6).length ((c.ints.take 6).map (Value.int .i64))) := by show World.ownsRow _ _ _ _ _ _ _; rw [← e7, e6]; exact hown
      have HO := Lib.hid ho
      have HX := Lib.hid h12
      clear ho hown e6 e7 h12
      go_wp2_with fail
      all_goals first | (exfalso; exact HX.out (by omega)) | (go_meet; exact ⟨iv, HO.out, HN.out⟩)
end Go.Proofs.Ytjkbhdocpjekmaa
