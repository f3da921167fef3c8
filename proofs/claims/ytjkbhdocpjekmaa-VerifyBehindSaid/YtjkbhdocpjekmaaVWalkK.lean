/- The walks of layer 14: Code. -/
import Derived.Test.YtjkbhdocpjekmaaVWalkJ
import Derived.Test.YtjkbhdocpjekmaaPlainC
import Derived.Test.YtjkbhdocpjekmaaRWalkF
import Derived.Test.YtjkbhdocpjekmaaWalkG
import Derived.Test.YtjkbhdocpjekmaaWalkI
namespace Go.Proofs.Ytjkbhdocpjekmaa
open Go.RowKit Go.Maps
set_option linter.unusedVariables false
attribute [local go_sem ↓] Go.wp_at_zero Go.wp_at_succ

/-- A function was gone through: only whether it holds together. -/
def OnlyPost (w : World) (c : Cod) (n : Nat) (f : Bdy) (e : Ending) (w' : World) : Prop := Below w.heap.size w w' ∧ ∃ T ok, e = .returned (.tuple #[T, .bool ok]) ∧ ((ok = true ∧ Good c n f) ∨ (ok = false ∧ ¬ Good c n f))
theorem walk_only {w : World} {c : Cod} {n : Nat} {f : Bdy} {k : FuncId} {args : Array Value} (h : Calls Try.prog k args w (WalkPost w c n f)) : Calls Try.prog k args w (OnlyPost w c n f) :=
  h.mono fun e w' ⟨h1, h2⟩ => by
    rcases h2 with ⟨H, had, rfl, _, hd⟩ | ⟨rfl, hn⟩
    · exact ⟨h1, _, _, rfl, .inl ⟨rfl, hd.good⟩⟩
    · exact ⟨h1, _, _, rfl, .inr ⟨rfl, hn⟩⟩
theorem rwalk_only {w : World} {c : Cod} {n : Nat} {f : Bdy} {k : FuncId} {args : Array Value} (h : Calls Try.prog k args w (RWalkPost w c n f)) : Calls Try.prog k args w (OnlyPost w c n f) :=
  h.mono fun e w' ⟨h1, h2⟩ => by
    rcases h2 with ⟨H, had, rfl, _, hd⟩ | ⟨rfl, hn⟩
    · exact ⟨h1, _, _, rfl, .inl ⟨rfl, hd.good⟩⟩
    · exact ⟨h1, _, _, rfl, .inr ⟨rfl, hn⟩⟩
set_option maxHeartbeats 4000000 in
theorem code_any (w : World) (v : Value) (c : Cod) (hc : CodAt w w.heap.size v c) :
    Calls Try.prog 9 #[v] w fun e w' => ∃ x, e = .returned (.int .i64 x) ∧ CodeIs c x ∧ Below w.heap.size w w' := by
  obtain ⟨FA, fn, fc, IA, inn, ic, TA, tn, tc, rfl, h1, h2, h3, hf1, hi1, ht1⟩ := hc.form
  obtain ⟨w1, hw1⟩ : ∃ w1, w1 = w.alloc (.cells #[.slice FA fn fc, .slice IA inn ic, .slice TA tn tc, .int .i64 c.lets] 26) := ⟨_, rfl⟩
  have HB1 : Hid (Below w.heap.size w w1) := by show Below _ _ _; rw [hw1]; exact (Below.refl _ _).alloc (Nat.le_refl _) _
  have HX1 : Hid (Whole w1 w.heap.size 26 #[.slice FA fn fc, .slice IA inn ic, .slice TA tn tc, .int .i64 c.lets]) := by show Whole _ _ _ _; rw [hw1]; exact Whole.made _ _ _
  have HF : Hid (BdysAt w w.heap.size FA fn c.funs) := h1
  have HL2 : Hid (c.ints.length = inn) := h2.1
  have HL3 : Hid (c.texts.length = tn) := h3.1
  have HL1 : Hid (c.funs.length = fn) := h1.1
  have CM := Lib.hid (may_any w1 _ c ((hc.below HB1.out).more HB1.out.size))
  have HX := Lib.hid hw1
  clear hc h1 h2 h3 hw1
  have c0 : w1.cell? ⟨w.heap.size, 0, none⟩ = some (.slice FA fn fc) := HX1.out.cell 0
  have c1 : w1.cell? ⟨w.heap.size, 1, none⟩ = some (.slice IA inn ic) := HX1.out.cell 1
  have c2 : w1.cell? ⟨w.heap.size, 2, none⟩ = some (.slice TA tn tc) := HX1.out.cell 2
  have c3 : w1.cell? ⟨w.heap.size, 3, none⟩ = some (.int .i64 c.lets) := HX1.out.cell 3
  go_enter Try.func9, Try.ntmps9
  go_upto_region 1 with (fail)
  rw [← HX.out]
  clear HX
  rcases hok : codOK c with _ | _
  · rw [hok] at CM
    go_wp2_with (go_at_call 16; refine CM.out.mono ?_; rintro e w2 ⟨rfl, hb2⟩; have HB2 := Lib.hid hb2; clear hb2)
    go_ret
    exact ⟨1, rfl, .inl ⟨hok, rfl⟩, HB1.out.trans (HB2.out.mono HB1.out.size)⟩
  · rw [hok] at CM
    go_upto_region 3 with (go_at_call 16; refine CM.out.mono ?_; rintro e w2 ⟨rfl, hb2⟩; have HB2 := Lib.hid hb2; clear hb2)
    have HOK := Lib.hid hok
    have HX2 := Lib.hid (HX1.out.below HB2.out HX1.out.lt)
    have HBB2 : Hid (Below w.heap.size w w2) := HB1.out.trans (HB2.out.mono HB1.out.size)
    clear CM c0 c1 c2 c3 HB1 HX1 HB2 hok
    have c0 : w2.cell? ⟨w.heap.size, 0, none⟩ = some (.slice FA fn fc) := HX2.out.cell 0
    go_wp2_with fail
    go_loopw [14] (fun i wr => ∃ k : Nat, i = .int .i64 (k : Int) ∧ k ≤ fn ∧ (∀ n, n < k → Good c n (c.funs.getD n bdy0)) ∧ Whole wr w.heap.size 26 #[.slice FA fn fc, .slice IA inn ic, .slice TA tn tc, .int .i64 c.lets] ∧ Below w.heap.size w wr) (fun i _ => fn - (intOf i).toNat)
    case atStart => exact ⟨0, rfl, by omega, fun n h => absurd h (by omega), HX2.out, HBB2.out⟩
    case round =>
      obtain ⟨k, rfl, hk, hgood, hx, hbw⟩ := hrel
      clear c0 HX2 HBB2
      by_cases hlt : k < fn
      · obtain ⟨g, off, rfl, hg, q0, q1, q2, CA, cn, cc, q3, hI, hcn⟩ := (HF.out.below hbw).at_ hlt
        have hbf := bdy_facts (cod_bdy_ok HOK.out (n := k) (by rw [HL1.out]; exact hlt))
        have HGOOD := Lib.hid hgood
        have HWX := Lib.hid hx
        have HBW := Lib.hid hbw
        have HI := Lib.hid hI
        have HFF : Hid (BdysAt wr w.heap.size (some ⟨g, off, none⟩) fn c.funs) := HF.out.below hbw
        generalize hfe : c.funs.getD k bdy0 = f at *
        have HFE := Lib.hid hfe
        have HBF := Lib.hid hbf
        clear hgood hx hbw hI hfe hbf
        go_upto_region 6 with (fail)
        obtain ⟨w3, hw3⟩ : ∃ w3, w3 = wr.alloc (.cells #[.int .i64 f.kept, .int .i64 f.locals, .int .i64 f.stack, .slice CA cn cc] 40) := ⟨_, rfl⟩
        have HX3 : Hid (Whole w3 w.heap.size 26 #[.slice (some ⟨g, off, none⟩) fn fc, .slice IA inn ic, .slice TA tn tc, .int .i64 c.lets]) := by show Whole _ _ _ _; rw [hw3]; exact HWX.out.alloc _
        have HY3 : Hid (Whole w3 wr.heap.size 40 #[.int .i64 f.kept, .int .i64 f.locals, .int .i64 f.stack, .slice CA cn cc]) := by show Whole _ _ _ _; rw [hw3]; exact Whole.made _ _ _
        have HB3 : Hid (Below w.heap.size wr w3) := by show Below _ _ _; rw [hw3]; exact (Below.refl _ _).alloc HBW.out.size _
        have HZ3 : Hid (w3.heap.size = wr.heap.size + 1) := by show _ = _; rw [hw3]; simp
        rw [← hw3]
        clear hw3 q0 q1 q2 q3
        have c0 : w3.cell? ⟨w.heap.size, 0, none⟩ = some (.slice (some ⟨g, off, none⟩) fn fc) := HX3.out.cell 0
        have c1 : w3.cell? ⟨w.heap.size, 1, none⟩ = some (.slice IA inn ic) := HX3.out.cell 1
        have c2 : w3.cell? ⟨w.heap.size, 2, none⟩ = some (.slice TA tn tc) := HX3.out.cell 2
        have c3 : w3.cell? ⟨w.heap.size, 3, none⟩ = some (.int .i64 c.lets) := HX3.out.cell 3
        have q0 : w3.cell? ⟨wr.heap.size, 0, none⟩ = some (.int .i64 f.kept) := HY3.out.cell 0
        have q1 : w3.cell? ⟨wr.heap.size, 1, none⟩ = some (.int .i64 f.locals) := HY3.out.cell 1
        have q2 : w3.cell? ⟨wr.heap.size, 2, none⟩ = some (.int .i64 f.stack) := HY3.out.cell 2
        have q3 : w3.cell? ⟨wr.heap.size, 3, none⟩ = some (.slice CA cn cc) := HY3.out.cell 3
        go_upto_region 7 with (fail)
        obtain ⟨w4, hw4⟩ : ∃ w4, w4 = w3.alloc (.cells #[.slice (some ⟨g, off, none⟩) fn fc, .slice IA inn ic, .slice TA tn tc, .int .i64 c.lets, .int .i64 (k : Int), .int .i64 f.kept, .int .i64 f.locals, .int .i64 f.stack, .slice CA cn cc] 45) := ⟨_, rfl⟩
        have HX4 : Hid (Whole w4 w.heap.size 26 #[.slice (some ⟨g, off, none⟩) fn fc, .slice IA inn ic, .slice TA tn tc, .int .i64 c.lets]) := by show Whole _ _ _ _; rw [hw4]; exact HX3.out.alloc _
        have HB4 : Hid (Below w.heap.size wr w4) := by show Below _ _ _; rw [hw4]; exact HB3.out.alloc (Nat.le_trans HBW.out.size HB3.out.size) _
        have HS4 : Hid (w.heap.size ≤ w4.heap.size) := Nat.le_trans HBW.out.size HB4.out.size
        have HK4 : Hid (WkAt w4 w.heap.size w3.heap.size c k f) := ⟨_, _, _, _, _, _, _, _, _, _, _, _, by rw [hw4]; exact Whole.made _ _ _, HFF.out.below HB4.out, HL2.out, HL3.out, HI.out.below HB4.out, hf1, hi1, ht1, hcn, HS4.out⟩
        have CW := Lib.hid (walk_only (walk_any w4 w.heap.size w3.heap.size c k f HK4.out HBF.out.2.2.2.2.2.2.2.1 HBF.out.2.2.2.2.2.2.1 HBF.out.2.2.2.2.2.2.2.2 HBF.out.2.2.2.2.2.1))
        rw [← hw4]
        clear hw4 c0 c1 c2 c3 q0 q1 q2 q3 HK4
        go_upto_region 8 with (go_at_call 17; refine CW.out.mono ?_; rintro e w5 ⟨hb5, T, ok, rfl, hres⟩; have HB5 := Lib.hid hb5; have HRES := Lib.hid hres; clear hb5 hres)
        have HX5 := Lib.hid (HX4.out.below HB5.out HX4.out.lt)
        have HBW5 : Hid (Below w.heap.size w w5) := HBW.out.trans (HB4.out.trans (HB5.out.mono HS4.out))
        rcases HRES.out with ⟨rfl, hdn⟩ | ⟨rfl, hng⟩
        · have HG2 : Hid (∀ n, n < k + 1 → Good c n (c.funs.getD n bdy0)) := fun n hn => by
            rcases Nat.lt_or_ge n k with h | h
            · exact HGOOD.out n h
            · rw [show n = k from by omega, HFE.out]; exact hdn
          clear CW hdn HRES
          go_wp2_with fail
          go_roundw
          case rel => exact ⟨k + 1, by go_num, by omega, HG2.out, HX5.out, HBW5.out⟩
          case measure => simp [intOf]; omega
        · have HNG : Hid (CodeIs c 30) := .inr (.inr ⟨HOK.out, ⟨k, by rw [HL1.out]; exact hlt, by rw [HFE.out]; exact hng⟩, rfl⟩)
          clear CW hng HRES
          go_wp2_with fail
          go_ret
          exact ⟨30, rfl, HNG.out, HBW5.out⟩
      · obtain rfl : k = fn := by omega
        have HGD : Hid (CodeIs c 0) := .inr (.inl ⟨HOK.out, fun n hn => hgood n (by rw [HL1.out] at hn; exact hn), rfl⟩)
        have HBW := Lib.hid hbw
        clear hgood hx hbw
        go_wp2_with fail
        go_ret
        exact ⟨0, rfl, HGD.out, HBW.out⟩
set_option maxHeartbeats 4000000 in
theorem rcode_any (w : World) (v : Value) (c : Cod) (hc : CodAt w w.heap.size v c) :
    Calls Try.prog 10 #[v] w fun e w' => ∃ x, e = .returned (.int .i64 x) ∧ CodeIs c x ∧ Below w.heap.size w w' := by
  obtain ⟨FA, fn, fc, IA, inn, ic, TA, tn, tc, rfl, h1, h2, h3, hf1, hi1, ht1⟩ := hc.form
  obtain ⟨w1, hw1⟩ : ∃ w1, w1 = w.alloc (.cells #[.slice FA fn fc, .slice IA inn ic, .slice TA tn tc, .int .i64 c.lets] 26) := ⟨_, rfl⟩
  have HB1 : Hid (Below w.heap.size w w1) := by show Below _ _ _; rw [hw1]; exact (Below.refl _ _).alloc (Nat.le_refl _) _
  have HX1 : Hid (Whole w1 w.heap.size 26 #[.slice FA fn fc, .slice IA inn ic, .slice TA tn tc, .int .i64 c.lets]) := by show Whole _ _ _ _; rw [hw1]; exact Whole.made _ _ _
  have HC : Hid (CodAt w w.heap.size (.agg #[.slice FA fn fc, .slice IA inn ic, .slice TA tn tc, .int .i64 c.lets]) c) := hc
  have HL1 : Hid (c.funs.length = fn) := h1.1
  have CM := Lib.hid (rmay_any w1 _ c ((hc.below HB1.out).more HB1.out.size))
  have HX := Lib.hid hw1
  clear hc h1 h2 h3 hw1
  have c0 : w1.cell? ⟨w.heap.size, 0, none⟩ = some (.slice FA fn fc) := HX1.out.cell 0
  have c1 : w1.cell? ⟨w.heap.size, 1, none⟩ = some (.slice IA inn ic) := HX1.out.cell 1
  have c2 : w1.cell? ⟨w.heap.size, 2, none⟩ = some (.slice TA tn tc) := HX1.out.cell 2
  have c3 : w1.cell? ⟨w.heap.size, 3, none⟩ = some (.int .i64 c.lets) := HX1.out.cell 3
  go_enter Try.func10, Try.ntmps10
  go_upto_region 1 with (fail)
  rw [← HX.out]
  clear HX
  rcases hok : codOK c with _ | _
  · rw [hok] at CM
    go_wp2_with (go_at_call 18; refine CM.out.mono ?_; rintro e w2 ⟨rfl, hb2⟩; have HB2 := Lib.hid hb2; clear hb2)
    go_ret
    exact ⟨1, rfl, .inl ⟨hok, rfl⟩, HB1.out.trans (HB2.out.mono HB1.out.size)⟩
  · rw [hok] at CM
    go_upto_region 4 with (go_at_call 18; refine CM.out.mono ?_; rintro e w2 ⟨rfl, hb2⟩; have HB2 := Lib.hid hb2; clear hb2)
    have HOK := Lib.hid hok
    have HX2 := Lib.hid (HX1.out.below HB2.out HX1.out.lt)
    have HBB2 : Hid (Below w.heap.size w w2) := HB1.out.trans (HB2.out.mono HB1.out.size)
    clear CM c0 c1 c2 c3 HB1 HX1 HB2 hok
    go_wp2_with fail
    go_loopw [4] (fun i wr => ∃ k : Nat, i = .int .i64 (k : Int) ∧ k ≤ fn ∧ (∀ n, n < k → Good c n (c.funs.getD n bdy0)) ∧ Whole wr w.heap.size 26 #[.slice FA fn fc, .slice IA inn ic, .slice TA tn tc, .int .i64 c.lets] ∧ Below w.heap.size w wr) (fun i _ => fn - (intOf i).toNat)
    case atStart => exact ⟨0, rfl, by omega, fun n h => absurd h (by omega), HX2.out, HBB2.out⟩
    case round =>
      obtain ⟨k, rfl, hk, hgood, hx, hbw⟩ := hrel
      have HGOOD := Lib.hid hgood
      have HWX := Lib.hid hx
      have HBW := Lib.hid hbw
      clear hgood hx hbw HX2 HBB2
      have c0 : wr.cell? ⟨w.heap.size, 0, none⟩ = some (.slice FA fn fc) := HWX.out.cell 0
      have c1 : wr.cell? ⟨w.heap.size, 1, none⟩ = some (.slice IA inn ic) := HWX.out.cell 1
      have c2 : wr.cell? ⟨w.heap.size, 2, none⟩ = some (.slice TA tn tc) := HWX.out.cell 2
      have c3 : wr.cell? ⟨w.heap.size, 3, none⟩ = some (.int .i64 c.lets) := HWX.out.cell 3
      by_cases hlt : k < fn
      · have CW := Lib.hid (rwalk_only (rwalk_any wr _ c k ((HC.out.below HBW.out).more HBW.out.size) (by rw [HL1.out]; exact hlt) HOK.out))
        go_upto_region 8 with (go_at_call 19; refine CW.out.mono ?_; rintro e w5 ⟨hb5, T, ok, rfl, hres⟩; have HB5 := Lib.hid hb5; have HRES := Lib.hid hres; clear hb5 hres)
        have HX5 := Lib.hid (HWX.out.below HB5.out HWX.out.lt)
        have HBW5 : Hid (Below w.heap.size w w5) := HBW.out.trans (HB5.out.mono HBW.out.size)
        clear c0 c1 c2 c3
        rcases HRES.out with ⟨rfl, hdn⟩ | ⟨rfl, hng⟩
        · have HG2 : Hid (∀ n, n < k + 1 → Good c n (c.funs.getD n bdy0)) := fun n hn => by
            rcases Nat.lt_or_ge n k with h | h
            · exact HGOOD.out n h
            · rw [show n = k from by omega]; exact hdn
          clear CW hdn HRES
          go_wp2_with fail
          go_roundw
          case rel => exact ⟨k + 1, by go_num, by omega, HG2.out, HX5.out, HBW5.out⟩
          case measure => simp [intOf]; omega
        · have HNG : Hid (CodeIs c 30) := .inr (.inr ⟨HOK.out, ⟨k, by rw [HL1.out]; exact hlt, hng⟩, rfl⟩)
          clear CW hng HRES
          go_wp2_with fail
          go_ret
          exact ⟨30, rfl, HNG.out, HBW5.out⟩
      · obtain rfl : k = fn := by omega
        have HGD : Hid (CodeIs c 0) := .inr (.inl ⟨HOK.out, fun n hn => HGOOD.out n (by rw [HL1.out] at hn; exact hn), rfl⟩)
        go_wp2_with fail
        go_ret
        exact ⟨0, rfl, HGD.out, HBW.out⟩
end Go.Proofs.Ytjkbhdocpjekmaa
