/- The walks of layer 14: where an instruction goes. -/
import Derived.Test.YtjkbhdocpjekmaaVWalkH
import Derived.Test.YtjkbhdocpjekmaaVMemB
import Derived.Test.YtjkbhdocpjekmaaVWalkB
import Derived.Test.YtjkbhdocpjekmaaVWalkC
import Derived.Test.YtjkbhdocpjekmaaVWalkD
import Derived.Test.YtjkbhdocpjekmaaPlainB
import Derived.Test.YtjkbhdocpjekmaaRMemB
import Derived.Deep.CutBlock
import Derived.Deep.DeepCutAuto
namespace Go.Proofs.Ytjkbhdocpjekmaa
open Go.RowKit Go.Maps
set_option linter.unusedVariables false
attribute [local go_sem ↓] Go.wp_at_zero Go.wp_at_succ

/-- What going on from an instruction comes to. -/
def NextPost (w : World) (c : Cod) (n : Nat) (f : Bdy) (k : Int) (s : St) (e : Ending) (w' : World) : Prop :=
  Below w.heap.size w w' ∧ ∃ T ok, e = .returned (.tuple #[T, .bool ok]) ∧ ((ok = true ∧ ∃ l, nextF c n f k s = some l ∧ TgsAt w' w.heap.size T l) ∨ (ok = false ∧ nextF c n f k s = none))
theorem nxt_yes {w w' : World} {c : Cod} {n : Nat} {f : Bdy} {k : Int} {s : St} {T : Value} {l : List (Int × St)} (hb : Below w.heap.size w w') (hn : nextF c n f k s = some l) (ht : TgsAt w' w.heap.size T l) : NextPost w c n f k s (.returned (.tuple #[T, .bool true])) w' := ⟨hb, _, _, rfl, .inl ⟨rfl, l, hn, ht⟩⟩
theorem nxt_no {w w' : World} {c : Cod} {n : Nat} {f : Bdy} {k : Int} {s : St} {T : Value} (hb : Below w.heap.size w w') (hn : nextF c n f k s = none) : NextPost w c n f k s (.returned (.tuple #[T, .bool false])) w' := ⟨hb, _, _, rfl, .inr ⟨rfl, hn⟩⟩
theorem below_al {w w' : World} (o : Obj) (h : Below w.heap.size w w') : Below w.heap.size w (w'.alloc o) := h.alloc h.size o
theorem MksV.alloc {w : World} {v : Value} {ms : List (Int × Int)} (h : MksV w v ms) (o : Obj) : MksV (w.alloc o) v ms := h.keep fun g cs hw => hw.alloc o
theorem MksV.below {w w' : World} {v : Value} {ms : List (Int × Int)} (h : MksV w v ms) (hb : Below w.heap.size w w') : MksV w' v ms := h.keep fun g cs hw => hw.below hb hw.lt
theorem try_end {w w7 W : World} {c : Cod} {n : Nat} {f : Bdy} {k : Int} {s : St} {a1 b1 d e : Int} {v u : Value} {ms ns : List (Int × Int)} (h7 : Below w.heap.size w w7) (hb : Below w7.heap.size w7 W) (hm : MksV W v ns) (hv : MksV w7 u ms) (hn : nextF c n f k s = some [(a1, ⟨d, ns⟩), (b1, ⟨e, ms⟩)]) :
    NextPost w c n f k s (.returned (.tuple #[.slice (some ⟨W.heap.size, 0, none⟩) 2 2, .bool true])) (W.alloc (.cells #[.int .i64 a1, .int .i64 d, v, .int .i64 b1, .int .i64 e, u] 69)) :=
  nxt_yes (h7.trans ((below_al _ hb).mono h7.size)) hn (tgs_two (Nat.le_trans h7.size hb.size) (Whole.made _ _ _) (hm.alloc _) ((hv.below hb).alloc _))
theorem one_end {w w7 W : World} {c : Cod} {n : Nat} {f : Bdy} {k : Int} {s : St} {a1 d : Int} {v : Value} {ns : List (Int × Int)} {g : Nat} (h7 : Below w.heap.size w w7) (hb : Below w7.heap.size w7 W) (hw : Whole W g 69 #[.int .i64 a1, .int .i64 d, v]) (hg : w.heap.size ≤ g) (hm : MksV W v ns) (hn : nextF c n f k s = some [(a1, ⟨d, ns⟩)]) :
    NextPost w c n f k s (.returned (.tuple #[.slice (some ⟨g, 0, none⟩) 1 1, .bool true])) W :=
  nxt_yes (h7.trans (hb.mono h7.size)) hn (tgs_one hg hw hm)
/-- A map of three pairs that the call made. -/
def Acc93 (w0 w : World) (b : Nat) (ps : List (Int × Value)) : Prop := PairsAt w b ps ∧ Below w0.heap.size w0 w ∧ w0.heap.size ≤ b
theorem Acc93.made (w : World) : Acc93 w (w.alloc (.map #[] 0)) w.heap.size [] := ⟨PairsAt.made w, (Below.refl _ _).alloc (Nat.le_refl _) _, Nat.le_refl _⟩
theorem acc93_insert {ops : Array Oper} {rest : List Oper} {o : Oper} {a : Act} {Q : Exit → Act → World → Prop} {w0 w : World} (hgd : o.guard = none) (m x v : Operand) (hop : o.op = .insert 93 m x v) (b : Nat) (ps : List (Int × Value)) (h : Acc93 w0 w b ps) (hn : ps.length ≤ 1000)
    (k : Int) (u : Value) (hm : a.eval m = .map (some b)) (hx : a.eval x = .int .i64 k) (hv : a.eval v = u) (hk : (Lit.int .i64 k).wf = true)
    (hK : ∀ w', Acc93 w0 w' b (ps ++ [(k, u)]) → wpList Try.prog ops Q rest (a.put o.dst undef) w') : wpList Try.prog ops Q (o :: rest) a w := by
  obtain ⟨h1, h3, h4⟩ := h
  refine wpList_plain hgd fun K hK' => ?_
  obtain ⟨w', hrun, r1, r2⟩ := World.ownsMap.update h1 law3 Try.underlying93 (by unfold maxLen; omega) (key := .int .i64 k) (val := u) (keyOf_int_mk Try.underlying3 hk) (d := .held u) (ps := []) rfl
  unfold Oper.wp
  simp [execOp, hop, hm, hx, hv, hrun, Result.andThen]
  refine hK' _ _ (hK w' ⟨?_, h3.grown r2 (Nat.le_trans h4 (Nat.le_of_lt h1.lt)) (fun k hk => by cases hk; exact h4), h4⟩)
  unfold PairsAt
  rw [List.length_append, List.foldl_append]; exact r1
theorem zero3 (w : World) : (zeroValue 3).run Try.prog w = .ok (.int .i64 0) w := by kernel_rfl
theorem atKey_fold2 (k : Int) (z : Value) : ∀ (ps : List (Int × Value)) (D : DataW Value) (v : Value), IsMap D → D.atKey (.int .i64 k) (.held z) = .held v →
    (ps.foldl (fun D p => D.put (.int .i64 p.1) (.held p.2)) D).atKey (.int .i64 k) (.held z) = .held (ps.foldl (fun v p => if p.1 = k then p.2 else v) v)
  | [], D, v, _, h => h
  | p :: ps, D, v, hD, h => by
    rw [List.foldl_cons, List.foldl_cons]
    refine atKey_fold2 k z ps _ _ (isMap_put hD _ _) ?_
    by_cases hp : p.1 = k
    · rw [if_pos hp, hp]; exact atKey_put_same hD (by trivial) _ _
    · rw [if_neg hp, atKey_put_other (by intro hh; cases hh; exact hp rfl)]; exact h
theorem look93 {w : World} {b : Nat} {ps : List (Int × Value)} (h : PairsAt w b ps) (k : Int) (hk : (Lit.int .i64 k).wf = true) : (Instr.lookup 93 (.map (some b)) (.int .i64 k) false).run Try.prog w = .ok (ps.foldl (fun v p => if p.1 = k then p.2 else v) (.int .i64 0)) w := by
  obtain ⟨v, pl, hrun, hv⟩ := World.ownsMap.lookup h law3 Try.underlying93 (zero3 w) (zd := .held (.int .i64 0)) (zp := []) rfl (key := .int .i64 k) (keyOf_int_mk Try.underlying3 hk)
  rw [atKey_fold2 k (.int .i64 0) ps (.map []) (.int .i64 0) ⟨[], rfl⟩ rfl] at hv
  unfold tok at hv
  simp only [Option.some.injEq, Prod.mk.injEq, DataW.held.injEq] at hv
  rw [hrun, hv.1]
theorem list_look93 {ops : Array Oper} {rest : List Oper} {o : Oper} {a : Act} {Q : Exit → Act → World → Prop} {w0 w : World} (hgd : o.guard = none) (m x : Operand) (hop : o.op = .lookup 93 m x false) {b : Nat} {op : Int} (h : Acc93 w0 w b [(22, .int .i64 21), (27, .int .i64 26), (29, .int .i64 28)]) (h9 : op = 22 ∨ op = 27 ∨ op = 29)
    (hm : a.eval m = .map (some b)) (hx : a.eval x = .int .i64 op) (hK : wpList Try.prog ops Q rest (a.put o.dst (.int .i64 (op - 1))) w) : wpList Try.prog ops Q (o :: rest) a w := by
  refine wpList_plain hgd fun K hK' => ?_
  have hrun := look93 h.1 op (wf_i64.2 ⟨by omega, by omega⟩)
  have hv : ([(22, Value.int .i64 21), (27, .int .i64 26), (29, .int .i64 28)] : List (Int × Value)).foldl (fun v p => if p.1 = op then p.2 else v) (.int .i64 0) = .int .i64 (op - 1) := by
    rcases h9 with rfl | rfl | rfl <;> rfl
  rw [hv] at hrun
  unfold Oper.wp
  simp [execOp, hop, hm, hx, hrun, Result.andThen]
  exact hK' _ _ hK
attribute [local go_sem ↓] wp_two_eq
attribute [local go_sem] three_eq cat_eq
set_option maxRecDepth 100000 in
set_option maxHeartbeats 8000000 in
theorem next_any (w : World) (B q : Nat) (c : Cod) (n : Nat) (f : Bdy) (k : Nat) (sd : Int) (sm : List (Int × Int)) (A : Option Addr) (m cap : Nat) (hw : WkAt w B q c n f) (hk : k < f.code.length) (hi : (f.code.getD k ins0).ok = true)
    (hm : Mks 89 w A m sm) (hmc : m ≤ cap) (hc2 : cap ≤ 9223372036854775807) (hA : A = none → cap = 0) (hs : StOK 100000 ⟨sd, sm⟩) (hL : f.code.length ≤ 1000) :
    Calls Try.prog 29 #[.pointer (some ⟨q, 0, none⟩), .int .i64 (k : Int), .agg #[.int .i64 sd, .slice A m cap]] w (NextPost w c n f k ⟨sd, sm⟩) := by
  obtain ⟨FA, fn, fc, IA, inn, ic, TA, tn, tc, CA, cn, cc, hww, h1, h2, h3, h4, h5, h6, h7, h8, h9⟩ := hw.form
  obtain rfl : f.code.length = cn := h4.1
  have hkc := hk
  obtain ⟨gi, oi, rfl, hgi, i0, i1, i2⟩ := h4.at_ hk
  have HII : Hid (nextF c n f k ⟨sd, sm⟩ = nextI c n f (f.code.getD k ins0) k ⟨sd, sm⟩) := by show _ = _; unfold nextF; simp
  generalize f.code.getD k ins0 = i at *
  obtain ⟨op, a, b⟩ := i
  dsimp only at i0 i1 i2
  have hio : 0 ≤ op ∧ op ≤ 33 ∧ 0 ≤ a ∧ a ≤ 65535 ∧ 0 ≤ b ∧ b ≤ 65535 := by
    simp only [Ins.ok, insOK, decide_eq_true_eq] at hi
    have h0 := hi.1
    have : 0 ≤ op ∧ op ≤ 33 := by unfold usesF at h0; repeat' (split at h0) <;> omega
    exact ⟨this.1, this.2, hi.2.1, hi.2.2.1, hi.2.2.2.1, hi.2.2.2.2.1⟩
  obtain ⟨ho0, ho1, ha0, ha1, hb0, hb1⟩ := hio
  obtain ⟨eb1, eb2, eb3, eb4⟩ := eff_bounds c n f ⟨op, a, b⟩ hb0 hb1
  rcases hef : effF c n f ⟨op, a, b⟩ with ⟨ok, t, p⟩
  rw [hef] at eb1 eb2 eb3 eb4
  dsimp only at eb1 eb2 eb3 eb4
  have HEF := Lib.hid hef
  have HBASE := Lib.hid hs.base
  have hsd0 : 0 ≤ sd := hs.1
  have hsd1 : sd ≤ 1000 := hs.2.1
  have hml : m ≤ 100000 := by rw [← hm.1]; exact hs.2.2.1
  have HSL : Hid (sm.length = m) := hm.1
  have HM := Lib.hid hm
  have HA := Lib.hid hA
  have HWK := Lib.hid hw
  have x0 : w.cell? ⟨q, 8, none⟩ = some (.slice (some ⟨gi, oi, none⟩) f.code.length cc) := hww.cell 8
  have hqw := hww.lt
  have hgw : gi < w.heap.size := Nat.lt_of_lt_of_le hgi h9
  clear hw hww h1 h2 h3 h4 hi hm hA hs hef hk
  obtain ⟨w2, hw2⟩ : ∃ w2, w2 = (w.alloc (.cells #[.int .i64 sd, .slice A m cap] 56)).alloc (.cells #[.int .i64 op, .int .i64 a, .int .i64 b] 36) := ⟨_, rfl⟩
  have HW0 : Hid (Whole w2 w.heap.size 56 #[.int .i64 sd, .slice A m cap]) := by show Whole _ _ _ _; rw [hw2]; exact (Whole.made _ _ _).alloc _
  have HW1 : Hid (Whole w2 (w.heap.size + 1) 36 #[.int .i64 op, .int .i64 a, .int .i64 b]) := by
    show Whole _ _ _ _; rw [hw2]
    have := Whole.made (w.alloc (.cells #[.int .i64 sd, .slice A m cap] 56)) 36 #[.int .i64 op, .int .i64 a, .int .i64 b]
    simpa using this
  have HB2 : Hid (Below w.heap.size w w2) := by show Below _ _ _; rw [hw2]; exact ((Below.refl _ _).alloc (Nat.le_refl _) _).alloc (by simp) _
  have HX := Lib.hid hw2
  clear hw2
  have y0 : w2.cell? ⟨w.heap.size + 1, 0, none⟩ = some (.int .i64 op) := HW1.out.cell 0
  have CL : Hid (Calls Try.prog 37 #[] w2.drew fun e w' => ∃ bb v, e = .returned (.map (some bb)) ∧ (Instr.lookup 82 (.map (some bb)) (.int .i64 op) false).run Try.prog w' = .ok v w' ∧ w'.cell? ⟨w.heap.size + 1, 0, none⟩ = some (.int .i64 op) ∧
      RuleDoes w' v (.pointer (some ⟨q, 0, none⟩)) (.agg #[.int .i64 op, .int .i64 a, .int .i64 b]) ok t p ∧ Below w2.heap.size w2 w') :=
    (rules_look w2.drew B q c n f op a b ok t p ((HWK.out.below HB2.out).below (Below.refl _ _).drew) ho0 ho1 ha0 HEF.out).mono fun e w' ⟨bb, v, z1, z2, z3, z4⟩ =>
      ⟨bb, v, z1, z2, (z4.cell (p := ⟨w.heap.size + 1, 0, none⟩) HW1.out.lt).trans y0, z3, (Below.refl _ _).drew.trans z4⟩
  go_enter Try.func29, Try.ntmps29
  go_upto_region 3 with (fail)
  rw [← HX.out]
  go_cut [11] (fun v wx => RuleDoes wx v (.pointer (some ⟨q, 0, none⟩)) (.agg #[.int .i64 op, .int .i64 a, .int .i64 b]) ok t p ∧ Below w2.heap.size w2 wx)
  case first =>
    go_region_held3 (fun W => W.cell? ⟨w.heap.size + 1, 0, none⟩ = some (.int .i64 op))
      (first | go_keep)
      (first
        | ((go_at_call 37; with_reducible refine (CL.out).mono ?_); rintro e wm ⟨bb, v, rfl, hrun, m1, hdo, hbel⟩))
    all_goals
      go_wp2_with fail
      go_meet
      exact ⟨hdo, hbel⟩
  case rest =>
    clear HX
    obtain ⟨hdo, hbel⟩ := hcut
    have HDO := Lib.hid hdo
    have HBEL := Lib.hid hbel
    clear hdo hbel CL
    rename_i K1 g1 K0 g0
    refine g0 _ _ ?_
    clear g0 K0
    have HF : Hid (ok = false → ∀ w', Below w.heap.size w w' → NextPost w c n f k ⟨sd, sm⟩ (.returned (.tuple #[.slice none 0 0, .bool false])) w') := fun h w' hb => by
      refine ⟨hb, _, _, rfl, .inr ⟨rfl, ?_⟩⟩
      rw [HII.out]; unfold nextI; rw [HEF.out, if_pos h]
    have v0 : wc.cell? ⟨w.heap.size + 1, 0, none⟩ = some (.int .i64 op) := (HW1.out.below HBEL.out HW1.out.lt).cell 0
    have v1 : wc.cell? ⟨w.heap.size + 1, 1, none⟩ = some (.int .i64 a) := (HW1.out.below HBEL.out HW1.out.lt).cell 1
    have v2 : wc.cell? ⟨w.heap.size + 1, 2, none⟩ = some (.int .i64 b) := (HW1.out.below HBEL.out HW1.out.lt).cell 2
    go_cut [9, 10] (fun x y wx => ok = true ∧ x = .int .i64 t ∧ y = .int .i64 p ∧ Below w2.heap.size w2 wx)
    case first =>
      have hnil : ∀ w : World, (binOp BinOp.neq 81 .nilFunc .nilFunc).run Try.prog w = .ok (.bool false) w := fun _ => by kernel_rfl
      have hfun : ∀ (fn : Fn) (first cap : Array Value) (w : World), (binOp BinOp.neq 81 (.func fn first cap) .nilFunc).run Try.prog w = .ok (.bool true) w := fun _ _ _ _ => by kernel_rfl
      unfold RuleDoes at HDO
      rcases HDO.out with ⟨rfl, rfl, rfl, rfl⟩ | ⟨x, y, z, rfl, hd⟩ | ⟨x, y, rfl, hd⟩ | ⟨rfl, hd⟩ | ⟨rfl, hd⟩ | ⟨rfl, hd⟩
      · go_wp2_with fail
        go_meet
        exact ⟨by simp, by simp, by simp, HBEL.out⟩
      all_goals
        have HD := Lib.hid hd
        clear hd HDO
        go_wp2_with fail
        refine HD.out.mono ?_
        rintro e w3 ⟨rfl, hb3⟩
        have HB3 := Lib.hid hb3
        clear hb3 HD
        cases ok with
        | true =>
          go_wp2_with fail
          go_meet
          exact ⟨by simp, by simp, by simp, HBEL.out.trans (HB3.out.mono HBEL.out.size)⟩
        | false =>
          go_wp2_with fail
          go_ret2
          exact HF.out (by simp) _ (HB2.out.trans ((HBEL.out.trans (HB3.out.mono HBEL.out.size)).mono HB2.out.size))
    case rest =>
      obtain ⟨rfl, rfl, rfl, hb4⟩ := hcut
      clear HF HDO HBEL v0 v1 v2
      generalize wc = w4 at *
      have HB4 : Hid (Below w.heap.size w w4) := HB2.out.trans (hb4.mono HB2.out.size)
      have HV0 : Hid (Whole w4 w.heap.size 56 #[.int .i64 sd, .slice A m cap]) := HW0.out.below hb4 HW0.out.lt
      have HV1 : Hid (Whole w4 (w.heap.size + 1) 36 #[.int .i64 op, .int .i64 a, .int .i64 b]) := HW1.out.below hb4 HW1.out.lt
      clear hb4 HW0 HW1 HB2 y0 x0 i0 i1 i2
      have z0 : w4.cell? ⟨w.heap.size, 0, none⟩ = some (.int .i64 sd) := HV0.out.cell 0
      have z1 : w4.cell? ⟨w.heap.size, 1, none⟩ = some (.slice A m cap) := HV0.out.cell 1
      have HNI : Hid (nextF c n f k ⟨sd, sm⟩ = if sd - t < (⟨sd, sm⟩ : St).base then none else goF op a b k ⟨sd, sm⟩ ⟨sd - t + p, sm⟩) := by
        show _ = _; rw [HII.out]; unfold nextI; rw [HEF.out]; rfl
      have CB : Hid (Calls Try.prog 38 #[.agg #[.int .i64 sd, .slice A m cap]] w4.drew fun e w' => e = .returned (.int .i64 (⟨sd, sm⟩ : St).base) ∧ Below w4.heap.size w4 w' ∧ w'.cell? ⟨w.heap.size, 0, none⟩ = some (.int .i64 sd) ∧ w'.cell? ⟨w.heap.size, 1, none⟩ = some (.slice A m cap)) :=
        (base_any w4.drew sd A m cap sm ((HM.out.below HB4.out).drew) (by omega)).mono fun e w' ⟨h1, h2⟩ =>
          ⟨h1, (Below.refl _ _).drew.trans h2, (h2.cell (p := ⟨w.heap.size, 0, none⟩) HV0.out.lt).trans z0, (h2.cell (p := ⟨w.heap.size, 1, none⟩) HV0.out.lt).trans z1⟩
      generalize hbs : (⟨sd, sm⟩ : St).base = bs at *
      clear hbs
      have hbs0 : 0 ≤ bs := HBASE.out.1
      have hbs1 : bs ≤ 1000 := HBASE.out.2
      have HT2 : Hid (sd - t = sd - t) := rfl
      rename_i K2 g2
      go_upto_region 9 with (fail)
      go_cut [46] (fun x wx => x = .bool (decide (sd - t < bs)) ∧ Below w4.heap.size w4 wx)
      case first =>
        go_region_held3 (fun W => W.cell? ⟨w.heap.size, 0, none⟩ = some (.int .i64 sd) ∧ W.cell? ⟨w.heap.size, 1, none⟩ = some (.slice A m cap))
          (first | go_keep)
          (first
            | ((go_at_call 38; with_reducible refine (CB.out).mono ?_); rintro e wm ⟨rfl, hbm, m1, m2⟩))
        all_goals
          go_wp2_with fail
          go_meet
          exact ⟨by rw [show IntKind.i64.wrap (sd - t) = sd - t from by simp [IntKind.wrap, IntKind.bits, IntKind.signed]; omega], hbm⟩
      case rest =>
        obtain ⟨rfl, hb5⟩ := hcut
        generalize wc = w5 at *
        have HB5 : Hid (Below w.heap.size w w5) := HB4.out.trans (hb5.mono HB4.out.size)
        have HU0 : Hid (Whole w5 w.heap.size 56 #[.int .i64 sd, .slice A m cap]) := HV0.out.below hb5 HV0.out.lt
        have HU1 : Hid (Whole w5 (w.heap.size + 1) 36 #[.int .i64 op, .int .i64 a, .int .i64 b]) := HV1.out.below hb5 HV1.out.lt
        clear hb5 HV0 HV1 HB4 CB z0 z1 HT2
        by_cases hlow : sd - t < bs
        · have HN : Hid (nextF c n f k ⟨sd, sm⟩ = none) := by show _ = _; rw [HNI.out, if_pos hlow]
          have hd : decide (sd - t < bs) = true := decide_eq_true hlow
          go_wp2_with fail
          go_ret2
          exact nxt_no HB5.out HN.out
        · have HNX : Hid (nextF c n f k ⟨sd, sm⟩ = goF op a b k ⟨sd, sm⟩ ⟨sd + (p - t), sm⟩) := by
            show _ = _; rw [HNI.out, if_neg hlow, show sd - t + p = sd + (p - t) from by omega]
          have hd : decide (sd - t < bs) = false := decide_eq_false hlow
          clear HNI
          have z0 : w5.cell? ⟨w.heap.size, 0, none⟩ = some (.int .i64 sd) := HU0.out.cell 0
          have z1 : w5.cell? ⟨w.heap.size, 1, none⟩ = some (.slice A m cap) := HU0.out.cell 1
          have CM := Lib.hid (moved_any w5 sd (p - t) A m cap (by omega) (by omega) (by omega) (by omega))
          go_upto_region 12 with (go_at_call 39; refine CM.out.mono ?_; rintro e w6 ⟨rfl, hb6⟩; have HB6 := Lib.hid hb6; clear hb6)
          have HT6 : Hid (w.heap.size ≤ w6.heap.size) := Nat.le_trans HB5.out.size HB6.out.size
          clear CM z0 z1
          obtain ⟨w7, hw7⟩ : ∃ w7, w7 = w6.alloc (.cells #[.int .i64 ((k : Int) + 1), .int .i64 (sd + (p - t)), .slice A m cap] 69) := ⟨_, rfl⟩
          have HB7 : Hid (Below w.heap.size w w7) := by show Below _ _ _; rw [hw7]; exact (HB5.out.trans (HB6.out.mono HB5.out.size)).alloc HT6.out _
          have HS0 : Hid (Whole w7 w.heap.size 56 #[.int .i64 sd, .slice A m cap]) := by show Whole _ _ _ _; rw [hw7]; exact (HU0.out.below HB6.out HU0.out.lt).alloc _
          have HS1 : Hid (Whole w7 (w.heap.size + 1) 36 #[.int .i64 op, .int .i64 a, .int .i64 b]) := by show Whole _ _ _ _; rw [hw7]; exact (HU1.out.below HB6.out HU1.out.lt).alloc _
          have HS2 : Hid (Whole w7 w6.heap.size 69 #[.int .i64 ((k : Int) + 1), .int .i64 (sd + (p - t)), .slice A m cap]) := by show Whole _ _ _ _; rw [hw7]; exact Whole.made _ _ _
          have HM7 : Hid (Mks 89 w7 A m sm) := HM.out.below HB7.out
          have HV7 : Hid (MksV w7 (.slice A m cap) sm) := ⟨_, _, _, rfl, HM7.out, hmc, hc2, HA.out⟩
          rw [← hw7]
          clear hw7 HB5 HB6 HU0 HU1 HM
          have q0 : w7.cell? ⟨w.heap.size + 1, 0, none⟩ = some (.int .i64 op) := HS1.out.cell 0
          have q1 : w7.cell? ⟨w.heap.size + 1, 1, none⟩ = some (.int .i64 a) := HS1.out.cell 1
          have q2 : w7.cell? ⟨w.heap.size + 1, 2, none⟩ = some (.int .i64 b) := HS1.out.cell 2
          have r0 : w7.cell? ⟨w.heap.size, 0, none⟩ = some (.int .i64 sd) := HS0.out.cell 0
          have r1 : w7.cell? ⟨w.heap.size, 1, none⟩ = some (.slice A m cap) := HS0.out.cell 1
          have o0 : w7.cell? ⟨w6.heap.size, 0, none⟩ = some (.int .i64 ((k : Int) + 1)) := HS2.out.cell 0
          have o1 : w7.cell? ⟨w6.heap.size, 1, none⟩ = some (.int .i64 (sd + (p - t))) := HS2.out.cell 1
          have o2 : w7.cell? ⟨w6.heap.size, 2, none⟩ = some (.slice A m cap) := HS2.out.cell 2
          go_upto_block 0 with (fail)
          by_cases e1 : op = 14 ∨ op = 15
          · as_aux_lemma =>
            rcases m with _ | m
            · have HE : Hid (sm = []) := List.eq_nil_of_length_eq_zero HSL.out
              have HN := Lib.hid (HNX.out.trans (go_end e1 HE.out))
              rcases e1 with rfl | rfl
              all_goals
                go_wp2_with fail
                go_quiet (fail)
                go_wp2_with fail
                go_ret2
                exact nxt_yes (below_drewN HB7.out _) HN.out tgs_nil
            · have HE : Hid (sm ≠ []) := fun h => by have := HSL.out; rw [h] at this; cases this
              have HN := Lib.hid (HNX.out.trans (go_endno e1 HE.out))
              have hm0 : (((m + 1 : Nat) : Int) == 0) = false := by rw [beq_eq_false_iff_ne]; omega
              rcases e1 with rfl | rfl
              all_goals
                go_wp2_with fail
                go_quiet (fail)
                go_wp2_with fail
                go_ret2
                exact nxt_no (below_drewN HB7.out _) HN.out
          by_cases e2 : op = 23 ∨ op = 30
          · as_aux_lemma =>
            have HN := Lib.hid (HNX.out.trans (go_nowhere e2))
            clear e1
            rcases e2 with rfl | rfl
            all_goals
              go_wp2_with fail
              go_ret2
              exact nxt_yes HB7.out HN.out tgs_nil
          by_cases e3 : op = 16
          · as_aux_lemma =>
            subst e3
            have HN := Lib.hid (HNX.out.trans go_jump)
            clear e1 e2
            go_wp2_with fail
            go_ret2
            exact nxt_yes (HB7.out.alloc HB7.out.size _) HN.out (tgs_one HB7.out.size (Whole.made _ _ _) (HV7.out.alloc _))
          by_cases e4 : op = 17
          · as_aux_lemma =>
            subst e4
            have HN := Lib.hid (HNX.out.trans go_false)
            clear e1 e2 e3
            go_wp2_with ((with_reducible refine at_op (o := ⟨some 82, _, _, _, _, _⟩) ?_); (refine list_two rfl (.tmp 76) (.tmp 81) rfl _ _ _ _ _ _ rfl rfl ?_))
            go_ret2
            exact nxt_yes (HB7.out.alloc HB7.out.size _) HN.out (tgs_two HB7.out.size (Whole.made _ _ _) (HV7.out.alloc _) (HV7.out.alloc _))
          by_cases e5 : op = 18
          · as_aux_lemma =>
            subst e5
            have HN := Lib.hid (HNX.out.trans go_case)
            clear e1 e2 e3 e4
            go_wp2_with ((with_reducible refine at_op (o := ⟨some 91, _, _, _, _, _⟩) ?_); (refine list_two rfl (.tmp 85) (.tmp 90) rfl _ _ _ _ _ _ rfl rfl ?_))
            go_ret2
            exact nxt_yes (HB7.out.alloc HB7.out.size _) HN.out (tgs_two HB7.out.size (Whole.made _ _ _) (HV7.out.alloc _) (HV7.out.alloc _))
          by_cases e6 : op = 21
          · as_aux_lemma =>
            subst e6
            have HN := Lib.hid (HNX.out.trans go_try)
            clear e1 e2 e3 e4 e5
            have HCE : Hid (∀ W, Below w7.heap.size w7 W → W.cell? ⟨w.heap.size, 0, none⟩ = some (.int .i64 sd) ∧ W.cell? ⟨w.heap.size, 1, none⟩ = some (.slice A m cap) ∧ W.cell? ⟨w.heap.size + 1, 0, none⟩ = some (.int .i64 21) ∧ W.cell? ⟨w.heap.size + 1, 1, none⟩ = some (.int .i64 a)) := fun W h =>
              ⟨(h.cell (p := ⟨w.heap.size, 0, none⟩) HS0.out.lt).trans r0, (h.cell (p := ⟨w.heap.size, 1, none⟩) HS0.out.lt).trans r1, (h.cell (p := ⟨w.heap.size + 1, 0, none⟩) HS1.out.lt).trans q0, (h.cell (p := ⟨w.heap.size + 1, 1, none⟩) HS1.out.lt).trans q1⟩
            have CW : Hid (∀ W, Below w7.heap.size w7 W → Calls Try.prog 40 #[.agg #[.int .i64 sd, .slice A m cap], .int .i64 21] W fun e w' => ∃ g cap', e = .returned (.agg #[.int .i64 sd, .slice (some ⟨g, 0, none⟩) (m + 1) cap']) ∧ MksV w' (.slice (some ⟨g, 0, none⟩) (m + 1) cap') (sm ++ [(21, sd)]) ∧ Below w7.heap.size w7 w' ∧ Below W.heap.size W w') := fun W h =>
              (with_any W sd 21 A m cap sm (HM7.out.below h) (by omega) hmc hc2 HA.out).mono fun e w' ⟨g, c', h1, h2, h3, h4, h5⟩ => ⟨g, c', h1, ⟨_, _, _, rfl, h2, h3, h4, fun h => by cases h⟩, h.trans (h5.mono h.size), h5⟩
            have hb0 : Below w7.heap.size w7 w7.drew := (Below.refl _ _).drew
            have hkw : IntKind.i64.wrap ((k : Int) + 1) = (k : Int) + 1 := by simp [IntKind.wrap, IntKind.bits, IntKind.signed]; omega
            have CM : Hid (∀ W, Below w7.heap.size w7 W → Calls Try.prog 39 #[.agg #[.int .i64 sd, .slice A m cap], .int .i64 1] W fun e w' => e = .returned (.agg #[.int .i64 (sd + 1), .slice A m cap]) ∧ Below w7.heap.size w7 w' ∧ Below W.heap.size W w') := fun W h =>
              (moved_any W sd 1 A m cap (by omega) (by omega) (by omega) (by omega)).mono fun e w' ⟨h1, h2⟩ => ⟨h1, h.trans (h2.mono h.size), h2⟩
            go_upto_region 26 with (fail)
            clear o0 o1 o2
            go_region_held3 (fun W => W.cell? ⟨w.heap.size, 0, none⟩ = some (.int .i64 sd) ∧ W.cell? ⟨w.heap.size, 1, none⟩ = some (.slice A m cap) ∧ W.cell? ⟨w.heap.size + 1, 0, none⟩ = some (.int .i64 21) ∧ W.cell? ⟨w.heap.size + 1, 1, none⟩ = some (.int .i64 a))
              (first | exact HCE.out _ (by assumption) | exact HCE.out _ (below_al _ (by assumption)) | go_keep)
              (first
                | ((go_at_call 40; with_reducible refine (CW.out _ (by first | assumption | exact below_al _ (by assumption))).mono ?_); rintro e wm ⟨g, c', rfl, hmk, hbm, hbn⟩)
                | ((go_at_call 39; with_reducible refine (CM.out _ (by first | assumption | exact below_al _ (by assumption))).mono ?_); rintro e wq ⟨rfl, hbq, hbr⟩))
            all_goals
              go_wp2_with fail
              go_ret2
              first
                | exact try_end HB7.out hbq (hmk.below hbr) HV7.out HN.out
                | exact try_end HB7.out hbm hmk HV7.out HN.out
          by_cases e7 : op = 28
          · as_aux_lemma =>
            subst e7
            have HN := Lib.hid (HNX.out.trans go_else)
            clear e1 e2 e3 e4 e5 e6
            have HCE : Hid (∀ W, Below w7.heap.size w7 W → W.cell? ⟨w.heap.size, 0, none⟩ = some (.int .i64 sd) ∧ W.cell? ⟨w.heap.size, 1, none⟩ = some (.slice A m cap) ∧ W.cell? ⟨w.heap.size + 1, 0, none⟩ = some (.int .i64 28) ∧ W.cell? ⟨w.heap.size + 1, 1, none⟩ = some (.int .i64 a)) := fun W h =>
              ⟨(h.cell (p := ⟨w.heap.size, 0, none⟩) HS0.out.lt).trans r0, (h.cell (p := ⟨w.heap.size, 1, none⟩) HS0.out.lt).trans r1, (h.cell (p := ⟨w.heap.size + 1, 0, none⟩) HS1.out.lt).trans q0, (h.cell (p := ⟨w.heap.size + 1, 1, none⟩) HS1.out.lt).trans q1⟩
            have CW : Hid (∀ W, Below w7.heap.size w7 W → Calls Try.prog 40 #[.agg #[.int .i64 sd, .slice A m cap], .int .i64 28] W fun e w' => ∃ g cap', e = .returned (.agg #[.int .i64 sd, .slice (some ⟨g, 0, none⟩) (m + 1) cap']) ∧ MksV w' (.slice (some ⟨g, 0, none⟩) (m + 1) cap') (sm ++ [(28, sd)]) ∧ Below w7.heap.size w7 w' ∧ Below W.heap.size W w') := fun W h =>
              (with_any W sd 28 A m cap sm (HM7.out.below h) (by omega) hmc hc2 HA.out).mono fun e w' ⟨g, c', h1, h2, h3, h4, h5⟩ => ⟨g, c', h1, ⟨_, _, _, rfl, h2, h3, h4, fun h => by cases h⟩, h.trans (h5.mono h.size), h5⟩
            have hb0 : Below w7.heap.size w7 w7.drew := (Below.refl _ _).drew
            have hkw : IntKind.i64.wrap ((k : Int) + 1) = (k : Int) + 1 := by simp [IntKind.wrap, IntKind.bits, IntKind.signed]; omega
            go_upto_region 28 with (fail)
            clear o0 o1 o2
            go_region_held3 (fun W => W.cell? ⟨w.heap.size, 0, none⟩ = some (.int .i64 sd) ∧ W.cell? ⟨w.heap.size, 1, none⟩ = some (.slice A m cap) ∧ W.cell? ⟨w.heap.size + 1, 0, none⟩ = some (.int .i64 28) ∧ W.cell? ⟨w.heap.size + 1, 1, none⟩ = some (.int .i64 a))
              (first | exact HCE.out _ (by assumption) | exact HCE.out _ (below_al _ (by assumption)) | go_keep)
              (first
                | ((go_at_call 40; with_reducible refine (CW.out _ (by first | assumption | exact below_al _ (by assumption))).mono ?_); rintro e wm ⟨g, c', rfl, hmk, hbm, hbn⟩))
            all_goals
              go_wp2_with fail
              go_ret2
              exact try_end HB7.out hbm hmk HV7.out HN.out
          by_cases e8 : op = 26
          · as_aux_lemma =>
            subst e8
            clear e1 e2 e3 e4 e5 e6 e7
            have HCE : Hid (∀ W, Below w7.heap.size w7 W → W.cell? ⟨w.heap.size, 0, none⟩ = some (.int .i64 sd) ∧ W.cell? ⟨w.heap.size, 1, none⟩ = some (.slice A m cap) ∧ W.cell? ⟨w.heap.size + 1, 0, none⟩ = some (.int .i64 26) ∧ W.cell? ⟨w.heap.size + 1, 1, none⟩ = some (.int .i64 a)) := fun W h =>
              ⟨(h.cell (p := ⟨w.heap.size, 0, none⟩) HS0.out.lt).trans r0, (h.cell (p := ⟨w.heap.size, 1, none⟩) HS0.out.lt).trans r1, (h.cell (p := ⟨w.heap.size + 1, 0, none⟩) HS1.out.lt).trans q0, (h.cell (p := ⟨w.heap.size + 1, 1, none⟩) HS1.out.lt).trans q1⟩
            have CW : Hid (∀ W, Below w7.heap.size w7 W → Calls Try.prog 40 #[.agg #[.int .i64 sd, .slice A m cap], .int .i64 26] W fun e w' => ∃ g cap', e = .returned (.agg #[.int .i64 sd, .slice (some ⟨g, 0, none⟩) (m + 1) cap']) ∧ MksV w' (.slice (some ⟨g, 0, none⟩) (m + 1) cap') (sm ++ [(26, sd)]) ∧ Below w7.heap.size w7 w' ∧ Below W.heap.size W w') := fun W h =>
              (with_any W sd 26 A m cap sm (HM7.out.below h) (by omega) hmc hc2 HA.out).mono fun e w' ⟨g, c', h1, h2, h3, h4, h5⟩ => ⟨g, c', h1, ⟨_, _, _, rfl, h2, h3, h4, fun h => by cases h⟩, h.trans (h5.mono h.size), h5⟩
            have hb0 : Below w7.heap.size w7 w7.drew := (Below.refl _ _).drew
            have hkw : IntKind.i64.wrap ((k : Int) + 1) = (k : Int) + 1 := by simp [IntKind.wrap, IntKind.bits, IntKind.signed]; omega
            rcases hany : sm.any (fun x => x.1 == 26) with _ | _
            · have HN := Lib.hid (HNX.out.trans (go_begin hany))
              have CB : Hid (∀ W, Below w7.heap.size w7 W → Calls Try.prog 41 #[.slice A m cap, .func (.func 42) #[] #[]] W fun e w' => e = .returned (.bool false) ∧ Below w7.heap.size w7 w' ∧ Below W.heap.size W w') := fun W h =>
                (begun_any W A m cap sm (HM7.out.below h) (by omega)).mono fun e w' ⟨h1, h2⟩ => ⟨by rw [h1, hany], h.trans (h2.mono h.size), h2⟩
              go_upto_region 30 with (fail)
              clear o0 o1 o2
              go_region_held3 (fun W => W.cell? ⟨w.heap.size, 0, none⟩ = some (.int .i64 sd) ∧ W.cell? ⟨w.heap.size, 1, none⟩ = some (.slice A m cap) ∧ W.cell? ⟨w.heap.size + 1, 0, none⟩ = some (.int .i64 26) ∧ W.cell? ⟨w.heap.size + 1, 1, none⟩ = some (.int .i64 a))
                (first | exact HCE.out _ (by assumption) | exact HCE.out _ (below_al _ (by assumption)) | go_keep)
                (first
                  | ((go_at_call 40; with_reducible refine (CW.out _ (by first | assumption | exact below_al _ (by assumption))).mono ?_); rintro e wm ⟨g, c', rfl, hmk, hbm, hbn⟩)
                  | ((go_at_call 41; with_reducible refine (CB.out _ (by first | assumption | exact below_al _ (by assumption))).mono ?_); rintro e wq ⟨rfl, hbq, hbr⟩))
              all_goals
                go_wp2_with fail
                go_ret2
                first
                  | exact one_end HB7.out hbq ((Whole.made _ _ _).below hbr (by simp)) (Nat.le_trans HB7.out.size hbm.size) ((hmk.alloc _).below hbr) HN.out
                  | exact one_end HB7.out (below_al _ hbq) (Whole.made _ _ _) (Nat.le_trans HB7.out.size hbq.size) ((hmk.below hbr).alloc _) HN.out
                  | exact one_end HB7.out (below_al _ hbm) (Whole.made _ _ _) (Nat.le_trans HB7.out.size hbm.size) (hmk.alloc _) HN.out
            · have HN := Lib.hid (HNX.out.trans (go_beginno hany))
              have CB : Hid (∀ W, Below w7.heap.size w7 W → Calls Try.prog 41 #[.slice A m cap, .func (.func 42) #[] #[]] W fun e w' => e = .returned (.bool true) ∧ Below w7.heap.size w7 w' ∧ Below W.heap.size W w') := fun W h =>
                (begun_any W A m cap sm (HM7.out.below h) (by omega)).mono fun e w' ⟨h1, h2⟩ => ⟨by rw [h1, hany], h.trans (h2.mono h.size), h2⟩
              go_upto_region 30 with (fail)
              clear o0 o1 o2
              go_region_held3 (fun W => W.cell? ⟨w.heap.size, 0, none⟩ = some (.int .i64 sd) ∧ W.cell? ⟨w.heap.size, 1, none⟩ = some (.slice A m cap) ∧ W.cell? ⟨w.heap.size + 1, 0, none⟩ = some (.int .i64 26) ∧ W.cell? ⟨w.heap.size + 1, 1, none⟩ = some (.int .i64 a))
                (first | exact HCE.out _ (by assumption) | exact HCE.out _ (below_al _ (by assumption)) | go_keep)
                (first
                  | ((go_at_call 40; with_reducible refine (CW.out _ (by first | assumption | exact below_al _ (by assumption))).mono ?_); rintro e wm ⟨g, c', rfl, hmk, hbm, hbn⟩)
                  | ((go_at_call 41; with_reducible refine (CB.out _ (by first | assumption | exact below_al _ (by assumption))).mono ?_); rintro e wq ⟨rfl, hbq, hbr⟩))
              all_goals
                go_wp2_with fail
                go_ret2
                first
                  | exact nxt_no (HB7.out.trans (hbq.mono HB7.out.size)) HN.out
                  | exact nxt_no (HB7.out.trans ((below_al _ hbq).mono HB7.out.size)) HN.out
                  | exact nxt_no (HB7.out.trans ((below_al _ hbm).mono HB7.out.size)) HN.out
          by_cases e9 : op = 22 ∨ op = 27 ∨ op = 29
          · as_aux_lemma =>
            have t14 : (op == 14) = false := by rw [beq_eq_false_iff_ne]; omega
            have t15 : (op == 15) = false := by rw [beq_eq_false_iff_ne]; omega
            have t23 : (op == 23) = false := by rw [beq_eq_false_iff_ne]; omega
            have t30 : (op == 30) = false := by rw [beq_eq_false_iff_ne]; omega
            have t16 : (op == 16) = false := by rw [beq_eq_false_iff_ne]; omega
            have t17 : (op == 17) = false := by rw [beq_eq_false_iff_ne]; omega
            have t18 : (op == 18) = false := by rw [beq_eq_false_iff_ne]; omega
            have t21 : (op == 21) = false := by rw [beq_eq_false_iff_ne]; omega
            have t28 : (op == 28) = false := by rw [beq_eq_false_iff_ne]; omega
            have t26 : (op == 26) = false := by rw [beq_eq_false_iff_ne]; omega
            have E9 := Lib.hid e9
            clear e1 e2 e3 e4 e5 e6 e7 e8 e9
            go_upto_region 31 with (fail)
            clear t14 t15 t23 t30 t16 t17 t18 t21 t28 t26 o0 o1 o2
            go_cut [135] (fun x wx => x = .bool (op == 22) ∧ w7 = wx)
            case first =>
              go_wp2_with fail
              go_meet
              exact ⟨rfl, rfl⟩
            case rest =>
              obtain ⟨rfl, rfl⟩ := hcut
              rename_i K0 g0
              refine g0 _ _ ?_
              clear g0 K0
              go_cut [135] (fun x wx => x = .bool true ∧ w7 = wx)
              case first =>
                rcases E9.out with rfl | rfl | rfl
                all_goals
                  go_wp2_with fail
                  go_meet
                  exact ⟨rfl, rfl⟩
              case rest =>
                obtain ⟨rfl, rfl⟩ := hcut
                have HQ : Hid (∀ W, Below w7.heap.size w7 W → W.cell? ⟨w.heap.size + 1, 0, none⟩ = some (.int .i64 op)) := fun W h => (h.cell (p := ⟨w.heap.size + 1, 0, none⟩) HS1.out.lt).trans q0
                have hmm := @run_makeMap Try.prog
                have HA0 := Lib.hid (Acc93.made w7)
                by_cases hgd : ∃ m', m = m' + 1 ∧ (sm.getD m' mk0).1 = op - 1
                · obtain ⟨m', rfl, hkd⟩ := hgd
                  have HN := Lib.hid (HNX.out.trans (go_pop E9.out (getLast_getD HSL.out) hkd))
                  have CG : Hid (∀ W, Below w7.heap.size w7 W → Calls Try.prog 43 #[.agg #[.int .i64 sd, .slice A (m' + 1) cap], .int .i64 (op - 1)] W fun e w' => e = .returned (.tuple #[.agg #[.int .i64 sd, .slice A m' cap], .bool true]) ∧ Below w7.heap.size w7 w') := fun W h =>
                    (without_good W sd (op - 1) A m' cap sm (HM7.out.below h) (by omega) hmc hc2 hkd).mono fun e w' ⟨h1, h2⟩ => ⟨h1, h.trans (h2.mono h.size)⟩
                  have HVD : Hid (MksV w7 (.slice A m' cap) sm.dropLast) := ⟨_, _, _, rfl, HM7.out.dropLast, by omega, hc2, HA.out⟩
                  clear hkd
                  go_wp2_with (first
                    | (refine acc93_insert rfl _ _ _ rfl _ [] HA0.out (by decide) 22 (.int .i64 21) rfl rfl rfl (by decide) ?_; intro w' ha; clear HA0; have HA0 := Lib.hid ha; have z := HQ.out w' ha.2.1; clear ha)
                    | (refine acc93_insert rfl _ _ _ rfl _ [(22, .int .i64 21)] HA0.out (by decide) 27 (.int .i64 26) rfl rfl rfl (by decide) ?_; intro w' ha; clear HA0; have HA0 := Lib.hid ha; have z := HQ.out w' ha.2.1; clear ha)
                    | (refine acc93_insert rfl _ _ _ rfl _ [(22, .int .i64 21), (27, .int .i64 26)] HA0.out (by decide) 29 (.int .i64 28) rfl rfl rfl (by decide) ?_; intro w' ha; clear HA0; have HA0 := Lib.hid ha; have z := HQ.out w' ha.2.1; clear ha)
                    | (refine list_look93 rfl _ _ rfl HA0.out E9.out rfl rfl ?_)
                    | (go_at_call 43; refine (CG.out _ HA0.out.2.1).mono ?_; rintro e w9 ⟨rfl, hb9⟩; have HB9 := Lib.hid hb9; clear hb9))
                  go_ret2
                  exact one_end HB7.out (below_al _ (below_al _ HB9.out)) (whole2 w9 .nilFunc 56 _ _ 69).2 (Nat.le_trans HB7.out.size (Nat.le_succ_of_le HB9.out.size)) ((HVD.out.below (below_al _ HB9.out)).alloc _) HN.out
                · have HN : Hid (nextF c n f k ⟨sd, sm⟩ = none) := HNX.out.trans (go_popno E9.out (fun x hx hk => by
                    rcases m with _ | m'
                    · have : sm = [] := List.eq_nil_of_length_eq_zero HSL.out
                      subst this; simp at hx
                    · have hx2 := getLast_getD HSL.out
                      dsimp only at hx
                      rw [hx2] at hx; cases hx
                      exact hgd ⟨m', rfl, hk⟩))
                  have CG : Hid (∀ W, Below w7.heap.size w7 W → Calls Try.prog 43 #[.agg #[.int .i64 sd, .slice A m cap], .int .i64 (op - 1)] W fun e w' => e = .returned (.tuple #[.agg #[.int .i64 sd, .slice A m cap], .bool false]) ∧ Below w7.heap.size w7 w') := fun W h =>
                    (without_bad W sd (op - 1) A m cap sm (HM7.out.below h) (by omega) (fun m' hm' hk => hgd ⟨m', hm', hk⟩)).mono fun e w' ⟨h1, h2⟩ => ⟨h1, h.trans (h2.mono h.size)⟩
                  clear hgd
                  go_wp2_with (first
                    | (refine acc93_insert rfl _ _ _ rfl _ [] HA0.out (by decide) 22 (.int .i64 21) rfl rfl rfl (by decide) ?_; intro w' ha; clear HA0; have HA0 := Lib.hid ha; have z := HQ.out w' ha.2.1; clear ha)
                    | (refine acc93_insert rfl _ _ _ rfl _ [(22, .int .i64 21)] HA0.out (by decide) 27 (.int .i64 26) rfl rfl rfl (by decide) ?_; intro w' ha; clear HA0; have HA0 := Lib.hid ha; have z := HQ.out w' ha.2.1; clear ha)
                    | (refine acc93_insert rfl _ _ _ rfl _ [(22, .int .i64 21), (27, .int .i64 26)] HA0.out (by decide) 29 (.int .i64 28) rfl rfl rfl (by decide) ?_; intro w' ha; clear HA0; have HA0 := Lib.hid ha; have z := HQ.out w' ha.2.1; clear ha)
                    | (refine list_look93 rfl _ _ rfl HA0.out E9.out rfl rfl ?_)
                    | (go_at_call 43; refine (CG.out _ HA0.out.2.1).mono ?_; rintro e w9 ⟨rfl, hb9⟩; have HB9 := Lib.hid hb9; clear hb9))
                  go_ret2
                  exact nxt_no (HB7.out.trans ((below_al _ (below_al _ HB9.out)).mono HB7.out.size)) HN.out
          have HN := Lib.hid (HNX.out.trans (go_else_ ⟨e1, e2, e3, e4, e5, e6, e7, e8, e9⟩))
          have t14 : (op == 14) = false := by rw [beq_eq_false_iff_ne]; omega
          have t15 : (op == 15) = false := by rw [beq_eq_false_iff_ne]; omega
          have t23 : (op == 23) = false := by rw [beq_eq_false_iff_ne]; omega
          have t30 : (op == 30) = false := by rw [beq_eq_false_iff_ne]; omega
          have t16 : (op == 16) = false := by rw [beq_eq_false_iff_ne]; omega
          have t17 : (op == 17) = false := by rw [beq_eq_false_iff_ne]; omega
          have t18 : (op == 18) = false := by rw [beq_eq_false_iff_ne]; omega
          have t21 : (op == 21) = false := by rw [beq_eq_false_iff_ne]; omega
          have t28 : (op == 28) = false := by rw [beq_eq_false_iff_ne]; omega
          have t26 : (op == 26) = false := by rw [beq_eq_false_iff_ne]; omega
          have t22 : (op == 22) = false := by rw [beq_eq_false_iff_ne]; omega
          have t27 : (op == 27) = false := by rw [beq_eq_false_iff_ne]; omega
          have t29 : (op == 29) = false := by rw [beq_eq_false_iff_ne]; omega
          clear e1 e2 e3 e4 e5 e6 e7 e8 e9
          go_wp2_with fail
          go_ret2
          exact nxt_yes (HB7.out.alloc HB7.out.size _) HN.out (tgs_one HB7.out.size (Whole.made _ _ _) (HV7.out.alloc _))
end Go.Proofs.Ytjkbhdocpjekmaa
