/- A part of the proofs of chapter 11, squeezed, merged and shrunk by group.py: FWalkG FWalkH. -/
import Derived.KernelRfl
import Derived.Test.YtgjchgmlogbmmaaRD
import Derived.Deep.RegionLawGrows
import Derived.Test.YtgjchgmlogbmmaaR1
/- The walks of layer 11: the names free. -/
namespace Go.Proofs.Ytgjchgmlogbmmaa
open Go.RowKit
set_option linter.unusedVariables false
set_option linter.unusedSimpArgs false
attribute [local go_sem ↓] Go.wp_at_zero Go.wp_at_succ

theorem binds_zero (kd : Int) (tx : List UInt8) (p q : Nd) : bindsF kd tx p 0 = bindsF kd tx q 0 := by
 unfold bindsF
 simp
theorem freeL_take (kd : Int) (tx : List UInt8) (b : List (List UInt8)) : ∀ (xs : List Nd) (p : Nd) (i : Nat) (l : List (List UInt8)) (k : Nat), k < xs.length →
  freeL (xs.take (k + 1)) kd tx p i b l = (if bindsB kd (i + k) = true then freeF (xs.getD k nd0) (b ++ bindsF kd tx (if k = 0 then p else xs.getD (k - 1) nd0) (i + k)) (freeL (xs.take k) kd tx p i b l) else freeL (xs.take k) kd tx p i b l)
 | [], p, i, l, k, h => absurd h (by simp)
 | x :: xs, p, i, l, 0, h => by simp [freeL]
 | x :: xs, p, i, l, k + 1, h => by
  rw [List.take_succ_cons, List.take_succ_cons, freeL, freeL, freeL_take kd tx b xs x (i + 1) _ k (by simpa using h), show i + 1 + k = i + (k + 1) by omega]
  have e : (if k = 0 then x else xs.getD (k - 1) nd0) = (if k + 1 = 0 then p else (x :: xs).getD (k + 1 - 1) nd0) := by
   cases k with
   | zero => simp
   | succ k => simp
  rw [e]; rfl
theorem freeL_step (kd : Int) (tx : List UInt8) (b : List (List UInt8)) (xs : List Nd) (l : List (List UInt8)) (k : Nat) (h : k < xs.length) :
  freeL (xs.take (k + 1)) kd tx nd0 0 b l = (if bindsB kd k = true then freeF (xs.getD k nd0) (b ++ bindsF kd tx (xs.getD (k - 1) nd0) k) (freeL (xs.take k) kd tx nd0 0 b l) else freeL (xs.take k) kd tx nd0 0 b l) := by
 rw [freeL_take kd tx b xs nd0 0 l k h, Nat.zero_add]
 cases k with
 | zero => rw [if_pos rfl, binds_zero kd tx nd0 (xs.getD (0 - 1) nd0)]
 | succ k => rw [if_neg (Nat.succ_ne_zero k)]
theorem binds_lt (xs : List Nd) (kd : Int) (tx : List UInt8) (k : Nat) (h : k < xs.length) : (bindsF kd tx (xs.getD (k - 1) nd0) k).length + wtN (xs.getD k nd0) ≤ kwN kd + wtL xs := by
 cases k with
 | zero =>
  rw [binds_zero kd tx _ nd0]
  have h1 := binds_len kd tx nd0 0
  have h2 := wtL_take xs 0 h
  rw [show wtN nd0 = 0 from rfl] at h1; omega
 | succ k =>
  have h1 := binds_len kd tx (xs.getD k nd0) (k + 1)
  have h2 := wtL_take xs (k + 1) h
  have h3 := wtL_take xs k (by omega)
  have h4 : wtL (xs.take k) + wtN (xs.getD k nd0) ≤ wtL (xs.take (k + 1)) := by
   have := wtL_app (xs.take k) [xs.getD k nd0]
   have e : xs.take (k + 1) = xs.take k ++ [xs.getD k nd0] := by
    rw [List.take_add_one, List.getD_eq_getElem?_getD, List.getElem?_eq_getElem (by omega)]; rfl
   rw [e, this]; simp [wtL]
  simp only [Nat.add_sub_cancel]
  omega
/-- The bound names, handed in. -/
structure BndT (w : World) (g0 : Option Nat) (bs : List (List UInt8)) (A : Option Addr) (c : Nat) : Prop where
 str : StrIn w (fun a => g0 ≠ some a) bs A
 le : bs.length ≤ c
 nil : bs = [] → A = none ∧ c = 0
theorem BndT.below {w w' : World} {g0 : Option Nat} {bs : List (List UInt8)} {A : Option Addr} {c B : Nat} (h : BndT w g0 bs A c) (hb : Below B w w') (hB : w.heap.size ≤ B) : BndT w' g0 bs A c := ⟨h.str.below hb hB, h.le, h.nil⟩
/-- Texts appended behind a slice that is full. -/
theorem step_bnd {ops : Array Oper} {o : Oper} {a : Act} {w : World} {K : Act → World → Prop} {Q : Exit → Act → World → Prop} {E : Prop} (hg : o.guard = none) (s x : Operand)
  (hop : o.op = Op.call { callee := Callee.builtin Builtin.append, args := #[s, x], argTypes := #[22, 22] }) {g0 : Option Nat} {bs own : List (List UInt8)} {Ab A9 : Option Addr} {cb k9 base : Nat}
  (hs : a.eval s = .slice Ab bs.length bs.length) (hx : a.eval x = .slice A9 own.length k9) (hb : BndT w g0 bs Ab cb) (ho : OwnT w base own (.slice A9 own.length k9)) (h1 : bs.length ≤ 100000) (h2 : own.length ≤ 100000) (hg0 : ∀ g, g0 = some g → g < w.heap.size) {bo : List (List UInt8)} (hbo : bs ++ own = bo)
  (hK : ∀ A' c' w', BndT w' g0 bo A' c' → Below w.heap.size w w' → K (a.put o.dst (.slice A' bo.length c')) w') :
  if Region.wanted o (yielded ops a.tmps) = true then Oper.wp Try.prog o a w K Q else E := by
 subst hbo
 obtain ⟨i, z, hi, hz, hsz, hby, hzs⟩ := ty_str.info
 by_cases h0 : own = []
 ·subst h0
  have e := ho.nil rfl
  simp only [Value.slice.injEq] at e
  obtain ⟨rfl, _, rfl⟩ := e
  have hw : Region.wanted o (yielded ops a.tmps) = true := by simp [Region.wanted, hg]
  rw [if_pos hw]
  have hrun : (Builtin.append_ #[22, 22] o.type #[.slice Ab bs.length bs.length, .slice none 0 0]).run Try.prog w = .ok (.slice Ab bs.length bs.length) w := by
   rcases Ab with _ | ⟨g, off, p⟩
   ·have hb0 : bs = [] := by
     by_cases hb0 : bs = []
     ·exact hb0
     ·obtain ⟨g, e, _⟩ := hb.str hb0; cases e
    subst hb0
    simp [Builtin.append_, run_underlying ty_str.under, sizeOf, typeInfo, hi, Builtin.lenOf, Builtin.firstCells]
   ·simp [Builtin.append_, run_underlying ty_str.under, sizeOf, typeInfo, hi, Builtin.lenOf, Builtin.firstCells, storeCells]
  unfold Oper.wp
  simp [execOp, hop, resolve, invoke, builtin, hs, hx, hrun, Result.andThen]
  have := hK Ab bs.length w ⟨by rw [List.append_nil]; exact hb.str, by simp, fun e => ⟨(hb.nil (by simpa using e)).1, by simpa using e⟩⟩ (Below.refl _ _)
  rw [show (bs ++ ([] : List (List UInt8))).length = bs.length by simp] at this
  exact this
 ·obtain ⟨g9, c9, e9, hbg, hl9, _⟩ := own_cell ho.row (k := 0) (by have := List.length_pos_iff.2 h0; omega)
  simp only [Value.slice.injEq] at e9
  obtain ⟨rfl, _, _⟩ := e9
  refine step_append_grows hg s x 22 hop 9 i z 1 16 ty_str.under hi hz hsz hby hzs (by decide) Ab bs.length bs.length (bs.map strV) hs (fun e => ?_) (by simp) (fun q e j u hj => ?_) ⟨g9, 0, none⟩ own.length k9 (own.map strV) hx (by simp) (fun j u hj => ?_) (fun u hu => ?_) (by have := List.length_pos_iff.2 h0; omega) (by unfold maxLen; omega) (by omega) (fun v' w' hown hgrow => ?_)
  ·have hb0 : bs = [] := by
    by_cases hb0 : bs = []
    ·exact hb0
    ·obtain ⟨g, e', _⟩ := hb.str hb0; rw [e] at e'; cases e'
   rw [hb0]; exact ⟨rfl, rfl⟩
  ·have hj2 := (List.getElem?_eq_some_iff.1 hj).1
   rw [List.length_map] at hj2
   obtain ⟨g, e1, _, _, e4⟩ := hb.str (fun e => by rw [e] at hj2; simp at hj2)
   rw [e] at e1
   have : q = ⟨g, 0, none⟩ := by simpa using e1
   subst this
   have ea : (⟨g, 0, none⟩ : Addr).add j = ⟨g, j, none⟩ := by unfold Addr.add; split <;> simp_all
   rw [ea, e4 j hj2, ← hj, List.getElem?_map, List.getElem?_eq_getElem hj2]; rfl
  ·have hj2 := (List.getElem?_eq_some_iff.1 hj).1
   rw [List.length_map] at hj2
   obtain ⟨g', c', e', _, _, hcell, _⟩ := own_cell ho.row (k := j) (by omega)
   simp only [Value.slice.injEq] at e'
   have eg : g9 = g' := by have := e'.1; simpa using this
   subst eg
   have ea : (⟨g9, 0, none⟩ : Addr).add j = ⟨g9, j, none⟩ := by unfold Addr.add; split <;> simp_all
   rw [ea, hcell, hj]
  ·obtain ⟨t, _, rfl⟩ := List.mem_map.1 hu
   simp [strV, Value.oneCell']
  ·have hlen : bs.length + own.length = (bs ++ own).length := by simp
   rw [hlen, ← List.map_append] at hown
   have hne : bs ++ own ≠ [] := by simp [h0]
   obtain ⟨gn, cn, en, hbn, hln, _⟩ := own_cell hown (k := 0) (by have := List.length_pos_iff.2 hne; omega)
   subst en
   have hle : (bs ++ own).length ≤ cn := by
    rcases hown.2 with ⟨e, _⟩ | ⟨g, cap, cur, e, _, _, hc, _⟩
    ·cases e
    ·simp only [Value.slice.injEq] at e
     obtain ⟨_, _, rfl⟩ := e
     exact hc
   refine hK (some ⟨gn, 0, none⟩) cn w' ⟨(own_str hown).mono fun a ha hl e => ?_, hle, fun e => absurd e hne⟩ ⟨hgrow.os, hgrow.tape, hgrow.output, hgrow.size, fun k hk => hgrow.block k hk (by simp)⟩
   have := hg0 a e; omega
theorem BndT.frame {w w' : World} {base : Nat} {v v' : Value} {L bs : List (List UInt8)} {A : Option Addr} {c : Nat} (h : BndT w v.ownBlock bs A c) (k : Grew w base v L v' w') : BndT w' v'.ownBlock bs A c := by
 refine ⟨fun hl => ?_, h.le, h.nil⟩
 obtain ⟨g, e1, e2, e3, e4⟩ := (k.str h.str fun a ha => ha) hl
 refine ⟨g, e1, fun e => ?_, e3, e4⟩
 obtain ⟨g', e1', _, e3', _⟩ := h.str hl
 have eg : g = g' := by have := e1.symm.trans e1'; simpa using this
 subst eg
 rcases k.blk g e with h1 | h1
 ·exact e2 h1
 ·omega
def FreeC (y : Nd) : Prop := ∀ (w : World) (base : Nat) (b : Nat → Prop) (f : Fr) (bs : List (List UInt8)) (Ab : Option Addr) (cb : Nat) (L : List (List UInt8)) (A : Option Addr) (c : Nat), bs.length + wtN y ≤ 100000 → L.length + wtN y ≤ 100000 → BndT w (Value.slice A L.length c).ownBlock bs Ab cb → OwnT w base L (.slice A L.length c) → base ≤ w.heap.size → (∀ a, b a → a < base) → NodeIn w b y f →
 Calls Try.prog 27 #[ndV y f, .slice Ab bs.length cb, .slice A L.length c] w (Grown w base (.slice A L.length c) (freeF y bs L))
set_option maxRecDepth 100000 in
set_option maxHeartbeats 16000000 in
theorem free_any (x : Nd) : WfN x → FreeC x := by
 induction x using Nd.ind with
 | h x ih =>
  intro hw w base b f bs Ab cb L A c hwb hwt hbn hown hbase hb hn
  have HA : Hid (Ag w (w.alloc (.cells #[.int .i64 x.kd, .string ⟨x.tx.toArray⟩, .int .i64 x.nm, .int .i64 (x.at_ : Int), .slice f.na x.ns.length f.nc, .slice f.ka x.ks.length f.kc] 25)) b w.heap.size x f) := Ag.start hn
  have HL : Hid (x.ks.length ≤ 100000) := hw.len
  have HW := Lib.hid hw
  have HWT : Hid (L.length + wtN x ≤ 100000) := hwt
  have HWB : Hid (bs.length + wtN x ≤ 100000) := hwb
  have HWE := Lib.hid (wtN_eq x)
  have IH := Lib.hid (fun y hy => ih y hy (hw.ks y hy))
  have HE := Lib.hid (freeF_eq x bs L)
  have HB := Lib.hid hb
  have HOW := Lib.hid (hown.below HA.out.bel (Nat.le_refl _))
  have HOW0 := Lib.hid hown
  have HBN := Lib.hid (hbn.below HA.out.bel (Nat.le_refl _))
  have HBS := Lib.hid hbase
  clear hn hw ih hb hown hbase hwt hwb hbn
  unfold ndV
  go_enter Try.func27, Try.ntmps27
  go_upto_region 1 with (fail)
  generalize w.alloc (.cells #[.int .i64 x.kd, .string ⟨x.tx.toArray⟩, .int .i64 x.nm, .int .i64 (x.at_ : Int), .slice f.na x.ns.length f.nc, .slice f.ka x.ks.length f.kc] 25) = w1 at *
  obtain ⟨G, hG⟩ : ∃ G, w.heap.size = G := ⟨_, rfl⟩
  have HG := Lib.hid hG
  rw [hG] at HA
  simp only [hG]
  clear hG
  have c0 := HA.out.c0
  have c1 := HA.out.c1
  have HNE : Hid ((Value.slice A L.length c).ownBlock ≠ some G) := HOW0.out.ne (.inr (Nat.le_of_eq HG.out))
  clear HOW0
  obtain ⟨L1, hL1⟩ : ∃ L1, (if x.kd == 4 && !bs.contains x.tx && !L.contains x.tx then L ++ [x.tx] else L) = L1 := ⟨_, rfl⟩
  have HL1 := Lib.hid hL1
  have HM : Hid (freeF x bs L = freeL x.ks x.kd x.tx nd0 0 bs L1) := by show _ = _; rw [← hL1]; exact HE.out
  clear hL1 HE
  have i9 : L.length ≤ 100000 := by have := HWT.out; omega
  have i8 : bs.length ≤ 100000 := by have := HWB.out; omega
  have CH := Lib.hid (fun wx (h : Below w1.heap.size w1 wx) => contains_any L i9 x.tx wx _ A c (own_str (HOW.out.below h (Nat.le_refl _)).row))
  have CB := Lib.hid (contains_any bs i8 x.tx w1 _ Ab cb HBN.out.str)
  clear i8
  obtain ⟨tb, hTB⟩ : ∃ tb, (x.kd == 4 && !hasB bs x.tx && !hasB L x.tx) = tb := ⟨_, rfl⟩
  have HTB := Lib.hid hTB
  clear hTB
  go_cut [27] (fun u wx => u = .bool tb ∧ Below w1.heap.size w1 wx)
  case first =>
   by_cases h4 : x.kd = 4
   ·have q4 : (x.kd == 4) = true := beq_iff_eq.2 h4
    have HQ : Hid ((!hasB bs x.tx && !hasB L x.tx) = tb) := by show _ = _; rw [← HTB.out, q4]; rfl
    clear h4 HL1 HTB
    go_wp2_with fail
    refine CB.out.mono ?_
    rintro e w2 ⟨rfl, b2⟩
    have B2 := Lib.hid b2
    have CH2 := Lib.hid (CH.out w2 b2)
    have c12 := (HA.out.later b2).c1
    clear b2 CB CH
    generalize hasB bs x.tx = hb at *
    rcases hb with _ | _
    ·go_wp2_with fail
     refine CH2.out.mono ?_
     rintro e w3 ⟨rfl, b3⟩
     have B3 := Lib.hid (B2.out.trans (b3.mono B2.out.size))
     clear b3 CH2 B2
     generalize hasB L x.tx = hb at *
     go_wp2_with fail
     go_meet
     exact ⟨congrArg Value.bool HQ.out, B3.out⟩
    ·clear CH2
     go_wp2_with fail
     go_meet
     exact ⟨congrArg Value.bool HQ.out, B2.out⟩
   ·have q4 : (x.kd == 4) = false := beq_eq_false_iff_ne.2 h4
    have HQ : Hid (false = tb) := by show _ = _; rw [← HTB.out, q4]; rfl
    clear h4 HL1 HTB CH CB
    go_wp2_with fail
    go_meet
    exact ⟨congrArg Value.bool HQ.out, Below.refl _ _⟩
  case rest =>
   obtain ⟨rfl, b2⟩ := hcut
   rename_i K0 g0
   refine g0 _ _ ?_
   clear g0 K0
   have HA2 := Lib.hid (HA.out.later b2)
   have HOW2 := Lib.hid (HOW.out.below b2 (Nat.le_refl _))
   have HGB := Lib.hid ((Grew.refl HOW.out).later b2 (Nat.le_refl _))
   have HBS2 : Hid (base ≤ wc.heap.size) := Nat.le_trans HBS.out (Nat.le_trans HA.out.bel.size b2.size)
   clear b2 CH CB c0 c1
   go_cut [2] (fun u wx => ∃ A1 c1, u = .slice A1 L1.length c1 ∧ Grew w1 base (.slice A L.length c) L1 (.slice A1 L1.length c1) wx)
   case first =>
    have c1 := HA2.out.c1
    rcases tb with _ | _
    ·have HQ : Hid (L = L1) := by show _ = _; rw [← HL1.out, show (x.kd == 4 && !bs.contains x.tx && !L.contains x.tx) = false from HTB.out]; rfl
     clear HL1 HTB
     go_wp2_with fail
     go_meet
     exact ⟨A, c, by rw [HQ.out], by rw [← HQ.out]; exact HGB.out⟩
    ·have HQ : Hid (L ++ [x.tx] = L1) := by show _ = _; rw [← HL1.out, show (x.kd == 4 && !bs.contains x.tx && !L.contains x.tx) = true from HTB.out]; rfl
     clear HL1 HTB
     go_wp2_with (at_builtin; refine list_app ty_str (v := .slice A L.length c) rfl _ _ rfl rfl (own_more_alloc HOW2.out.row (.cells #[strV x.tx] 9)) wc.heap.size 1 [strV x.tx] rfl (Whole.made wc 9 _) rfl (by simp [strV, Value.oneCell']) (by decide) (by omega) (by decide) (by have := HBS2.out; simp; omega) ?_; intro gv cv wd hap; have HAP := Lib.hid (app_own HOW2.out hap); clear hap)
     go_meet
     have e1 : L1.length = L.length + 1 := by rw [← HQ.out]; simp
     refine ⟨some ⟨gv, 0, none⟩, cv, by rw [e1], ?_⟩
     rw [← HQ.out]
     exact HGB.out.trans HAP.out
   case rest =>
    obtain ⟨A1, k1, rfl, hg⟩ := hcut
    have HGR := Lib.hid hg
    have HK0 : Hid (L1.length ≤ L.length + kwN x.kd) := by
     show _ ≤ _
     rw [← HL1.out]
     unfold kwN
     by_cases h4 : (x.kd == 4) = true
     ·rw [if_pos (show _ = true from by rw [h4]; rfl : (x.kd == 4 || x.kd == 6 || x.kd == 8 || x.kd == 9 || x.kd == 12) = true)]
      split <;> simp
     ·rw [if_neg (by rw [Bool.eq_false_iff.2 h4]; simp)]; omega
    clear HL1 HTB hg
    clear HGB HA2 HOW2 HBS2
    have HX := Lib.hid (HGR.out.whole HA.out.X HNE.out)
    have c5 : wc.cell? ⟨G, 5, none⟩ = some (.slice f.ka x.ks.length f.kc) := HX.out.cell 5
    clear HX
    go_wp2_with fail
    clear c5
    go_loopw [2, 36] (fun u i wr => ∃ (k : Nat) (A2 : Option Addr) (k2 : Nat), u = .slice A2 (freeL (x.ks.take k) x.kd x.tx nd0 0 bs L1).length k2 ∧ i = .int .i64 (k : Int) ∧ k ≤ x.ks.length ∧ Grew w1 base (.slice A L.length c) (freeL (x.ks.take k) x.kd x.tx nd0 0 bs L1) (.slice A2 (freeL (x.ks.take k) x.kd x.tx nd0 0 bs L1).length k2) wr) (fun _ i _ => x.ks.length - (intOf i).toNat)
    case atStart => exact ⟨0, A1, k1, by simp [freeL], rfl, Nat.zero_le _, by simpa [freeL] using HGR.out⟩
    case round =>
     obtain ⟨k, A2, k2, rfl, rfl, hk, hg⟩ := hrel
     have HG2 := Lib.hid hg
     clear hg HGR
     have HX := Lib.hid (HG2.out.whole HA.out.X HNE.out)
     by_cases hlt : k < x.ks.length
     ·have HMT := Lib.hid (freeL_step x.kd x.tx bs x.ks L1 k hlt)
      have HWL := Lib.hid (wtL_take x.ks k hlt)
      have HWO := Lib.hid (binds_lt x.ks x.kd x.tx k hlt)
      have HNL := Lib.hid (freeL_len x.kd x.tx (x.ks.take k) (fun y _ => freeF_len y) nd0 0 bs L1)
      have HN2 := Lib.hid (HG2.out.node HA.out.n (fun a ha => HOW.out.ne (.inl (HB.out a ha))))
      have HB2 : Hid (base ≤ wr.heap.size) := Nat.le_trans HBS.out (Nat.le_trans HA.out.bel.size HG2.out.size)
      obtain ⟨g, fy, e, _, ⟨x0, x1, x2, x3, x4, x5⟩, ny⟩ := HN2.out.row.any hlt
      have HE2 := Lib.hid e
      have HNY := Lib.hid ny
      have CY := Lib.hid (IH.out _ (getD_mem hlt))
      have i0 : (0 : Int) ≤ (k : Int) := by omega
      have i1 : (k : Int) < (x.ks.length : Int) := by omega
      have i2 : (k : Int) < 100000 := by have := HL.out; omega
      have HBD : Hid ((freeL (x.ks.take k) x.kd x.tx nd0 0 bs L1).length + wtN (x.ks.getD k nd0) ≤ 100000) := by
       have h1 := HWL.out; have h2 := HNL.out; have h3 := HK0.out; have h4 := HWT.out; have h5 := HWE.out
       show _ ≤ _
       omega
      have HBD2 : Hid ((bs ++ bindsF x.kd x.tx (x.ks.getD (k - 1) nd0) k).length + wtN (x.ks.getD k nd0) ≤ 100000) := by
       have h1 := HWO.out; have h4 := HWB.out; have h5 := HWE.out
       show _ ≤ _
       rw [List.length_append]; omega
      have HBL : Hid (Below wr.heap.size wr (wr.alloc (.cells #[.int .i64 (x.ks.getD k nd0).kd, .string ⟨(x.ks.getD k nd0).tx.toArray⟩, .int .i64 (x.ks.getD k nd0).nm, .int .i64 ((x.ks.getD k nd0).at_ : Int), .slice fy.na (x.ks.getD k nd0).ns.length fy.nc, .slice fy.ka (x.ks.getD k nd0).ks.length fy.kc] 25))) := (Below.refl _ _).alloc (Nat.le_refl _) _
      have HKY : Hid (Whole (wr.alloc (.cells #[.int .i64 (x.ks.getD k nd0).kd, .string ⟨(x.ks.getD k nd0).tx.toArray⟩, .int .i64 (x.ks.getD k nd0).nm, .int .i64 ((x.ks.getD k nd0).at_ : Int), .slice fy.na (x.ks.getD k nd0).ns.length fy.nc, .slice fy.ka (x.ks.getD k nd0).ks.length fy.kc] 25)) wr.heap.size 25 (ndL (x.ks.getD k nd0) fy).toArray) := Whole.made _ _ _
      have CBI := Lib.hid (binds_any x HW.out (by have := HWT.out; omega) (wr.alloc (.cells #[.int .i64 (x.ks.getD k nd0).kd, .string ⟨(x.ks.getD k nd0).tx.toArray⟩, .int .i64 (x.ks.getD k nd0).nm, .int .i64 ((x.ks.getD k nd0).at_ : Int), .slice fy.na (x.ks.getD k nd0).ns.length fy.nc, .slice fy.ka (x.ks.getD k nd0).ks.length fy.kc] 25)) b f k hlt (fun a ha => by have := HB.out a ha; have := HB2.out; simp; omega) (HN2.out.later HBL.out (Nat.le_refl _)))
      clear ny e HWL HNL HWO
      generalize bindsF x.kd x.tx (x.ks.getD (k - 1) nd0) k = own at *
      generalize x.ks.getD k nd0 = y at *
      obtain ⟨M, hM⟩ : ∃ M, freeL (x.ks.take k) x.kd x.tx nd0 0 bs L1 = M := ⟨_, rfl⟩
      have HMM := Lib.hid hM
      rw [hM] at HG2 HBD ⊢
      clear hM
      have HXA := Lib.hid (HX.out.below HBL.out HX.out.lt)
      have c0 : (wr.alloc (.cells #[.int .i64 y.kd, .string ⟨y.tx.toArray⟩, .int .i64 y.nm, .int .i64 (y.at_ : Int), .slice fy.na y.ns.length fy.nc, .slice fy.ka y.ks.length fy.kc] 25)).cell? ⟨G, 0, none⟩ = some (.int .i64 x.kd) := HXA.out.cell 0
      have c1 : (wr.alloc (.cells #[.int .i64 y.kd, .string ⟨y.tx.toArray⟩, .int .i64 y.nm, .int .i64 (y.at_ : Int), .slice fy.na y.ns.length fy.nc, .slice fy.ka y.ks.length fy.kc] 25)).cell? ⟨G, 1, none⟩ = some (.string ⟨x.tx.toArray⟩) := HXA.out.cell 1
      have c2 : (wr.alloc (.cells #[.int .i64 y.kd, .string ⟨y.tx.toArray⟩, .int .i64 y.nm, .int .i64 (y.at_ : Int), .slice fy.na y.ns.length fy.nc, .slice fy.ka y.ks.length fy.kc] 25)).cell? ⟨G, 2, none⟩ = some (.int .i64 x.nm) := HXA.out.cell 2
      have c3 : (wr.alloc (.cells #[.int .i64 y.kd, .string ⟨y.tx.toArray⟩, .int .i64 y.nm, .int .i64 (y.at_ : Int), .slice fy.na y.ns.length fy.nc, .slice fy.ka y.ks.length fy.kc] 25)).cell? ⟨G, 3, none⟩ = some (.int .i64 (x.at_ : Int)) := HXA.out.cell 3
      have c4 : (wr.alloc (.cells #[.int .i64 y.kd, .string ⟨y.tx.toArray⟩, .int .i64 y.nm, .int .i64 (y.at_ : Int), .slice fy.na y.ns.length fy.nc, .slice fy.ka y.ks.length fy.kc] 25)).cell? ⟨G, 4, none⟩ = some (.slice f.na x.ns.length f.nc) := HXA.out.cell 4
      have c5 : (wr.alloc (.cells #[.int .i64 y.kd, .string ⟨y.tx.toArray⟩, .int .i64 y.nm, .int .i64 (y.at_ : Int), .slice fy.na y.ns.length fy.nc, .slice fy.ka y.ks.length fy.kc] 25)).cell? ⟨G, 5, none⟩ = some (.slice f.ka x.ks.length f.kc) := HXA.out.cell 5
      unfold ndV at CBI
      rw [HE2.out] at CBI c5 ⊢
      go_wp2_with fail
      refine CBI.out.mono ?_
      rintro e w3 ⟨A9, k9, rfl, ho9, hb9⟩
      have HO9 := Lib.hid ho9
      have HBL3 := Lib.hid (HBL.out.trans (hb9.mono HBL.out.size))
      have HK3 := Lib.hid (HKY.out.below hb9 HKY.out.lt)
      have HG4 := Lib.hid (HG2.out.later HBL3.out (Nat.le_refl _))
      have HNY3 := Lib.hid (HNY.out.later HBL3.out (Nat.le_refl _))
      have HSZ3 : Hid (wr.heap.size < w3.heap.size) := Nat.lt_of_lt_of_le (show wr.heap.size < (wr.alloc (.cells #[.int .i64 y.kd, .string ⟨y.tx.toArray⟩, .int .i64 y.nm, .int .i64 (y.at_ : Int), .slice fy.na y.ns.length fy.nc, .slice fy.ka y.ks.length fy.kc] 25)).heap.size by simp) hb9.size
      have HUP : Hid ((wr.alloc (.cells #[.int .i64 y.kd, .string ⟨y.tx.toArray⟩, .int .i64 y.nm, .int .i64 (y.at_ : Int), .slice fy.na y.ns.length fy.nc, .slice fy.ka y.ks.length fy.kc] 25)).heap.size = wr.heap.size + 1) := by show _ = _; simp
      have HKN : Hid ((Value.slice A2 M.length k2).ownBlock ≠ some wr.heap.size) := HG2.out.own.ne (.inr (Nat.le_refl _))
      clear ho9 hb9 CBI c0 c1 c2 c3 c4 c5 x0 x1 x2 x3 x4 x5 HKY HBL HXA HX HN2 HG2 HNY
      generalize wr.alloc (.cells #[.int .i64 y.kd, .string ⟨y.tx.toArray⟩, .int .i64 y.nm, .int .i64 (y.at_ : Int), .slice fy.na y.ns.length fy.nc, .slice fy.ka y.ks.length fy.kc] 25) = wa at *
      generalize wr.heap.size = KB at *
      obtain ⟨tb, hTB⟩ : ∃ tb, bindsB x.kd k = tb := ⟨_, rfl⟩
      have HTB := Lib.hid hTB
      rw [hTB]
      clear hTB
      rcases tb with _ | _
      ·have HMF : Hid (freeL (x.ks.take (k + 1)) x.kd x.tx nd0 0 bs L1 = M) := by show _ = _; rw [HMT.out, HTB.out, HMM.out]; rfl
       go_wp2_with fail
       go_roundw
       case rel => exact ⟨k + 1, A2, k2, by rw [HMF.out], by go_num, by omega, by rw [HMF.out]; exact HG4.out⟩
       case measure => simp [intOf]; omega
      ·obtain ⟨bo, hbo⟩ : ∃ bo, bs ++ own = bo := ⟨_, rfl⟩
       have HBO := Lib.hid hbo
       rw [hbo] at HBD2
       have HMF : Hid (freeL (x.ks.take (k + 1)) x.kd x.tx nd0 0 bs L1 = freeF y bo M) := by show _ = _; rw [HMT.out, HTB.out, HMM.out, ← hbo]; rfl
       clear hbo
       obtain ⟨N, hN⟩ : ∃ N, freeF y bo M = N := ⟨_, rfl⟩
       have HNN := Lib.hid hN
       rw [hN] at HMF
       clear hN HMT HTB HMM
       go_upto_region 8 with (fail)
       have HBN3 := Lib.hid (fun (W : World) (h : Below w3.heap.size w3 W) => (BndT.frame HBN.out HG4.out).below h (Nat.le_refl _))
       have hcb : bs.length ≤ cb := HBN.out.le
       refine region_Z (fun W => Whole W KB 25 (ndL y fy).toArray) (fun i => false) (by kernel_rfl) (HK3.out.below (Below.refl _ _).drew HK3.out.lt) (fun hHeld => ?_)
       refine tkf 0 rfl (v := ?_) ?_ ?_; rotate_left
       ·(intro w hSw; (try dsimp only at hSw); have u0 := hSw.cell 0; have u1 := hSw.cell 1; have u2 := hSw.cell 2; have u3 := hSw.cell 3; have u4 := hSw.cell 4; have u5 := hSw.cell 5; simp only [ndL, List.getElem?_toArray, List.getElem?_cons_zero, List.getElem?_cons_succ] at u0 u1 u2 u3 u4 u5; clear hSw; go_simp; try with_reducible rfl)
       (try simp only [Act.put, sZ])
       refine tkf 1 rfl (v := ?_) ?_ ?_; rotate_left
       ·(intro w hSw; (try dsimp only at hSw); have u0 := hSw.cell 0; have u1 := hSw.cell 1; have u2 := hSw.cell 2; have u3 := hSw.cell 3; have u4 := hSw.cell 4; have u5 := hSw.cell 5; simp only [ndL, List.getElem?_toArray, List.getElem?_cons_zero, List.getElem?_cons_succ] at u0 u1 u2 u3 u4 u5; clear hSw; go_simp; try with_reducible rfl)
       (try simp only [Act.put, sZ])
       refine tkf 2 rfl (v := ?_) ?_ ?_; rotate_left
       ·(intro w hSw; (try dsimp only at hSw); have u0 := hSw.cell 0; have u1 := hSw.cell 1; have u2 := hSw.cell 2; have u3 := hSw.cell 3; have u4 := hSw.cell 4; have u5 := hSw.cell 5; simp only [ndL, List.getElem?_toArray, List.getElem?_cons_zero, List.getElem?_cons_succ] at u0 u1 u2 u3 u4 u5; clear hSw; go_simp; try with_reducible rfl)
       (try simp only [Act.put, sZ])
       refine tkf 3 rfl (v := ?_) ?_ ?_; rotate_left
       ·(intro w hSw; (try dsimp only at hSw); have u0 := hSw.cell 0; have u1 := hSw.cell 1; have u2 := hSw.cell 2; have u3 := hSw.cell 3; have u4 := hSw.cell 4; have u5 := hSw.cell 5; simp only [ndL, List.getElem?_toArray, List.getElem?_cons_zero, List.getElem?_cons_succ] at u0 u1 u2 u3 u4 u5; clear hSw; go_simp; try with_reducible rfl)
       (try simp only [Act.put, sZ])
       refine tkf 4 rfl (v := ?_) ?_ ?_; rotate_left
       ·(intro w hSw; (try dsimp only at hSw); have u0 := hSw.cell 0; have u1 := hSw.cell 1; have u2 := hSw.cell 2; have u3 := hSw.cell 3; have u4 := hSw.cell 4; have u5 := hSw.cell 5; simp only [ndL, List.getElem?_toArray, List.getElem?_cons_zero, List.getElem?_cons_succ] at u0 u1 u2 u3 u4 u5; clear hSw; go_simp; try with_reducible rfl)
       (try simp only [Act.put, sZ])
       refine tkf 5 rfl (v := ?_) ?_ ?_; rotate_left
       ·(intro w hSw; (try dsimp only at hSw); have u0 := hSw.cell 0; have u1 := hSw.cell 1; have u2 := hSw.cell 2; have u3 := hSw.cell 3; have u4 := hSw.cell 4; have u5 := hSw.cell 5; simp only [ndL, List.getElem?_toArray, List.getElem?_cons_zero, List.getElem?_cons_succ] at u0 u1 u2 u3 u4 u5; clear hSw; go_simp; try with_reducible rfl)
       (try simp only [Act.put, sZ])
       refine tkf 6 rfl (v := ?_) ?_ ?_; rotate_left
       ·(intro w hSw; (try dsimp only at hSw); have u0 := hSw.cell 0; have u1 := hSw.cell 1; have u2 := hSw.cell 2; have u3 := hSw.cell 3; have u4 := hSw.cell 4; have u5 := hSw.cell 5; simp only [ndL, List.getElem?_toArray, List.getElem?_cons_zero, List.getElem?_cons_succ] at u0 u1 u2 u3 u4 u5; clear hSw; go_simp; try with_reducible rfl)
       (try simp only [Act.put, sZ])
       refine tkf 7 rfl (v := ?_) ?_ ?_; rotate_left
       ·(intro w hSw; (try dsimp only at hSw); have u0 := hSw.cell 0; have u1 := hSw.cell 1; have u2 := hSw.cell 2; have u3 := hSw.cell 3; have u4 := hSw.cell 4; have u5 := hSw.cell 5; simp only [ndL, List.getElem?_toArray, List.getElem?_cons_zero, List.getElem?_cons_succ] at u0 u1 u2 u3 u4 u5; clear hSw; go_simp; try with_reducible rfl)
       (try simp only [Act.put, sZ])
       refine tkf 9 rfl (v := ?_) ?_ ?_; rotate_left
       ·(intro w hSw; (try dsimp only at hSw); have u0 := hSw.cell 0; have u1 := hSw.cell 1; have u2 := hSw.cell 2; have u3 := hSw.cell 3; have u4 := hSw.cell 4; have u5 := hSw.cell 5; simp only [ndL, List.getElem?_toArray, List.getElem?_cons_zero, List.getElem?_cons_succ] at u0 u1 u2 u3 u4 u5; clear hSw; go_simp; try with_reducible rfl)
       (try simp only [Act.put, sZ])
       clear hcb
       refine stp 8 rfl (fun K hK => ?_)
       refine step_bnd (g0 := (Value.slice A2 M.length k2).ownBlock) (bs := bs) (own := own) (Ab := Ab) (A9 := A9) (cb := cb) (k9 := k9) (base := wa.heap.size) (by rfl) _ _ (by rfl) (by rfl) (by rfl) (HBN3.out _ (Below.refl _ _).drew) (HO9.out.below (Below.refl _ _).drew (Nat.le_refl _)) (by have := HWB.out; omega) (by have := HBD2.out; rw [← HBO.out, List.length_append] at this; omega) (fun g hg => (World.ownsRow.lt HG4.out.own.row g hg).2) (bo := bo) HBO.out (fun A5 k5 w5 hb5 hbl5 => ?_)
       have HBN5 := Lib.hid hb5
       have HBL5 := Lib.hid ((Below.refl w3.heap.size w3).drew.trans hbl5)
       have HK5 := Lib.hid (HK3.out.below HBL5.out HK3.out.lt)
       refine hK.out _ _ (fun _ => HK5.out) (fun _ => ?_)
       clear hK K hHeld hb5 hbl5
       (try simp only [Act.put, sZ])
       have HG5 := Lib.hid (HG4.out.later HBL5.out (Nat.le_refl _))
       have CY2 := Lib.hid (CY.out w5 base b fy bo A5 k5 M A2 k2 HBD2.out HBD.out HBN5.out HG5.out.own (Nat.le_trans (Nat.le_trans HBS.out HA.out.bel.size) HG5.out.size) HB.out (HNY3.out.later HBL5.out (Nat.le_refl _)))
       unfold ndV at CY2
       rw [HNN.out] at CY2
       refine stp 10 rfl (fun K hK => ?_)
       go_simp
       go_at_call 27
       refine CY2.out.mono ?_
       rintro e w6 ⟨A6, k6, rfl, hg6⟩
       have HG6 := Lib.hid (HG5.out.trans hg6)
       have HK6 := Lib.hid (hg6.whole HK5.out HKN.out)
       refine hK.out _ _ (fun _ => HK6.out) (fun _ => ?_)
       clear hK K hg6
       (try simp only [Act.put, sZ])
       refine stp 11 rfl (fun K hK => ?_)
       go_simp
       refine hK.out _ _ (fun _ => HK6.out) (fun _ => ?_)
       clear hK K
       (try simp only [Act.put, sZ])
       refine anyZ_done (by kernel_rfl) ?_ _
       go_wp2_with fail
       go_roundw
       case rel => exact ⟨k + 1, A6, k6, by rw [HMF.out], by go_num, by omega, by rw [HMF.out]; exact HG6.out⟩
       case measure => simp [intOf]; omega
     ·have i1 : ¬ (k : Int) < (x.ks.length : Int) := by omega
      have HTK : Hid (x.ks.take k = x.ks) := List.take_of_length_le (by omega)
      rw [HTK.out] at HG2 ⊢
      go_wp2_with fail
      refine bodyPost_ret (v := .slice A2 (freeL x.ks x.kd x.tx nd0 0 bs L1).length k2) (by simp [results, Try.results27, go_sem]) rfl ?_
      exact ⟨A2, k2, by rw [HM.out], by rw [HM.out]; exact HG2.out.first HA.out.bel⟩
end Go.Proofs.Ytgjchgmlogbmmaa
/- The walks of layer 11: the names free in an exp, whether one is. -/
namespace Go.Proofs.Ytgjchgmlogbmmaa
open Go.RowKit
set_option linter.unusedVariables false
set_option linter.unusedSimpArgs false
attribute [local go_sem ↓] Go.wp_at_zero Go.wp_at_succ

/-- A list of texts that a call hands back. -/
def Texts (w : World) (M : List (List UInt8)) (e : Ending) (w' : World) : Prop := ∃ A c, e = .returned (.slice A M.length c) ∧ OwnT w' w.heap.size M (.slice A M.length c) ∧ Below w.heap.size w w'
theorem frees_any (x : Nd) (hw : WfN x) (hwt : wtN x ≤ 100000) (w : World) (b : Nat → Prop) (f : Fr) (hb : ∀ a, b a → a < w.heap.size) (hn : NodeIn w b x f) :
  Calls Try.prog 13 #[ndV x f] w (Texts w (freeF x [] [])) := by
 have HA : Hid (Ag w (w.alloc (.cells #[.int .i64 x.kd, .string ⟨x.tx.toArray⟩, .int .i64 x.nm, .int .i64 (x.at_ : Int), .slice f.na x.ns.length f.nc, .slice f.ka x.ks.length f.kc] 25)) b w.heap.size x f) := Ag.start hn
 have CF := Lib.hid (fun (wx : World) (h : Below w.heap.size w wx) (n : NodeIn wx b x f) => free_any x hw wx w.heap.size b f [] none 0 [] none 0 (by simpa using hwt) (by simpa using hwt) ⟨StrIn.nil _ _ _, Nat.le_refl _, fun _ => ⟨rfl, rfl⟩⟩ (OwnT.none _ _) h.size hb n)
 clear hn hb
 unfold ndV
 go_enter Try.func13, Try.ntmps13
 go_upto_region 1 with (fail)
 generalize w.alloc (.cells #[.int .i64 x.kd, .string ⟨x.tx.toArray⟩, .int .i64 x.nm, .int .i64 (x.at_ : Int), .slice f.na x.ns.length f.nc, .slice f.ka x.ks.length f.kc] 25) = w1 at *
 have CF2 := Lib.hid (CF.out w1 HA.out.bel HA.out.n)
 unfold ndV at CF2
 have HBL := Lib.hid HA.out.bel
 obtain ⟨G, hG⟩ : ∃ G, w.heap.size = G := ⟨_, rfl⟩
 have HG := Lib.hid hG
 rw [hG] at HA
 simp only [hG]
 clear hG
 have c0 := HA.out.c0
 have c1 := HA.out.c1
 have c2 := HA.out.c2
 have c3 := HA.out.c3
 have c4 := HA.out.c4
 have c5 := HA.out.c5
 obtain ⟨M, hM⟩ : ∃ M, freeF x [] [] = M := ⟨_, rfl⟩
 have HMM := Lib.hid hM
 rw [hM] at CF2
 clear hM CF
 go_wp2_with fail
 refine CF2.out.mono ?_
 rintro e w2 ⟨A, c, rfl, hg⟩
 have HG2 := Lib.hid hg
 clear hg CF2 c0 c1 c2 c3 c4 c5
 go_wp2_with fail
 refine bodyPost_ret (v := .slice A M.length c) (by simp [results, Try.results13, go_sem]) rfl ?_
 exact ⟨A, c, by rw [HMM.out], by rw [HMM.out]; exact HG2.out.own, (HG2.out.first HBL.out).below (fun g h => by cases h) (Nat.le_refl _)⟩

theorem has_binds (kd : Int) (tx s : List UInt8) (p : Nd) (k : Nat) :
  (bindsB kd k && !hasB (bindsF kd tx p k) s) = !((kd == 11 && k % 2 == 1) || (if kd == 11 && decide (0 < k) && k % 2 == 0 then hasB (namesF p) s else tx == s && (kd == 6 || kd == 9 || (k == 1 && (kd == 8 || kd == 12))))) := by
 unfold bindsB bindsF hasB
 have hc : ∀ t : List UInt8, [t].contains s = (t == s) := fun t => by
  rw [Bool.eq_iff_iff, List.contains_iff_mem, List.mem_singleton, beq_iff_eq]; exact eq_comm
 have hk2 : k % 2 = 0 ∨ k % 2 = 1 := by omega
 by_cases h11 : kd = 11
 ·subst h11
  rcases hk2 with h | h
  ·by_cases h0 : 0 < k
   ·simp [h, h0]
   ·have : k = 0 := by omega
    subst this; simp
  ·simp [h]
 ·have e11 : (kd == 11) = false := beq_eq_false_iff_ne.2 h11
  simp only [e11, Bool.not_false, Bool.true_or, Bool.true_and, Bool.false_and, Bool.false_or, Bool.false_eq_true, if_false]
  by_cases h6 : (kd == 6 || kd == 9) = true
  ·simp only [h6, if_true, hc, Bool.true_or, Bool.and_true]
  ·have h6' : (kd == 6 || kd == 9) = false := by simpa using h6
   simp only [h6', Bool.false_eq_true, if_false, Bool.false_or]
   by_cases h8 : (kd == 8 || kd == 12) = true
   ·simp only [h8, if_true, Bool.and_true]
    by_cases h1 : (k == 1) = true
    ·simp only [h1, if_true, hc, Bool.and_true]
    ·have h1' : (k == 1) = false := by simpa using h1
     simp [h1']
   ·have h8' : (kd == 8 || kd == 12) = false := by simpa using h8
    simp [h8']
theorem occL_has (kd : Int) (tx s : List UInt8) : ∀ (xs : List Nd) (p : Nd) (i k : Nat), k < xs.length → (bindsB kd (i + k) && !hasB (bindsF kd tx (if k = 0 then p else xs.getD (k - 1) nd0) (i + k)) s && occF (xs.getD k nd0) s) = true → occL xs kd tx p i s = true
 | [], p, i, k, h, _ => absurd h (by simp)
 | x :: xs, p, i, 0, _, h => by rw [occL, Bool.or_eq_true]; exact .inl h
 | x :: xs, p, i, k + 1, h, h2 => by
  rw [occL, Bool.or_eq_true]
  refine .inr (occL_has kd tx s xs x (i + 1) k (by simpa using h) ?_)
  rw [show i + 1 + k = i + (k + 1) by omega]
  have e : (if k = 0 then x else xs.getD (k - 1) nd0) = (if k + 1 = 0 then p else (x :: xs).getD (k + 1 - 1) nd0) := by
   cases k with
   | zero => simp
   | succ k => simp
  rw [e]; exact h2
theorem occL_hasnt (kd : Int) (tx s : List UInt8) : ∀ (xs : List Nd) (p : Nd) (i : Nat), (∀ k, k < xs.length → (bindsB kd (i + k) && !hasB (bindsF kd tx (if k = 0 then p else xs.getD (k - 1) nd0) (i + k)) s && occF (xs.getD k nd0) s) = false) → occL xs kd tx p i s = false
 | [], p, i, _ => rfl
 | x :: xs, p, i, h => by
  rw [occL, show (bindsB kd i && !(bindsF kd tx p i).contains s && occF x s) = false from h 0 (Nat.zero_lt_succ _), Bool.false_or]
  refine occL_hasnt kd tx s xs x (i + 1) fun k hk => ?_
  have := h (k + 1) (Nat.succ_lt_succ hk)
  rw [show i + 1 + k = i + (k + 1) by omega]
  have e : (if k = 0 then x else xs.getD (k - 1) nd0) = (if k + 1 = 0 then p else (x :: xs).getD (k + 1 - 1) nd0) := by
   cases k with
   | zero => simp
   | succ k => simp
  rw [e]; exact this
/-- Is s free in the kid number k? -/
def kidB (kd : Int) (tx s : List UInt8) (xs : List Nd) (k : Nat) : Bool := bindsB kd k && !hasB (bindsF kd tx (xs.getD (k - 1) nd0) k) s && occF (xs.getD k nd0) s
theorem kidB_eq (kd : Int) (tx s : List UInt8) (xs : List Nd) (k : Nat) : kidB kd tx s xs k = (bindsB kd (0 + k) && !hasB (bindsF kd tx (if k = 0 then nd0 else xs.getD (k - 1) nd0) (0 + k)) s && occF (xs.getD k nd0) s) := by
 unfold kidB
 rw [Nat.zero_add]
 cases k with
 | zero => rw [if_pos rfl, binds_zero kd tx nd0 (xs.getD (0 - 1) nd0)]
 | succ k => rw [if_neg (Nat.succ_ne_zero k)]
def OccC (y : Nd) : Prop := ∀ (w : World) (b : Nat → Prop) (f : Fr) (s : List UInt8), NodeIn w b y f → Calls Try.prog 26 #[ndV y f, .string ⟨s.toArray⟩] w fun e w' => e = .returned (.bool (occF y s)) ∧ Below w.heap.size w w'
set_option maxRecDepth 100000 in
set_option maxHeartbeats 16000000 in
theorem occ_any (x : Nd) : WfN x → OccC x := by
 induction x using Nd.ind with
 | h x ih =>
  intro hw w b f s hn
  have HA : Hid (Ag w (w.alloc (.cells #[.int .i64 x.kd, .string ⟨x.tx.toArray⟩, .int .i64 x.nm, .int .i64 (x.at_ : Int), .slice f.na x.ns.length f.nc, .slice f.ka x.ks.length f.kc] 25)) b w.heap.size x f) := Ag.start hn
  have HL : Hid (x.ks.length ≤ 100000) := hw.len
  have IH := Lib.hid (fun y hy => ih y hy (hw.ks y hy))
  have HIN := Lib.hid (fun y hy => in_any y (hw.ks y hy))
  have HE := Lib.hid (occF_eq x s)
  clear hn hw ih
  unfold ndV
  obtain ⟨R, hR⟩ : ∃ R, occF x s = R := ⟨_, rfl⟩
  rw [hR] at HE ⊢
  clear hR
  go_enter Try.func26, Try.ntmps26
  go_upto_region 1 with (fail)
  generalize w.alloc (.cells #[.int .i64 x.kd, .string ⟨x.tx.toArray⟩, .int .i64 x.nm, .int .i64 (x.at_ : Int), .slice f.na x.ns.length f.nc, .slice f.ka x.ks.length f.kc] 25) = w1 at *
  generalize w.heap.size = G at HA ⊢
  have c0 := HA.out.c0
  have c1 := HA.out.c1
  by_cases h4 : x.kd = 4
  ·have q4 : (x.kd == 4) = true := beq_iff_eq.2 h4
   have HQ : Hid (R = (x.tx == s)) := by show _ = _; rw [HE.out, if_pos q4]
   clear h4 HE
   go_wp2_with fail
   go_ret
   exact ⟨ret_bq HQ.out.symm, HA.out.bel⟩
  ·have q4 : (x.kd == 4) = false := beq_eq_false_iff_ne.2 h4
   have HQ : Hid (R = occL x.ks x.kd x.tx nd0 0 s) := by show _ = _; rw [HE.out, q4]; rfl
   clear h4 HE
   go_wp2_with fail
   clear c0 c1
   go_loopw [5] (fun i wr => ∃ k : Nat, i = .int .i64 (k : Int) ∧ k ≤ x.ks.length ∧ (∀ j, j < k → kidB x.kd x.tx s x.ks j = false) ∧ Ag w wr b G x f) (fun i _ => x.ks.length - (intOf i).toNat)
   case atStart => exact ⟨0, rfl, Nat.zero_le _, fun j hj => absurd hj (by omega), HA.out⟩
   case round =>
    obtain ⟨k, rfl, hk, hall, ha⟩ := hrel
    have HR := Lib.hid ha
    have HALL := Lib.hid hall
    have c5 := ha.c5
    clear ha hall HA
    by_cases hlt : k < x.ks.length
    ·have HN : Hid (kidB x.kd x.tx s x.ks k = true → R = true) := fun h => HQ.out.trans (occL_has _ _ _ _ _ _ _ hlt (by rw [← kidB_eq]; exact h))
     have HD : Hid (kidB x.kd x.tx s x.ks k = false → ∀ j, j < k + 1 → kidB x.kd x.tx s x.ks j = false) := fun h j hj => by
      rcases (by omega : j < k ∨ j = k) with h' | rfl
      ·exact HALL.out j h'
      ·exact h
     have i0 : (0 : Int) ≤ (k : Int) := by omega
     have i1 : (k : Int) < (x.ks.length : Int) := by omega
     have I2 : Hid ((k : Int) < 100000) := by show _ < _; have := HL.out; omega
     have HKB : Hid (kidB x.kd x.tx s x.ks k = ((bindsB x.kd k && !hasB (bindsF x.kd x.tx (x.ks.getD (k - 1) nd0) k) s) && occF (x.ks.getD k nd0) s)) := rfl
     rw [has_binds] at HKB
     have HLT : Hid (k < x.ks.length) := hlt
     clear HALL
     go_upto_region 6 with (fail)
     clear c5 i1 hk hlt
     have c0 := HR.out.c0
     have c1 := HR.out.c1
     obtain ⟨pat, hpat⟩ : ∃ pat, (x.kd == 11 && k % 2 == 1) = pat := ⟨_, rfl⟩
     rw [hpat] at HKB
     have HPAT := Lib.hid hpat
     clear hpat
     go_cut [6] (fun u wx => u = .bool pat ∧ wx = wr)
     case first =>
      by_cases h11 : x.kd = 11
      ·have q : (x.kd == 11) = true := beq_iff_eq.2 h11
       have q0 : Hid ((((k : Int) % 2) == 1) = (k % 2 == 1)) := by
        show _ = _; rw [Bool.eq_iff_iff, beq_iff_eq, beq_iff_eq]; omega
       clear h11
       go_wp2_with fail
       go_meet
       exact ⟨congrArg Value.bool (by rw [← HPAT.out, q, Bool.true_and]; exact q0.out), rfl⟩
      ·have q : (x.kd == 11) = false := beq_eq_false_iff_ne.2 h11
       clear h11
       go_wp2_with fail
       go_meet
       exact ⟨congrArg Value.bool (by rw [← HPAT.out, q]; rfl), rfl⟩
     case rest =>
      obtain ⟨rfl, rfl⟩ := hcut
      clear c0 c1
      have c0 := HR.out.c0
      have c1 := HR.out.c1
      obtain ⟨bnd, hbnd⟩ : ∃ bnd, (x.tx == s && (x.kd == 6 || x.kd == 9 || (k == 1 && (x.kd == 8 || x.kd == 12)))) = bnd := ⟨_, rfl⟩
      rw [hbnd] at HKB
      have HBE : Hid ((x.tx == s && (x.kd == 6 || x.kd == 9 || ((k : Int) == 1 && (x.kd == 8 || x.kd == 12)))) = bnd) := by
       show _ = _
       rw [← hbnd]
       have e : ((k : Int) == 1) = (k == 1) := by rw [Bool.eq_iff_iff, beq_iff_eq, beq_iff_eq]; omega
       rw [e]
      clear hbnd
      go_upto_region 7 with (fail)
      go_cut [7] (fun u wx => u = .bool bnd ∧ wx = wc)
      case first =>
       obtain ⟨t1, q1⟩ : ∃ t1, (x.tx == s) = t1 := ⟨_, rfl⟩
       obtain ⟨t6, q6⟩ : ∃ t6, (x.kd == 6) = t6 := ⟨_, rfl⟩
       obtain ⟨t9, q9⟩ : ∃ t9, (x.kd == 9) = t9 := ⟨_, rfl⟩
       obtain ⟨tk, qk⟩ : ∃ tk, ((k : Int) == 1) = tk := ⟨_, rfl⟩
       obtain ⟨t8, q8⟩ : ∃ t8, (x.kd == 8) = t8 := ⟨_, rfl⟩
       obtain ⟨tz, qz⟩ : ∃ tz, (x.kd == 12) = tz := ⟨_, rfl⟩
       have HF := HBE.out
       rw [q1, q6, q9, qk, q8, qz] at HF
       have HF2 := Lib.hid HF
       clear HF
       clear HBE
       rcases t1 with _ | _
       ·go_wp2_with fail
        go_meet
        exact ⟨congrArg Value.bool HF2.out, rfl⟩
       rcases t6 with _ | _
       ·rcases t9 with _ | _
        ·rcases tk with _ | _
         ·go_wp2_with fail
          go_meet
          exact ⟨congrArg Value.bool HF2.out, rfl⟩
         ·rcases t8 with _ | _
          ·go_wp2_with fail
           go_meet
           exact ⟨congrArg Value.bool HF2.out, rfl⟩
          ·go_wp2_with fail
           go_meet
           exact ⟨congrArg Value.bool HF2.out, rfl⟩
        ·go_wp2_with fail
         go_meet
         exact ⟨congrArg Value.bool HF2.out, rfl⟩
       ·go_wp2_with fail
        go_meet
        exact ⟨congrArg Value.bool HF2.out, rfl⟩
      case rest =>
       obtain ⟨rfl, rfl⟩ := hcut
       clear HBE c0 c1
       have c0 := HR.out.c0
       have c5 := HR.out.c5
       obtain ⟨b2, hb2⟩ : ∃ b2, (if x.kd == 11 && decide (0 < k) && k % 2 == 0 then hasB (namesF (x.ks.getD (k - 1) nd0)) s else bnd) = b2 := ⟨_, rfl⟩
       rw [hb2] at HKB
       have HB2 := Lib.hid hb2
       clear hb2
       go_upto_region 8 with (fail)
       have HTE : Hid ((x.kd == 11 && (decide ((0 : Int) < (k : Int)) && ((k : Int) % 2 == 0))) = (x.kd == 11 && decide (0 < k) && k % 2 == 0)) := by
        show _ = _
        have e1 : decide ((0 : Int) < (k : Int)) = decide (0 < k) := by
         rw [Bool.eq_iff_iff, decide_eq_true_eq, decide_eq_true_eq]; omega
        have e2 : ((k : Int) % 2 == 0) = (k % 2 == 0) := by rw [Bool.eq_iff_iff, beq_iff_eq, beq_iff_eq]; omega
        rw [e1, e2, Bool.and_assoc]
       obtain ⟨t3, h3⟩ : ∃ t3, (x.kd == 11 && decide (0 < k) && k % 2 == 0) = t3 := ⟨_, rfl⟩
       rw [h3] at HB2 HTE
       have H3 := Lib.hid h3
       clear h3
       go_cut [70] (fun u wx => u = .bool t3 ∧ wx = wc)
       case first =>
        have HF := HTE.out
        obtain ⟨q1, e1⟩ : ∃ q1, (x.kd == 11) = q1 := ⟨_, rfl⟩
        rw [e1] at HF
        clear HTE c5
        rcases q1 with _ | _
        ·have HF2 := Lib.hid HF
         clear HF
         go_wp2_with fail
         go_meet
         exact ⟨congrArg Value.bool HF2.out, rfl⟩
        by_cases p2 : 0 < k
        ·rw [decide_eq_true (show (0 : Int) < (k : Int) by omega)] at HF
         have HF2 := Lib.hid HF
         clear HF
         go_wp2_with fail
         go_meet
         exact ⟨congrArg Value.bool HF2.out, rfl⟩
        ·rw [decide_eq_false (show ¬ (0 : Int) < (k : Int) by omega)] at HF
         have HF2 := Lib.hid HF
         clear HF
         go_wp2_with fail
         go_meet
         exact ⟨congrArg Value.bool HF2.out, rfl⟩
       case rest =>
        obtain ⟨rfl, rfl⟩ := hcut
        rename_i K0 g0
        refine g0 _ _ ?_
        clear g0 K0 HTE c0
        go_cut [7] (fun u wx => u = .bool b2 ∧ Ag w wx b G x f)
        case first =>
         rcases t3 with _ | _
         ·have HF : Hid (bnd = b2) := HB2.out
          go_wp2_with fail
          go_meet
          exact ⟨congrArg Value.bool HF.out, HR.out⟩
         ·have HF : Hid (hasB (namesF (x.ks.getD (k - 1) nd0)) s = b2) := HB2.out
          have p2 : 0 < k := by
           have := H3.out
           simp only [Bool.and_eq_true, decide_eq_true_eq] at this
           exact this.1.2
          obtain ⟨j, hj⟩ : ∃ j, k = j + 1 := ⟨k - 1, by omega⟩
          have hjl : j < x.ks.length := by have := HLT.out; omega
          obtain ⟨g, fy, e, _, ⟨x0, x1, x2, x3, x4, x5⟩, ny⟩ := HR.out.n.row.any hjl
          rw [e] at c5
          have j1 : ((k : Int) - 1) = (j : Int) := by omega
          have j2 : (0 : Int) ≤ (j : Int) := by omega
          have j3 : (j : Int) < (x.ks.length : Int) := by omega
          have j4 : (j : Int) < 100000 := by have := HL.out; omega
          have CY := Lib.hid (HIN.out _ (getD_mem hjl) wc b fy s ny)
          rw [hj, Nat.add_sub_cancel] at HF
          clear e ny hj hjl p2 i0
          generalize x.ks.getD j nd0 = y at *
          unfold ndV at CY
          go_wp2_with fail
          refine CY.out.mono ?_
          rintro e w3 ⟨rfl, b3⟩
          have HR3 := Lib.hid (HR.out.later b3)
          clear HR b3 CY x0 x1 x2 x3 x4 x5 c5 j1 j2 j3 j4
          go_wp2_with fail
          go_meet
          exact ⟨congrArg Value.bool HF.out, HR3.out⟩
        case rest =>
         obtain ⟨rfl, ha⟩ := hcut
         have HR4 := Lib.hid ha
         clear ha HR c5 HB2 H3
         have c5 := HR4.out.c5
         have i1 : (k : Int) < (x.ks.length : Int) := by have := HLT.out; omega
         have i2 : (k : Int) < 100000 := I2.out
         rcases pat with _ | _
         ·rcases b2 with _ | _
          ·have hlt : k < x.ks.length := HLT.out
           obtain ⟨g, fy, e, _, ⟨x0, x1, x2, x3, x4, x5⟩, ny⟩ := HR4.out.n.row.any hlt
           rw [e] at c5
           clear e
           have CY := Lib.hid (IH.out _ (getD_mem hlt) wc b fy s ny)
           have HKC : Hid (kidB x.kd x.tx s x.ks k = occF (x.ks.getD k nd0) s) := by show _ = _; rw [HKB.out]; rfl
           clear ny hlt HKB
           generalize x.ks.getD k nd0 = y at *
           unfold ndV at CY
           go_wp2_with fail
           refine CY.out.mono ?_
           rintro e w3 ⟨rfl, b3⟩
           have HR5 := Lib.hid (HR4.out.later b3)
           clear HR4 b3 CY x0 x1 x2 x3 x4 x5 c5
           obtain ⟨sb, hsb⟩ : ∃ sb, occF y s = sb := ⟨_, rfl⟩
           rw [hsb] at HKC ⊢
           clear hsb
           rcases sb with _ | _
           ·have HD2 := Lib.hid (HD.out HKC.out)
            go_wp2_with fail
            go_roundw
            case rel => exact ⟨k + 1, by go_num, by have := HLT.out; omega, HD2.out, HR5.out⟩
            case measure => simp [intOf]; have := HLT.out; omega
           ·have HS := Lib.hid (HN.out HKC.out)
            go_wp2_with fail
            go_ret
            exact ⟨ret_bq HS.out.symm, HR5.out.bel⟩
          ·have HD2 := Lib.hid (HD.out (by rw [HKB.out]; rfl))
           go_wp2_with fail
           go_roundw
           case rel => exact ⟨k + 1, by go_num, by have := HLT.out; omega, HD2.out, HR4.out⟩
           case measure => simp [intOf]; have := HLT.out; omega
         ·have HD2 := Lib.hid (HD.out (by rw [HKB.out]; rfl))
          go_wp2_with fail
          go_roundw
          case rel => exact ⟨k + 1, by go_num, by have := HLT.out; omega, HD2.out, HR4.out⟩
          case measure => simp [intOf]; have := HLT.out; omega
    ·have i1 : ¬ (k : Int) < (x.ks.length : Int) := by omega
     have HS : Hid (R = false) := HQ.out.trans (occL_hasnt _ _ _ _ _ _ fun j hj => by rw [← kidB_eq]; exact HALL.out j (by omega))
     go_wp2_with fail
     go_ret
     exact ⟨ret_bq HS.out.symm, HR.out.bel⟩
end Go.Proofs.Ytgjchgmlogbmmaa
