/- A part of the proofs of chapter 11, squeezed, merged and shrunk by group.py: FMap FWalkI FWalkJ FWalkK. -/
import Derived.KernelRfl
import Derived.Test.YtgjchgmlogbmmaaProg
import Derived.Test.YtgjchgmlogbmmaaR1
import Derived.WalkKit
import Derived.Lib.Hide
import Derived.Maps.Keyed
import Derived.DeepKeys4
import Derived.Test.YtgjchgmlogbmmaaRE
/- The map from kinds and numbers of kids to functions. -/
namespace Go.Proofs.Ytgjchgmlogbmmaa
open Go.RowKit
open Go.Maps (Keyed)
open Go.ChangeMaps Go.MapKept
set_option linter.unusedVariables false

theorem laidOut11 : laidOutB Try.prog = true := by kernel_rfl
theorem row48 : (48 : TypeId) < Try.prog.types.size := of_decide_eq_true (by kernel_rfl)
theorem wide48 : (match Try.prog.underlying 48 with | some (.array _ _) | some (.struct _) => true | _ => false) = true := by rw [Try.underlying48]
theorem keyed48 : Keyed Try.prog 48 := Keyed.of_law (deep_law_laid laidOut11 (m := 2) (by omega) row48 (by kernel_rfl) wide48)
def pairV (p q : Int) : Value := .agg #[.int .i64 p, .int .i64 q]
theorem key48 (p q : Int) (hp : 0 ≤ p ∧ p ≤ 1000000) (hq : 0 ≤ q ∧ q ≤ 1000000) : ∃ l, keyOf Try.prog 48 (pairV p q) = some l := by
 have e1 : Try.prog.keyType 48 = true := by kernel_rfl
 have e2 : Try.prog.cellsOf 48 = 2 := by kernel_rfl
 have e3 : Try.prog.cellsOf 3 = 1 := by kernel_rfl
 have h1 : (Lit.int .i64 p).wf = true := by
  have a : IntKind.i64.min = -9223372036854775808 := rfl
  have b : IntKind.i64.max = 9223372036854775807 := rfl
  simp [Lit.wf, a, b]; omega
 have h2 : (Lit.int .i64 q).wf = true := by
  have a : IntKind.i64.min = -9223372036854775808 := rfl
  have b : IntKind.i64.max = 9223372036854775807 := rfl
  simp [Lit.wf, a, b]; omega
 have e4 : (pairV p q).formed Try.prog 48 = true := by simp [pairV, Value.formed, Try.underlying48, e2]
 unfold keyOf
 simp only [Try.underlying48, e1, e4, Bool.true_and, if_true]
 obtain ⟨n, hn⟩ : ∃ n, Try.prog.types.size = n + 1 := ⟨Try.prog.types.size - 1, by have h : (48 : Nat) < Try.prog.types.size := row48; omega⟩
 rw [hn]
 simp [Program.keyLits, Try.underlying48, Try.underlying3, e2, e3, pairV, Value.cells, h1, h2, List.range_succ]
def fnV (n : Nat) : Value := .func (.func n) #[] #[]
/-- Block r is a map of just these. -/
def MapIs (w : World) (r : Nat) (L : List (Int × Int × Nat)) : Prop := ∃ es clock, w.heap[r]? = some (.map es clock) ∧ es.toList.map (fun e => (e.key, e.val)) = L.map fun t => (pairV t.1 t.2.1, fnV t.2.2)
def SmallK (L : List (Int × Int × Nat)) : Prop := ∀ t ∈ L, (0 ≤ t.1 ∧ t.1 ≤ 1000000) ∧ 0 ≤ t.2.1 ∧ t.2.1 ≤ 1000000
theorem pair_inj {p q a b : Int} (h : pairV p q = pairV a b) : p = a ∧ q = b := by
 unfold pairV at h
 simpa using h
theorem keys_of {es : Array MapEntry} {L : List (Int × Int × Nat)} (h : es.toList.map (fun e => (e.key, e.val)) = L.map fun t => (pairV t.1 t.2.1, fnV t.2.2)) (hs : SmallK L) : ∀ e ∈ es.toList, ∃ t ∈ L, e.key = pairV t.1 t.2.1 ∧ e.val = fnV t.2.2 := fun e he => by
 have : (e.key, e.val) ∈ es.toList.map (fun e => (e.key, e.val)) := List.mem_map.2 ⟨e, he, rfl⟩
 rw [h] at this
 obtain ⟨t, ht, e2⟩ := List.mem_map.1 this
 simp only [Prod.mk.injEq] at e2
 exact ⟨t, ht, e2.1.symm, e2.2.symm⟩
/-- What a key means. -/
theorem MapIs.look {w : World} {r : Nat} {L : List (Int × Int × Nat)} (h : MapIs w r L) (hs : SmallK L) (p q : Int) (hp : 0 ≤ p ∧ p ≤ 1000000) (hq : 0 ≤ q ∧ q ≤ 1000000) :
  ((Instr.lookup 46 (.map (some r)) (pairV p q) false).run Try.prog w = .ok .nilFunc w ∧ ∀ t ∈ L, ¬ (t.1 = p ∧ t.2.1 = q)) ∨ ∃ t ∈ L, t.1 = p ∧ t.2.1 = q ∧ (Instr.lookup 46 (.map (some r)) (pairV p q) false).run Try.prog w = .ok (fnV t.2.2) w := by
 obtain ⟨es, clock, hb, hL⟩ := h
 obtain ⟨lk, hk⟩ := key48 p q hp hq
 have hz : (zeroValue 45).run Try.prog w = .ok .nilFunc w := by kernel_rfl
 have hks := keys_of hL hs
 rcases keyed48.find w hk es.toList (fun e he => by
  obtain ⟨t, ht, e1, _⟩ := hks e he
  rw [e1]; exact key48 _ _ (hs t ht).1 (hs t ht).2) with ⟨h1, h2⟩ | ⟨j, e0, h1, h2, h3⟩
 ·refine .inl ⟨by simp [Instr.lookup, run_underlying Try.underlying46, MapKept.run_getObj_map hb, keyed48.check w _ hk, h1, hz, Result.andThen], fun t ht e => ?_⟩
  have : (pairV t.1 t.2.1, fnV t.2.2) ∈ L.map fun t => (pairV t.1 t.2.1, fnV t.2.2) := List.mem_map.2 ⟨t, ht, rfl⟩
  rw [← hL] at this
  obtain ⟨x, hx, e2⟩ := List.mem_map.1 this
  simp only [Prod.mk.injEq] at e2
  exact h2 x hx (by rw [e2.1, e.1, e.2])
 ·have hm := List.mem_of_getElem? h2
  obtain ⟨t, ht, e1, e2⟩ := hks e0 hm
  have hpq := pair_inj (e1.symm.trans h3)
  exact .inr ⟨t, ht, hpq.1, hpq.2, by simp [Instr.lookup, run_underlying Try.underlying46, MapKept.run_getObj_map hb, keyed48.check w _ hk, h1, e2, Result.andThen]⟩
/-- A key more. -/
theorem MapIs.store {w : World} {r : Nat} {L : List (Int × Int × Nat)} (h : MapIs w r L) (hs : SmallK L) (p q : Int) (n : Nat) (hp : 0 ≤ p ∧ p ≤ 1000000) (hq : 0 ≤ q ∧ q ≤ 1000000) (hnew : ∀ t ∈ L, ¬ (t.1 = p ∧ t.2.1 = q)) :
  ∃ w', (Instr.mapUpdate 46 (.map (some r)) (pairV p q) (fnV n)).run Try.prog w = .ok () w' ∧ MapIs w' r (L ++ [(p, q, n)]) ∧ w.grownBy w' (some r) := by
 obtain ⟨es, clock, hb, hL⟩ := h
 obtain ⟨lk, hk⟩ := key48 p q hp hq
 have hks := keys_of hL hs
 rcases keyed48.find w hk es.toList (fun e he => by
  obtain ⟨t, ht, e1, _⟩ := hks e he
  rw [e1]; exact key48 _ _ (hs t ht).1 (hs t ht).2) with ⟨h1, h2⟩ | ⟨j, e0, h1, h2, h3⟩
 ·refine ⟨setBlock w r (.map (es.push { key := pairV p q, val := fnV n, born := clock }) (clock + 1)), ?_, ⟨_, _, heap_setBlock_same hb _, ?_⟩, ⟨rfl, rfl, rfl, by simp [setBlock], fun i _ hi => heap_setBlock_other hb _ (fun e => hi (by rw [e]))⟩⟩
  ·simp [Instr.mapUpdate, run_underlying Try.underlying46, MapKept.run_getObj_map hb, keyed48.check w _ hk, h1, MapKept.run_setObj_map _ hb, Result.andThen, setBlock]
  ·simp [hL]
 ·have hm := List.mem_of_getElem? h2
  obtain ⟨t, ht, e1, e2⟩ := hks e0 hm
  exact absurd (pair_inj (e1.symm.trans h3)) (hnew t ht)
def subL : List Nat → List (List Nat)
 | [] => [[]]
 | x :: xs => subL xs ++ (subL xs).map (x :: ·)
def insI : List Nat := [2, 4, 6, 8, 10]
/-- Which operations are done, where those of rem are left. -/
def insB (rem : List Nat) : Array Bool := #[true, true, !rem.contains 2, true, !rem.contains 4, true, !rem.contains 6, true, !rem.contains 8, true, !rem.contains 10, false, false]
def insT : Nat → Int × Int × Nat
 | 2 => (13, 2, 42) | 4 => (10, 3, 43) | 6 => (8, 2, 44) | 8 => (9, 2, 44) | _ => (14, 2, 45)
theorem ins_sub : ∀ rem ∈ subL insI, ∀ i ∈ rem, rem.erase i ∈ subL insI ∧ i ∈ insI ∧ (rem.erase i).length + 1 = rem.length ∧ (insB rem).setIfInBounds i true = insB (rem.erase i) ∧ (insB rem).getD i true = false := by decide
theorem ins_mem : ∀ rem ∈ subL insI, ∀ i ∈ rem, ∀ j ∈ insI, j ∉ rem.erase i ↔ (j ∉ rem ∨ j = i) := by decide
theorem ins_key : ∀ i ∈ insI, ∀ j ∈ insI, (insT i).1 = (insT j).1 ∧ (insT i).2.1 = (insT j).2.1 → i = j := by decide
theorem ins_small : ∀ i ∈ insI, (0 ≤ (insT i).1 ∧ (insT i).1 ≤ 1000000) ∧ 0 ≤ (insT i).2.1 ∧ (insT i).2.1 ≤ 1000000 := by decide
section
variable {ops : Array Oper} {Q : Exit → Act → World → Prop} {md : Region.Mode} {S : World → Prop} {z : Nat → Bool}
/-- The stores into the map, in any order. -/
theorem ins_loop {a : Act} {r B m : Nat} {w0 : World} (hS : ∀ w, S w) (hB : B ≤ r)
  (hop : ∀ i ∈ insI, ∃ o x y v, ops[i]? = some o ∧ o.guard = none ∧ o.dst = none ∧ o.op = .insert 46 x y v ∧ a.eval x = .map (some r) ∧ a.eval y = pairV (insT i).1 (insT i).2.1 ∧ a.eval v = fnV (insT i).2.2)
  (hr : ∀ rem ∈ subL insI, rem ≠ [] → Region.ready md ops (insB rem) = rem)
  (done : ∀ L w, MapIs w r L → (∀ t, t ∈ L ↔ ∃ i ∈ insI, t = insT i) → Below B w0 w → anyZ Try.prog md ops Q S z m (insB []) a w) :
  ∀ n rem, rem.length = n → rem ∈ subL insI → ∀ L w, MapIs w r L → (∀ t, t ∈ L ↔ ∃ i ∈ insI, i ∉ rem ∧ t = insT i) → Below B w0 w → anyZ Try.prog md ops Q S z (m + n) (insB rem) a w
 | 0, rem, hn, hm, L, w, hM, hL, hb => by
  have : rem = [] := List.length_eq_zero_iff.1 hn
  subst this
  exact done L w hM (fun t => by rw [hL t]; simp) hb
 | n + 1, rem, hn, hm, L, w, hM, hL, hb => by
  have hne : rem ≠ [] := fun e => by rw [e] at hn; cases hn
  refine ⟨fun e => absurd ((hr rem hm hne).symm.trans e) hne, fun i hi => ?_⟩
  rw [hr rem hm hne] at hi
  obtain ⟨s1, s2, s3, s4, _⟩ := ins_sub rem hm i hi
  obtain ⟨o, x, y, v, ho, hg, hd, hop2, hx, hy, hv⟩ := hop i s2
  have hsm : SmallK L := fun t ht => by
   obtain ⟨j, hj, _, rfl⟩ := (hL t).1 ht
   exact ins_small j hj
  have hnew : ∀ t ∈ L, ¬ (t.1 = (insT i).1 ∧ t.2.1 = (insT i).2.1) := fun t ht e => by
   obtain ⟨j, hj, hjr, rfl⟩ := (hL t).1 ht
   have := ins_key j hj i s2 e
   subst this
   exact hjr hi
  obtain ⟨w', hrun, hM', hgr⟩ := hM.store hsm (insT i).1 (insT i).2.1 (insT i).2.2 (ins_small i s2).1 (ins_small i s2).2 hnew
  refine wpOp_step ho (fun K' hK => ?_)
  have hw : Region.wanted o (yielded ops a.tmps) = true := by simp [Region.wanted, hg]
  rw [if_pos hw]
  unfold Oper.wp
  simp [execOp, hop2, hx, hy, hv, hrun, Result.andThen]
  refine hK _ _ ⟨fun _ => hS _, ?_⟩
  rw [s4, hd]
  refine ins_loop hS hB hop hr done n (rem.erase i) (by omega) s1 _ w' hM' (fun t => ?_) (hb.trans ⟨hgr.os, hgr.tape, hgr.output, hgr.size, fun k hk => hgr.block k (Nat.lt_of_lt_of_le hk (Nat.le_of_lt (Nat.lt_of_le_of_lt hB ?_))) (by simp; omega)⟩)
  ·rw [List.mem_append, List.mem_singleton, hL t]
   constructor
   ·rintro (⟨j, hj, hjr, rfl⟩ | rfl)
    ·exact ⟨j, hj, (ins_mem rem hm i hi j hj).2 (.inl hjr), rfl⟩
    ·exact ⟨i, s2, (ins_mem rem hm i hi i s2).2 (.inr rfl), rfl⟩
   ·rintro ⟨j, hj, hjr, rfl⟩
    rcases (ins_mem rem hm i hi j hj).1 hjr with h | rfl
    ·exact .inl ⟨j, hj, h, rfl⟩
    ·exact .inr rfl
  ·obtain ⟨es, clock, hbk, _⟩ := hM
   exact (Array.getElem?_eq_some_iff.1 hbk).1
end
end Go.Proofs.Ytgjchgmlogbmmaa
/- The walks of layer 11: the document's names free. -/
namespace Go.Proofs.Ytgjchgmlogbmmaa
open Go.RowKit
set_option linter.unusedVariables false
set_option linter.unusedSimpArgs false
attribute [local go_sem ↓] Go.wp_at_zero Go.wp_at_succ

theorem filter_step (p : List UInt8 → Bool) (l : List (List UInt8)) (k : Nat) (h : k < l.length) : (l.take (k + 1)).filter p = if p (l.getD k []) = true then (l.take k).filter p ++ [l.getD k []] else (l.take k).filter p := by
 have e : l.take (k + 1) = l.take k ++ [l.getD k []] := by
  rw [List.take_add_one, List.getD_eq_getElem?_getD, List.getElem?_eq_getElem h]; rfl
 rw [e, List.filter_append]
 by_cases hp : p (l.getD k []) = true
 ·rw [if_pos hp, List.filter_cons_of_pos hp]; rfl
 ·rw [if_neg hp, List.filter_cons_of_neg hp]; simp
theorem drew_cell2 (w : World) (q : Addr) : w.drew.cell? q = w.cell? q := World.cell?_of_block ((Below.refl (q.block + 1) w).drew.block _ (Nat.lt_succ_self _))
set_option maxRecDepth 100000 in
set_option maxHeartbeats 8000000 in
theorem rfrees_any (x : Nd) (hw : WfN x) (hwt : wtN x ≤ 100000) (w : World) (b : Nat → Prop) (f : Fr) (hb : ∀ a, b a → a < w.heap.size) (hn : NodeIn w b x f) :
  Calls Try.prog 14 #[ndV x f] w (Texts w (rfreeF x)) := by
 have HA : Hid (Ag w (w.alloc (.cells #[.int .i64 x.kd, .string ⟨x.tx.toArray⟩, .int .i64 x.nm, .int .i64 (x.at_ : Int), .slice f.na x.ns.length f.nc, .slice f.ka x.ks.length f.kc] 25)) b w.heap.size x f) := Ag.start hn
 have CF := Lib.hid (fun (wx : World) (h : Below w.heap.size w wx) (n : NodeIn wx b x f) => all_any x hw wx w.heap.size b f [] none 0 (by simpa using hwt) (OwnT.none _ _) h.size hb n)
 have CO := Lib.hid (occ_any x hw)
 have HLB := Lib.hid (allF_len x [])
 have HWT : Hid (wtN x ≤ 100000) := hwt
 clear hn hb hw hwt
 unfold ndV
 go_enter Try.func14, Try.ntmps14
 go_upto_region 1 with (fail)
 generalize w.alloc (.cells #[.int .i64 x.kd, .string ⟨x.tx.toArray⟩, .int .i64 x.nm, .int .i64 (x.at_ : Int), .slice f.na x.ns.length f.nc, .slice f.ka x.ks.length f.kc] 25) = w1 at *
 have CF2 := Lib.hid (CF.out w1 HA.out.bel HA.out.n)
 unfold ndV at CF2
 have HBL := Lib.hid HA.out.bel
 obtain ⟨G, hG⟩ : ∃ G, w.heap.size = G := ⟨_, rfl⟩
 have HG := Lib.hid hG
 rw [hG] at HA
 simp only [hG]
 clear hG
 have c0 := HA.out.c0
 have c1 := HA.out.c1
 have c2 := HA.out.c2
 have c3 := HA.out.c3
 have c4 := HA.out.c4
 have c5 := HA.out.c5
 obtain ⟨M, hM⟩ : ∃ M, allF x [] = M := ⟨_, rfl⟩
 rw [hM] at CF2 HLB
 have HR : Hid (rfreeF x = M.filter (occF x)) := by show _ = _; rw [← hM]; rfl
 have HML : Hid (M.length ≤ 100000) := by
  have h1 := HLB.out
  have h2 := HWT.out
  show _ ≤ _
  simp only [List.length_nil] at h1; omega
 clear hM CF HLB
 go_wp2_with fail
 refine CF2.out.mono ?_
 rintro e w2 ⟨A, c, rfl, hg⟩
 have HG2 := Lib.hid hg
 have HST := Lib.hid (own_str hg.own.row)
 have HX2 := Lib.hid (hg.whole HA.out.X (by intro e; cases e))
 have HN2 := Lib.hid (hg.node HA.out.n (fun a _ e => by cases e))
 have HB2 := Lib.hid ((hg.first HBL.out).below (fun g h => by cases h) (Nat.le_refl _))
 clear hg CF2 c0 c1 c2 c3 c4 c5
 go_wp2_with fail
 go_loopw [4, 5] (fun u i wr => ∃ (k : Nat) (A2 : Option Addr) (k2 : Nat), u = .slice A2 ((M.take k).filter (occF x)).length k2 ∧ i = .int .i64 (k : Int) ∧ k ≤ M.length ∧ Grew w2 w.heap.size (.slice none 0 0) ((M.take k).filter (occF x)) (.slice A2 ((M.take k).filter (occF x)).length k2) wr) (fun _ i _ => M.length - (intOf i).toNat)
 case atStart => exact ⟨0, none, 0, by simp, rfl, Nat.zero_le _, by simpa using Grew.refl (OwnT.none w2 w.heap.size)⟩
 case round =>
  obtain ⟨k, A2, k2, rfl, rfl, hk, hg⟩ := hrel
  have HG3 := Lib.hid hg
  clear hg
  by_cases hlt : k < M.length
  ·have HFS := Lib.hid (filter_step (occF x) M k hlt)
   have HXR := Lib.hid (HG3.out.whole HX2.out (by intro e; cases e))
   have HNR := Lib.hid (HG3.out.node HN2.out (fun a _ e => by cases e))
   obtain ⟨g, rfl, hgl, x0⟩ := (HG3.out.str HST.out (fun a _ e => by cases e)).at_ hlt
   have i0 : (0 : Int) ≤ (k : Int) := by omega
   have i1 : (k : Int) < (M.length : Int) := by omega
   have I2 : Hid ((k : Int) < 100000) := by show _ < _; have := HML.out; omega
   have HFL : Hid (((M.take k).filter (occF x)).length ≤ 100000) := by
    have h1 := List.length_filter_le (occF x) (M.take k)
    have h2 := HML.out
    show _ ≤ _
    rw [List.length_take] at h1; omega
   obtain ⟨N, hN⟩ : ∃ N, (M.take k).filter (occF x) = N := ⟨_, rfl⟩
   rw [hN] at HFS HG3 HFL ⊢
   have HNN := Lib.hid hN
   clear hN
   have X0 := Lib.hid x0
   have HTX : Hid (∀ t, M.getD k [] = t → (M.take (k + 1)).filter (occF x) = if occF x t = true then N ++ [t] else N) := fun t ht => by rw [← ht]; exact HFS.out
   generalize M.getD k [] = t at *
   have HTX2 := Lib.hid (HTX.out t rfl)
   clear x0 HFS HTX
   go_upto_region 6 with (fail)
   go_cut [6] (fun u wx => u = .bool (occF x t) ∧ Below wr.heap.size wr wx)
   case first =>
    refine region_Z (fun W => Whole W G 25 (ndL x f).toArray ∧ W.cell? ⟨g, k, none⟩ = some (.string ⟨t.toArray⟩)) (fun i => false) (by kernel_rfl) ⟨HXR.out.below (Below.refl _ _).drew HXR.out.lt, (drew_cell2 _ _).trans X0.out⟩ (fun hHeld => ?_)
    refine tkf 0 rfl (v := ?_) ?_ ?_; rotate_left
    ·(intro w hSw; (try dsimp only at hSw); have u0 := hSw.1.cell 0; have u1 := hSw.1.cell 1; have u2 := hSw.1.cell 2; have u3 := hSw.1.cell 3; have u4 := hSw.1.cell 4; have u5 := hSw.1.cell 5; have u6 := hSw.2; simp only [ndL, List.getElem?_toArray, List.getElem?_cons_zero, List.getElem?_cons_succ] at u0 u1 u2 u3 u4 u5; clear hSw; go_simp; try with_reducible rfl)
    (try simp only [Act.put, sZ])
    refine tkf 1 rfl (v := ?_) ?_ ?_; rotate_left
    ·(intro w hSw; (try dsimp only at hSw); have u0 := hSw.1.cell 0; have u1 := hSw.1.cell 1; have u2 := hSw.1.cell 2; have u3 := hSw.1.cell 3; have u4 := hSw.1.cell 4; have u5 := hSw.1.cell 5; have u6 := hSw.2; simp only [ndL, List.getElem?_toArray, List.getElem?_cons_zero, List.getElem?_cons_succ] at u0 u1 u2 u3 u4 u5; clear hSw; go_simp; try with_reducible rfl)
    (try simp only [Act.put, sZ])
    refine tkf 2 rfl (v := ?_) ?_ ?_; rotate_left
    ·(intro w hSw; (try dsimp only at hSw); have u0 := hSw.1.cell 0; have u1 := hSw.1.cell 1; have u2 := hSw.1.cell 2; have u3 := hSw.1.cell 3; have u4 := hSw.1.cell 4; have u5 := hSw.1.cell 5; have u6 := hSw.2; simp only [ndL, List.getElem?_toArray, List.getElem?_cons_zero, List.getElem?_cons_succ] at u0 u1 u2 u3 u4 u5; clear hSw; go_simp; try with_reducible rfl)
    (try simp only [Act.put, sZ])
    refine tkf 3 rfl (v := ?_) ?_ ?_; rotate_left
    ·(intro w hSw; (try dsimp only at hSw); have u0 := hSw.1.cell 0; have u1 := hSw.1.cell 1; have u2 := hSw.1.cell 2; have u3 := hSw.1.cell 3; have u4 := hSw.1.cell 4; have u5 := hSw.1.cell 5; have u6 := hSw.2; simp only [ndL, List.getElem?_toArray, List.getElem?_cons_zero, List.getElem?_cons_succ] at u0 u1 u2 u3 u4 u5; clear hSw; go_simp; try with_reducible rfl)
    (try simp only [Act.put, sZ])
    refine tkf 4 rfl (v := ?_) ?_ ?_; rotate_left
    ·(intro w hSw; (try dsimp only at hSw); have u0 := hSw.1.cell 0; have u1 := hSw.1.cell 1; have u2 := hSw.1.cell 2; have u3 := hSw.1.cell 3; have u4 := hSw.1.cell 4; have u5 := hSw.1.cell 5; have u6 := hSw.2; simp only [ndL, List.getElem?_toArray, List.getElem?_cons_zero, List.getElem?_cons_succ] at u0 u1 u2 u3 u4 u5; clear hSw; go_simp; try with_reducible rfl)
    (try simp only [Act.put, sZ])
    refine stp 5 rfl (fun K hK => ?_)
    go_simp
    go_at_call 26
    have CO2 := Lib.hid (CO.out wr.drew b f t (HNR.out.later (Below.refl _ _).drew (Nat.le_refl _)))
    unfold ndV at CO2
    refine CO2.out.mono ?_
    rintro e w4 ⟨rfl, b4⟩
    have B4 := Lib.hid ((Below.refl wr.heap.size wr).drew.trans b4)
    have HX4 := Lib.hid (HXR.out.below B4.out HXR.out.lt)
    have X4 : Hid (w4.cell? ⟨g, k, none⟩ = some (.string ⟨t.toArray⟩)) := (World.cell?_of_block (B4.out.block g hgl)).trans X0.out
    refine hK.out _ _ (fun _ => ⟨HX4.out, X4.out⟩) (fun _ => ?_)
    clear hK K b4 CO2
    (try simp only [Act.put, sZ])
    refine stp 6 rfl (fun K hK => ?_)
    go_simp
    refine hK.out _ _ (fun _ => ⟨HX4.out, X4.out⟩) (fun _ => ?_)
    clear hK K
    (try simp only [Act.put, sZ])
    refine anyZ_done (by kernel_rfl) ?_ _
    go_wp2_with fail
    go_meet
    exact ⟨rfl, B4.out⟩
   case rest =>
    obtain ⟨rfl, b5⟩ := hcut
    have HG5 := Lib.hid (HG3.out.later b5 (Nat.le_refl _))
    have x0 : wc.cell? ⟨g, k, none⟩ = some (.string ⟨t.toArray⟩) := (World.cell?_of_block (b5.block g hgl)).trans X0.out
    clear b5 HG3
    have i2 : (k : Int) < 100000 := I2.out
    obtain ⟨ob, hob⟩ : ∃ ob, occF x t = ob := ⟨_, rfl⟩
    rw [hob] at HTX2 ⊢
    clear hob
    rcases ob with _ | _
    ·have HTX3 : Hid ((M.take (k + 1)).filter (occF x) = N) := HTX2.out
     go_wp2_with fail
     go_roundw
     case rel => exact ⟨k + 1, A2, k2, by rw [HTX3.out], by go_num, by omega, by rw [HTX3.out]; exact HG5.out⟩
     case measure => simp [intOf]; omega
    ·have HTX3 : Hid ((M.take (k + 1)).filter (occF x) = N ++ [t]) := HTX2.out
     have i9 : N.length ≤ 100000 := HFL.out
     go_wp2_with (at_builtin; refine list_app ty_str (v := .slice A2 N.length k2) rfl _ _ rfl rfl (own_more_alloc HG5.out.own.row (.cells #[strV t] 9)) wc.heap.size 1 [strV t] rfl (Whole.made wc 9 _) rfl (by simp [strV, Value.oneCell']) (by decide) (by omega) (by decide) (by have := HB2.out.size; have := HG5.out.size; simp; omega) ?_; intro gv cv wd hap; have HAP := Lib.hid (app_own HG5.out.own hap); clear hap)
     have HG7 := Lib.hid (HG5.out.trans HAP.out)
     have e1 : (N ++ [t]).length = N.length + 1 := by simp
     go_roundw
     case rel => exact ⟨k + 1, some ⟨gv, 0, none⟩, cv, by rw [HTX3.out, e1], by go_num, by omega, by rw [HTX3.out]; exact HG7.out⟩
     case measure => simp [intOf]; omega
  ·have i1 : ¬ (k : Int) < (M.length : Int) := by omega
   have HTK : Hid (M.take k = M) := List.take_of_length_le (by omega)
   rw [HTK.out] at HG3 ⊢
   go_wp2_with fail
   refine bodyPost_ret (v := .slice A2 (M.filter (occF x)).length k2) (by simp [results, Try.results14, go_sem]) rfl ?_
   exact ⟨A2, k2, by rw [HR.out], by rw [HR.out]; exact HG3.out.own, HB2.out.trans (HG3.out.below (fun g h => by cases h) HB2.out.size)⟩
end Go.Proofs.Ytgjchgmlogbmmaa
/- The walks of layer 11: the map of folders. -/
namespace Go.Proofs.Ytgjchgmlogbmmaa
open Go.RowKit
set_option linter.unusedVariables false
set_option linter.unusedSimpArgs false
attribute [local go_sem ↓] Go.wp_at_zero Go.wp_at_succ

theorem heap_made (w : World) : ((w.drew).alloc (.map #[] 0)).heap[w.heap.size]? = some (.map #[] 0) := heap_alloc_new w.drew _
theorem ready_all {md : Region.Mode} {ops : Array Oper} (h : ((subL insI).all fun rem => rem.isEmpty || (Region.ready md ops (insB rem) == rem)) = true) (rem : List Nat) (hr : rem ∈ subL insI) (hne : rem ≠ []) : Region.ready md ops (insB rem) = rem := by
 have := List.all_eq_true.1 h rem hr
 simp only [Bool.or_eq_true, List.isEmpty_iff, beq_iff_eq] at this
 exact this.resolve_left hne
def Folders (w w' : World) (r : Nat) : Prop := (∃ L, MapIs w' r L ∧ ∀ t, t ∈ L ↔ ∃ i ∈ insI, t = insT i) ∧ Below w.heap.size w w'
set_option maxRecDepth 100000 in
set_option maxHeartbeats 8000000 in
theorem folders_any (w : World) : Calls Try.prog 23 #[] w fun e w' => ∃ r, e = .returned (.map (some r)) ∧ Folders w w' r := by
 go_enter Try.func23, Try.ntmps23
 go_upto_region 1 with (fail)
 refine region_Z (fun W => True) (fun i => false) (by kernel_rfl) trivial (fun hHeld => ?_)
 refine tkf 1 rfl (v := ?_) ?_ ?_; rotate_left
 ·(intro w hSw; (try dsimp only at hSw); go_simp; try with_reducible rfl)
 (try simp only [Act.put, sZ])
 refine tkf 3 rfl (v := ?_) ?_ ?_; rotate_left
 ·(intro w hSw; (try dsimp only at hSw); go_simp; try with_reducible rfl)
 (try simp only [Act.put, sZ])
 refine tkf 5 rfl (v := ?_) ?_ ?_; rotate_left
 ·(intro w hSw; (try dsimp only at hSw); go_simp; try with_reducible rfl)
 (try simp only [Act.put, sZ])
 refine tkf 7 rfl (v := ?_) ?_ ?_; rotate_left
 ·(intro w hSw; (try dsimp only at hSw); go_simp; try with_reducible rfl)
 (try simp only [Act.put, sZ])
 refine tkf 9 rfl (v := ?_) ?_ ?_; rotate_left
 ·(intro w hSw; (try dsimp only at hSw); go_simp; try with_reducible rfl)
 (try simp only [Act.put, sZ])
 refine stp 0 rfl (fun K hK => ?_)
 go_simp
 refine hK.out _ _ (fun _ => trivial) (fun _ => ?_)
 clear hK K
 (try simp only [Act.put, sZ])
 show anyZ _ _ _ _ _ _ (2 + 5) (insB insI) _ _
 refine ins_loop (m := 2) (r := w.heap.size) (B := w.heap.size) (w0 := w) (fun _ => trivial) (Nat.le_refl _) (fun i hi => ?_) (fun rem hr hne => ?_) (fun L wf hM hL hb => ?_) 5 insI rfl (by decide) [] _ ⟨#[], 0, heap_made w, rfl⟩ (fun t => ?_) ((Below.refl _ _).drew.alloc (Nat.le_refl _) _)
 ·simp only [insI, List.mem_cons, List.not_mem_nil, or_false] at hi
  rcases hi with rfl | rfl | rfl | rfl | rfl
  all_goals exact ⟨_, _, _, _, rfl, rfl, rfl, rfl, rfl, rfl, rfl⟩
 ·exact ready_all (by kernel_rfl) rem hr hne
 ·refine stp 11 rfl (fun K hK => ?_)
  go_simp
  refine hK.out _ _ (fun _ => trivial) (fun _ => ?_)
  clear hK K
  (try simp only [Act.put, sZ])
  refine stp 12 rfl (fun K hK => ?_)
  go_simp
  refine hK.out _ _ (fun _ => trivial) (fun _ => ?_)
  clear hK K
  (try simp only [Act.put, sZ])
  refine anyZ_done (by kernel_rfl) ?_ _
  go_wp2_with fail
  refine bodyPost_ret (v := .map (some w.heap.size)) (by simp [results, Try.results23, go_sem]) rfl ?_
  exact ⟨_, rfl, ⟨L, hM, hL⟩, hb⟩
 ·constructor
  ·intro h; cases h
  ·rintro ⟨i, hi, hn, _⟩; exact absurd hi hn
end Go.Proofs.Ytgjchgmlogbmmaa
/- The walks of layer 11: a sequence, a let. -/
namespace Go.Proofs.Ytgjchgmlogbmmaa
open Go.RowKit
set_option linter.unusedVariables false
set_option linter.unusedSimpArgs false
attribute [local go_sem ↓] Go.wp_at_zero Go.wp_at_succ

/-- The six cells of a node in a row. -/
def C6 (w : World) (g a0 a1 a2 a3 a4 a5 : Nat) (y : Nd) (fy : Fr) : Prop :=
 w.cell? ⟨g, a0, none⟩ = some (.int .i64 y.kd) ∧ w.cell? ⟨g, a1, none⟩ = some (.string ⟨y.tx.toArray⟩) ∧ w.cell? ⟨g, a2, none⟩ = some (.int .i64 y.nm) ∧
  w.cell? ⟨g, a3, none⟩ = some (.int .i64 (y.at_ : Int)) ∧ w.cell? ⟨g, a4, none⟩ = some (.slice fy.na y.ns.length fy.nc) ∧ w.cell? ⟨g, a5, none⟩ = some (.slice fy.ka y.ks.length fy.kc)
theorem C6.block {w w' : World} {g a0 a1 a2 a3 a4 a5 : Nat} {y : Nd} {fy : Fr} (h : C6 w g a0 a1 a2 a3 a4 a5 y fy) (hb : w'.heap[g]? = w.heap[g]?) : C6 w' g a0 a1 a2 a3 a4 a5 y fy := by
 obtain ⟨c0, c1, c2, c3, c4, c5⟩ := h
 have hc : ∀ o, w'.cell? ⟨g, o, none⟩ = w.cell? ⟨g, o, none⟩ := fun o => World.cell?_of_block hb
 exact ⟨(hc _).trans c0, (hc _).trans c1, (hc _).trans c2, (hc _).trans c3, (hc _).trans c4, (hc _).trans c5⟩
theorem kids_at {w : World} {b : Nat → Prop} {x : Nd} {f : Fr} (n : NodeIn w b x f) {k : Nat} {y : Nd} (e : x.ks[k]? = some y) : ∃ g fy, f.ka = some ⟨g, 0, none⟩ ∧ (g < w.heap.size ∧ b g) ∧ ndCells w g k y fy ∧ NodeIn w b y fy := by
 have hk := (List.getElem?_eq_some_iff.1 e).1
 obtain ⟨g, fy, a, bg, c, d, m'⟩ := n.row.at_ hk
 have m := m'.mono (b' := b) fun a ha _ => ha.1
 have : x.ks.getD k nd0 = y := by rw [List.getD_eq_getElem?_getD, e]; rfl
 rw [this] at d m
 exact ⟨g, fy, a, ⟨c, bg⟩, d, m⟩
theorem kids2 {w : World} {b : Nat → Prop} {x p q : Nd} {f : Fr} (n : NodeIn w b x f) (e : x.ks = [p, q]) : ∃ g fp fq, f.ka = some ⟨g, 0, none⟩ ∧ (g < w.heap.size ∧ b g) ∧ C6 w g 0 1 2 3 4 5 p fp ∧ C6 w g 6 7 8 9 10 11 q fq ∧ NodeIn w b p fp ∧ NodeIn w b q fq := by
 obtain ⟨g, fp, a, hl, hc, hn⟩ := kids_at n (k := 0) (y := p) (by rw [e]; rfl)
 obtain ⟨g', fq, a', _, hc', hn'⟩ := kids_at n (k := 1) (y := q) (by rw [e]; rfl)
 have : g = g' := by rw [a] at a'; simpa using a'
 subst this
 exact ⟨g, fp, fq, a, hl, hc, hc', hn, hn'⟩
theorem kids3 {w : World} {b : Nat → Prop} {x p q r : Nd} {f : Fr} (n : NodeIn w b x f) (e : x.ks = [p, q, r]) : ∃ g fp fq fr, f.ka = some ⟨g, 0, none⟩ ∧ (g < w.heap.size ∧ b g) ∧ C6 w g 0 1 2 3 4 5 p fp ∧ C6 w g 6 7 8 9 10 11 q fq ∧ C6 w g 12 13 14 15 16 17 r fr ∧ NodeIn w b p fp ∧ NodeIn w b q fq ∧ NodeIn w b r fr := by
 obtain ⟨g, fp, a, hl, hc, hn⟩ := kids_at n (k := 0) (y := p) (by rw [e]; rfl)
 obtain ⟨g', fq, a', _, hc', hn'⟩ := kids_at n (k := 1) (y := q) (by rw [e]; rfl)
 obtain ⟨g2, fr, a2, _, hc2, hn2⟩ := kids_at n (k := 2) (y := r) (by rw [e]; rfl)
 have : g = g' := by rw [a] at a'; simpa using a'
 subst this
 have : g = g2 := by rw [a] at a2; simpa using a2
 subst this
 exact ⟨g, fp, fq, fr, a, hl, hc, hc', hc2, hn, hn', hn2⟩
/-- A node handed in, and the result's block. -/
theorem far6h (w : World) (g Z : Nat) (h : g ≠ Z) (v0 v1 v2 v3 v4 v5 : Value) : ((((((w.setCell ⟨Z, 0, none⟩ v0).setCell ⟨Z, 1, none⟩ v1).setCell ⟨Z, 2, none⟩ v2).setCell ⟨Z, 3, none⟩ v3).setCell ⟨Z, 4, none⟩ v4).setCell ⟨Z, 5, none⟩ v5).heap[g]? = w.heap[g]? := by
 rw [Below.heap_setCell _ ⟨Z, 5, none⟩ _ _ h, Below.heap_setCell _ ⟨Z, 4, none⟩ _ _ h, Below.heap_setCell _ ⟨Z, 3, none⟩ _ _ h, Below.heap_setCell _ ⟨Z, 2, none⟩ _ _ h, Below.heap_setCell _ ⟨Z, 1, none⟩ _ _ h, Below.heap_setCell _ ⟨Z, 0, none⟩ _ _ h]
structure Rg (w w1 : World) (b : Nat → Prop) (G Z : Nat) (x : Nd) (f : Fr) : Prop where
 a : Ag w w1 b G x f
 z : Whole w1 Z 25 #[.int .i64 0, .string ⟨#[]⟩, .int .i64 0, .int .i64 0, .slice none 0 0, .slice none 0 0]
 hb : ∀ a, b a → a < w.heap.size
theorem Rg.start {w : World} {b : Nat → Prop} {x : Nd} {f : Fr} (hn : NodeIn w b x f) (hb : ∀ a, b a → a < w.heap.size) : Rg w ((w.alloc (.cells #[.int .i64 x.kd, .string ⟨x.tx.toArray⟩, .int .i64 x.nm, .int .i64 (x.at_ : Int), .slice f.na x.ns.length f.nc, .slice f.ka x.ks.length f.kc] 25)).alloc (.cells #[.int .i64 0, .string ⟨#[]⟩, .int .i64 0, .int .i64 0, .slice none 0 0, .slice none 0 0] 25)) b w.heap.size (w.heap.size + 1) x f :=
 ⟨(Ag.start hn).alloc _, by
  have := Whole.made (w.alloc (.cells #[.int .i64 x.kd, .string ⟨x.tx.toArray⟩, .int .i64 x.nm, .int .i64 (x.at_ : Int), .slice f.na x.ns.length f.nc, .slice f.ka x.ks.length f.kc] 25)) 25 #[.int .i64 0, .string ⟨#[]⟩, .int .i64 0, .int .i64 0, .slice none 0 0, .slice none 0 0]
  simpa using this, hb⟩
section
variable {w w1 w2 wf : World} {b c : Nat → Prop} {G Z : Nat} {x y : Nd} {f fy : Fr}
theorem Rg.later (h : Rg w w1 b G Z x f) (hb : Below w1.heap.size w1 w2) : Rg w w2 b G Z x f := ⟨h.a.later hb, h.z.below hb h.z.lt, h.hb⟩
theorem Rg.node (h : Rg w w1 b G (G + 1) x f) (hG : w.heap.size = G) (n : NodeIn w1 b y fy) (hf : But (G + 1) w1.heap.size w1 wf) : NodeIn wf (fun a => b a ∨ w.heap.size ≤ a) y fy :=
 (n.but hf (Nat.le_refl _) fun a ha e => by have := h.hb a ha; omega).mono fun a ha _ => .inl ha
theorem Rg.bel (h : Rg w w1 b G (G + 1) x f) (hG : w.heap.size = G) (hf : But (G + 1) w1.heap.size w1 wf) : Below w.heap.size w wf :=
 h.a.bel.trans ⟨hf.os, hf.tape, hf.output, hf.size, fun k hk => hf.block k (Nat.lt_of_lt_of_le hk h.a.bel.size) (by omega)⟩
end
/-- What a folder gives: a node, and whether it has folded. -/
def FoldPost (w : World) (b : Nat → Prop) (x : Nd) (e : Ending) (w' : World) : Prop :=
 ∃ (y : Nd) (t : Bool) (f : Fr), e = .returned (.tuple #[ndV y f, .bool t]) ∧ NodeIn w' (fun a => b a ∨ w.heap.size ≤ a) y f ∧ Below w.heap.size w w' ∧ if t = true then y = redF x else redF x = x
theorem red_seq {x p q : Nd} (h : x.kd = 14) (e : x.ks = [p, q]) : redF x = if stillF p then q else x := by
 unfold redF; rw [e, h]; rfl
theorem red_let {x p q : Nd} (h : x.kd = 8 ∨ x.kd = 9) (e : x.ks = [p, q]) : redF x = if stillF p && !occF q x.tx then q else x := by
 unfold redF; rw [e]; rcases h with h | h <;> rw [h] <;> rfl
set_option maxRecDepth 100000 in
set_option maxHeartbeats 8000000 in
theorem seq_any (x : Nd) (hw : WfN x) (h14 : x.kd = 14) (w : World) (b : Nat → Prop) (f : Fr) (hb : ∀ a, b a → a < w.heap.size) (hn : NodeIn w b x f) : Calls Try.prog 45 #[ndV x f] w (FoldPost w b x) := by
 obtain ⟨p, q, hks⟩ := hw.two (by omega)
 have HKS := Lib.hid hks
 have HRED := Lib.hid (red_seq h14 hks)
 have HPW := Lib.hid (still_any p (hw.ks p (by rw [hks]; simp)))
 clear h14 hks
 have HR : Hid (Rg w ((w.alloc (.cells #[.int .i64 x.kd, .string ⟨x.tx.toArray⟩, .int .i64 x.nm, .int .i64 (x.at_ : Int), .slice f.na x.ns.length f.nc, .slice f.ka x.ks.length f.kc] 25)).alloc (.cells #[.int .i64 0, .string ⟨#[]⟩, .int .i64 0, .int .i64 0, .slice none 0 0, .slice none 0 0] 25)) b w.heap.size (w.heap.size + 1) x f) := Rg.start hn hb
 have HW := Lib.hid hw
 unfold ndV
 go_enter Try.func45, Try.ntmps45
 go_upto_region 1 with (fail)
 generalize ((w.alloc (.cells #[.int .i64 x.kd, .string ⟨x.tx.toArray⟩, .int .i64 x.nm, .int .i64 (x.at_ : Int), .slice f.na x.ns.length f.nc, .slice f.ka x.ks.length f.kc] 25)).alloc (.cells #[.int .i64 0, .string ⟨#[]⟩, .int .i64 0, .int .i64 0, .slice none 0 0, .slice none 0 0] 25)) = w1 at *
 obtain ⟨G, hG⟩ : ∃ G, w.heap.size = G := ⟨_, rfl⟩
 have HG := Lib.hid hG
 rw [hG] at HR
 simp only [hG]
 clear hG hn hb hw
 obtain ⟨g, fp, fq, e, ⟨hgl, hgb⟩, hc0, hc1, np, nq⟩ := kids2 HR.out.a.n HKS.out
 have HC0 := Lib.hid hc0
 have HC1 := Lib.hid hc1
 have HNP := Lib.hid np
 have HNQ := Lib.hid nq
 have c5 := HR.out.a.c5
 rw [e, HKS.out] at c5
 have X5 : Hid (w1.cell? ⟨G, 5, none⟩ = some (.slice (some ⟨g, 0, none⟩) 2 f.kc)) := c5
 have X1 := Lib.hid HR.out.a.c1
 have HGZ : Hid (g ≠ G + 1) := by show _ ≠ _; have := HR.out.hb g hgb; have := HG.out; omega
 clear e hc0 hc1 np nq c5 hgb
 refine region_Z (fun W => W.cell? ⟨G, 5, none⟩ = some (.slice (some ⟨g, 0, none⟩) 2 f.kc) ∧ True ∧ C6 W g 0 1 2 3 4 5 p fp ∧ C6 W g 6 7 8 9 10 11 q fq) (fun i => false) (by kernel_rfl) ⟨X5.out, trivial, HC0.out.block rfl, HC1.out.block rfl⟩ (fun hHeld => ?_)
 refine tkf 0 rfl (v := ?_) ?_ ?_; rotate_left
 ·(intro w hSw; (try dsimp only at hSw); obtain ⟨hS5, hS1, ⟨u0, u1, u2, u3, u4, u5⟩, v0, v1, v2, v3, v4, v5⟩ := hSw; go_simp; try with_reducible rfl)
 (try simp only [Act.put, sZ])
 refine tkf 1 rfl (v := ?_) ?_ ?_; rotate_left
 ·(intro w hSw; (try dsimp only at hSw); obtain ⟨hS5, hS1, ⟨u0, u1, u2, u3, u4, u5⟩, v0, v1, v2, v3, v4, v5⟩ := hSw; go_simp; try with_reducible rfl)
 (try simp only [Act.put, sZ])
 refine tkf 2 rfl (v := ?_) ?_ ?_; rotate_left
 ·(intro w hSw; (try dsimp only at hSw); obtain ⟨hS5, hS1, ⟨u0, u1, u2, u3, u4, u5⟩, v0, v1, v2, v3, v4, v5⟩ := hSw; go_simp; try with_reducible rfl)
 (try simp only [Act.put, sZ])
 refine tkf 3 rfl (v := ?_) ?_ ?_; rotate_left
 ·(intro w hSw; (try dsimp only at hSw); obtain ⟨hS5, hS1, ⟨u0, u1, u2, u3, u4, u5⟩, v0, v1, v2, v3, v4, v5⟩ := hSw; go_simp; try with_reducible rfl)
 (try simp only [Act.put, sZ])
 refine tkf 4 rfl (v := ?_) ?_ ?_; rotate_left
 ·(intro w hSw; (try dsimp only at hSw); obtain ⟨hS5, hS1, ⟨u0, u1, u2, u3, u4, u5⟩, v0, v1, v2, v3, v4, v5⟩ := hSw; go_simp; try with_reducible rfl)
 (try simp only [Act.put, sZ])
 refine tkf 5 rfl (v := ?_) ?_ ?_; rotate_left
 ·(intro w hSw; (try dsimp only at hSw); obtain ⟨hS5, hS1, ⟨u0, u1, u2, u3, u4, u5⟩, v0, v1, v2, v3, v4, v5⟩ := hSw; go_simp; try with_reducible rfl)
 (try simp only [Act.put, sZ])
 refine tkf 6 rfl (v := ?_) ?_ ?_; rotate_left
 ·(intro w hSw; (try dsimp only at hSw); obtain ⟨hS5, hS1, ⟨u0, u1, u2, u3, u4, u5⟩, v0, v1, v2, v3, v4, v5⟩ := hSw; go_simp; try with_reducible rfl)
 (try simp only [Act.put, sZ])
 refine tkf 7 rfl (v := ?_) ?_ ?_; rotate_left
 ·(intro w hSw; (try dsimp only at hSw); obtain ⟨hS5, hS1, ⟨u0, u1, u2, u3, u4, u5⟩, v0, v1, v2, v3, v4, v5⟩ := hSw; go_simp; try with_reducible rfl)
 (try simp only [Act.put, sZ])
 refine stp 8 rfl (fun K hK => ?_)
 go_simp
 go_at_call 59
 have CS := Lib.hid (HPW.out w1.drew b fp (HNP.out.later (Below.refl _ _).drew (Nat.le_refl _)))
 unfold ndV at CS
 refine CS.out.mono ?_
 rintro e w4 ⟨rfl, b4⟩
 have B4 := Lib.hid ((Below.refl w1.heap.size w1).drew.trans b4)
 have HR4 := Lib.hid (HR.out.later B4.out)
 have HNQ4 := Lib.hid (HNQ.out.later B4.out (Nat.le_refl _))
 have X54 : Hid (w4.cell? ⟨G, 5, none⟩ = some (.slice (some ⟨g, 0, none⟩) 2 f.kc)) := (World.cell?_of_block (B4.out.block G HR.out.a.X.lt)).trans X5.out
 have HC04 := Lib.hid (HC0.out.block (B4.out.block g hgl))
 have HC14 := Lib.hid (HC1.out.block (B4.out.block g hgl))
 have hgl4 : g < w4.heap.size := Nat.lt_of_lt_of_le hgl B4.out.size
 refine hK.out _ _ (fun _ => ⟨X54.out, trivial, HC04.out, HC14.out⟩) (fun hHeld2 => ?_)
 clear hK K hHeld b4 CS HR HNQ HC0 HC1 HNP X5
 (try simp only [Act.put, sZ])
 obtain ⟨z0, z1, z2, z3, z4, z5⟩ := zeroC (HR4.out.z)
 obtain ⟨y0, y1, y2, y3, y4, y5⟩ := freeC (HR4.out.z)
 refine stp 9 rfl (fun K hK => ?_)
 go_simp
 have HZF : Hid (Whole ((((((w4.setCell ⟨(G + 1), 0, none⟩ (.int .i64 q.kd)).setCell ⟨(G + 1), 1, none⟩ (.string ⟨q.tx.toArray⟩)).setCell ⟨(G + 1), 2, none⟩ (.int .i64 q.nm)).setCell ⟨(G + 1), 3, none⟩ (.int .i64 (q.at_ : Int))).setCell ⟨(G + 1), 4, none⟩ (.slice fq.na q.ns.length fq.nc)).setCell ⟨(G + 1), 5, none⟩ (.slice fq.ka q.ks.length fq.kc)) (G + 1) 25 #[.int .i64 q.kd, .string ⟨q.tx.toArray⟩, .int .i64 q.nm, .int .i64 (q.at_ : Int), .slice fq.na q.ns.length fq.nc, .slice fq.ka q.ks.length fq.kc]) := put6 HR4.out.z _ _ _ _ _ _
 have HBF : Hid (But (G + 1) w4.heap.size w4 ((((((w4.setCell ⟨(G + 1), 0, none⟩ (.int .i64 q.kd)).setCell ⟨(G + 1), 1, none⟩ (.string ⟨q.tx.toArray⟩)).setCell ⟨(G + 1), 2, none⟩ (.int .i64 q.nm)).setCell ⟨(G + 1), 3, none⟩ (.int .i64 (q.at_ : Int))).setCell ⟨(G + 1), 4, none⟩ (.slice fq.na q.ns.length fq.nc)).setCell ⟨(G + 1), 5, none⟩ (.slice fq.ka q.ks.length fq.kc))) := but6 _ _ _ _ _ _ _ _
 generalize ((((((w4.setCell ⟨(G + 1), 0, none⟩ (.int .i64 q.kd)).setCell ⟨(G + 1), 1, none⟩ (.string ⟨q.tx.toArray⟩)).setCell ⟨(G + 1), 2, none⟩ (.int .i64 q.nm)).setCell ⟨(G + 1), 3, none⟩ (.int .i64 (q.at_ : Int))).setCell ⟨(G + 1), 4, none⟩ (.slice fq.na q.ns.length fq.nc)).setCell ⟨(G + 1), 5, none⟩ (.slice fq.ka q.ks.length fq.kc)) = wf at *
 refine hK.out _ _ (fun _ => ⟨(World.cell?_of_block (HBF.out.block G HR4.out.a.X.lt (by omega))).trans X54.out, trivial, HC04.out.block (HBF.out.block g hgl4 HGZ.out), HC14.out.block (HBF.out.block g hgl4 HGZ.out)⟩) (fun _ => ?_)
 clear hK K
 (try simp only [Act.put, sZ])
 refine stp 10 rfl (fun K hK => ?_)
 go_simp
 refine hK.out _ _ (fun _ => ⟨(World.cell?_of_block (HBF.out.block G HR4.out.a.X.lt (by omega))).trans X54.out, trivial, HC04.out.block (HBF.out.block g hgl4 HGZ.out), HC14.out.block (HBF.out.block g hgl4 HGZ.out)⟩) (fun _ => ?_)
 clear hK K
 (try simp only [Act.put, sZ])
 refine anyZ_done (by kernel_rfl) ?_ _
 go_wp2_with fail
 obtain ⟨g0, g1, g2, g3, g4, g5⟩ := cells6 HZF.out
 exact bodyPost_ret (v := .tuple #[ndV q fq, .bool (stillF p)]) (by simp [results, Try.results45, go_sem, ndV, Nd.kd, Nd.tx, Nd.nm, Nd.at_, Nd.ns, Nd.ks, fr0, nd0, g0, g1, g2, g3, g4, g5]) rfl ⟨q, (stillF p), fq, rfl, HR4.out.node HG.out HNQ4.out HBF.out, HR4.out.bel HG.out HBF.out, by rw [HRED.out]; by_cases h : stillF p = true <;> simp [h]⟩
set_option maxRecDepth 100000 in
set_option maxHeartbeats 8000000 in
theorem let_any (x : Nd) (hw : WfN x) (hwt : wtN x ≤ 100000) (h89 : x.kd = 8 ∨ x.kd = 9) (w : World) (b : Nat → Prop) (f : Fr) (hb : ∀ a, b a → a < w.heap.size) (hn : NodeIn w b x f) : Calls Try.prog 44 #[ndV x f] w (FoldPost w b x) := by
 obtain ⟨p, q, hks⟩ := hw.two (by omega)
 have HKS := Lib.hid hks
 have HRED := Lib.hid (red_let h89 hks)
 have HPW := Lib.hid (still_any p (hw.ks p (by rw [hks]; simp)))
 have HQW : Hid (WfN q) := hw.ks q (by rw [hks]; simp)
 have HQT : Hid (wtN q ≤ 100000) := Nat.le_trans (wt_kid (by rw [hks]; simp)) hwt
 clear h89 hks hwt
 have HR : Hid (Rg w ((w.alloc (.cells #[.int .i64 x.kd, .string ⟨x.tx.toArray⟩, .int .i64 x.nm, .int .i64 (x.at_ : Int), .slice f.na x.ns.length f.nc, .slice f.ka x.ks.length f.kc] 25)).alloc (.cells #[.int .i64 0, .string ⟨#[]⟩, .int .i64 0, .int .i64 0, .slice none 0 0, .slice none 0 0] 25)) b w.heap.size (w.heap.size + 1) x f) := Rg.start hn hb
 have HW := Lib.hid hw
 unfold ndV
 go_enter Try.func44, Try.ntmps44
 go_upto_region 1 with (fail)
 generalize ((w.alloc (.cells #[.int .i64 x.kd, .string ⟨x.tx.toArray⟩, .int .i64 x.nm, .int .i64 (x.at_ : Int), .slice f.na x.ns.length f.nc, .slice f.ka x.ks.length f.kc] 25)).alloc (.cells #[.int .i64 0, .string ⟨#[]⟩, .int .i64 0, .int .i64 0, .slice none 0 0, .slice none 0 0] 25)) = w1 at *
 obtain ⟨G, hG⟩ : ∃ G, w.heap.size = G := ⟨_, rfl⟩
 have HG := Lib.hid hG
 rw [hG] at HR
 simp only [hG]
 clear hG hn hb hw
 obtain ⟨g, fp, fq, e, ⟨hgl, hgb⟩, hc0, hc1, np, nq⟩ := kids2 HR.out.a.n HKS.out
 have HC0 := Lib.hid hc0
 have HC1 := Lib.hid hc1
 have HNP := Lib.hid np
 have HNQ := Lib.hid nq
 have c5 := HR.out.a.c5
 rw [e, HKS.out] at c5
 have X5 : Hid (w1.cell? ⟨G, 5, none⟩ = some (.slice (some ⟨g, 0, none⟩) 2 f.kc)) := c5
 have X1 := Lib.hid HR.out.a.c1
 have HGZ : Hid (g ≠ G + 1) := by show _ ≠ _; have := HR.out.hb g hgb; have := HG.out; omega
 clear e hc0 hc1 np nq c5 hgb
 refine region_Z (fun W => W.cell? ⟨G, 5, none⟩ = some (.slice (some ⟨g, 0, none⟩) 2 f.kc) ∧ W.cell? ⟨G, 1, none⟩ = some (.string ⟨x.tx.toArray⟩) ∧ C6 W g 0 1 2 3 4 5 p fp ∧ C6 W g 6 7 8 9 10 11 q fq) (fun i => false) (by kernel_rfl) ⟨X5.out, X1.out, HC0.out.block rfl, HC1.out.block rfl⟩ (fun hHeld => ?_)
 refine tkf 0 rfl (v := ?_) ?_ ?_; rotate_left
 ·(intro w hSw; (try dsimp only at hSw); obtain ⟨hS5, hS1, ⟨u0, u1, u2, u3, u4, u5⟩, v0, v1, v2, v3, v4, v5⟩ := hSw; go_simp; try with_reducible rfl)
 (try simp only [Act.put, sZ])
 refine tkf 1 rfl (v := ?_) ?_ ?_; rotate_left
 ·(intro w hSw; (try dsimp only at hSw); obtain ⟨hS5, hS1, ⟨u0, u1, u2, u3, u4, u5⟩, v0, v1, v2, v3, v4, v5⟩ := hSw; go_simp; try with_reducible rfl)
 (try simp only [Act.put, sZ])
 refine tkf 2 rfl (v := ?_) ?_ ?_; rotate_left
 ·(intro w hSw; (try dsimp only at hSw); obtain ⟨hS5, hS1, ⟨u0, u1, u2, u3, u4, u5⟩, v0, v1, v2, v3, v4, v5⟩ := hSw; go_simp; try with_reducible rfl)
 (try simp only [Act.put, sZ])
 refine tkf 3 rfl (v := ?_) ?_ ?_; rotate_left
 ·(intro w hSw; (try dsimp only at hSw); obtain ⟨hS5, hS1, ⟨u0, u1, u2, u3, u4, u5⟩, v0, v1, v2, v3, v4, v5⟩ := hSw; go_simp; try with_reducible rfl)
 (try simp only [Act.put, sZ])
 refine tkf 4 rfl (v := ?_) ?_ ?_; rotate_left
 ·(intro w hSw; (try dsimp only at hSw); obtain ⟨hS5, hS1, ⟨u0, u1, u2, u3, u4, u5⟩, v0, v1, v2, v3, v4, v5⟩ := hSw; go_simp; try with_reducible rfl)
 (try simp only [Act.put, sZ])
 refine tkf 5 rfl (v := ?_) ?_ ?_; rotate_left
 ·(intro w hSw; (try dsimp only at hSw); obtain ⟨hS5, hS1, ⟨u0, u1, u2, u3, u4, u5⟩, v0, v1, v2, v3, v4, v5⟩ := hSw; go_simp; try with_reducible rfl)
 (try simp only [Act.put, sZ])
 refine tkf 6 rfl (v := ?_) ?_ ?_; rotate_left
 ·(intro w hSw; (try dsimp only at hSw); obtain ⟨hS5, hS1, ⟨u0, u1, u2, u3, u4, u5⟩, v0, v1, v2, v3, v4, v5⟩ := hSw; go_simp; try with_reducible rfl)
 (try simp only [Act.put, sZ])
 refine tkf 7 rfl (v := ?_) ?_ ?_; rotate_left
 ·(intro w hSw; (try dsimp only at hSw); obtain ⟨hS5, hS1, ⟨u0, u1, u2, u3, u4, u5⟩, v0, v1, v2, v3, v4, v5⟩ := hSw; go_simp; try with_reducible rfl)
 (try simp only [Act.put, sZ])
 refine stp 8 rfl (fun K hK => ?_)
 go_simp
 go_at_call 59
 have CS := Lib.hid (HPW.out w1.drew b fp (HNP.out.later (Below.refl _ _).drew (Nat.le_refl _)))
 unfold ndV at CS
 refine CS.out.mono ?_
 rintro e w4 ⟨rfl, b4⟩
 have B4 := Lib.hid ((Below.refl w1.heap.size w1).drew.trans b4)
 have HR4 := Lib.hid (HR.out.later B4.out)
 have HNQ4 := Lib.hid (HNQ.out.later B4.out (Nat.le_refl _))
 have X54 : Hid (w4.cell? ⟨G, 5, none⟩ = some (.slice (some ⟨g, 0, none⟩) 2 f.kc)) := (World.cell?_of_block (B4.out.block G HR.out.a.X.lt)).trans X5.out
 have X14 : Hid (w4.cell? ⟨G, 1, none⟩ = some (.string ⟨x.tx.toArray⟩)) := (World.cell?_of_block (B4.out.block G HR.out.a.X.lt)).trans X1.out
 have HC04 := Lib.hid (HC0.out.block (B4.out.block g hgl))
 have HC14 := Lib.hid (HC1.out.block (B4.out.block g hgl))
 have hgl4 : g < w4.heap.size := Nat.lt_of_lt_of_le hgl B4.out.size
 refine hK.out _ _ (fun _ => ⟨X54.out, X14.out, HC04.out, HC14.out⟩) (fun hHeld2 => ?_)
 replace hHeld2 := hHeld2 rfl
 clear hK K hHeld b4 CS HR HNQ HC0 HC1 HNP X5 X1 B4
 obtain ⟨sb, hsb⟩ : ∃ sb, stillF p = sb := ⟨_, rfl⟩
 rw [hsb] at HRED ⊢
 clear hsb
 (try simp only [Act.put, sZ])
 rcases sb with _ | _
 ·have HRD : Hid (redF x = x) := HRED.out
  refine tkf 9 rfl (v := ?_) ?_ ?_; rotate_left
  ·(intro w hSw; (try dsimp only at hSw); obtain ⟨hS5, hS1, ⟨u0, u1, u2, u3, u4, u5⟩, v0, v1, v2, v3, v4, v5⟩ := hSw; go_simp; try with_reducible rfl)
  (try simp only [Act.put, sZ])
  refine anyZ_take (i := 10) (v := undef) rfl (by kernel_rfl) (by kernel_rfl) (by kernel_rfl) (by kernel_rfl) (by kernel_rfl) (fun k hk => by have hk2 : 22 ≤ k := hk; rfl) (fun _ _ _ h => h) (Or.inr ⟨by rfl, rfl⟩) (by assumption) ?_
  (try simp only [Act.put, sZ])
  refine anyZ_take (i := 11) (v := undef) rfl (by kernel_rfl) (by kernel_rfl) (by kernel_rfl) (by kernel_rfl) (by kernel_rfl) (fun k hk => by have hk2 : 22 ≤ k := hk; rfl) (fun _ _ _ h => h) (Or.inr ⟨by rfl, rfl⟩) (by assumption) ?_
  (try simp only [Act.put, sZ])
  refine anyZ_take (i := 12) (v := undef) rfl (by kernel_rfl) (by kernel_rfl) (by kernel_rfl) (by kernel_rfl) (by kernel_rfl) (fun k hk => by have hk2 : 22 ≤ k := hk; rfl) (fun _ _ _ h => h) (Or.inr ⟨by rfl, rfl⟩) (by assumption) ?_
  (try simp only [Act.put, sZ])
  refine anyZ_take (i := 13) (v := undef) rfl (by kernel_rfl) (by kernel_rfl) (by kernel_rfl) (by kernel_rfl) (by kernel_rfl) (fun k hk => by have hk2 : 22 ≤ k := hk; rfl) (fun _ _ _ h => h) (Or.inr ⟨by rfl, rfl⟩) (by assumption) ?_
  (try simp only [Act.put, sZ])
  refine anyZ_take (i := 14) (v := undef) rfl (by kernel_rfl) (by kernel_rfl) (by kernel_rfl) (by kernel_rfl) (by kernel_rfl) (fun k hk => by have hk2 : 22 ≤ k := hk; rfl) (fun _ _ _ h => h) (Or.inr ⟨by rfl, rfl⟩) (by assumption) ?_
  (try simp only [Act.put, sZ])
  refine anyZ_take (i := 15) (v := undef) rfl (by kernel_rfl) (by kernel_rfl) (by kernel_rfl) (by kernel_rfl) (by kernel_rfl) (fun k hk => by have hk2 : 22 ≤ k := hk; rfl) (fun _ _ _ h => h) (Or.inr ⟨by rfl, rfl⟩) (by assumption) ?_
  (try simp only [Act.put, sZ])
  refine anyZ_take (i := 16) (v := undef) rfl (by kernel_rfl) (by kernel_rfl) (by kernel_rfl) (by kernel_rfl) (by kernel_rfl) (fun k hk => by have hk2 : 22 ≤ k := hk; rfl) (fun _ _ _ h => h) (Or.inr ⟨by rfl, rfl⟩) (by assumption) ?_
  (try simp only [Act.put, sZ])
  refine anyZ_take (i := 17) (v := undef) rfl (by kernel_rfl) (by kernel_rfl) (by kernel_rfl) (by kernel_rfl) (by kernel_rfl) (fun k hk => by have hk2 : 22 ≤ k := hk; rfl) (fun _ _ _ h => h) (Or.inr ⟨by rfl, rfl⟩) (by assumption) ?_
  (try simp only [Act.put, sZ])
  refine anyZ_take (i := 18) (v := undef) rfl (by kernel_rfl) (by kernel_rfl) (by kernel_rfl) (by kernel_rfl) (by kernel_rfl) (fun k hk => by have hk2 : 22 ≤ k := hk; rfl) (fun _ _ _ h => h) (Or.inr ⟨by rfl, rfl⟩) (by assumption) ?_
  (try simp only [Act.put, sZ])
  refine tkf 19 rfl (v := ?_) ?_ ?_; rotate_left
  ·(intro w hSw; (try dsimp only at hSw); obtain ⟨hS5, hS1, ⟨u0, u1, u2, u3, u4, u5⟩, v0, v1, v2, v3, v4, v5⟩ := hSw; go_simp; try with_reducible rfl)
  (try simp only [Act.put, sZ])
  obtain ⟨z0, z1, z2, z3, z4, z5⟩ := zeroC (HR4.out.z)
  obtain ⟨y0, y1, y2, y3, y4, y5⟩ := freeC (HR4.out.z)
  refine stp 20 rfl (fun K hK => ?_)
  go_simp
  have HZF : Hid (Whole ((((((w4.setCell ⟨(G + 1), 0, none⟩ (.int .i64 q.kd)).setCell ⟨(G + 1), 1, none⟩ (.string ⟨q.tx.toArray⟩)).setCell ⟨(G + 1), 2, none⟩ (.int .i64 q.nm)).setCell ⟨(G + 1), 3, none⟩ (.int .i64 (q.at_ : Int))).setCell ⟨(G + 1), 4, none⟩ (.slice fq.na q.ns.length fq.nc)).setCell ⟨(G + 1), 5, none⟩ (.slice fq.ka q.ks.length fq.kc)) (G + 1) 25 #[.int .i64 q.kd, .string ⟨q.tx.toArray⟩, .int .i64 q.nm, .int .i64 (q.at_ : Int), .slice fq.na q.ns.length fq.nc, .slice fq.ka q.ks.length fq.kc]) := put6 HR4.out.z _ _ _ _ _ _
  have HBF : Hid (But (G + 1) w4.heap.size w4 ((((((w4.setCell ⟨(G + 1), 0, none⟩ (.int .i64 q.kd)).setCell ⟨(G + 1), 1, none⟩ (.string ⟨q.tx.toArray⟩)).setCell ⟨(G + 1), 2, none⟩ (.int .i64 q.nm)).setCell ⟨(G + 1), 3, none⟩ (.int .i64 (q.at_ : Int))).setCell ⟨(G + 1), 4, none⟩ (.slice fq.na q.ns.length fq.nc)).setCell ⟨(G + 1), 5, none⟩ (.slice fq.ka q.ks.length fq.kc))) := but6 _ _ _ _ _ _ _ _
  generalize ((((((w4.setCell ⟨(G + 1), 0, none⟩ (.int .i64 q.kd)).setCell ⟨(G + 1), 1, none⟩ (.string ⟨q.tx.toArray⟩)).setCell ⟨(G + 1), 2, none⟩ (.int .i64 q.nm)).setCell ⟨(G + 1), 3, none⟩ (.int .i64 (q.at_ : Int))).setCell ⟨(G + 1), 4, none⟩ (.slice fq.na q.ns.length fq.nc)).setCell ⟨(G + 1), 5, none⟩ (.slice fq.ka q.ks.length fq.kc)) = wf at *
  refine hK.out _ _ (fun _ => ⟨(World.cell?_of_block (HBF.out.block G HR4.out.a.X.lt (by omega))).trans X54.out, (World.cell?_of_block (HBF.out.block G HR4.out.a.X.lt (by omega))).trans X14.out, HC04.out.block (HBF.out.block g hgl4 HGZ.out), HC14.out.block (HBF.out.block g hgl4 HGZ.out)⟩) (fun _ => ?_)
  clear hK K
  (try simp only [Act.put, sZ])
  refine stp 21 rfl (fun K hK => ?_)
  go_simp
  refine hK.out _ _ (fun _ => ⟨(World.cell?_of_block (HBF.out.block G HR4.out.a.X.lt (by omega))).trans X54.out, (World.cell?_of_block (HBF.out.block G HR4.out.a.X.lt (by omega))).trans X14.out, HC04.out.block (HBF.out.block g hgl4 HGZ.out), HC14.out.block (HBF.out.block g hgl4 HGZ.out)⟩) (fun _ => ?_)
  clear hK K
  (try simp only [Act.put, sZ])
  refine anyZ_done (by kernel_rfl) ?_ _
  go_wp2_with fail
  obtain ⟨g0, g1, g2, g3, g4, g5⟩ := cells6 HZF.out
  exact bodyPost_ret (v := .tuple #[ndV q fq, .bool false]) (by simp [results, Try.results44, go_sem, ndV, Nd.kd, Nd.tx, Nd.nm, Nd.at_, Nd.ns, Nd.ks, fr0, nd0, g0, g1, g2, g3, g4, g5]) rfl ⟨q, false, fq, rfl, HR4.out.node HG.out HNQ4.out HBF.out, HR4.out.bel HG.out HBF.out, by simp [HRD.out]⟩
 ·have HRD : Hid (redF x = if !occF q x.tx then q else x) := by show _ = _; rw [HRED.out]; simp
  obtain ⟨M, hM⟩ : ∃ M, freeF q [] [] = M := ⟨_, rfl⟩
  have HOC : Hid (hasB M x.tx = occF q x.tx) := by show _ = _; rw [← hM]; exact free_occ HQW.out x.tx
  have HML : Hid (M.length ≤ 100000) := by
   have h1 := freeF_len q [] []
   have h2 := HQT.out
   show _ ≤ _
   rw [hM] at h1
   simp only [List.length_nil] at h1; omega
  have CF := Lib.hid (frees_any q HQW.out HQT.out w4 b fq (fun a ha => Nat.lt_of_lt_of_le (HR4.out.hb a ha) HR4.out.a.bel.size) HNQ4.out)
  rw [hM] at CF
  unfold ndV at CF
  clear hM
  refine tkf 9 rfl (v := ?_) ?_ ?_; rotate_left
  ·(intro w hSw; (try dsimp only at hSw); obtain ⟨hS5, hS1, ⟨u0, u1, u2, u3, u4, u5⟩, v0, v1, v2, v3, v4, v5⟩ := hSw; go_simp; try with_reducible rfl)
  (try simp only [Act.put, sZ])
  refine tkf 10 rfl (v := ?_) ?_ ?_; rotate_left
  ·(intro w hSw; (try dsimp only at hSw); obtain ⟨hS5, hS1, ⟨u0, u1, u2, u3, u4, u5⟩, v0, v1, v2, v3, v4, v5⟩ := hSw; go_simp; try with_reducible rfl)
  (try simp only [Act.put, sZ])
  refine tkf 11 rfl (v := ?_) ?_ ?_; rotate_left
  ·(intro w hSw; (try dsimp only at hSw); obtain ⟨hS5, hS1, ⟨u0, u1, u2, u3, u4, u5⟩, v0, v1, v2, v3, v4, v5⟩ := hSw; go_simp; try with_reducible rfl)
  (try simp only [Act.put, sZ])
  refine tkf 12 rfl (v := ?_) ?_ ?_; rotate_left
  ·(intro w hSw; (try dsimp only at hSw); obtain ⟨hS5, hS1, ⟨u0, u1, u2, u3, u4, u5⟩, v0, v1, v2, v3, v4, v5⟩ := hSw; go_simp; try with_reducible rfl)
  (try simp only [Act.put, sZ])
  refine tkf 13 rfl (v := ?_) ?_ ?_; rotate_left
  ·(intro w hSw; (try dsimp only at hSw); obtain ⟨hS5, hS1, ⟨u0, u1, u2, u3, u4, u5⟩, v0, v1, v2, v3, v4, v5⟩ := hSw; go_simp; try with_reducible rfl)
  (try simp only [Act.put, sZ])
  refine tkf 15 rfl (v := ?_) ?_ ?_; rotate_left
  ·(intro w hSw; (try dsimp only at hSw); obtain ⟨hS5, hS1, ⟨u0, u1, u2, u3, u4, u5⟩, v0, v1, v2, v3, v4, v5⟩ := hSw; go_simp; try with_reducible rfl)
  (try simp only [Act.put, sZ])
  refine tkf 16 rfl (v := ?_) ?_ ?_; rotate_left
  ·(intro w hSw; (try dsimp only at hSw); obtain ⟨hS5, hS1, ⟨u0, u1, u2, u3, u4, u5⟩, v0, v1, v2, v3, v4, v5⟩ := hSw; go_simp; try with_reducible rfl)
  (try simp only [Act.put, sZ])
  refine stp 14 rfl (fun K hK => ?_)
  go_simp
  go_at_call 13
  refine CF.out.mono ?_
  rintro e w5 ⟨A9, k9, rfl, ho5, b5⟩
  have HO5 := Lib.hid ho5
  have B5 := Lib.hid b5
  have HR5 := Lib.hid (HR4.out.later b5)
  have HNQ5 := Lib.hid (HNQ4.out.later b5 (Nat.le_refl _))
  have X55 : Hid (w5.cell? ⟨G, 5, none⟩ = some (.slice (some ⟨g, 0, none⟩) 2 f.kc)) := (World.cell?_of_block (b5.block G HR4.out.a.X.lt)).trans X54.out
  have X15 : Hid (w5.cell? ⟨G, 1, none⟩ = some (.string ⟨x.tx.toArray⟩)) := (World.cell?_of_block (b5.block G HR4.out.a.X.lt)).trans X14.out
  have HC05 := Lib.hid (HC04.out.block (b5.block g hgl4))
  have HC15 := Lib.hid (HC14.out.block (b5.block g hgl4))
  have hgl5 : g < w5.heap.size := Nat.lt_of_lt_of_le hgl4 b5.size
  have CC := Lib.hid (contains_any M HML.out x.tx w5 _ A9 k9 (own_str ho5.row))
  refine hK.out _ _ (fun _ => ⟨X55.out, X15.out, HC05.out, HC15.out⟩) (fun hHeld3 => ?_)
  replace hHeld3 := hHeld3 rfl
  clear hK K hHeld2 b5 ho5 CF HR4 HNQ4 HC04 HC14 X54 X14 B5 hgl4
  (try simp only [Act.put, sZ])
  refine stp 17 rfl (fun K hK => ?_)
  go_simp
  go_at_call 47
  refine CC.out.mono ?_
  rintro e w6 ⟨rfl, b6⟩
  have HR6 := Lib.hid (HR5.out.later b6)
  have HNQ6 := Lib.hid (HNQ5.out.later b6 (Nat.le_refl _))
  have X56 : Hid (w6.cell? ⟨G, 5, none⟩ = some (.slice (some ⟨g, 0, none⟩) 2 f.kc)) := (World.cell?_of_block (b6.block G HR5.out.a.X.lt)).trans X55.out
  have X16 : Hid (w6.cell? ⟨G, 1, none⟩ = some (.string ⟨x.tx.toArray⟩)) := (World.cell?_of_block (b6.block G HR5.out.a.X.lt)).trans X15.out
  have HC06 := Lib.hid (HC05.out.block (b6.block g hgl5))
  have HC16 := Lib.hid (HC15.out.block (b6.block g hgl5))
  refine hK.out _ _ (fun _ => ⟨X56.out, X16.out, HC06.out, HC16.out⟩) (fun hHeld4 => ?_)
  replace hHeld4 := hHeld4 rfl
  have hgl6 : g < w6.heap.size := Nat.lt_of_lt_of_le hgl5 b6.size
  clear hK K hHeld3 b6 CC HR5 HNQ5 HC05 HC15 X55 X15 hgl5
  obtain ⟨hb, hhb⟩ : ∃ hb, hasB M x.tx = hb := ⟨_, rfl⟩
  rw [hhb] at HOC ⊢
  clear hhb
  (try simp only [Act.put, sZ])
  refine tkf 18 rfl (v := ?_) ?_ ?_; rotate_left
  ·(intro w hSw; (try dsimp only at hSw); obtain ⟨hS5, hS1, ⟨u0, u1, u2, u3, u4, u5⟩, v0, v1, v2, v3, v4, v5⟩ := hSw; go_simp; try with_reducible rfl)
  (try simp only [Act.put, sZ])
  refine tkf 19 rfl (v := ?_) ?_ ?_; rotate_left
  ·(intro w hSw; (try dsimp only at hSw); obtain ⟨hS5, hS1, ⟨u0, u1, u2, u3, u4, u5⟩, v0, v1, v2, v3, v4, v5⟩ := hSw; go_simp; try with_reducible rfl)
  (try simp only [Act.put, sZ])
  obtain ⟨z0, z1, z2, z3, z4, z5⟩ := zeroC (HR6.out.z)
  obtain ⟨y0, y1, y2, y3, y4, y5⟩ := freeC (HR6.out.z)
  refine stp 20 rfl (fun K hK => ?_)
  go_simp
  have HZF : Hid (Whole ((((((w6.setCell ⟨(G + 1), 0, none⟩ (.int .i64 q.kd)).setCell ⟨(G + 1), 1, none⟩ (.string ⟨q.tx.toArray⟩)).setCell ⟨(G + 1), 2, none⟩ (.int .i64 q.nm)).setCell ⟨(G + 1), 3, none⟩ (.int .i64 (q.at_ : Int))).setCell ⟨(G + 1), 4, none⟩ (.slice fq.na q.ns.length fq.nc)).setCell ⟨(G + 1), 5, none⟩ (.slice fq.ka q.ks.length fq.kc)) (G + 1) 25 #[.int .i64 q.kd, .string ⟨q.tx.toArray⟩, .int .i64 q.nm, .int .i64 (q.at_ : Int), .slice fq.na q.ns.length fq.nc, .slice fq.ka q.ks.length fq.kc]) := put6 HR6.out.z _ _ _ _ _ _
  have HBF : Hid (But (G + 1) w6.heap.size w6 ((((((w6.setCell ⟨(G + 1), 0, none⟩ (.int .i64 q.kd)).setCell ⟨(G + 1), 1, none⟩ (.string ⟨q.tx.toArray⟩)).setCell ⟨(G + 1), 2, none⟩ (.int .i64 q.nm)).setCell ⟨(G + 1), 3, none⟩ (.int .i64 (q.at_ : Int))).setCell ⟨(G + 1), 4, none⟩ (.slice fq.na q.ns.length fq.nc)).setCell ⟨(G + 1), 5, none⟩ (.slice fq.ka q.ks.length fq.kc))) := but6 _ _ _ _ _ _ _ _
  generalize ((((((w6.setCell ⟨(G + 1), 0, none⟩ (.int .i64 q.kd)).setCell ⟨(G + 1), 1, none⟩ (.string ⟨q.tx.toArray⟩)).setCell ⟨(G + 1), 2, none⟩ (.int .i64 q.nm)).setCell ⟨(G + 1), 3, none⟩ (.int .i64 (q.at_ : Int))).setCell ⟨(G + 1), 4, none⟩ (.slice fq.na q.ns.length fq.nc)).setCell ⟨(G + 1), 5, none⟩ (.slice fq.ka q.ks.length fq.kc)) = wf at *
  refine hK.out _ _ (fun _ => ⟨(World.cell?_of_block (HBF.out.block G HR6.out.a.X.lt (by omega))).trans X56.out, (World.cell?_of_block (HBF.out.block G HR6.out.a.X.lt (by omega))).trans X16.out, HC06.out.block (HBF.out.block g hgl6 HGZ.out), HC16.out.block (HBF.out.block g hgl6 HGZ.out)⟩) (fun _ => ?_)
  clear hK K
  (try simp only [Act.put, sZ])
  refine stp 21 rfl (fun K hK => ?_)
  go_simp
  refine hK.out _ _ (fun _ => ⟨(World.cell?_of_block (HBF.out.block G HR6.out.a.X.lt (by omega))).trans X56.out, (World.cell?_of_block (HBF.out.block G HR6.out.a.X.lt (by omega))).trans X16.out, HC06.out.block (HBF.out.block g hgl6 HGZ.out), HC16.out.block (HBF.out.block g hgl6 HGZ.out)⟩) (fun _ => ?_)
  clear hK K
  (try simp only [Act.put, sZ])
  refine anyZ_done (by kernel_rfl) ?_ _
  go_wp2_with fail
  obtain ⟨g0, g1, g2, g3, g4, g5⟩ := cells6 HZF.out
  exact bodyPost_ret (v := .tuple #[ndV q fq, .bool (!hb)]) (by simp [results, Try.results44, go_sem, ndV, Nd.kd, Nd.tx, Nd.nm, Nd.at_, Nd.ns, Nd.ks, fr0, nd0, g0, g1, g2, g3, g4, g5]) rfl ⟨q, (!hb), fq, rfl, HR6.out.node HG.out HNQ6.out HBF.out, HR6.out.bel HG.out HBF.out, by rw [HRD.out, ← HOC.out]; cases hb <;> simp⟩
end Go.Proofs.Ytgjchgmlogbmmaa
