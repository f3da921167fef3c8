/- The walks of layer 11: a program is folded: plain facts, and what is held. -/
import Derived.KernelRfl
import Derived.Test.YtgjchgmlogbmmaaRH
namespace Go.Proofs.Ytgjchgmlogbmmaa
open Go.RowKit
set_option linter.unusedVariables false
set_option linter.unusedSimpArgs false

/-- What kid number i of n comes to. -/
def pkF (n i : Nat) (y : Nd) : Nd := if i + 1 = n then expN y else declN y
/-- Kids of a program, the first k of them folded. -/
def pgF (ks : List Nd) (k : Nat) : List Nd := ks.mapIdx fun i y => if i < k then pkF ks.length i y else y
theorem pg_len (ks : List Nd) (k : Nat) : (pgF ks k).length = ks.length := by simp [pgF]
theorem pg_get (ks : List Nd) (k j : Nat) : (pgF ks k)[j]? = ks[j]?.map fun y => if j < k then pkF ks.length j y else y := by simp [pgF, List.getElem?_mapIdx]
theorem get_of {ks : List Nd} {k : Nat} (h : k < ks.length) : ks[k]? = some (ks.getD k nd0) := by rw [List.getD_eq_getElem?_getD, List.getElem?_eq_getElem h]; rfl
theorem pg_zero (ks : List Nd) : pgF ks 0 = ks := by
 apply List.ext_getElem?; intro j; rw [pg_get]; cases ks[j]? <;> simp
theorem pg_at {ks : List Nd} {k : Nat} (h : k < ks.length) : (pgF ks k)[k]? = some (ks.getD k nd0) := by rw [pg_get, get_of h]; simp
theorem pg_step {ks : List Nd} {k : Nat} (h : k < ks.length) : pgF ks (k + 1) = (pgF ks k).set k (pkF ks.length k (ks.getD k nd0)) := by
 apply List.ext_getElem?; intro j
 rw [pg_get, List.getElem?_set, pg_get, pg_len]
 by_cases e : k = j
 ·subst e; rw [if_pos rfl, if_pos h, get_of h]; simp
 ·rw [if_neg e]
  by_cases h1 : j < k
  ·simp only [h1, show j < k + 1 by omega, if_true]
  ·simp only [h1, show ¬ j < k + 1 by omega, if_false]
theorem set_same {l : List Nd} {k : Nat} {y : Nd} (h : l[k]? = some y) : l.set k y = l := by
 apply List.ext_getElem?; intro j
 rw [List.getElem?_set]
 by_cases e : k = j
 ·subst e; rw [if_pos rfl, if_pos (List.getElem?_eq_some_iff.1 h).1, h]
 ·rw [if_neg e]
theorem pg_end (ks : List Nd) : pgF ks ks.length = progK ks := by
 apply List.ext_getElem?; intro j
 rw [pg_get, progK_get]; unfold pkF
 by_cases h : j < ks.length
 ·simp only [h, if_true]
 ·rw [List.getElem?_eq_none (by omega)]; rfl
/-- Kids, all of them exps, the first k of them folded. -/
def dkF (ks : List Nd) (k : Nat) : List Nd := ks.mapIdx fun i y => if i < k then expN y else y
theorem dk_len (ks : List Nd) (k : Nat) : (dkF ks k).length = ks.length := by simp [dkF]
theorem dk_get (ks : List Nd) (k j : Nat) : (dkF ks k)[j]? = ks[j]?.map fun y => if j < k then expN y else y := by simp [dkF, List.getElem?_mapIdx]
theorem dk_zero (ks : List Nd) : dkF ks 0 = ks := by
 apply List.ext_getElem?; intro j; rw [dk_get]; cases ks[j]? <;> simp
theorem dk_at {ks : List Nd} {k : Nat} (h : k < ks.length) : (dkF ks k)[k]? = some (ks.getD k nd0) := by rw [dk_get, get_of h]; simp
theorem dk_step {ks : List Nd} {k : Nat} (h : k < ks.length) : dkF ks (k + 1) = (dkF ks k).set k (expN (ks.getD k nd0)) := by
 apply List.ext_getElem?; intro j
 rw [dk_get, List.getElem?_set, dk_get, dk_len]
 by_cases e : k = j
 ·subst e; rw [if_pos rfl, if_pos h, get_of h]; simp
 ·rw [if_neg e]
  by_cases h1 : j < k
  ·simp only [h1, show j < k + 1 by omega, if_true]
  ·simp only [h1, show ¬ j < k + 1 by omega, if_false]
theorem dk_end (ks : List Nd) : dkF ks ks.length = ks.map expN := by
 apply List.ext_getElem?; intro j
 rw [dk_get, List.getElem?_map]
 by_cases h : j < ks.length
 ·simp only [h, if_true]
 ·rw [List.getElem?_eq_none (by omega)]; rfl
/-- The node that is changed, in block G: its kids are a row of the call's own. -/
structure PIn (w wr : World) (b B : Nat → Prop) (G S1 : Nat) (x : Nd) (f : Fr) (ys : List Nd) (A : Option Addr) (c : Nat) : Prop where
 o : Whole wr G 25 #[.int .i64 x.kd, .string ⟨x.tx.toArray⟩, .int .i64 x.nm, .int .i64 (x.at_ : Int), .slice f.na x.ns.length f.nc, .slice A x.ks.length c]
 z : Whole wr (G + 1) 25 #[.int .i64 0, .string ⟨#[]⟩, .int .i64 0, .int .i64 0, .slice none 0 0, .slice none 0 0]
 n : NodeIn wr b x f
 k : KRow wr S1 B ys A c
 bel : Below w.heap.size w wr
 hb : ∀ a, b a → a < w.heap.size
 s : S1 ≤ wr.heap.size
section
variable {w wr w2 : World} {b B : Nat → Prop} {G S1 : Nat} {x : Nd} {f : Fr} {ys : List Nd} {A : Option Addr} {c : Nat}
theorem PIn.below (h : PIn w wr b B G S1 x f ys A c) (hb : Below wr.heap.size wr w2) : PIn w w2 b B G S1 x f ys A c :=
 ⟨h.o.below hb h.o.lt, h.z.below hb h.z.lt, h.n.later hb (Nat.le_refl _), h.k.below hb (Nat.le_refl _), h.bel.trans (hb.mono h.bel.size), h.hb, Nat.le_trans h.s hb.size⟩
theorem PIn.start (h : Rg w wr b G (G + 1) x f) (hk : KRow wr S1 B x.ks A c) (hs : S1 ≤ wr.heap.size) (hG : w.heap.size = G) (hGS : G + 1 < S1) (hBD : ∀ a, B a ↔ (b a ∨ S1 ≤ a)) : PIn w (wr.setCell ⟨G, 5, none⟩ (.slice A x.ks.length c)) b B G S1 x f x.ks A c := by
 have hfr : ∀ a, a ≠ G → (wr.setCell ⟨G, 5, none⟩ (.slice A x.ks.length c)).heap[a]? = wr.heap[a]? := fun a ha => Below.heap_setCell wr ⟨G, 5, none⟩ _ a ha
 have hbG : ∀ a, b a → a ≠ G := fun a ha e => by have := h.hb a ha; omega
 refine ⟨h.a.X.put 5 _, h.z.far (by show G + 1 ≠ G; omega) _, h.a.n.frame (by simp [World.setCell]) fun a ha _ => hfr a (hbG a ha), hk.frame (by simp [World.setCell]) fun a hl ha => hfr a ?_, h.a.bel.setCell (by show w.heap.size ≤ G; omega) _, h.hb, by simp [World.setCell]; exact hs⟩
 rcases ha with ha | ha
 ·omega
 ·rcases (hBD a).1 ha with h1 | h1
  ·exact hbG a h1
  ·omega
theorem PIn.put {g i : Nat} {y : Nd} {fy : Fr} (h : PIn w wr b B G S1 x f ys (some ⟨g, 0, none⟩) c) (hi : i < ys.length) (hgS : S1 ≤ g) (hG : w.heap.size = G) (hGS : G + 1 < S1) (hn : NodeIn wr (fun a => B a ∧ a ≠ g) y fy) :
  ∃ wf, Hid (PIn w wf b B G S1 x f (ys.set i y) (some ⟨g, 0, none⟩) c) ∧ ((((((wr.setCell ⟨g, i * 6, none⟩ (.int .i64 y.kd)).setCell ⟨g, i * 6 + 1, none⟩ (.string ⟨y.tx.toArray⟩)).setCell ⟨g, i * 6 + 2, none⟩ (.int .i64 y.nm)).setCell ⟨g, i * 6 + 3, none⟩ (.int .i64 (y.at_ : Int))).setCell ⟨g, i * 6 + 4, none⟩ (.slice fy.na y.ns.length fy.nc)).setCell ⟨g, i * 6 + 5, none⟩ (.slice fy.ka y.ks.length fy.kc)) = wf := by
 refine ⟨_, ?_, rfl⟩
 have hb6 := kid_below wr g (i * 6) (.int .i64 y.kd) (.string ⟨y.tx.toArray⟩) (.int .i64 y.nm) (.int .i64 (y.at_ : Int)) (.slice fy.na y.ns.length fy.nc) (.slice fy.ka y.ks.length fy.kc)
 exact ⟨h.o.below hb6 (by omega), h.z.below hb6 (by omega), h.n.frame hb6.size fun a ha _ => hb6.block a (by have := h.hb a ha; omega), h.k.put hi hn, h.bel.trans (hb6.mono (by omega)), h.hb, Nat.le_trans h.s hb6.size⟩
end
/-- A kid's copy in block N, its kids a row of its own. -/
structure DIn (wr wc : World) (N S2 : Nat) (B2 : Nat → Prop) (y : Nd) (fy : Fr) (ys : List Nd) (A : Option Addr) (c : Nat) : Prop where
 bel : Below N wr wc
 o : Whole wc N 25 #[.int .i64 y.kd, .string ⟨y.tx.toArray⟩, .int .i64 y.nm, .int .i64 (y.at_ : Int), .slice fy.na y.ns.length fy.nc, .slice A y.ks.length c]
 k : KRow wc S2 B2 ys A c
 s : S2 ≤ wc.heap.size
section
variable {wr wc w2 : World} {B2 : Nat → Prop} {N S2 : Nat} {y : Nd} {fy : Fr} {ys : List Nd} {A : Option Addr} {c : Nat}
theorem DIn.below (h : DIn wr wc N S2 B2 y fy ys A c) (hN : N < S2) (hb : Below wc.heap.size wc w2) : DIn wr w2 N S2 B2 y fy ys A c :=
 ⟨h.bel.trans (hb.mono (by have := h.s; omega)), h.o.below hb h.o.lt, h.k.below hb (Nat.le_refl _), Nat.le_trans h.s hb.size⟩
theorem DIn.start (hb : Below N wr wc) (ho : Whole wc N 25 #[.int .i64 y.kd, .string ⟨y.tx.toArray⟩, .int .i64 y.nm, .int .i64 (y.at_ : Int), .slice fy.na y.ns.length fy.nc, .slice fy.ka y.ks.length fy.kc]) (hk : KRow wc S2 B2 y.ks A c) (hs : S2 ≤ wc.heap.size) (hN : N < S2) (hB : ∀ a, B2 a → a < N ∨ S2 ≤ a) :
  DIn wr (wc.setCell ⟨N, 5, none⟩ (.slice A y.ks.length c)) N S2 B2 y fy y.ks A c := by
 refine ⟨hb.setCell (Nat.le_refl _) _, ho.put 5 _, hk.frame (by simp [World.setCell]) fun a hl ha => Below.heap_setCell wc ⟨N, 5, none⟩ _ a ?_, by simp [World.setCell]; exact hs⟩
 show a ≠ N
 rcases ha with ha | ha
 ·omega
 ·have := hB a ha; omega
theorem DIn.put {g i : Nat} {z : Nd} {fz : Fr} (h : DIn wr wc N S2 B2 y fy ys (some ⟨g, 0, none⟩) c) (hi : i < ys.length) (hgS : S2 ≤ g) (hN : N < S2) (hn : NodeIn wc (fun a => B2 a ∧ a ≠ g) z fz) :
  ∃ wf, Hid (DIn wr wf N S2 B2 y fy (ys.set i z) (some ⟨g, 0, none⟩) c) ∧ ((((((wc.setCell ⟨g, i * 6, none⟩ (.int .i64 z.kd)).setCell ⟨g, i * 6 + 1, none⟩ (.string ⟨z.tx.toArray⟩)).setCell ⟨g, i * 6 + 2, none⟩ (.int .i64 z.nm)).setCell ⟨g, i * 6 + 3, none⟩ (.int .i64 (z.at_ : Int))).setCell ⟨g, i * 6 + 4, none⟩ (.slice fz.na z.ns.length fz.nc)).setCell ⟨g, i * 6 + 5, none⟩ (.slice fz.ka z.ks.length fz.kc)) = wf := by
 refine ⟨_, ?_, rfl⟩
 have hb6 := kid_below wc g (i * 6) (.int .i64 z.kd) (.string ⟨z.tx.toArray⟩) (.int .i64 z.nm) (.int .i64 (z.at_ : Int)) (.slice fz.na z.ns.length fz.nc) (.slice fz.ka z.ks.length fz.kc)
 exact ⟨h.bel.trans (hb6.mono (by omega)), h.o.below hb6 (by omega), h.k.put hi hn, Nat.le_trans h.s hb6.size⟩
end
theorem KRow.grow {w : World} {base : Nat} {B b : Nat → Prop} {ys : List Nd} {A : Option Addr} {c : Nat} (h : KRow w base b ys A c) (hb : ∀ a, b a → B a) : KRow w base B ys A c := ⟨h.nil, fun hn => by
 obtain ⟨g, fs, e, hg, ho, hl, hsb⟩ := h.row hn
 exact ⟨g, fs, e, hg, ho, hl, fun k h1 h2 => (hsb k h1 h2).mono fun a ha _ => ⟨hb a ha.1, ha.2⟩⟩⟩
theorem ndCells.stay {w w' : World} {g k : Nat} {y : Nd} {fy : Fr} {B : Nat} (h : ndCells w g k y fy) (hg : g < B) (hb : Below B w w') : ndCells w' g k y fy := by
 have e : ∀ i, w'.cell? ⟨g, i, none⟩ = w.cell? ⟨g, i, none⟩ := fun i => World.cell?_of_block (hb.block g hg)
 unfold ndCells
 simp only [e]
 exact h
theorem sixC {w : World} {G : Nat} {x : Nd} {f : Fr} (h : Whole w G 25 #[.int .i64 x.kd, .string ⟨x.tx.toArray⟩, .int .i64 x.nm, .int .i64 (x.at_ : Int), .slice f.na x.ns.length f.nc, .slice f.ka x.ks.length f.kc]) : C6 w G 0 1 2 3 4 5 x f := ⟨h.cell 0, h.cell 1, h.cell 2, h.cell 3, h.cell 4, h.cell 5⟩
def FProgC (x : Nd) : Prop := ∀ (w : World) (b : Nat → Prop) (f : Fr), (∀ a, b a → a < w.heap.size) → NodeIn w b x f →
 Calls Try.prog 19 #[ndV x f] w fun e w' => ∃ f', e = .returned (ndV (progN x) f') ∧ NodeIn w' (fun a => b a ∨ w.heap.size ≤ a) (progN x) f' ∧ Below w.heap.size w w'
theorem declN_else {y : Nd} (h : (y.kd == 28 || y.kd == 29) = false) : declN y = y := by unfold declN; rw [h]; rfl
theorem declN_map {y : Nd} (h : (y.kd == 28 || y.kd == 29) = true) : declN y = .mk y.kd y.tx y.nm y.at_ y.ns (y.ks.map expN) := by unfold declN; rw [h]; rfl
end Go.Proofs.Ytgjchgmlogbmmaa
