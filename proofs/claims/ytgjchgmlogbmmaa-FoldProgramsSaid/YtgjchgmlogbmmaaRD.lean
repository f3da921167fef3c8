/- A part of the proofs of chapter 11, squeezed, merged and shrunk by group.py: FMem FStr FWalkA FWalkB FWalkC FWalkD FWalkE FWalkF. -/
import Derived.Test.YtgjchgmlogbmmaaR2
import Derived.Test.YtgjchgmlogbmmaaRC
import Derived.BigQuiet
import Derived.StillTailTactics
/- Rows of nodes that are read; a node handed in. -/
namespace Go.Proofs.Ytgjchgmlogbmmaa
open Go.RowKit
set_option linter.unusedVariables false

/-- Nodes in a row, to be read. -/
def RowIn (w : World) (b : Nat → Prop) (xs : List Nd) (A : Option Addr) : Prop :=
 (xs = [] → A = none) ∧ ∃ (g : Nat) (fs : Nat → Fr), (xs ≠ [] → A = some ⟨g, 0, none⟩ ∧ b g ∧ g < w.heap.size) ∧
  (∀ k (h : k < xs.length) j v, (ndL xs[k] (fs k))[j]? = some v → w.cell? ⟨g, k * 6 + j, none⟩ = some v) ∧ ∀ k (h : k < xs.length), NodeIn w (fun a => b a ∧ a ≠ g) xs[k] (fs k)
theorem NodeIn.row {w : World} {b : Nat → Prop} {x : Nd} {f : Fr} (h : NodeIn w b x f) : RowIn w b x.ks f.ka := by
 cases h with
 | mk hn0 hn hk0 g fs hk hc hs => exact ⟨fun e => (hk0 e).1, g, fs, hk, hc, hs⟩
theorem NodeIn.kc0 {w : World} {b : Nat → Prop} {x : Nd} {f : Fr} (h : NodeIn w b x f) (e : x.ks = []) : f.ka = none ∧ f.kc = 0 := by
 cases h with
 | mk hn0 hn hk0 g fs hk hc hs => exact hk0 e
section
variable {w w' : World} {b : Nat → Prop} {xs : List Nd} {A : Option Addr} {x : Nd} {f : Fr} {B G : Nat}
theorem RowIn.below (h : RowIn w b xs A) (hb : Below B w w') (hB : w.heap.size ≤ B) : RowIn w' b xs A := by
 obtain ⟨h0, g, fs, h1, h2, h3⟩ := h
 refine ⟨h0, g, fs, fun e => ?_, fun k hk j v hv => ?_, fun k hk => (h3 k hk).later hb hB⟩
 ·obtain ⟨e1, e2, e3⟩ := h1 e
  exact ⟨e1, e2, Nat.lt_of_lt_of_le e3 hb.size⟩
 ·obtain ⟨e1, e2, e3⟩ := h1 (fun e => by rw [e] at hk; simp at hk)
  exact (World.cell?_of_block (hb.block g (Nat.lt_of_lt_of_le e3 hB))).trans (h2 k hk j v hv)
def ndCells (w : World) (g k : Nat) (y : Nd) (fy : Fr) : Prop :=
 w.cell? ⟨g, k * 6, none⟩ = some (.int .i64 y.kd) ∧ w.cell? ⟨g, k * 6 + 1, none⟩ = some (.string ⟨y.tx.toArray⟩) ∧ w.cell? ⟨g, k * 6 + 2, none⟩ = some (.int .i64 y.nm) ∧
  w.cell? ⟨g, k * 6 + 3, none⟩ = some (.int .i64 (y.at_ : Int)) ∧ w.cell? ⟨g, k * 6 + 4, none⟩ = some (.slice fy.na y.ns.length fy.nc) ∧ w.cell? ⟨g, k * 6 + 5, none⟩ = some (.slice fy.ka y.ks.length fy.kc)
theorem RowIn.at_ (h : RowIn w b xs A) {k : Nat} (hk : k < xs.length) : ∃ g fy, A = some ⟨g, 0, none⟩ ∧ b g ∧ g < w.heap.size ∧ ndCells w g k (xs.getD k nd0) fy ∧ NodeIn w (fun a => b a ∧ a ≠ g) (xs.getD k nd0) fy := by
 obtain ⟨h0, g, fs, h1, h2, h3⟩ := h
 obtain ⟨e1, e2, e3⟩ := h1 (fun e => by rw [e] at hk; simp at hk)
 have e : xs.getD k nd0 = xs[k] := by rw [List.getD_eq_getElem?_getD, List.getElem?_eq_getElem hk]; rfl
 rw [e]
 exact ⟨g, fs k, e1, e2, e3, ⟨h2 k hk 0 _ rfl, h2 k hk 1 _ rfl, h2 k hk 2 _ rfl, h2 k hk 3 _ rfl, h2 k hk 4 _ rfl, h2 k hk 5 _ rfl⟩, h3 k hk⟩
theorem RowIn.any (h : RowIn w b xs A) {k : Nat} (hk : k < xs.length) : ∃ g fy, A = some ⟨g, 0, none⟩ ∧ g < w.heap.size ∧ ndCells w g k (xs.getD k nd0) fy ∧ NodeIn w b (xs.getD k nd0) fy := by
 obtain ⟨g, fy, a, _, c, d, e⟩ := h.at_ hk
 exact ⟨g, fy, a, c, d, e.mono fun a ha _ => ha.1⟩
/-- A node that was handed in, in a block of its own. -/
structure Ag (w w1 : World) (b : Nat → Prop) (G : Nat) (x : Nd) (f : Fr) : Prop where
 X : Whole w1 G 25 (ndL x f).toArray
 n : NodeIn w1 b x f
 bel : Below w.heap.size w w1
theorem Ag.start (h : NodeIn w b x f) : Ag w (w.alloc (.cells (ndL x f).toArray 25)) b w.heap.size x f :=
 ⟨Whole.made _ _ _, h.later ((Below.refl _ _).alloc (Nat.le_refl _) _) (Nat.le_refl _), (Below.refl _ _).alloc (Nat.le_refl _) _⟩
variable {w1 w2 : World}
theorem Ag.later (h : Ag w w1 b G x f) (hb : Below w1.heap.size w1 w2) : Ag w w2 b G x f :=
 ⟨h.X.below hb h.X.lt, h.n.later hb (Nat.le_refl _), h.bel.trans (hb.mono h.bel.size)⟩
theorem Ag.alloc (h : Ag w w1 b G x f) (o : Obj) : Ag w (w1.alloc o) b G x f := h.later ((Below.refl _ _).alloc (Nat.le_refl _) o)
theorem Ag.drew (h : Ag w w1 b G x f) : Ag w w1.drew b G x f := h.later (Below.refl _ _).drew
theorem Ag.drewN (h : Ag w w1 b G x f) (n : Nat) : Ag w (w1.drewN n) b G x f := h.later (below_drewN (Below.refl _ _) n)
theorem Ag.c0 (h : Ag w w1 b G x f) : w1.cell? ⟨G, 0, none⟩ = some (.int .i64 x.kd) := h.X.cell 0
theorem Ag.c1 (h : Ag w w1 b G x f) : w1.cell? ⟨G, 1, none⟩ = some (.string ⟨x.tx.toArray⟩) := h.X.cell 1
theorem Ag.c2 (h : Ag w w1 b G x f) : w1.cell? ⟨G, 2, none⟩ = some (.int .i64 x.nm) := h.X.cell 2
theorem Ag.c3 (h : Ag w w1 b G x f) : w1.cell? ⟨G, 3, none⟩ = some (.int .i64 (x.at_ : Int)) := h.X.cell 3
theorem Ag.c4 (h : Ag w w1 b G x f) : w1.cell? ⟨G, 4, none⟩ = some (.slice f.na x.ns.length f.nc) := h.X.cell 4
theorem Ag.c5 (h : Ag w w1 b G x f) : w1.cell? ⟨G, 5, none⟩ = some (.slice f.ka x.ks.length f.kc) := h.X.cell 5
end
theorem ret_bq {a b : Bool} (h : a = b) : Ending.returned (.bool a) = .returned (.bool b) := by rw [h]
theorem wf_at {xs : List Nd} (h : ∀ y ∈ xs, WfN y) (k : Nat) : WfN (xs.getD k nd0) := wf_getD h k
theorem getD_mem {xs : List Nd} {k : Nat} (h : k < xs.length) : xs.getD k nd0 ∈ xs := by
 rw [List.getD_eq_getElem?_getD, List.getElem?_eq_getElem h]; exact List.getElem_mem h
theorem stillL_all : ∀ {xs : List Nd}, (∀ j, j < xs.length → stillF (xs.getD j nd0) = true) → stillL xs = true
 | [], _ => rfl
 | x :: xs, h => by
  rw [stillL, show stillF x = true from h 0 (Nat.zero_lt_succ _), stillL_all (xs := xs) fun j hj => h (j + 1) (Nat.succ_lt_succ hj)]; rfl
theorem stillL_not : ∀ {xs : List Nd} {k : Nat}, k < xs.length → stillF (xs.getD k nd0) = false → stillL xs = false
 | [], k, h, _ => absurd h (by simp)
 | x :: xs, 0, _, h => by rw [stillL, show stillF x = false from h]; rfl
 | x :: xs, k + 1, h, h2 => by rw [stillL, stillL_not (xs := xs) (Nat.lt_of_succ_lt_succ h) h2, Bool.and_false]
end Go.Proofs.Ytgjchgmlogbmmaa
/- Rows of texts that are read, and a row that grows; whether a text is in a row. -/
namespace Go.Proofs.Ytgjchgmlogbmmaa
open Go.RowKit
set_option linter.unusedVariables false
set_option linter.unusedSimpArgs false
attribute [local go_sem ↓] Go.wp_at_zero Go.wp_at_succ

/-- Texts in a row, to be read, in a block of b. -/
def StrIn (w : World) (b : Nat → Prop) (l : List (List UInt8)) (A : Option Addr) : Prop :=
 l ≠ [] → ∃ g, A = some ⟨g, 0, none⟩ ∧ b g ∧ g < w.heap.size ∧ ∀ k (h : k < l.length), w.cell? ⟨g, k, none⟩ = some (strV l[k])
section
variable {w w' : World} {b : Nat → Prop} {l : List (List UInt8)} {A : Option Addr}
theorem StrIn.nil (w : World) (b : Nat → Prop) (A : Option Addr) : StrIn w b [] A := fun h => absurd rfl h
theorem StrIn.frame (h : StrIn w b l A) (hs : w.heap.size ≤ w'.heap.size) (hb : ∀ a, b a → a < w.heap.size → w'.heap[a]? = w.heap[a]?) : StrIn w' b l A := fun hl => by
 obtain ⟨g, e1, e2, e3, e4⟩ := h hl
 exact ⟨g, e1, e2, Nat.lt_of_lt_of_le e3 hs, fun k hk => (World.cell?_of_block (hb g e2 e3)).trans (e4 k hk)⟩
theorem StrIn.mono (h : StrIn w b l A) {b' : Nat → Prop} (hb : ∀ a, b a → a < w.heap.size → b' a) : StrIn w b' l A := fun hl => by
 obtain ⟨g, e1, e2, e3, e4⟩ := h hl
 exact ⟨g, e1, hb g e2 e3, e3, e4⟩
theorem StrIn.below {B : Nat} (h : StrIn w b l A) (hb : Below B w w') (hB : w.heap.size ≤ B) : StrIn w' b l A := h.frame hb.size fun a _ hl => hb.block a (Nat.lt_of_lt_of_le hl hB)
theorem StrIn.at_ (h : StrIn w b l A) {k : Nat} (hk : k < l.length) : ∃ g, A = some ⟨g, 0, none⟩ ∧ g < w.heap.size ∧ w.cell? ⟨g, k, none⟩ = some (.string ⟨(l.getD k []).toArray⟩) := by
 obtain ⟨g, e1, e2, e3, e4⟩ := h (fun e => by rw [e] at hk; simp at hk)
 refine ⟨g, e1, e3, ?_⟩
 rw [e4 k hk, List.getD_eq_getElem?_getD, List.getElem?_eq_getElem hk]; rfl
end
theorem has_get {l : List (List UInt8)} {k : Nat} (h : k < l.length) {t : List UInt8} (e : l.getD k [] = t) : l.contains t = true := by
 rw [List.contains_iff_mem, ← e, List.getD_eq_getElem?_getD, List.getElem?_eq_getElem h]; exact List.getElem_mem h
theorem has_not {l : List (List UInt8)} {t : List UInt8} (h : ∀ j, j < l.length → l.getD j [] ≠ t) : l.contains t = false := by
 rw [Bool.eq_false_iff, Ne, List.contains_iff_mem]
 intro hm
 obtain ⟨j, hj⟩ := List.mem_iff_getElem?.1 hm
 have hlt := (List.getElem?_eq_some_iff.1 hj).1
 exact h j hlt (by rw [List.getD_eq_getElem?_getD, hj]; rfl)
/-- Is a text in a row? -/
def hasB (l : List (List UInt8)) (t : List UInt8) : Bool := l.contains t
set_option maxHeartbeats 4000000 in
theorem index_any (l : List (List UInt8)) (hl : l.length ≤ 100000) (t : List UInt8) (w : World) (b : Nat → Prop) (A : Option Addr) (c : Nat) (hr : StrIn w b l A) :
  Calls Try.prog 60 #[.slice A l.length c, .string ⟨t.toArray⟩] w fun e w' => (∃ v : Int, e = .returned (.int .i64 v) ∧ (0 ≤ v ↔ hasB l t = true)) ∧ Below w.heap.size w w' := by
 have HL : Hid (l.length ≤ 100000) := hl
 have HR := Lib.hid hr
 clear hl hr
 go_enter Try.func60, Try.ntmps60
 go_wp2_with fail
 go_loopw [8] (fun i wr => ∃ k : Nat, i = .int .i64 (k : Int) ∧ k ≤ l.length ∧ (∀ j, j < k → l.getD j [] ≠ t) ∧ Below w.heap.size w wr) (fun i _ => l.length - (intOf i).toNat)
 case atStart => exact ⟨0, rfl, Nat.zero_le _, fun j hj => absurd hj (by omega), Below.refl _ _⟩
 case round =>
  obtain ⟨k, rfl, hk, hall, hb⟩ := hrel
  have HB := Lib.hid hb
  have HALL := Lib.hid hall
  clear hall hb
  by_cases hlt : k < l.length
  ·obtain ⟨g, rfl, _, x0⟩ := (HR.out.below HB.out (Nat.le_refl _)).at_ hlt
   have HY : Hid (l.getD k [] = t → hasB l t = true) := fun h => has_get hlt h
   have i0 : (0 : Int) ≤ (k : Int) := by omega
   have i1 : (k : Int) < (l.length : Int) := by omega
   have i2 : (k : Int) < 100000 := by have := HL.out; omega
   have HD : Hid (l.getD k [] ≠ t → ∀ j, j < k + 1 → l.getD j [] ≠ t) := fun h j hj => by
    rcases (by omega : j < k ∨ j = k) with h' | rfl
    ·exact HALL.out j h'
    ·exact h
   clear HALL
   generalize l.getD k [] = y at *
   by_cases he : t = y
   ·subst he
    have HS := Lib.hid (HY.out rfl)
    go_wp2_with fail
    go_ret
    exact ⟨⟨_, rfl, fun _ => HS.out, fun _ => i0⟩, HB.out⟩
   ·have q1 : (t == y) = false := beq_eq_false_iff_ne.2 he
    have HS := Lib.hid (HD.out (Ne.symm he))
    clear he
    go_wp2_with fail
    go_roundw
    case rel => exact ⟨k + 1, by go_num, by omega, HS.out, HB.out⟩
    case measure => simp [intOf]; omega
  ·have i1 : ¬ (k : Int) < (l.length : Int) := by omega
   have HS : Hid (hasB l t = false) := has_not fun j hj => HALL.out j (by omega)
   go_wp2_with fail
   go_ret
   exact ⟨⟨_, rfl, fun h => absurd h (by decide), fun h => by rw [HS.out] at h; cases h⟩, HB.out⟩
theorem contains_any (l : List (List UInt8)) (hl : l.length ≤ 100000) (t : List UInt8) (w : World) (b : Nat → Prop) (A : Option Addr) (c : Nat) (hr : StrIn w b l A) :
  Calls Try.prog 47 #[.slice A l.length c, .string ⟨t.toArray⟩] w fun e w' => e = .returned (.bool (hasB l t)) ∧ Below w.heap.size w w' := by
 have CI := Lib.hid (index_any l hl t w b A c hr)
 clear hl hr
 go_enter Try.func47, Try.ntmps47
 go_wp2_with fail
 refine CI.out.mono ?_
 rintro e w2 ⟨⟨v, rfl, hv⟩, b2⟩
 have HV := Lib.hid hv
 have HB := Lib.hid b2
 clear CI hv b2
 by_cases h : 0 ≤ v
 ·have HS := Lib.hid (HV.out.1 h)
  go_wp2_with fail
  go_ret
  exact ⟨ret_bq (by rw [HS.out]), HB.out⟩
 ·have HS : Hid (hasB l t = false) := by
   have := mt HV.out.2 h
   show _ = _
   simpa using this
  go_wp2_with fail
  go_ret
  exact ⟨ret_bq (by rw [HS.out]; exact decide_eq_false (by omega)), HB.out⟩
set_option maxHeartbeats 4000000 in
theorem rhas_any (l : List (List UInt8)) (hl : l.length ≤ 100000) (t : List UInt8) (w : World) (b : Nat → Prop) (A : Option Addr) (c : Nat) (hr : StrIn w b l A) :
  Calls Try.prog 48 #[.slice A l.length c, .string ⟨t.toArray⟩] w fun e w' => e = .returned (.bool (hasB l t)) ∧ Below w.heap.size w w' := by
 have HL : Hid (l.length ≤ 100000) := hl
 have HR := Lib.hid hr
 clear hl hr
 go_enter Try.func48, Try.ntmps48
 go_wp2_with fail
 go_loopw [5] (fun i wr => ∃ k : Nat, i = .int .i64 (k : Int) ∧ k ≤ l.length ∧ (∀ j, j < k → l.getD j [] ≠ t) ∧ Below w.heap.size w wr) (fun i _ => l.length - (intOf i).toNat)
 case atStart => exact ⟨0, rfl, Nat.zero_le _, fun j hj => absurd hj (by omega), Below.refl _ _⟩
 case round =>
  obtain ⟨k, rfl, hk, hall, hb⟩ := hrel
  have HB := Lib.hid hb
  have HALL := Lib.hid hall
  clear hall hb
  by_cases hlt : k < l.length
  ·obtain ⟨g, rfl, _, x0⟩ := (HR.out.below HB.out (Nat.le_refl _)).at_ hlt
   have HY : Hid (l.getD k [] = t → hasB l t = true) := fun h => has_get hlt h
   have i0 : (0 : Int) ≤ (k : Int) := by omega
   have i1 : (k : Int) < (l.length : Int) := by omega
   have i2 : (k : Int) < 100000 := by have := HL.out; omega
   have HD : Hid (l.getD k [] ≠ t → ∀ j, j < k + 1 → l.getD j [] ≠ t) := fun h j hj => by
    rcases (by omega : j < k ∨ j = k) with h' | rfl
    ·exact HALL.out j h'
    ·exact h
   clear HALL
   generalize l.getD k [] = y at *
   by_cases he : y = t
   ·subst he
    have HS := Lib.hid (HY.out rfl)
    go_wp2_with fail
    go_ret
    exact ⟨ret_bq HS.out.symm, HB.out⟩
   ·have q1 : (y == t) = false := beq_eq_false_iff_ne.2 he
    have HS := Lib.hid (HD.out he)
    clear he
    go_wp2_with fail
    go_roundw
    case rel => exact ⟨k + 1, by go_num, by omega, HS.out, HB.out⟩
    case measure => simp [intOf]; omega
  ·have i1 : ¬ (k : Int) < (l.length : Int) := by omega
   have HS : Hid (hasB l t = false) := has_not fun j hj => HALL.out j (by omega)
   go_wp2_with fail
   go_ret
   exact ⟨ret_bq HS.out.symm, HB.out⟩
set_option maxHeartbeats 4000000 in
theorem lhas_any (l : List (List UInt8)) (hl : l.length ≤ 100000) (t : List UInt8) (w : World) (b : Nat → Prop) (A : Option Addr) (c : Nat) (hr : StrIn w b l A) :
  Calls Try.prog 15 #[.slice A l.length c, .string ⟨t.toArray⟩] w fun e w' => e = .returned (.bool (hasB l t)) ∧ Below w.heap.size w w' := by
 have HL : Hid (l.length ≤ 100000) := hl
 have HR := Lib.hid hr
 clear hl hr
 go_enter Try.func15, Try.ntmps15
 go_wp2_with fail
 go_loopw [5] (fun i wr => ∃ k : Nat, i = .int .i64 (k : Int) ∧ k ≤ l.length ∧ (∀ j, j < k → l.getD j [] ≠ t) ∧ Below w.heap.size w wr) (fun i _ => l.length - (intOf i).toNat)
 case atStart => exact ⟨0, rfl, Nat.zero_le _, fun j hj => absurd hj (by omega), Below.refl _ _⟩
 case round =>
  obtain ⟨k, rfl, hk, hall, hb⟩ := hrel
  have HB := Lib.hid hb
  have HALL := Lib.hid hall
  clear hall hb
  by_cases hlt : k < l.length
  ·obtain ⟨g, rfl, _, x0⟩ := (HR.out.below HB.out (Nat.le_refl _)).at_ hlt
   have HY : Hid (l.getD k [] = t → hasB l t = true) := fun h => has_get hlt h
   have i0 : (0 : Int) ≤ (k : Int) := by omega
   have i1 : (k : Int) < (l.length : Int) := by omega
   have i2 : (k : Int) < 100000 := by have := HL.out; omega
   have HD : Hid (l.getD k [] ≠ t → ∀ j, j < k + 1 → l.getD j [] ≠ t) := fun h j hj => by
    rcases (by omega : j < k ∨ j = k) with h' | rfl
    ·exact HALL.out j h'
    ·exact h
   clear HALL
   generalize l.getD k [] = y at *
   by_cases he : y = t
   ·subst he
    have HS := Lib.hid (HY.out rfl)
    go_wp2_with fail
    go_ret
    exact ⟨ret_bq HS.out.symm, HB.out⟩
   ·have q1 : (y == t) = false := beq_eq_false_iff_ne.2 he
    have HS := Lib.hid (HD.out he)
    clear he
    go_wp2_with fail
    go_roundw
    case rel => exact ⟨k + 1, by go_num, by omega, HS.out, HB.out⟩
    case measure => simp [intOf]; omega
  ·have i1 : ¬ (k : Int) < (l.length : Int) := by omega
   have HS : Hid (hasB l t = false) := has_not fun j hj => HALL.out j (by omega)
   go_wp2_with fail
   go_ret
   exact ⟨ret_bq HS.out.symm, HB.out⟩
/-- A row of texts of the call's own; an empty one is nil. -/
structure OwnT (w : World) (base : Nat) (L : List (List UInt8)) (v : Value) : Prop where
 row : w.ownsRow base 9 1 v L.length (L.map strV)
 nil : L = [] → v = .slice none 0 0
theorem OwnT.below {w w' : World} {base B : Nat} {L : List (List UInt8)} {v : Value} (h : OwnT w base L v) (hb : Below B w w') (hB : w.heap.size ≤ B) : OwnT w' base L v :=
 ⟨own_of_block h.row fun g hg => hb.block g (Nat.lt_of_lt_of_le (h.row.lt g hg).2 hB), h.nil⟩
theorem OwnT.ne {w : World} {base : Nat} {L : List (List UInt8)} {v : Value} (h : OwnT w base L v) {a : Nat} (ha : a < base ∨ w.heap.size ≤ a) : v.ownBlock ≠ some a := fun e => by
 have := h.row.lt a e; omega
theorem OwnT.none (w : World) (base : Nat) : OwnT w base [] (.slice none 0 0) := ⟨World.ownsRow_nil _ _ _ _, fun _ => rfl⟩
/-- A row of texts that grows, out of an elder one. -/
structure Grew (w : World) (base : Nat) (v : Value) (L : List (List UInt8)) (v' : Value) (w' : World) : Prop where
 own : OwnT w' base L v'
 os : w'.os = w.os
 tape : w'.tape = w.tape
 output : w'.output = w.output
 size : w.heap.size ≤ w'.heap.size
 block : ∀ a, a < w.heap.size → v.ownBlock ≠ some a → w'.heap[a]? = w.heap[a]?
 blk : ∀ g, v'.ownBlock = some g → v.ownBlock = some g ∨ w.heap.size ≤ g
section
variable {w w1 w2 w' : World} {base : Nat} {v v1 v2 : Value} {L M : List (List UInt8)} {b : Nat → Prop} {x : Nd} {f : Fr} {A : Option Addr}
theorem Grew.refl (h : OwnT w base L v) : Grew w base v L v w := ⟨h, rfl, rfl, rfl, Nat.le_refl _, fun _ _ _ => rfl, fun g h => .inl h⟩
theorem Grew.trans (h : Grew w base v L v1 w1) (k : Grew w1 base v1 M v2 w2) : Grew w base v M v2 w2 :=
 ⟨k.own, k.os.trans h.os, k.tape.trans h.tape, k.output.trans h.output, Nat.le_trans h.size k.size,
  fun a ha hn => (k.block a (Nat.lt_of_lt_of_le ha h.size) fun e => by
   rcases h.blk a e with h1 | h1
   ·exact hn h1
   ·omega).trans (h.block a ha hn),
  fun g hg => by
   rcases k.blk g hg with h1 | h1
   ·exact h.blk g h1
   ·exact .inr (Nat.le_trans h.size h1)⟩
theorem Grew.later {B : Nat} (h : Grew w base v L v1 w1) (hb : Below B w1 w2) (hB : w1.heap.size ≤ B) : Grew w base v L v1 w2 :=
 ⟨h.own.below hb hB, hb.os.trans h.os, hb.tape.trans h.tape, hb.output.trans h.output, Nat.le_trans h.size hb.size,
  fun a ha hn => (hb.block a (by have := h.size; omega)).trans (h.block a ha hn), h.blk⟩
theorem Grew.app {w3 : World} {v3 : Value} (h : Grew w base v L v1 w1) (hM : M ≠ []) (ha : Appended w1 base 9 1 v1 M.length (M.map strV) v3 w3) : Grew w base v M v3 w3 :=
 h.trans ⟨⟨ha.1, fun e => absurd e hM⟩, ha.2.1.os, ha.2.1.tape, ha.2.1.output, ha.2.1.size, fun a hl hn => ha.2.1.block a hl (fun e => hn e.symm), fun g hg => by
  rcases ha.2.2 g hg with h1 | h1
  ·exact .inl h1
  ·exact .inr (Nat.le_of_eq h1.symm)⟩
theorem Grew.node (h : Grew w base v L v1 w1) (n : NodeIn w b x f) (hb : ∀ a, b a → v.ownBlock ≠ some a) : NodeIn w1 b x f := n.frame h.size fun a ha hl => h.block a hl (hb a ha)
theorem Grew.str (h : Grew w base v L v1 w1) (n : StrIn w b M A) (hb : ∀ a, b a → v.ownBlock ≠ some a) : StrIn w1 b M A := n.frame h.size fun a ha hl => h.block a hl (hb a ha)
theorem Grew.whole (h : Grew w base v L v1 w1) {G : Nat} {t : TypeId} {cs : Array Value} (n : Whole w G t cs) (hb : v.ownBlock ≠ some G) : Whole w1 G t cs := (h.block G n.lt hb).trans n
theorem own_str {c n : Nat} (h : w.ownsRow base 9 1 (.slice A n c) L.length (L.map strV)) : StrIn w (fun a => base ≤ a) L A := fun hn => by
 have hp : 0 < L.length := List.length_pos_iff.2 hn
 obtain ⟨g, c', e, hb, hl, _⟩ := own_cell h (k := 0) (by omega)
 simp only [Value.slice.injEq] at e
 refine ⟨g, e.1, hb, hl, fun k hk => ?_⟩
 obtain ⟨g', c'', e', _, _, hcell, _⟩ := own_cell h (k := k) (by omega)
 simp only [Value.slice.injEq] at e'
 have eg : g = g' := by have := e.1.symm.trans e'.1; simpa using this
 subst eg
 rw [hcell, List.getElem?_map, List.getElem?_eq_getElem hk]; rfl
theorem Grew.form (h : Grew w base v L v1 w1) : ∃ A c, v1 = .slice A L.length c := by
 rcases h.own.row.2 with ⟨e, e2⟩ | ⟨g, c, cur, e, _⟩
 ·exact ⟨none, 0, by rw [e, e2]⟩
 ·exact ⟨_, _, e⟩
/-- Below base, all is as it was. -/
theorem Grew.below (h : Grew w base v L v1 w1) (hv : ∀ g, v.ownBlock = some g → base ≤ g) (hB : base ≤ w.heap.size) : Below base w w1 :=
 ⟨h.os, h.tape, h.output, h.size, fun a ha => h.block a (Nat.lt_of_lt_of_le ha hB) fun e => by have := hv a e; omega⟩
end
end Go.Proofs.Ytgjchgmlogbmmaa
/- The walks of layer 11: what is still. -/
namespace Go.Proofs.Ytgjchgmlogbmmaa
open Go.RowKit
set_option linter.unusedVariables false
set_option linter.unusedSimpArgs false
attribute [local go_sem ↓] Go.wp_at_zero Go.wp_at_succ

set_option maxRecDepth 100000 in
set_option maxHeartbeats 4000000 in
theorem rstill_any (x : Nd) : WfN x → ∀ (w : World) (b : Nat → Prop) (f : Fr), NodeIn w b x f → Calls Try.prog 25 #[ndV x f] w fun e w' => e = .returned (.bool (stillF x)) ∧ Below w.heap.size w w' := by
 induction x using Nd.ind with
 | h x ih =>
  intro hw w b f hn
  have HA : Hid (Ag w (w.alloc (.cells #[.int .i64 x.kd, .string ⟨x.tx.toArray⟩, .int .i64 x.nm, .int .i64 (x.at_ : Int), .slice f.na x.ns.length f.nc, .slice f.ka x.ks.length f.kc] 25)) b w.heap.size x f) := Ag.start hn
  have HL : Hid (x.ks.length ≤ 100000) := hw.len
  have IH := Lib.hid (fun y hy => ih y hy (hw.ks y hy))
  have HE := Lib.hid (stillF_eq x)
  clear hn hw ih
  unfold ndV
  by_cases h5 : x.kd = 5
  ·have HE5 : Hid (stillF x = stillL x.ks) := by show _ = _; rw [HE.out, h5]; rfl
   have H5 := Lib.hid h5
   clear HE h5
   rw [HE5.out]
   go_enter Try.func25, Try.ntmps25
   go_upto_region 1 with (fail)
   generalize w.alloc (.cells #[.int .i64 x.kd, .string ⟨x.tx.toArray⟩, .int .i64 x.nm, .int .i64 (x.at_ : Int), .slice f.na x.ns.length f.nc, .slice f.ka x.ks.length f.kc] 25) = w1 at *
   have c0 := HA.out.c0
   rw [H5.out] at c0
   generalize w.heap.size = G at *
   go_wp2_with fail
   clear c0
   go_loopw [3] (fun i wr => ∃ k : Nat, i = .int .i64 (k : Int) ∧ k ≤ x.ks.length ∧ (∀ j, j < k → stillF (x.ks.getD j nd0) = true) ∧ Ag w wr b G x f) (fun i _ => x.ks.length - (intOf i).toNat)
   case atStart => exact ⟨0, rfl, Nat.zero_le _, fun j hj => absurd hj (by omega), HA.out⟩
   case round =>
    obtain ⟨k, rfl, hk, hall, ha⟩ := hrel
    have HR := Lib.hid ha
    have HALL := Lib.hid hall
    have c5 := ha.c5
    clear ha hall HA
    by_cases hlt : k < x.ks.length
    ·obtain ⟨g, fy, e, _, ⟨x0, x1, x2, x3, x4, x5⟩, ny⟩ := HR.out.n.row.any hlt
     have CY := Lib.hid (fun wx h => IH.out _ (getD_mem hlt) wx b fy h)
     have HNY := Lib.hid ny
     rw [e] at c5
     clear e
     have HN : Hid (stillF (x.ks.getD k nd0) = false → stillL x.ks = false) := fun h => stillL_not hlt h
     have i0 : (0 : Int) ≤ (k : Int) := by omega
     have i1 : (k : Int) < (x.ks.length : Int) := by omega
     have i2 : (k : Int) < 100000 := by have := HL.out; omega
     have HS : Hid (∀ j, j < k + 1 → j < k ∨ j = k) := fun j hj => by omega
     have HD : Hid (stillF (x.ks.getD k nd0) = true → ∀ j, j < k + 1 → stillF (x.ks.getD j nd0) = true) := fun h j hj => by
      rcases HS.out j hj with h' | rfl
      ·exact HALL.out j h'
      ·exact h
     clear HALL HS
     generalize x.ks.getD k nd0 = y at *
     go_wp2_with fail
     refine (CY.out _ HNY.out).mono ?_
     rintro e w3 ⟨rfl, b3⟩
     have HR3 := Lib.hid (HR.out.later b3)
     clear HR b3 HNY CY x0 x1 x2 x3 x4 x5 c5
     obtain ⟨sb, hsb⟩ : ∃ sb, stillF y = sb := ⟨_, rfl⟩
     have HSB := Lib.hid hsb
     rw [hsb]
     clear hsb
     rcases sb with _ | _
     ·have HS := Lib.hid (HN.out HSB.out)
      go_wp2_with fail
      go_ret
      exact ⟨ret_bq HS.out.symm, HR3.out.bel⟩
     ·go_wp2_with fail
      go_roundw
      case rel => exact ⟨k + 1, by go_num, by omega, HD.out HSB.out, HR3.out⟩
      case measure => simp [intOf]; omega
    ·have i1 : ¬ (k : Int) < (x.ks.length : Int) := by omega
     have hs : stillL x.ks = true := stillL_all fun j hj => HALL.out j (by omega)
     have HS := Lib.hid hs
     clear hs
     go_wp2_with fail
     go_ret
     exact ⟨ret_bq HS.out.symm, HR.out.bel⟩
  ·have H5 := Lib.hid h5
   clear h5
   go_enter Try.func25, Try.ntmps25
   go_upto_region 1 with (fail)
   generalize w.alloc (.cells #[.int .i64 x.kd, .string ⟨x.tx.toArray⟩, .int .i64 x.nm, .int .i64 (x.at_ : Int), .slice f.na x.ns.length f.nc, .slice f.ka x.ks.length f.kc] 25) = w1 at *
   have c0 := HA.out.c0
   generalize w.heap.size = G at *
   have q5 : (x.kd == 5) = false := beq_eq_false_iff_ne.2 H5.out
   generalize x.kd = c at *
   clear H5
   go_wp2_with fail
   all_goals
    go_ret
    exact ⟨by (have h := HE.out; clear HE; simp_all), HA.out.bel⟩
end Go.Proofs.Ytgjchgmlogbmmaa
/- The walks of layer 11: still, in the program: a closure over kids. -/
namespace Go.Proofs.Ytgjchgmlogbmmaa
open Go.RowKit
set_option linter.unusedVariables false
set_option linter.unusedSimpArgs false
attribute [local go_sem ↓] Go.wp_at_zero Go.wp_at_succ

/-- What is asked of a kid. -/
def StillC (y : Nd) : Prop := ∀ (w : World) (b : Nat → Prop) (f : Fr), NodeIn w b y f → Calls Try.prog 59 #[ndV y f] w fun e w' => e = .returned (.bool (stillF y)) ∧ Below w.heap.size w w'
theorem still1_any (y : Nd) (C : StillC y) (w : World) (b : Nat → Prop) (f : Fr) (hn : NodeIn w b y f) :
  Calls Try.prog 73 #[ndV y f] w fun e w' => e = .returned (.bool (!stillF y)) ∧ Below w.heap.size w w' := by
 have HA : Hid (Ag w (w.alloc (.cells #[.int .i64 y.kd, .string ⟨y.tx.toArray⟩, .int .i64 y.nm, .int .i64 (y.at_ : Int), .slice f.na y.ns.length f.nc, .slice f.ka y.ks.length f.kc] 25)) b w.heap.size y f) := Ag.start hn
 have HC := Lib.hid (fun wx h => C wx b f h)
 clear hn C
 unfold ndV
 go_enter Try.func73, Try.ntmps73
 go_upto_region 1 with (fail)
 generalize w.alloc (.cells #[.int .i64 y.kd, .string ⟨y.tx.toArray⟩, .int .i64 y.nm, .int .i64 (y.at_ : Int), .slice f.na y.ns.length f.nc, .slice f.ka y.ks.length f.kc] 25) = w1 at *
 have c0 := HA.out.c0
 have c1 := HA.out.c1
 have c2 := HA.out.c2
 have c3 := HA.out.c3
 have c4 := HA.out.c4
 have c5 := HA.out.c5
 generalize w.heap.size = G at *
 go_wp2_with fail
 refine (HC.out w1 HA.out.n).mono ?_
 rintro e w2 ⟨rfl, b2⟩
 have HA2 := Lib.hid (HA.out.later b2)
 clear HA b2 HC c0 c1 c2 c3 c4 c5
 go_wp2_with fail
 go_ret
 exact ⟨rfl, HA2.out.bel⟩
set_option maxRecDepth 100000 in
set_option maxHeartbeats 4000000 in
theorem indexf_any (xs : List Nd) (C : ∀ y ∈ xs, StillC y) (hl : xs.length ≤ 100000) (w : World) (b : Nat → Prop) (A : Option Addr) (c : Nat) (hr : RowIn w b xs A) :
  Calls Try.prog 77 #[.slice A xs.length c, .func (.func 73) #[] #[]] w fun e w' => (∃ v : Int, e = .returned (.int .i64 v) ∧ (0 ≤ v ↔ stillL xs = false)) ∧ Below w.heap.size w w' := by
 have HL : Hid (xs.length ≤ 100000) := hl
 have HR := Lib.hid hr
 have HC := Lib.hid C
 clear hl hr C
 go_enter Try.func77, Try.ntmps77
 go_wp2_with fail
 go_loopw [8] (fun i wr => ∃ k : Nat, i = .int .i64 (k : Int) ∧ k ≤ xs.length ∧ (∀ j, j < k → stillF (xs.getD j nd0) = true) ∧ Below w.heap.size w wr) (fun i _ => xs.length - (intOf i).toNat)
 case atStart => exact ⟨0, rfl, Nat.zero_le _, fun j hj => absurd hj (by omega), Below.refl _ _⟩
 case round =>
  obtain ⟨k, rfl, hk, hall, hb⟩ := hrel
  have HB := Lib.hid hb
  have HALL := Lib.hid hall
  clear hall hb
  by_cases hlt : k < xs.length
  ·obtain ⟨g, fy, rfl, _, ⟨x0, x1, x2, x3, x4, x5⟩, ny⟩ := (HR.out.below HB.out (Nat.le_refl _)).any hlt
   have CY := Lib.hid (still1_any _ (HC.out _ (getD_mem hlt)) wr b fy ny)
   have HN : Hid (stillF (xs.getD k nd0) = false → stillL xs = false) := fun h => stillL_not hlt h
   have i0 : (0 : Int) ≤ (k : Int) := by omega
   have i1 : (k : Int) < (xs.length : Int) := by omega
   have i2 : (k : Int) < 100000 := by have := HL.out; omega
   have HD : Hid (stillF (xs.getD k nd0) = true → ∀ j, j < k + 1 → stillF (xs.getD j nd0) = true) := fun h j hj => by
    rcases (by omega : j < k ∨ j = k) with h' | rfl
    ·exact HALL.out j h'
    ·exact h
   clear HALL ny
   generalize xs.getD k nd0 = y at *
   unfold ndV at CY
   go_wp2_with fail
   refine CY.out.mono ?_
   rintro e w3 ⟨rfl, b3⟩
   have HB3 := Lib.hid (HB.out.trans (b3.mono HB.out.size))
   clear HB b3 CY x0 x1 x2 x3 x4 x5
   obtain ⟨sb, hsb⟩ : ∃ sb, stillF y = sb := ⟨_, rfl⟩
   have HSB := Lib.hid hsb
   rw [hsb]
   clear hsb
   rcases sb with _ | _
   ·have HS := Lib.hid (HN.out HSB.out)
    go_wp2_with fail
    go_ret
    exact ⟨⟨_, rfl, fun _ => HS.out, fun _ => i0⟩, HB3.out⟩
   ·go_wp2_with fail
    go_roundw
    case rel => exact ⟨k + 1, by go_num, by omega, HD.out HSB.out, HB3.out⟩
    case measure => simp [intOf]; omega
  ·have i1 : ¬ (k : Int) < (xs.length : Int) := by omega
   have HS : Hid (stillL xs = true) := stillL_all fun j hj => HALL.out j (by omega)
   go_wp2_with fail
   go_ret
   exact ⟨⟨_, rfl, fun h => absurd h (by decide), fun h => by rw [HS.out] at h; cases h⟩, HB.out⟩
theorem containsf_any (xs : List Nd) (C : ∀ y ∈ xs, StillC y) (hl : xs.length ≤ 100000) (w : World) (b : Nat → Prop) (A : Option Addr) (c : Nat) (hr : RowIn w b xs A) :
  Calls Try.prog 72 #[.slice A xs.length c, .func (.func 73) #[] #[]] w fun e w' => e = .returned (.bool (!stillL xs)) ∧ Below w.heap.size w w' := by
 have CI := Lib.hid (indexf_any xs C hl w b A c hr)
 clear hl hr C
 go_enter Try.func72, Try.ntmps72
 go_wp2_with fail
 refine CI.out.mono ?_
 rintro e w2 ⟨⟨v, rfl, hv⟩, b2⟩
 have HV := Lib.hid hv
 have HB := Lib.hid b2
 clear CI hv b2
 by_cases h : 0 ≤ v
 ·have HS := Lib.hid (HV.out.1 h)
  go_wp2_with fail
  go_ret
  exact ⟨ret_bq (by rw [HS.out] <;> rfl), HB.out⟩
 ·have HS : Hid (stillL xs = true) := by
   have := mt HV.out.2 h
   show _ = _
   simpa using this
  go_wp2_with fail
  go_ret
  exact ⟨ret_bq (by rw [HS.out]; exact decide_eq_false (by omega)), HB.out⟩
set_option maxRecDepth 100000 in
set_option maxHeartbeats 4000000 in
theorem still_any (x : Nd) : WfN x → StillC x := by
 induction x using Nd.ind with
 | h x ih =>
  intro hw w b f hn
  have HA : Hid (Ag w (w.alloc (.cells #[.int .i64 x.kd, .string ⟨x.tx.toArray⟩, .int .i64 x.nm, .int .i64 (x.at_ : Int), .slice f.na x.ns.length f.nc, .slice f.ka x.ks.length f.kc] 25)) b w.heap.size x f) := Ag.start hn
  have HL : Hid (x.ks.length ≤ 100000) := hw.len
  have IH := Lib.hid (fun y hy => ih y hy (hw.ks y hy))
  have HE := Lib.hid (stillF_eq x)
  clear hn hw ih
  unfold ndV
  go_enter Try.func59, Try.ntmps59
  go_upto_region 1 with (fail)
  generalize w.alloc (.cells #[.int .i64 x.kd, .string ⟨x.tx.toArray⟩, .int .i64 x.nm, .int .i64 (x.at_ : Int), .slice f.na x.ns.length f.nc, .slice f.ka x.ks.length f.kc] 25) = w1 at *
  have c0 := HA.out.c0
  generalize w.heap.size = G at *
  by_cases h5 : x.kd = 5
  ·have HE5 : Hid (stillF x = stillL x.ks) := by show _ = _; rw [HE.out, h5]; rfl
   rw [h5] at c0
   have c5 := HA.out.c5
   have CC := Lib.hid (containsf_any x.ks IH.out HL.out w1 b f.ka f.kc HA.out.n.row)
   clear HE h5
   go_wp2_with fail
   refine CC.out.mono ?_
   rintro e w2 ⟨rfl, b2⟩
   have HA2 := Lib.hid (HA.out.later b2)
   clear HA b2 CC c0 c5
   go_wp2_with fail
   go_ret
   exact ⟨ret_bq (by rw [HE5.out] <;> simp), HA2.out.bel⟩
  ·have q5 : (x.kd == 5) = false := beq_eq_false_iff_ne.2 h5
   generalize x.kd = c at *
   clear h5
   go_wp2_with fail
   all_goals
    go_ret
    exact ⟨by (have h := HE.out; clear HE; simp_all), HA.out.bel⟩
end Go.Proofs.Ytgjchgmlogbmmaa
/- The walks of layer 11: the names in a pattern; all names; the names free. -/
namespace Go.Proofs.Ytgjchgmlogbmmaa
open Go.RowKit
set_option linter.unusedVariables false
set_option linter.unusedSimpArgs false
attribute [local go_sem ↓] Go.wp_at_zero Go.wp_at_succ

theorem namesL_take (xs : List Nd) : ∀ k, k < xs.length → namesL (xs.take (k + 1)) = namesL (xs.take k) ++ namesF (xs.getD k nd0) := by
 induction xs with
 | nil => intro k h; simp at h
 | cons x xs ih =>
  intro k h
  cases k with
  | zero => simp [namesL]
  | succ k =>
   rw [List.take_succ_cons, List.take_succ_cons, namesL, namesL, ih k (by simpa using h), List.append_assoc]; rfl
theorem wtL_take (xs : List Nd) : ∀ k, k < xs.length → wtL (xs.take k) + wtN (xs.getD k nd0) ≤ wtL xs := by
 induction xs with
 | nil => intro k h; simp at h
 | cons x xs ih =>
  intro k h
  cases k with
  | zero => simp [wtL]
  | succ k =>
   have := ih k (by simpa using h)
   rw [List.take_succ_cons, wtL, wtL, show (x :: xs).getD (k + 1) nd0 = xs.getD k nd0 from rfl]; omega
theorem Grew.first {w w1 w2 : World} {base : Nat} {v v2 : Value} {M : List (List UInt8)} (k : Grew w1 base v M v2 w2) (h : Below w.heap.size w w1) : Grew w base v M v2 w2 :=
 ⟨k.own, k.os.trans h.os, k.tape.trans h.tape, k.output.trans h.output, Nat.le_trans h.size k.size, fun a ha hn => (k.block a (Nat.lt_of_lt_of_le ha h.size) hn).trans (h.block a ha),
  fun g hg => (k.blk g hg).imp id (fun h1 => Nat.le_trans h.size h1)⟩
/-- What a row of texts grows to. -/
def Grown (w : World) (base : Nat) (v : Value) (M : List (List UInt8)) (e : Ending) (w' : World) : Prop :=
 ∃ A c, e = .returned (.slice A M.length c) ∧ Grew w base v M (.slice A M.length c) w'
def NamesC (y : Nd) : Prop := ∀ (w : World) (base : Nat) (b : Nat → Prop) (f : Fr) (L : List (List UInt8)) (A : Option Addr) (c : Nat), L.length + wtN y ≤ 100000 → OwnT w base L (.slice A L.length c) → base ≤ w.heap.size → (∀ a, b a → a < base) → NodeIn w b y f →
 Calls Try.prog 41 #[ndV y f, .slice A L.length c] w (Grown w base (.slice A L.length c) (L ++ namesF y))
set_option maxRecDepth 100000 in
set_option maxHeartbeats 8000000 in
theorem names_any (x : Nd) : WfN x → NamesC x := by
 induction x using Nd.ind with
 | h x ih =>
  intro hw w base b f L A c hwt hown hbase hb hn
  have HA : Hid (Ag w (w.alloc (.cells #[.int .i64 x.kd, .string ⟨x.tx.toArray⟩, .int .i64 x.nm, .int .i64 (x.at_ : Int), .slice f.na x.ns.length f.nc, .slice f.ka x.ks.length f.kc] 25)) b w.heap.size x f) := Ag.start hn
  have HL : Hid (x.ks.length ≤ 100000) := hw.len
  have HWT : Hid (L.length + wtN x ≤ 100000) := hwt
  have HWE := Lib.hid (wtN_eq x)
  have IH := Lib.hid (fun y hy => ih y hy (hw.ks y hy))
  have HE := Lib.hid (namesF_eq x)
  have HB := Lib.hid hb
  have HOW := Lib.hid (hown.below HA.out.bel (Nat.le_refl _))
  have HOW0 := Lib.hid hown
  have HBS := Lib.hid hbase
  clear hn hw ih hb hown hbase hwt
  unfold ndV
  go_enter Try.func41, Try.ntmps41
  go_upto_region 1 with (fail)
  generalize w.alloc (.cells #[.int .i64 x.kd, .string ⟨x.tx.toArray⟩, .int .i64 x.nm, .int .i64 (x.at_ : Int), .slice f.na x.ns.length f.nc, .slice f.ka x.ks.length f.kc] 25) = w1 at *
  obtain ⟨G, hG⟩ : ∃ G, w.heap.size = G := ⟨_, rfl⟩
  have HG := Lib.hid hG
  rw [hG] at HA
  simp only [hG]
  clear hG
  have c0 := HA.out.c0
  have c1 := HA.out.c1
  have HNE : Hid ((Value.slice A L.length c).ownBlock ≠ some G) := HOW0.out.ne (.inr (Nat.le_of_eq HG.out))
  clear HOW0
  obtain ⟨L1, hL1⟩ : ∃ L1, (if x.kd == 4 then L ++ [x.tx] else L) = L1 := ⟨_, rfl⟩
  have HL1 := Lib.hid hL1
  clear hL1
  go_upto_if 9 with (fail)
  go_cut [1] (fun u wx => ∃ A1 c1, u = .slice A1 L1.length c1 ∧ Grew w1 base (.slice A L.length c) L1 (.slice A1 L1.length c1) wx)
  case first =>
   by_cases h4 : x.kd = 4
   ·have HQ : Hid (L ++ [x.tx] = L1) := by show _ = _; rw [← HL1.out, h4]; rfl
    have q4 : (x.kd == 4) = true := beq_iff_eq.2 h4
    have HLN : Hid (L1.length = L.length + 1) := by show _ = _; rw [← HQ.out]; simp
    have i9 : L.length ≤ 100000 := by have := HWT.out; omega
    clear h4 HL1 HE
    go_wp2_with (at_builtin; refine list_app ty_str (v := .slice A L.length c) rfl _ _ rfl rfl (own_more_alloc HOW.out.row (.cells #[strV x.tx] 9)) w1.heap.size 1 [strV x.tx] rfl (Whole.made w1 9 _) rfl (by simp [strV, Value.oneCell']) (by decide) (by omega) (by decide) (by have := HBS.out; have := HA.out.bel.size; simp; omega) ?_; intro gv cv wd hap; have HAP := Lib.hid hap; clear hap)
    go_meet
    refine ⟨some ⟨gv, 0, none⟩, cv, by rw [HLN.out], ?_⟩
    have h1 : Appended (w1.alloc (.cells #[strV x.tx] 9)) base 9 1 (.slice A L.length c) L1.length (L1.map strV) (.slice (some ⟨gv, 0, none⟩) (L.length + 1) cv) wd := by
     rw [HLN.out, ← HQ.out, List.map_append]; exact HAP.out
    rw [HLN.out]
    exact ((Grew.refl HOW.out).later ((Below.refl _ _).alloc (Nat.le_refl _) _) (Nat.le_refl _)).app (by rw [← HQ.out]; simp) h1
   ·have q4 : (x.kd == 4) = false := beq_eq_false_iff_ne.2 h4
    have HQ : Hid (L = L1) := by show _ = _; rw [← HL1.out, q4]; rfl
    clear h4 HL1 HE
    go_wp2_with fail
    go_meet
    exact ⟨A, c, by rw [HQ.out], by rw [← HQ.out]; exact Grew.refl HOW.out⟩
  case rest =>
   obtain ⟨A1, k1, rfl, hg⟩ := hcut
   have HGR := Lib.hid hg
   have HK0 : Hid (L1.length ≤ L.length + kwN x.kd) := by
    show _ ≤ _
    rw [← HL1.out]
    unfold kwN
    by_cases h4 : (x.kd == 4) = true
    ·rw [if_pos h4, if_pos (by rw [h4]; rfl)]; simp
    ·rw [if_neg h4]; omega
   have HM : Hid (L ++ namesF x = L1 ++ namesL x.ks) := by
    show _ = _
    rw [← HL1.out, HE.out]
    split <;> simp
   clear HL1 HE hg c0 c1
   have HX := Lib.hid (HGR.out.whole HA.out.X HNE.out)
   have c5 : wc.cell? ⟨G, 5, none⟩ = some (.slice f.ka x.ks.length f.kc) := HX.out.cell 5
   go_wp2_with fail
   clear c5 HX
   go_loopw [1, 18] (fun u i wr => ∃ (k : Nat) (A2 : Option Addr) (k2 : Nat), u = .slice A2 (L1 ++ namesL (x.ks.take k)).length k2 ∧ i = .int .i64 (k : Int) ∧ k ≤ x.ks.length ∧ Grew w1 base (.slice A L.length c) (L1 ++ namesL (x.ks.take k)) (.slice A2 (L1 ++ namesL (x.ks.take k)).length k2) wr) (fun _ i _ => x.ks.length - (intOf i).toNat)
   case atStart => exact ⟨0, A1, k1, by simp [namesL], rfl, Nat.zero_le _, by simpa [namesL] using HGR.out⟩
   case round =>
    obtain ⟨k, A2, k2, rfl, rfl, hk, hg⟩ := hrel
    have HG2 := Lib.hid hg
    clear hg HGR
    by_cases hlt : k < x.ks.length
    ·have HMT := Lib.hid (namesL_take x.ks k hlt)
     have HWL := Lib.hid (wtL_take x.ks k hlt)
     have HNL := Lib.hid (namesL_len (x.ks.take k) (fun y _ => names_len y))
     have HN2 := Lib.hid (HG2.out.node HA.out.n (fun a ha => HOW.out.ne (.inl (HB.out a ha))))
     have HB2 : Hid (base ≤ wr.heap.size) := Nat.le_trans HBS.out (Nat.le_trans HA.out.bel.size HG2.out.size)
     obtain ⟨g, fy, e, _, ⟨x0, x1, x2, x3, x4, x5⟩, ny⟩ := HN2.out.row.any hlt
     have HE2 := Lib.hid e
     have HNY := Lib.hid ny
     have CY := Lib.hid (IH.out _ (getD_mem hlt))
     have i0 : (0 : Int) ≤ (k : Int) := by omega
     have i1 : (k : Int) < (x.ks.length : Int) := by omega
     have i2 : (k : Int) < 100000 := by have := HL.out; omega
     have HBD : Hid ((L1 ++ namesL (x.ks.take k)).length + wtN (x.ks.getD k nd0) ≤ 100000) := by
      have h1 := HWL.out; have h2 := HNL.out; have h3 := HK0.out; have h4 := HWT.out; have h5 := HWE.out
      show _ ≤ _
      rw [List.length_append]; omega
     clear ny e HWL HNL
     generalize x.ks.getD k nd0 = y at *
     obtain ⟨M, hM⟩ : ∃ M, L1 ++ namesL (x.ks.take k) = M := ⟨_, rfl⟩
     have HMM := Lib.hid hM
     rw [hM] at HG2 HBD ⊢
     clear hM
     have HON := Lib.hid (OwnT.below HG2.out.own ((Below.refl _ _).alloc (Nat.le_refl _) (.cells #[.int .i64 y.kd, .string ⟨y.tx.toArray⟩, .int .i64 y.nm, .int .i64 (y.at_ : Int), .slice fy.na y.ns.length fy.nc, .slice fy.ka y.ks.length fy.kc] 25)) (Nat.le_refl _))
     have CY2 := Lib.hid (CY.out (wr.alloc (.cells #[.int .i64 y.kd, .string ⟨y.tx.toArray⟩, .int .i64 y.nm, .int .i64 (y.at_ : Int), .slice fy.na y.ns.length fy.nc, .slice fy.ka y.ks.length fy.kc] 25)) base b fy M A2 k2 HBD.out HON.out (by have := HB2.out; simp; omega) HB.out (HNY.out.later ((Below.refl _ _).alloc (Nat.le_refl _) _) (Nat.le_refl _)))
     unfold ndV at CY2
     rw [HE2.out]
     go_wp2_with fail
     refine CY2.out.mono ?_
     obtain ⟨N, hN⟩ : ∃ N, M ++ namesF y = N := ⟨_, rfl⟩
     have HNN := Lib.hid hN
     rw [hN]
     clear hN
     rintro e w3 ⟨A3, k3, rfl, hg3⟩
     have HG3 := Lib.hid ((HG2.out.later ((Below.refl _ _).alloc (Nat.le_refl _) (.cells #[.int .i64 y.kd, .string ⟨y.tx.toArray⟩, .int .i64 y.nm, .int .i64 (y.at_ : Int), .slice fy.na y.ns.length fy.nc, .slice fy.ka y.ks.length fy.kc] 25)) (Nat.le_refl _)).trans hg3)
     have HMF : Hid (L1 ++ namesL (x.ks.take (k + 1)) = N) := by show _ = _; rw [HMT.out, ← List.append_assoc, HMM.out, HNN.out]
     clear HG2 hg3 CY2 CY HON HNY x0 x1 x2 x3 x4 x5
     go_wp2_with fail
     go_roundw
     case rel => exact ⟨k + 1, A3, k3, by rw [HMF.out], by go_num, by omega, by rw [HMF.out]; exact HG3.out⟩
     case measure => simp [intOf]; omega
    ·have i1 : ¬ (k : Int) < (x.ks.length : Int) := by omega
     have HTK : Hid (x.ks.take k = x.ks) := List.take_of_length_le (by omega)
     rw [HTK.out] at HG2 ⊢
     go_wp2_with fail
     refine bodyPost_ret (v := .slice A2 (L1 ++ namesL x.ks).length k2) (by simp [results, Try.results41, go_sem]) rfl ?_
     exact ⟨A2, k2, by rw [HM.out], by rw [HM.out]; exact HG2.out.first HA.out.bel⟩
end Go.Proofs.Ytgjchgmlogbmmaa
/- The walks of layer 11: all names of a node, each once. -/
namespace Go.Proofs.Ytgjchgmlogbmmaa
open Go.RowKit
set_option linter.unusedVariables false
set_option linter.unusedSimpArgs false
attribute [local go_sem ↓] Go.wp_at_zero Go.wp_at_succ

theorem allL_take (xs : List Nd) : ∀ k l, k < xs.length → allL (xs.take (k + 1)) l = allF (xs.getD k nd0) (allL (xs.take k) l) := by
 induction xs with
 | nil => intro k l h; simp at h
 | cons x xs ih =>
  intro k l h
  cases k with
  | zero => simp [allL]
  | succ k =>
   rw [List.take_succ_cons, List.take_succ_cons, allL, allL, ih k _ (by simpa using h)]; rfl
def AllC (y : Nd) : Prop := ∀ (w : World) (base : Nat) (b : Nat → Prop) (f : Fr) (L : List (List UInt8)) (A : Option Addr) (c : Nat), L.length + wtN y ≤ 100000 → OwnT w base L (.slice A L.length c) → base ≤ w.heap.size → (∀ a, b a → a < base) → NodeIn w b y f →
 Calls Try.prog 28 #[ndV y f, .slice A L.length c] w (Grown w base (.slice A L.length c) (allF y L))
theorem app_own {w1 wd : World} {base c cv gv : Nat} {A : Option Addr} {L : List (List UInt8)} {tx : List UInt8} (HOW : OwnT w1 base L (.slice A L.length c))
  (hap : Appended (w1.alloc (.cells #[strV tx] 9)) base 9 1 (.slice A L.length c) (L.length + 1) (L.map strV ++ [strV tx]) (.slice (some ⟨gv, 0, none⟩) (L.length + 1) cv) wd) :
  Grew w1 base (.slice A L.length c) (L ++ [tx]) (.slice (some ⟨gv, 0, none⟩) (L ++ [tx]).length cv) wd := by
 have e : (L ++ [tx]).length = L.length + 1 := by simp
 rw [e]
 exact ((Grew.refl HOW).later ((Below.refl _ _).alloc (Nat.le_refl _) _) (Nat.le_refl _)).app (by simp) (by rw [e, List.map_append]; exact hap)
set_option maxRecDepth 100000 in
set_option maxHeartbeats 8000000 in
theorem all_any (x : Nd) : WfN x → AllC x := by
 induction x using Nd.ind with
 | h x ih =>
  intro hw w base b f L A c hwt hown hbase hb hn
  have HA : Hid (Ag w (w.alloc (.cells #[.int .i64 x.kd, .string ⟨x.tx.toArray⟩, .int .i64 x.nm, .int .i64 (x.at_ : Int), .slice f.na x.ns.length f.nc, .slice f.ka x.ks.length f.kc] 25)) b w.heap.size x f) := Ag.start hn
  have HL : Hid (x.ks.length ≤ 100000) := hw.len
  have HWT : Hid (L.length + wtN x ≤ 100000) := hwt
  have HWE := Lib.hid (wtN_eq x)
  have IH := Lib.hid (fun y hy => ih y hy (hw.ks y hy))
  have HE := Lib.hid (allF_eq x L)
  have HB := Lib.hid hb
  have HOW := Lib.hid (hown.below HA.out.bel (Nat.le_refl _))
  have HOW0 := Lib.hid hown
  have HBS := Lib.hid hbase
  clear hn hw ih hb hown hbase hwt
  unfold ndV
  go_enter Try.func28, Try.ntmps28
  go_upto_region 1 with (fail)
  generalize w.alloc (.cells #[.int .i64 x.kd, .string ⟨x.tx.toArray⟩, .int .i64 x.nm, .int .i64 (x.at_ : Int), .slice f.na x.ns.length f.nc, .slice f.ka x.ks.length f.kc] 25) = w1 at *
  obtain ⟨G, hG⟩ : ∃ G, w.heap.size = G := ⟨_, rfl⟩
  have HG := Lib.hid hG
  rw [hG] at HA
  simp only [hG]
  clear hG
  have c0 := HA.out.c0
  have c1 := HA.out.c1
  have HNE : Hid ((Value.slice A L.length c).ownBlock ≠ some G) := HOW0.out.ne (.inr (Nat.le_of_eq HG.out))
  clear HOW0
  obtain ⟨L1, hL1⟩ : ∃ L1, (if x.kd == 4 && !L.contains x.tx then L ++ [x.tx] else L) = L1 := ⟨_, rfl⟩
  have HL1 := Lib.hid hL1
  have HM : Hid (allF x L = allL x.ks L1) := by show _ = _; rw [← hL1]; exact HE.out
  clear hL1 HE
  obtain ⟨R, hR⟩ : ∃ R, allF x L = R := ⟨_, rfl⟩
  have HRR := Lib.hid hR
  rw [hR]
  clear hR
  have i9 : L.length ≤ 100000 := by have := HWT.out; omega
  have CH := Lib.hid (rhas_any L i9 x.tx w1 _ A c (own_str HOW.out.row))
  obtain ⟨tb, hTB⟩ : ∃ tb, (x.kd == 4 && !hasB L x.tx) = tb := ⟨_, rfl⟩
  have HTB := Lib.hid hTB
  clear hTB
  go_cut [15] (fun u wx => u = .bool tb ∧ Below w1.heap.size w1 wx)
  case first =>
   by_cases h4 : x.kd = 4
   ·have q4 : (x.kd == 4) = true := beq_iff_eq.2 h4
    have HQ : Hid ((!hasB L x.tx) = tb) := by show _ = _; rw [← HTB.out, q4]; rfl
    clear h4 HL1 HTB
    go_wp2_with fail
    refine CH.out.mono ?_
    rintro e w2 ⟨rfl, b2⟩
    have B2 := Lib.hid b2
    clear b2 CH
    generalize hasB L x.tx = hb at *
    go_wp2_with fail
    go_meet
    exact ⟨congrArg Value.bool HQ.out, B2.out⟩
   ·have q4 : (x.kd == 4) = false := beq_eq_false_iff_ne.2 h4
    have HQ : Hid (false = tb) := by show _ = _; rw [← HTB.out, q4]; rfl
    clear h4 HL1 HTB CH
    go_wp2_with fail
    go_meet
    exact ⟨congrArg Value.bool HQ.out, Below.refl _ _⟩
  case rest =>
   obtain ⟨rfl, b2⟩ := hcut
   rename_i K0 g0
   refine g0 _ _ ?_
   clear g0 K0
   have HA2 := Lib.hid (HA.out.later b2)
   have HOW2 := Lib.hid (HOW.out.below b2 (Nat.le_refl _))
   have HGB := Lib.hid ((Grew.refl HOW.out).later b2 (Nat.le_refl _))
   have HBS2 : Hid (base ≤ wc.heap.size) := Nat.le_trans HBS.out (Nat.le_trans HA.out.bel.size b2.size)
   clear b2 CH c0 c1
   go_cut [1] (fun u wx => ∃ A1 c1, u = .slice A1 L1.length c1 ∧ Grew w1 base (.slice A L.length c) L1 (.slice A1 L1.length c1) wx)
   case first =>
    have c1 := HA2.out.c1
    rcases tb with _ | _
    ·have HQ : Hid (L = L1) := by show _ = _; rw [← HL1.out, show (x.kd == 4 && !L.contains x.tx) = false from HTB.out]; rfl
     clear HL1 HTB
     go_wp2_with fail
     go_meet
     exact ⟨A, c, by rw [HQ.out], by rw [← HQ.out]; exact HGB.out⟩
    ·have HQ : Hid (L ++ [x.tx] = L1) := by show _ = _; rw [← HL1.out, show (x.kd == 4 && !L.contains x.tx) = true from HTB.out]; rfl
     clear HL1 HTB
     go_wp2_with (at_builtin; refine list_app ty_str (v := .slice A L.length c) rfl _ _ rfl rfl (own_more_alloc HOW2.out.row (.cells #[strV x.tx] 9)) wc.heap.size 1 [strV x.tx] rfl (Whole.made wc 9 _) rfl (by simp [strV, Value.oneCell']) (by decide) (by omega) (by decide) (by have := HBS2.out; simp; omega) ?_; intro gv cv wd hap; have HAP := Lib.hid (app_own HOW2.out hap); clear hap)
     go_meet
     have e1 : L1.length = L.length + 1 := by rw [← HQ.out]; simp
     refine ⟨some ⟨gv, 0, none⟩, cv, by rw [e1], ?_⟩
     rw [← HQ.out]
     exact HGB.out.trans HAP.out
   case rest =>
    obtain ⟨A1, k1, rfl, hg⟩ := hcut
    have HGR := Lib.hid hg
    have HK0 : Hid (L1.length ≤ L.length + kwN x.kd) := by
     show _ ≤ _
     rw [← HL1.out]
     unfold kwN
     by_cases h4 : (x.kd == 4) = true
     ·rw [if_pos (show _ = true from by rw [h4]; rfl : (x.kd == 4 || x.kd == 6 || x.kd == 8 || x.kd == 9 || x.kd == 12) = true)]
      split <;> simp
     ·rw [if_neg (by rw [Bool.eq_false_iff.2 h4]; simp)]; omega
    clear HL1 HTB hg
    clear HGB HA2 HOW2 HBS2
    go_wp2_with fail
    go_loopw [1, 5] (fun u i wr => ∃ (k : Nat) (A2 : Option Addr) (k2 : Nat), u = .slice A2 (allL (x.ks.take k) L1).length k2 ∧ i = .int .i64 (k : Int) ∧ k ≤ x.ks.length ∧ Grew w1 base (.slice A L.length c) (allL (x.ks.take k) L1) (.slice A2 (allL (x.ks.take k) L1).length k2) wr) (fun _ i _ => x.ks.length - (intOf i).toNat)
    case atStart => exact ⟨0, A1, k1, by simp [allL], rfl, Nat.zero_le _, by simpa [allL] using HGR.out⟩
    case round =>
     obtain ⟨k, A2, k2, rfl, rfl, hk, hg⟩ := hrel
     have HG2 := Lib.hid hg
     clear hg HGR
     have HX := Lib.hid (HG2.out.whole HA.out.X HNE.out)
     have c5 : wr.cell? ⟨G, 5, none⟩ = some (.slice f.ka x.ks.length f.kc) := HX.out.cell 5
     clear HX
     by_cases hlt : k < x.ks.length
     ·have HMT := Lib.hid (allL_take x.ks k L1 hlt)
      have HWL := Lib.hid (wtL_take x.ks k hlt)
      have HNL := Lib.hid (allL_len (x.ks.take k) (fun y _ => allF_len y) L1)
      have HN2 := Lib.hid (HG2.out.node HA.out.n (fun a ha => HOW.out.ne (.inl (HB.out a ha))))
      have HB2 : Hid (base ≤ wr.heap.size) := Nat.le_trans HBS.out (Nat.le_trans HA.out.bel.size HG2.out.size)
      obtain ⟨g, fy, e, _, ⟨x0, x1, x2, x3, x4, x5⟩, ny⟩ := HN2.out.row.any hlt
      rw [e] at c5
      clear e
      have HNY := Lib.hid ny
      have CY := Lib.hid (IH.out _ (getD_mem hlt))
      have i0 : (0 : Int) ≤ (k : Int) := by omega
      have i1 : (k : Int) < (x.ks.length : Int) := by omega
      have i2 : (k : Int) < 100000 := by have := HL.out; omega
      have HBD : Hid ((allL (x.ks.take k) L1).length + wtN (x.ks.getD k nd0) ≤ 100000) := by
       have h1 := HWL.out; have h2 := HNL.out; have h3 := HK0.out; have h4 := HWT.out; have h5 := HWE.out
       show _ ≤ _
       omega
      clear ny HWL HNL
      generalize x.ks.getD k nd0 = y at *
      obtain ⟨M, hM⟩ : ∃ M, allL (x.ks.take k) L1 = M := ⟨_, rfl⟩
      have HMM := Lib.hid hM
      rw [hM] at HG2 HBD ⊢
      clear hM
      have CY2 := Lib.hid (CY.out wr base b fy M A2 k2 HBD.out HG2.out.own HB2.out HB.out HNY.out)
      unfold ndV at CY2
      obtain ⟨N, hN⟩ : ∃ N, allF y M = N := ⟨_, rfl⟩
      have HNN := Lib.hid hN
      rw [hN] at CY2
      clear hN
      go_wp2_with fail
      refine CY2.out.mono ?_
      rintro e w3 ⟨A3, k3, rfl, hg3⟩
      have HG3 := Lib.hid (HG2.out.trans hg3)
      have HMF : Hid (allL (x.ks.take (k + 1)) L1 = N) := by show _ = _; rw [HMT.out, HMM.out, HNN.out]
      clear HG2 hg3 CY2 CY HNY x0 x1 x2 x3 x4 x5 c5
      go_wp2_with fail
      go_roundw
      case rel => exact ⟨k + 1, A3, k3, by rw [HMF.out], by go_num, by omega, by rw [HMF.out]; exact HG3.out⟩
      case measure => simp [intOf]; omega
     ·have i1 : ¬ (k : Int) < (x.ks.length : Int) := by omega
      have HTK : Hid (x.ks.take k = x.ks) := List.take_of_length_le (by omega)
      rw [HTK.out] at HG2 ⊢
      go_wp2_with fail
      refine bodyPost_ret (v := .slice A2 (allL x.ks L1).length k2) (by simp [results, Try.results28, go_sem]) rfl ?_
      exact ⟨A2, k2, by rw [HM.out], by rw [HM.out]; exact HG2.out.first HA.out.bel⟩
end Go.Proofs.Ytgjchgmlogbmmaa
/- The walks of layer 11: does a pattern bind a name. -/
namespace Go.Proofs.Ytgjchgmlogbmmaa
open Go.RowKit
set_option linter.unusedVariables false
set_option linter.unusedSimpArgs false
attribute [local go_sem ↓] Go.wp_at_zero Go.wp_at_succ

theorem namesL_has : ∀ {xs : List Nd} {k : Nat} {s : List UInt8}, k < xs.length → hasB (namesF (xs.getD k nd0)) s = true → hasB (namesL xs) s = true
 | [], k, s, h, _ => absurd h (by simp)
 | x :: xs, 0, s, _, h => by
  unfold hasB at h ⊢
  rw [List.contains_iff_mem] at h ⊢
  rw [namesL]; exact List.mem_append_left _ h
 | x :: xs, k + 1, s, h, h2 => by
  have := namesL_has (xs := xs) (k := k) (s := s) (by simpa using h) h2
  unfold hasB at this ⊢
  rw [List.contains_iff_mem] at this ⊢
  rw [namesL]; exact List.mem_append_right _ this
theorem namesL_hasnt : ∀ {xs : List Nd} {s : List UInt8}, (∀ j, j < xs.length → hasB (namesF (xs.getD j nd0)) s = false) → hasB (namesL xs) s = false
 | [], s, _ => rfl
 | x :: xs, s, h => by
  have h0 := h 0 (Nat.zero_lt_succ _)
  have h1 := namesL_hasnt (xs := xs) (s := s) fun j hj => h (j + 1) (Nat.succ_lt_succ hj)
  unfold hasB at h0 h1 ⊢
  rw [Bool.eq_false_iff, Ne, List.contains_iff_mem] at h0 h1 ⊢
  rw [namesL, List.mem_append]
  rintro (h | h)
  ·exact h0 h
  ·exact h1 h
theorem has_names (x : Nd) (s : List UInt8) : hasB (namesF x) s = ((x.kd == 4 && x.tx == s) || hasB (namesL x.ks) s) := by
 rw [namesF_eq]
 unfold hasB
 rw [Bool.eq_iff_iff, Bool.or_eq_true, List.contains_iff_mem, List.contains_iff_mem, List.mem_append, Bool.and_eq_true]
 by_cases h : x.kd = 4
 ·rw [if_pos (by simpa using h), List.mem_singleton, beq_iff_eq, beq_iff_eq]
  exact ⟨fun a => a.imp (fun b => ⟨h, b.symm⟩) id, fun a => a.imp (fun b => b.2.symm) id⟩
 ·rw [if_neg (by simpa using h), beq_iff_eq]
  exact ⟨fun a => a.imp (fun b => absurd b List.not_mem_nil) id, fun a => a.imp (fun b => absurd b.1 h) id⟩
def InC (y : Nd) : Prop := ∀ (w : World) (b : Nat → Prop) (f : Fr) (s : List UInt8), NodeIn w b y f → Calls Try.prog 46 #[ndV y f, .string ⟨s.toArray⟩] w fun e w' => e = .returned (.bool (hasB (namesF y) s)) ∧ Below w.heap.size w w'
set_option maxRecDepth 100000 in
set_option maxHeartbeats 4000000 in
theorem in_any (x : Nd) : WfN x → InC x := by
 induction x using Nd.ind with
 | h x ih =>
  intro hw w b f s hn
  have HA : Hid (Ag w (w.alloc (.cells #[.int .i64 x.kd, .string ⟨x.tx.toArray⟩, .int .i64 x.nm, .int .i64 (x.at_ : Int), .slice f.na x.ns.length f.nc, .slice f.ka x.ks.length f.kc] 25)) b w.heap.size x f) := Ag.start hn
  have HL : Hid (x.ks.length ≤ 100000) := hw.len
  have IH := Lib.hid (fun y hy => ih y hy (hw.ks y hy))
  have HE := Lib.hid (has_names x s)
  clear hn hw ih
  unfold ndV
  obtain ⟨R, hR⟩ : ∃ R, hasB (namesF x) s = R := ⟨_, rfl⟩
  have HRR := Lib.hid hR
  rw [hR] at HE ⊢
  clear hR
  go_enter Try.func46, Try.ntmps46
  go_upto_region 1 with (fail)
  generalize w.alloc (.cells #[.int .i64 x.kd, .string ⟨x.tx.toArray⟩, .int .i64 x.nm, .int .i64 (x.at_ : Int), .slice f.na x.ns.length f.nc, .slice f.ka x.ks.length f.kc] 25) = w1 at *
  generalize w.heap.size = G at HA ⊢
  have c0 := HA.out.c0
  have c1 := HA.out.c1
  go_cut [15] (fun u wx => u = .bool (x.kd == 4 && x.tx == s) ∧ wx = w1)
  case first =>
   by_cases h4 : x.kd = 4
   ·have q4 : (x.kd == 4) = true := beq_iff_eq.2 h4
    have HQ : Hid ((x.tx == s) = (x.kd == 4 && x.tx == s)) := by show _ = _; rw [q4]; rfl
    clear h4 HE
    go_wp2_with fail
    go_meet
    exact ⟨congrArg Value.bool HQ.out, rfl⟩
   ·have q4 : (x.kd == 4) = false := beq_eq_false_iff_ne.2 h4
    have HQ : Hid (false = (x.kd == 4 && x.tx == s)) := by show _ = _; rw [q4]; rfl
    clear h4 HE
    go_wp2_with fail
    go_meet
    exact ⟨congrArg Value.bool HQ.out, rfl⟩
  case rest =>
   obtain ⟨rfl, rfl⟩ := hcut
   rename_i K0 g0
   refine g0 _ _ ?_
   clear g0 K0 c0 c1
   obtain ⟨tb, hTB⟩ : ∃ tb, (x.kd == 4 && x.tx == s) = tb := ⟨_, rfl⟩
   rw [hTB] at HE ⊢
   clear hTB
   rcases tb with _ | _
   ·have HE2 : Hid (R = hasB (namesL x.ks) s) := by show _ = _; rw [HE.out]; rfl
    clear HE
    go_wp2_with fail
    go_loopw [5] (fun i wr => ∃ k : Nat, i = .int .i64 (k : Int) ∧ k ≤ x.ks.length ∧ (∀ j, j < k → hasB (namesF (x.ks.getD j nd0)) s = false) ∧ Ag w wr b G x f) (fun i _ => x.ks.length - (intOf i).toNat)
    case atStart => exact ⟨0, rfl, Nat.zero_le _, fun j hj => absurd hj (by omega), HA.out⟩
    case round =>
     obtain ⟨k, rfl, hk, hall, ha⟩ := hrel
     have HR := Lib.hid ha
     have HALL := Lib.hid hall
     have c5 := ha.c5
     clear ha hall HA
     by_cases hlt : k < x.ks.length
     ·obtain ⟨g, fy, e, _, ⟨x0, x1, x2, x3, x4, x5⟩, ny⟩ := HR.out.n.row.any hlt
      rw [e] at c5
      clear e
      have CY := Lib.hid (IH.out _ (getD_mem hlt) wr b fy s ny)
      have HN : Hid (hasB (namesF (x.ks.getD k nd0)) s = true → hasB (namesL x.ks) s = true) := fun h => namesL_has hlt h
      have i0 : (0 : Int) ≤ (k : Int) := by omega
      have i1 : (k : Int) < (x.ks.length : Int) := by omega
      have i2 : (k : Int) < 100000 := by have := HL.out; omega
      have HD : Hid (hasB (namesF (x.ks.getD k nd0)) s = false → ∀ j, j < k + 1 → hasB (namesF (x.ks.getD j nd0)) s = false) := fun h j hj => by
       rcases (by omega : j < k ∨ j = k) with h' | rfl
       ·exact HALL.out j h'
       ·exact h
      clear HALL ny
      generalize x.ks.getD k nd0 = y at *
      unfold ndV at CY
      go_wp2_with fail
      refine CY.out.mono ?_
      rintro e w3 ⟨rfl, b3⟩
      have HR3 := Lib.hid (HR.out.later b3)
      clear HR b3 CY x0 x1 x2 x3 x4 x5 c5
      obtain ⟨sb, hsb⟩ : ∃ sb, hasB (namesF y) s = sb := ⟨_, rfl⟩
      have HSB := Lib.hid hsb
      rw [hsb]
      clear hsb
      rcases sb with _ | _
      ·go_wp2_with fail
       go_roundw
       case rel => exact ⟨k + 1, by go_num, by omega, HD.out HSB.out, HR3.out⟩
       case measure => simp [intOf]; omega
      ·have HS : Hid (R = true) := HE2.out.trans (HN.out HSB.out)
       go_wp2_with fail
       go_ret
       exact ⟨ret_bq HS.out.symm, HR3.out.bel⟩
     ·have i1 : ¬ (k : Int) < (x.ks.length : Int) := by omega
      have HS : Hid (R = false) := HE2.out.trans (namesL_hasnt fun j hj => HALL.out j (by omega))
      go_wp2_with fail
      go_ret
      exact ⟨ret_bq HS.out.symm, HR.out.bel⟩
   ·have HS : Hid (R = true) := by show _ = _; rw [HE.out]; rfl
    go_wp2_with fail
    go_ret
    exact ⟨ret_bq HS.out.symm, HA.out.bel⟩
end Go.Proofs.Ytgjchgmlogbmmaa
/- The walks of layer 11: the names that a node binds in a kid. -/
namespace Go.Proofs.Ytgjchgmlogbmmaa
open Go.RowKit
set_option linter.unusedVariables false
set_option linter.unusedSimpArgs false
attribute [local go_sem ↓] Go.wp_at_zero Go.wp_at_succ

theorem OwnT.up {w : World} {b b' : Nat} {L : List (List UInt8)} {v : Value} (h : OwnT w b L v) (hb : b' ≤ b) : OwnT w b' L v := by
 refine ⟨⟨h.row.1, ?_⟩, h.nil⟩
 rcases h.row.2 with e | ⟨g, c, cur, e1, e2, e3⟩
 ·exact .inl e
 ·exact .inr ⟨g, c, cur, e1, Nat.le_trans hb e2, e3⟩
theorem lit_own (w : World) (tx : List UInt8) : OwnT (w.alloc (.cells #[strV tx] 9)) w.heap.size [tx] (.slice (some ⟨w.heap.size, 0, none⟩) 1 1) :=
 ⟨World.ownsRow_lit w #[strV tx] 1 (Nat.le_refl _) (by decide) rfl, fun h => by cases h⟩
set_option maxRecDepth 100000 in
set_option maxHeartbeats 8000000 in
theorem binds_any (x : Nd) (hw : WfN x) (hwt : wtN x ≤ 100000) (w : World) (b : Nat → Prop) (f : Fr) (i : Nat) (hi : i < x.ks.length) (hb : ∀ a, b a → a < w.heap.size) (hn : NodeIn w b x f) :
  Calls Try.prog 22 #[ndV x f, .int .i64 (i : Int)] w fun e w' => ∃ A c, e = .returned (.tuple #[.slice A (bindsF x.kd x.tx (x.ks.getD (i - 1) nd0) i).length c, .bool (bindsB x.kd i)]) ∧ OwnT w' w.heap.size (bindsF x.kd x.tx (x.ks.getD (i - 1) nd0) i) (.slice A (bindsF x.kd x.tx (x.ks.getD (i - 1) nd0) i).length c) ∧ Below w.heap.size w w' := by
 have HA : Hid (Ag w (w.alloc (.cells #[.int .i64 x.kd, .string ⟨x.tx.toArray⟩, .int .i64 x.nm, .int .i64 (x.at_ : Int), .slice f.na x.ns.length f.nc, .slice f.ka x.ks.length f.kc] 25)) b w.heap.size x f) := Ag.start hn
 have HL : Hid (x.ks.length ≤ 100000) := hw.len
 have HWK := Lib.hid (fun y (hy : y ∈ x.ks) => names_any y (hw.ks y hy))
 have HWT : Hid (wtN x ≤ 100000) := hwt
 have HI : Hid (i < x.ks.length) := hi
 have HBB := Lib.hid hb
 obtain ⟨p, hp⟩ : ∃ p, x.ks.getD (i - 1) nd0 = p := ⟨_, rfl⟩
 have HP := Lib.hid hp
 rw [hp]
 have i0 : (0 : Int) ≤ (i : Int) := by omega
 have i2 : (i : Int) < 100000 := by have := hw.len; omega
 clear hn hw hwt hi hb hp
 unfold ndV
 go_enter Try.func22, Try.ntmps22
 go_upto_region 1 with (fail)
 generalize w.alloc (.cells #[.int .i64 x.kd, .string ⟨x.tx.toArray⟩, .int .i64 x.nm, .int .i64 (x.at_ : Int), .slice f.na x.ns.length f.nc, .slice f.ka x.ks.length f.kc] 25) = w1 at *
 obtain ⟨G, hG⟩ : ∃ G, w.heap.size = G := ⟨_, rfl⟩
 have HG := Lib.hid hG
 rw [hG] at HA
 simp only [hG]
 clear hG
 have c0 := HA.out.c0
 have c1 := HA.out.c1
 by_cases h6 : x.kd = 6
 ·have HQ : Hid (bindsF x.kd x.tx p i = [x.tx]) := by show _ = _; rw [h6]; rfl
  have HB2 : Hid (bindsB x.kd i = true) := by show _ = _; rw [h6]; rfl
  have HK : Hid (x.kd = 6) := h6
  rw [h6] at c0
  clear h6
  have HO := Lib.hid (lit_own w1 x.tx)
  have HBL := Lib.hid (HA.out.bel.trans (((Below.refl w1.heap.size w1).alloc (Nat.le_refl _) (.cells #[strV x.tx] 9)).mono HA.out.bel.size))
  go_wp2_with fail
  refine bodyPost_ret (v := .tuple #[.slice (some ⟨w1.heap.size, 0, none⟩) 1 1, .bool true]) (by simp [results, Try.results22, go_sem]) rfl ?_
  refine ⟨_, _, by rw [HQ.out, HB2.out]; rfl, ?_, HBL.out⟩
  rw [HQ.out]
  exact HO.out.up HA.out.bel.size
 by_cases h9 : x.kd = 9
 ·have HQ : Hid (bindsF x.kd x.tx p i = [x.tx]) := by show _ = _; rw [h9]; rfl
  have HB2 : Hid (bindsB x.kd i = true) := by show _ = _; rw [h9]; rfl
  have HK : Hid (x.kd = 9) := h9
  rw [h9] at c0
  clear h9
  have HO := Lib.hid (lit_own w1 x.tx)
  have HBL := Lib.hid (HA.out.bel.trans (((Below.refl w1.heap.size w1).alloc (Nat.le_refl _) (.cells #[strV x.tx] 9)).mono HA.out.bel.size))
  go_wp2_with fail
  refine bodyPost_ret (v := .tuple #[.slice (some ⟨w1.heap.size, 0, none⟩) 1 1, .bool true]) (by simp [results, Try.results22, go_sem]) rfl ?_
  refine ⟨_, _, by rw [HQ.out, HB2.out]; rfl, ?_, HBL.out⟩
  rw [HQ.out]
  exact HO.out.up HA.out.bel.size
 by_cases h8 : x.kd = 8
 ·have HB2 : Hid (bindsB x.kd i = true) := by show _ = _; rw [h8]; rfl
  have HQ0 : Hid (bindsF x.kd x.tx p i = if i == 1 then [x.tx] else []) := by show _ = _; rw [h8]; rfl
  rw [h8] at c0
  clear h8
  by_cases hi : i = 1
  ·subst hi
   have HQ : Hid (bindsF x.kd x.tx p 1 = [x.tx]) := HQ0.out
   have i1 : ((1 : Nat) : Int) = 1 := rfl
   clear HQ0
   have HO := Lib.hid (lit_own w1 x.tx)
   have HBL := Lib.hid (HA.out.bel.trans (((Below.refl w1.heap.size w1).alloc (Nat.le_refl _) (.cells #[strV x.tx] 9)).mono HA.out.bel.size))
   go_wp2_with fail
   refine bodyPost_ret (v := .tuple #[.slice (some ⟨w1.heap.size, 0, none⟩) 1 1, .bool true]) (by simp [results, Try.results22, go_sem]) rfl ?_
   refine ⟨_, _, by rw [HQ.out, HB2.out]; rfl, ?_, HBL.out⟩
   rw [HQ.out]
   exact HO.out.up HA.out.bel.size
  ·have q1 : ((i : Int) == 1) = false := beq_eq_false_iff_ne.2 (by omega)
   have HQ : Hid (bindsF x.kd x.tx p i = []) := by show _ = _; rw [HQ0.out, if_neg (by simpa using hi)]
   clear HQ0 hi
   go_wp2_with fail
   refine bodyPost_ret (v := .tuple #[.slice none 0 0, .bool true]) (by simp [results, Try.results22, go_sem]) rfl ?_
   exact ⟨none, 0, by rw [HQ.out, HB2.out]; rfl, by rw [HQ.out]; exact OwnT.none _ _, HA.out.bel⟩
 by_cases h12 : x.kd = 12
 ·have HB2 : Hid (bindsB x.kd i = true) := by show _ = _; rw [h12]; rfl
  have HQ0 : Hid (bindsF x.kd x.tx p i = if i == 1 then [x.tx] else []) := by show _ = _; rw [h12]; rfl
  rw [h12] at c0
  clear h12
  by_cases hi : i = 1
  ·subst hi
   have HQ : Hid (bindsF x.kd x.tx p 1 = [x.tx]) := HQ0.out
   have i1 : ((1 : Nat) : Int) = 1 := rfl
   clear HQ0
   have HO := Lib.hid (lit_own w1 x.tx)
   have HBL := Lib.hid (HA.out.bel.trans (((Below.refl w1.heap.size w1).alloc (Nat.le_refl _) (.cells #[strV x.tx] 9)).mono HA.out.bel.size))
   go_wp2_with fail
   refine bodyPost_ret (v := .tuple #[.slice (some ⟨w1.heap.size, 0, none⟩) 1 1, .bool true]) (by simp [results, Try.results22, go_sem]) rfl ?_
   refine ⟨_, _, by rw [HQ.out, HB2.out]; rfl, ?_, HBL.out⟩
   rw [HQ.out]
   exact HO.out.up HA.out.bel.size
  ·have q1 : ((i : Int) == 1) = false := beq_eq_false_iff_ne.2 (by omega)
   have HQ : Hid (bindsF x.kd x.tx p i = []) := by show _ = _; rw [HQ0.out, if_neg (by simpa using hi)]
   clear HQ0 hi
   go_wp2_with fail
   refine bodyPost_ret (v := .tuple #[.slice none 0 0, .bool true]) (by simp [results, Try.results22, go_sem]) rfl ?_
   exact ⟨none, 0, by rw [HQ.out, HB2.out]; rfl, by rw [HQ.out]; exact OwnT.none _ _, HA.out.bel⟩
 by_cases h11 : x.kd = 11
 ·have HQ0 : Hid (bindsF x.kd x.tx p i = if 0 < i ∧ i % 2 = 0 then namesF p else []) := by show _ = _; rw [h11]; rfl
  have HB0 : Hid (bindsB x.kd i = (i % 2 == 0)) := by show _ = _; rw [h11]; rfl
  rw [h11] at c0
  clear h11
  have c5 := HA.out.c5
  by_cases hz : i = 0
  ·subst hz
   have HQ : Hid (bindsF x.kd x.tx p 0 = []) := HQ0.out
   have HB2 : Hid (bindsB x.kd 0 = true) := HB0.out
   clear HQ0 HB0
   go_wp2_with fail
   refine bodyPost_ret (v := .tuple #[.slice none 0 0, .bool true]) (by simp [results, Try.results22, go_sem]) rfl ?_
   exact ⟨none, 0, by rw [HQ.out, HB2.out]; rfl, by rw [HQ.out]; exact OwnT.none _ _, HA.out.bel⟩
  by_cases hev : i % 2 = 0
  ·have HQ : Hid (bindsF x.kd x.tx p i = namesF p) := by show _ = _; rw [HQ0.out, if_pos ⟨by omega, hev⟩]
   have HB2 : Hid (bindsB x.kd i = true) := by show _ = _; rw [HB0.out, hev]; rfl
   obtain ⟨j, hj⟩ : ∃ j, i = j + 1 := ⟨i - 1, by omega⟩
   have HJ := Lib.hid hj
   have j1 : ((i : Int) - 1) = (j : Int) := by omega
   have j2 : (0 : Int) ≤ (j : Int) := by omega
   have j3 : (j : Int) < (x.ks.length : Int) := by have := HI.out; omega
   have q1 : (((i : Int) % 2) == 0) = true := beq_iff_eq.2 (by omega)
   have q2 : (0 : Int) < (i : Int) := by omega
   have hjl : j < x.ks.length := by have := HI.out; omega
   obtain ⟨g, fy, e, _, ⟨x0, x1, x2, x3, x4, x5⟩, ny⟩ := HA.out.n.row.any hjl
   have hpj : x.ks.getD j nd0 = p := by have := HP.out; rw [hj] at this; simpa using this
   rw [hpj] at x0 x1 x2 x3 x4 x5 ny
   rw [e] at c5
   have hpm : p ∈ x.ks := by rw [← hpj]; exact getD_mem hjl
   have CN := Lib.hid (HWK.out p hpm w1 w.heap.size b fy [] none 0 (by have := wt_kid hpm; have := HWT.out; simp; omega) (OwnT.none _ _) HA.out.bel.size HBB.out ny)
   unfold ndV at CN
   clear e hj hpj hpm ny hjl hz hev HQ0 HB0 HP
   obtain ⟨N, hN⟩ : ∃ N, namesF p = N := ⟨_, rfl⟩
   rw [hN] at HQ
   rw [List.nil_append, hN] at CN
   clear hN
   have HJS := Lib.hid (And.intro j1 (And.intro j2 (And.intro j3 (show (j : Int) < 100000 by omega))))
   clear j1 j2 j3 i2
   go_upto_region 11 with (fail)
   obtain ⟨j1, j2, j3, j4⟩ := HJS.out
   clear q1 q2 HJS i0
   go_wp2_with fail
   refine CN.out.mono ?_
   rintro e w3 ⟨A3, k3, rfl, hg3⟩
   have HG3 := Lib.hid hg3
   clear hg3 CN x0 x1 x2 x3 x4 x5 c5 c0 c1 j1 j2 j3
   go_wp2_with fail
   refine bodyPost_ret (v := .tuple #[.slice A3 N.length k3, .bool true]) (by simp [results, Try.results22, go_sem]) rfl ?_
   refine ⟨A3, k3, by rw [HQ.out, HB2.out], by rw [HQ.out]; exact HG3.out.own, ?_⟩
   exact (HG3.out.first HA.out.bel).below (fun g h => by cases h) (Nat.le_refl _)
  ·have HQ : Hid (bindsF x.kd x.tx p i = []) := by show _ = _; rw [HQ0.out, if_neg (fun h => hev h.2)]
   have HB2 : Hid (bindsB x.kd i = false) := by show _ = _; rw [HB0.out]; exact beq_eq_false_iff_ne.2 hev
   have q1 : (((i : Int) % 2) == 0) = false := beq_eq_false_iff_ne.2 (by omega)
   have q2 : (0 : Int) < (i : Int) := by omega
   have q3 : ((i : Int) == 0) = false := beq_eq_false_iff_ne.2 (by omega)
   clear hev hz HQ0 HB0 HP i2
   go_wp2_with fail
   refine bodyPost_ret (v := .tuple #[.slice none 0 0, .bool false]) (by simp [results, Try.results22, go_sem]) rfl ?_
   exact ⟨none, 0, by rw [HQ.out, HB2.out]; rfl, by rw [HQ.out]; exact OwnT.none _ _, HA.out.bel⟩
 ·have e6 : (x.kd == 6) = false := beq_eq_false_iff_ne.2 h6
  have e9 : (x.kd == 9) = false := beq_eq_false_iff_ne.2 h9
  have e8 : (x.kd == 8) = false := beq_eq_false_iff_ne.2 h8
  have e12 : (x.kd == 12) = false := beq_eq_false_iff_ne.2 h12
  have e11 : (x.kd == 11) = false := beq_eq_false_iff_ne.2 h11
  have HQ : Hid (bindsF x.kd x.tx p i = []) := by show _ = _; unfold bindsF; rw [e6, e9, e8, e12, e11]; rfl
  have HB2 : Hid (bindsB x.kd i = true) := by show _ = _; unfold bindsB; rw [e11]; rfl
  clear h6 h9 h8 h12 h11
  go_wp2_with fail
  refine bodyPost_ret (v := .tuple #[.slice none 0 0, .bool true]) (by simp [results, Try.results22, go_sem]) rfl ?_
  exact ⟨none, 0, by rw [HQ.out, HB2.out]; rfl, by rw [HQ.out]; exact OwnT.none _ _, HA.out.bel⟩
end Go.Proofs.Ytgjchgmlogbmmaa
