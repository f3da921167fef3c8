/- Decoding by the document: its memory, and as a function of what is left to be read. -/
import Derived.Test.YtffpkmoaahkfmaaRone
namespace Go.Proofs.Ytffpkmoaahkfmaa
open Go.RowKit
set_option linter.unusedVariables false

structure Arg where
  A : Option Addr
  n : Nat
  c : Nat
  l : List UInt8
def RdR (B : Nat) (g : Arg) (s : St) (w : World) : Prop := RrAt (B + 1) B g.A g.n g.c g.l s w
/-- The memory of a decoding under way: the box of what is gathered at block B + 3. -/
structure DecR (w0 : World) (B : Nat) (g : Arg) (s : St) (cs : Array Value) (w : World) : Prop where
  rd : RdR B g s w
  below : Below B w0 w
  res : Whole w B 26 #[.slice none 0 0, .slice none 0 0, .slice none 0 0, .int .i64 0]
  box : Whole w (B + 1 + 1) 26 cs
  size : B + 1 + 1 + 1 ≤ w.heap.size
section
variable {w0 w w' : World} {B : Nat} {g : Arg} {s s' : St} {cs : Array Value}
theorem RdR.keep (h : RdR B g s w) (h1 : ∀ cs, Whole w (B + 1) 60 cs → Whole w' (B + 1) 60 cs) (hb : Below B w w') : RdR B g s w' := by
  obtain ⟨i, hw, hby, hi, hs, hn, hc⟩ := h.ex
  exact ⟨⟨i, h1 _ hw, ⟨hby.1, fun h0 => by
    obtain ⟨b, off, e, hlt, hcell⟩ := hby.2 h0
    exact ⟨b, off, e, hlt, fun j hj => (hb.cell (p := ⟨b, off + j, none⟩) hlt).trans (hcell j hj)⟩⟩, hi, hs, hn, hc⟩, h.hR⟩
theorem DecR.next (h : DecR w0 B g s cs w) (hr : RdR B g s' w') (ho : Only (B + 1) (B + 1) w w') : DecR w0 B g s' cs w' :=
  ⟨hr, h.below.trans (ho.below (by omega) (by omega)), ho.whole h.res (by omega) (by omega), ho.whole h.box (by omega) (by omega), by rw [ho.size]; exact h.size⟩
theorem DecR.alloc (h : DecR w0 B g s cs w) (o : Obj) : DecR w0 B g s cs (w.alloc o) :=
  ⟨h.rd.keep (fun _ k => k.alloc _) ((Below.refl _ _).alloc (by have := h.size; omega) _), h.below.alloc (by have := h.size; omega) _, h.res.alloc _, h.box.alloc _, by have := h.size; simp; omega⟩
theorem DecR.drew (h : DecR w0 B g s cs w) : DecR w0 B g s cs w.drew :=
  ⟨h.rd.keep (fun _ k => k) (Below.refl B w).drew, h.below.drew, h.res, h.box, h.size⟩
theorem DecR.app (h : DecR w0 B g s cs w) {base : Nat} {e : TypeId} {size n n0 : Nat} {v v' : Value} {xs xs0 : List Value} (ha : Appended w base e size v n xs v' w') (ho : w.ownsRow base e size v n0 xs0) (hb : B + 1 + 1 + 1 ≤ base) (hs : base ≤ w.heap.size) : DecR w0 B g s cs w' := by
  have far : ∀ g t cs, g ≤ B + 1 + 1 → Whole w g t cs → Whole w' g t cs := fun g t cs hg hw => ha.far hw (fun hh => by have := (ho.lt _ hh).1; omega)
  have hbl : Below B w w' := (Below.refl B w).grown ha.2.1 (by have := h.size; omega) (fun k hk => by have := (ho.lt k hk).1; omega)
  exact ⟨h.rd.keep (fun _ => far _ _ _ (by omega)) hbl, h.below.trans hbl, far _ _ _ (by omega) h.res, far _ _ _ (by omega) h.box, Nat.le_trans h.size ha.grows⟩
theorem DecR.put (h : DecR w0 B g s cs w) (i : Nat) (u : Value) : DecR w0 B g s (cs.setIfInBounds i u) (w.setCell ⟨B + 1 + 1, i, none⟩ u) :=
  ⟨h.rd.keep (fun _ k => k.far (p := ⟨B + 1 + 1, i, none⟩) (by show B + 1 ≠ B + 1 + 1; omega) _) ((Below.refl _ _).setCell (by show B ≤ B + 1 + 1; omega) _),
    h.below.setCell (by show B ≤ B + 1 + 1; omega) _, h.res.far (p := ⟨B + 1 + 1, i, none⟩) (by show B ≠ B + 1 + 1; omega) _, h.box.put i u, by have := h.size; simp [World.setCell]; omega⟩
theorem DecR.later (h : DecR w0 B g s cs w) (hb : Below w.heap.size w w') : DecR w0 B g s cs w' := by
  have hs := h.size
  exact ⟨h.rd.keep (fun _ k => k.below hb (by omega)) (hb.mono (by omega)), h.below.trans (hb.mono (by omega)), h.res.below hb (by omega), h.box.below hb (by omega), Nat.le_trans hs hb.size⟩
theorem DecR.own_put (_h : DecR w0 B g s cs w) {e : TypeId} {size n base o : Nat} {v u : Value} {xs : List Value} (ho : w.ownsRow base e size v n xs) (hb : B + 1 + 1 + 1 ≤ base) : (w.setCell ⟨B + 1 + 1, o, none⟩ u).ownsRow base e size v n xs :=
  own_setCell ho (fun hh => by have := (ho.lt _ hh).1; simp at this; omega) u
end
/-- What the inner loop keeps: the box of a function, its code. -/
structure InR (w0 wo : World) (B : Nat) (g : Arg) (s : St) (cs : Array Value) (k l st cv : Value) (is : List Ins) (w : World) : Prop where
  dec : DecR w0 B g s cs w
  kept : Kept (B + 1) (B + 1) wo.heap.size wo w
  box : Whole w wo.heap.size 40 #[k, l, st, cv]
  own : w.ownsRow (wo.heap.size + 1) 42 3 cv is.length (insCells is)
  size : wo.heap.size + 1 ≤ w.heap.size
  low : B + 1 + 1 + 1 ≤ wo.heap.size
section
variable {w0 wo w w' : World} {B : Nat} {g : Arg} {s s' : St} {cs : Array Value} {k l st cv : Value} {is : List Ins}
theorem InR.next (h : InR w0 wo B g s cs k l st cv is w) (hd : DecR w0 B g s' cs w') (ho : Only (B + 1) (B + 1) w w') : InR w0 wo B g s' cs k l st cv is w' :=
  ⟨hd, h.kept.only ho, ho.whole h.box (by have := h.low; omega) (by have := h.low; omega), ho.own h.own (by have := h.low; omega) (by have := h.low; omega), by rw [ho.size]; exact h.size, h.low⟩
theorem InR.drew (h : InR w0 wo B g s cs k l st cv is w) : InR w0 wo B g s cs k l st cv is w.drew := ⟨h.dec.drew, h.kept.drew, h.box, h.own, h.size, h.low⟩
theorem InR.alloc (h : InR w0 wo B g s cs k l st cv is w) (o : Obj) : InR w0 wo B g s cs k l st cv is (w.alloc o) :=
  ⟨h.dec.alloc o, h.kept.alloc (by have := h.size; omega) o, h.box.alloc o, h.own.alloc o, by have := h.size; simp; omega, h.low⟩
theorem InR.app (h : InR w0 wo B g s cs k l st cv is w) {n : Nat} {v' : Value} {xs : List Value} (ha : Appended w (wo.heap.size + 1) 42 3 cv n xs v' w') : DecR w0 B g s cs w' ∧ Kept (B + 1) (B + 1) wo.heap.size wo w' ∧ Whole w' wo.heap.size 40 #[k, l, st, cv] ∧ wo.heap.size + 1 ≤ w'.heap.size :=
  ⟨h.dec.app ha h.own (by have := h.low; omega) h.size, h.kept.app ha h.own (by omega) (by have := h.size; omega), ha.stays h.own h.box (by decide), Nat.le_trans h.size ha.grows⟩
theorem InR.done (hl : B + 1 + 1 + 1 ≤ wo.heap.size) {u : Value} {js : List Ins} (h : DecR w0 B g s cs w' ∧ Kept (B + 1) (B + 1) wo.heap.size wo w' ∧ Whole w' wo.heap.size 40 #[k, l, st, cv] ∧ wo.heap.size + 1 ≤ w'.heap.size) (ho : w'.ownsRow (wo.heap.size + 1) 42 3 u js.length (insCells js)) :
    InR w0 wo B g s cs k l st u js (w'.setCell ⟨wo.heap.size, 3, none⟩ u) := by
  obtain ⟨hd, hk, hb, hs⟩ := h
  have hd' : DecR w0 B g s cs (w'.setCell ⟨wo.heap.size, 3, none⟩ u) :=
    ⟨hd.rd.keep (fun _ k => k.far (p := ⟨wo.heap.size, 3, none⟩) (by show B + 1 ≠ wo.heap.size; omega) _) ((Below.refl _ _).setCell (by show B ≤ wo.heap.size; omega) _),
      hd.below.setCell (by show B ≤ wo.heap.size; omega) _, hd.res.far (p := ⟨wo.heap.size, 3, none⟩) (by show B ≠ wo.heap.size; omega) _, hd.box.far (p := ⟨wo.heap.size, 3, none⟩) (by show B + 1 + 1 ≠ wo.heap.size; omega) _, by have := hd.size; simp [World.setCell]; omega⟩
  exact ⟨hd', hk.put (Nat.le_refl _) _, hb.put 3 u, own_setCell ho (fun hh => by have := (ho.lt _ hh).1; simp at this; omega) u, by simpa [World.setCell] using hs, hl⟩
end
theorem one_dec {w0 w : World} {B : Nat} {g : Arg} {s : St} {cs : Array Value} (h : DecR w0 B g s cs w) :
    Calls Try.prog 34 #[.pointer (some ⟨B + 1, 0, none⟩)] w fun e w' => e = .returned (.int .i64 (nv 1 s)) ∧ DecR w0 B g (nx 1 s) cs w' ∧ Only (B + 1) (B + 1) w w' :=
  (one_any (B + 1) B _ _ _ _ s w h.rd).mono fun _ _ ⟨he, hr, ho⟩ => ⟨he, h.next hr ho, ho⟩
def pv (s : St) : Int := nv 1 s + 256 * nv 1 (nx 1 s)
theorem pair_dec {w0 w : World} {B : Nat} {g : Arg} {s : St} {cs : Array Value} (h : DecR w0 B g s cs w) :
    Calls Try.prog 35 #[.pointer (some ⟨B + 1, 0, none⟩)] w fun e w' => e = .returned (.int .i64 (pv s)) ∧ DecR w0 B g (nx 2 s) cs w' ∧ Only (B + 1) (B + 1) w w' :=
  (pair_any (B + 1) B _ _ _ _ s w h.rd).mono fun _ _ ⟨he, hr, ho⟩ => ⟨he, h.next hr ho, ho⟩
/-- Integers, instructions, functions by the document. -/
def nxs (k : Nat) (s : St) : St := iter (nx 1) k s
def hv : Nat → St → Int
  | 0, _ => 0
  | k + 1, s => hv k s + nv 1 (nxs k s) * 256 ^ k
def hTop (s : St) : Int := if 127 < nv 1 (nxs 7 s) then nv 1 (nxs 7 s) - 256 else nv 1 (nxs 7 s)
def v8 (s : St) : Int := hv 7 s + hTop s * 256 ^ 7
def hInt (p : List Int × St) : List Int × St := (p.1 ++ [v8 p.2], nxs 8 p.2)
def hIns (p : List Ins × St) : List Ins × St := if p.2.2 = true then p else (p.1 ++ [⟨nv 1 p.2, pv (nx 1 p.2), pv (nx 2 (nx 1 p.2))⟩], nx 2 (nx 2 (nx 1 p.2)))
def hCode (s : St) : List Ins × St := iter hIns (pv s).toNat ([], nx 2 s)
def hBdy (p : List Bdy × St) : List Bdy × St := (p.1 ++ [⟨nv 1 p.2, nv 1 (nx 1 p.2), nv 1 (nx 1 (nx 1 p.2)), (hCode (s3 p.2)).1⟩], (hCode (s3 p.2)).2)
def hInts (s : St) : List Int × St := iter hInt (cnt 1 s) ([], nx 1 s)
def hBdys (s : St) : List Bdy × St := iter hBdy (cnt 1 s) ([], nx 1 s)
def hCod (l : List UInt8) : Cod × St :=
  let s : St := (l.drop 3, false)
  let i := hInts (nx 1 s)
  let t := gTexts i.2
  let f := hBdys t.2
  (⟨f.1, i.1, t.1, nv 1 s⟩, f.2)
theorem pv_bd (s : St) : 0 ≤ pv s ∧ pv s ≤ 65535 := by
  have h1 := nv1_bd s
  have h2 := nv1_bd (nx 1 s)
  unfold pv; omega
theorem pow7 (k : Nat) (h : k ≤ 7) : (256 : Int) ^ k ≤ 72057594037927936 ∧ 1 ≤ (256 : Int) ^ k := by
  rcases (by omega : k = 0 ∨ k = 1 ∨ k = 2 ∨ k = 3 ∨ k = 4 ∨ k = 5 ∨ k = 6 ∨ k = 7) with rfl | rfl | rfl | rfl | rfl | rfl | rfl | rfl <;> exact ⟨by decide, by decide⟩
theorem hv_bd (s : St) : ∀ k, 0 ≤ hv k s ∧ hv k s ≤ 256 ^ k - 1
  | 0 => by unfold hv; omega
  | k + 1 => by
    have h := hv_bd s k
    have h1 := nv1_bd (nxs k s)
    unfold hv
    rw [Int.pow_succ]
    generalize nv 1 (nxs k s) = x at *
    have hp : (0 : Int) < 256 ^ k := Int.pow_pos (by decide)
    generalize (256 : Int) ^ k = p at *
    have h2 : 0 ≤ x * p := Int.mul_nonneg h1.1 (Int.le_of_lt hp)
    have h3 : x * p ≤ 255 * p := Int.mul_le_mul_of_nonneg_right h1.2 (Int.le_of_lt hp)
    omega
theorem hIns_short {p : List Ins × St} (h : p.2.2 = true) (n : Nat) : iter hIns n p = p := by
  induction n with
  | zero => rfl
  | succ n ih => show hIns (iter hIns n p) = p; rw [ih]; unfold hIns; rw [if_pos h]
theorem hIns_iter_short {s : St} {j m : Nat} (h : (iter hIns j ([], s)).2.2 = true) (hj : j ≤ m) : iter hIns m ([], s) = iter hIns j ([], s) := by
  obtain ⟨d, rfl⟩ : ∃ d, m = d + j := ⟨m - j, by omega⟩
  rw [iter_add, hIns_short h]
theorem hIns_len (s : List Ins × St) (n : Nat) : (iter hIns n s).1.length ≤ s.1.length + n := by
  induction n with
  | zero => exact Nat.le_refl _
  | succ n ih =>
    show (hIns (iter hIns n s)).1.length ≤ _
    generalize iter hIns n s = q at *
    unfold hIns
    split
    · omega
    · show (q.1 ++ [_]).length ≤ _; rw [List.length_append]; simp only [List.length_cons, List.length_nil]; omega
theorem hBdy_len (s : List Bdy × St) (n : Nat) : (iter hBdy n s).1.length = s.1.length + n := by
  induction n with
  | zero => rfl
  | succ n ih => show ((iter hBdy n s).1 ++ [_]).length = _; rw [List.length_append, ih]; rfl
end Go.Proofs.Ytffpkmoaahkfmaa
