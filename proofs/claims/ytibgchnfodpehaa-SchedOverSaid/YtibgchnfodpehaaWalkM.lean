/- The walks of layer 19: a deed of both tables. -/
import Derived.Test.YtibgchnfodpehaaWalkL
namespace Go.Proofs.Ytibgchnfodpehaa
open Go.RowKit
set_option linter.unusedVariables false
attribute [local go_sem ↓] Go.wp_at_zero Go.wp_at_succ

structure Deed where
  k : Int
  n : Int
  vars : List Int
def doL (L : Tb) (d : Deed) : Tb :=
  if d.k = 0 then addL L else if d.k = 1 then waitL L d.n (d.vars.take 12) else if d.k = 2 then wakeL L d.n else if d.k = 3 then endL L d.n else L
structure DSt (w0 : World) (Bt b D b2 D2 B base : Nat) (n : Int) (c0 c2 : Value) (A : Option Addr) (m c : Nat) (zs : List Int) (P Q : Tb) (w : World) : Prop where
  tab : TabAt w b D P
  rab : RabAt w b2 D2 Q
  box : Whole w B 41 #[c0, .int .i64 n, c2]
  own : w.ownsRow base 3 1 (.slice A m c) m (zs.map (Value.int .i64))
  few : m ≤ 12 ∧ ((A = none ∧ m = 0 ∧ c = 0 ∧ zs = []) ∨ 0 < m)
  below : Below Bt w0 w
  leq : Bt ≤ b ∧ Bt ≤ b2
section
variable {w0 : World} {Bt b D b2 D2 B base : Nat} {n : Int} {c0 c2 : Value} {A : Option Addr} {m c : Nat} {zs : List Int} {P Q P' Q' : Tb} {w w' : World}
theorem DSt.drew (h : DSt w0 Bt b D b2 D2 B base n c0 c2 A m c zs P Q w) : DSt w0 Bt b D b2 D2 B base n c0 c2 A m c zs P Q w.drew := ⟨h.tab.drew, h.rab.drew, h.box, h.own, h.few, h.below.drew, h.leq⟩
theorem DSt.cell (h : DSt w0 Bt b D b2 D2 B base n c0 c2 A m c zs P Q w) : w.cell? ⟨B, 1, none⟩ = some (.int .i64 n) := h.box.cell 1
theorem DSt.onTab (h : DSt w0 Bt b D b2 D2 B base n c0 c2 A m c zs P Q w) (ht : TabAt w' b D P') (f : Fr 52 54 b w w') : DSt w0 Bt b D b2 D2 B base n c0 c2 A m c zs P' Q w' :=
  ⟨ht, h.rab.keep f (by decide) (by decide) (by decide) (by decide) (by decide) (by decide), f.kt _ _ _ (by decide) (by decide) h.box, f.kt.own h.own (by decide) (by decide), h.few, h.below.trans (f.below.mono h.leq.1), h.leq⟩
theorem DSt.onRab (h : DSt w0 Bt b D b2 D2 B base n c0 c2 A m c zs P Q w) (ht : RabAt w' b2 D2 Q') (f : Fr 38 59 b2 w w') : DSt w0 Bt b D b2 D2 B base n c0 c2 A m c zs P Q' w' :=
  ⟨h.tab.keep f (by decide) (by decide) (by decide) (by decide) (by decide) (by decide), ht, f.kt _ _ _ (by decide) (by decide) h.box, f.kt.own h.own (by decide) (by decide), h.few, h.below.trans (f.below.mono h.leq.2), h.leq⟩
theorem DSt.arg (h : DSt w0 Bt b D b2 D2 B base n c0 c2 A m c zs P Q w) : Arg w A m c zs := by
  obtain ⟨A', c', e, hi⟩ := Ints.of_own h.own
  simp only [Value.slice.injEq] at e
  obtain ⟨rfl, _, rfl⟩ := e
  exact ⟨hi, h.few⟩
theorem wait_st (wx : World) (Q : Tb) (h : DSt w0 Bt b D b2 D2 B base n c0 c2 A m c zs P Q wx) : Calls Try.prog 11 #[.pointer (some ⟨b, 0, none⟩), .int .i64 n, .slice A m c] wx fun e w' => e = .returned (.int .i64 (waitE P n)) ∧ DSt w0 Bt b D b2 D2 B base n c0 c2 A m c zs (waitL P n zs) Q w' ∧ w'.cell? ⟨B, 1, none⟩ = some (.int .i64 n) :=
  (wait_any wx b D P n A m c zs h.tab h.arg).mono fun _ _ ⟨he, ht, f⟩ => ⟨he, h.onTab ht f, (h.onTab ht f).cell⟩
theorem rwait_st (wx : World) (P : Tb) (h : DSt w0 Bt b D b2 D2 B base n c0 c2 A m c zs P Q wx) : Calls Try.prog 33 #[.pointer (some ⟨b2, 0, none⟩), .int .i64 n, .slice A m c] wx fun e w' => e = .returned (.int .i64 (waitE Q n)) ∧ DSt w0 Bt b D b2 D2 B base n c0 c2 A m c zs P (waitL Q n zs) w' ∧ w'.cell? ⟨B, 1, none⟩ = some (.int .i64 n) :=
  (rwait_any wx b2 D2 Q n A m c zs h.rab h.arg).mono fun _ _ ⟨he, ht, f⟩ => ⟨he, h.onRab ht f, (h.onRab ht f).cell⟩
theorem end_st (wx : World) (Q : Tb) (h : DSt w0 Bt b D b2 D2 B base n c0 c2 A m c zs P Q wx) : Calls Try.prog 23 #[.pointer (some ⟨b, 0, none⟩), .int .i64 n] wx fun e w' => e = .returned (.int .i64 (endE P n)) ∧ DSt w0 Bt b D b2 D2 B base n c0 c2 A m c zs (endL P n) Q w' ∧ w'.cell? ⟨B, 1, none⟩ = some (.int .i64 n) :=
  (end_any wx b D P n h.tab).mono fun _ _ ⟨he, ht, f⟩ => ⟨he, h.onTab ht f, (h.onTab ht f).cell⟩
theorem rend_st (wx : World) (P : Tb) (h : DSt w0 Bt b D b2 D2 B base n c0 c2 A m c zs P Q wx) : Calls Try.prog 24 #[.pointer (some ⟨b2, 0, none⟩), .int .i64 n] wx fun e w' => e = .returned (.int .i64 (endE Q n)) ∧ DSt w0 Bt b D b2 D2 B base n c0 c2 A m c zs P (endL Q n) w' ∧ w'.cell? ⟨B, 1, none⟩ = some (.int .i64 n) :=
  (rend_any wx b2 D2 Q n h.rab).mono fun _ _ ⟨he, ht, f⟩ => ⟨he, h.onRab ht f, (h.onRab ht f).cell⟩
end
/-- A row of integers, read. -/
def Rd (w : World) (v : Value) (zs : List Int) : Prop := ∃ A n c base, v = .slice A n c ∧ w.ownsRow base 3 1 v n (zs.map (Value.int .i64))
section
variable {w0 : World} {Bt b D b2 D2 B base : Nat} {n : Int} {c0 c2 : Value} {A : Option Addr} {m c : Nat} {zs : List Int} {P Q P' Q' : Tb} {w w' : World}
theorem wake_st (wx : World) (Q : Tb) (h : DSt w0 Bt b D b2 D2 B base n c0 c2 A m c zs P Q wx) : Calls Try.prog 12 #[.pointer (some ⟨b, 0, none⟩), .int .i64 n] wx fun e w' => ∃ v, e = .returned v ∧ DSt w0 Bt b D b2 D2 B base n c0 c2 A m c zs (wakeL P n) Q w' ∧ w'.cell? ⟨B, 1, none⟩ = some (.int .i64 n) ∧ Rd w' v (wakeZ P n) ∧ ∀ u us, Rd wx u us → Rd w' u us :=
  (wake_any wx b D P n h.tab).mono fun _ _ ⟨A1, n1, c1, he, ho, ht, f⟩ => ⟨_, he, h.onTab ht f, (h.onTab ht f).cell, ⟨A1, n1, c1, _, rfl, ho⟩, fun u us ⟨A2, n2, c2, b2, e2, h2⟩ => ⟨A2, n2, c2, b2, e2, f.kt.own h2 (by decide) (by decide)⟩⟩
theorem rwake_st (wx : World) (P : Tb) (h : DSt w0 Bt b D b2 D2 B base n c0 c2 A m c zs P Q wx) : Calls Try.prog 25 #[.pointer (some ⟨b2, 0, none⟩), .int .i64 n] wx fun e w' => ∃ v, e = .returned v ∧ DSt w0 Bt b D b2 D2 B base n c0 c2 A m c zs P (wakeL Q n) w' ∧ w'.cell? ⟨B, 1, none⟩ = some (.int .i64 n) ∧ Rd w' v (wakeZ Q n) ∧ ∀ u us, Rd wx u us → Rd w' u us :=
  (rwake_any wx b2 D2 Q n h.rab).mono fun _ _ ⟨A1, n1, c1, he, ho, ht, f⟩ => ⟨_, he, h.onRab ht f, (h.onRab ht f).cell, ⟨A1, n1, c1, _, rfl, ho⟩, fun u us ⟨A2, n2, c2, b2, e2, h2⟩ => ⟨A2, n2, c2, b2, e2, f.kt.own h2 (by decide) (by decide)⟩⟩
theorem wakeZ_len (L : Tb) (v : Int) : (wakeZ L v).length ≤ L.length := by
  unfold wakeZ idxL
  rw [List.length_map]
  exact Nat.le_trans (List.length_filter_le _ _) (by simp)
theorem same_st (wx : World) (u v : Value) (h : DSt w0 Bt b D b2 D2 B base n c0 c2 A m c zs P Q wx) (hu : Rd wx u (wakeZ P' n)) (hv : Rd wx v (wakeZ P' n)) (hP : P'.length ≤ 8) : Calls Try.prog 17 #[u, v] wx fun e w' => e = .returned (.bool true) ∧ DSt w0 Bt b D b2 D2 B base n c0 c2 A m c zs P Q w' ∧ w'.cell? ⟨B, 1, none⟩ = some (.int .i64 n) := by
  obtain ⟨A1, n1, k1, b1, rfl, h1⟩ := hu
  obtain ⟨A2, n2, k2, b2', rfl, h2⟩ := hv
  have hl := wakeZ_len P' n
  have e1 := own_len h1
  obtain ⟨A3, c3, e3, i1⟩ := Ints.of_own h1
  obtain ⟨A4, c4, e4, i2⟩ := Ints.of_own h2
  simp only [Value.slice.injEq] at e3 e4
  obtain ⟨rfl, _, rfl⟩ := e3
  obtain ⟨rfl, _, rfl⟩ := e4
  refine (same_any wx _ _ _ _ _ _ _ i1 i2 (by omega)).mono fun e w' ⟨he, hb⟩ => ?_
  have hs : DSt w0 Bt b D b2 D2 B base n c0 c2 A m c zs P Q w' := ⟨h.tab.below hb, h.rab.below hb, h.box.below hb h.box.lt, own_below h.own hb (Nat.le_refl _), h.few, h.below.trans (hb.mono (by have := h.tab.size; have := h.leq.1; omega)), h.leq⟩
  exact ⟨he, hs, hs.cell⟩
end
def Did (w0 : World) (Bt b D b2 D2 : Nat) (L : Tb) (e : Ending) (w' : World) : Prop := e = .returned (.bool true) ∧ TabAt w' b D L ∧ RabAt w' b2 D2 L ∧ Below Bt w0 w'
theorem DSt.did {w0 : World} {Bt b D b2 D2 B base : Nat} {n : Int} {c0 c2 : Value} {A : Option Addr} {m c : Nat} {zs : List Int} {P : Tb} {w : World} (h : DSt w0 Bt b D b2 D2 B base n c0 c2 A m c zs P P w) : Did w0 Bt b D b2 D2 P (.returned (.bool true)) w := ⟨rfl, h.tab, h.rab, h.below⟩
theorem dst_start {w w2 : World} {Bt b D b2 D2 : Nat} {L : Tb} {c0 c2 : Value} {n : Int} {A : Option Addr} {m c : Nat} {zs : List Int} (ht : TabAt w b D L) (hr : RabAt w b2 D2 L) (hb1 : Bt ≤ b) (hb2 : Bt ≤ b2)
    (ho : w2.ownsRow (w.alloc (.cells #[c0, .int .i64 n, c2] 41)).heap.size 3 1 (.slice A m c) m (zs.map (Value.int .i64))) (ha : Arg w2 A m c zs) (hb : Below (w.alloc (.cells #[c0, .int .i64 n, c2] 41)).heap.size (w.alloc (.cells #[c0, .int .i64 n, c2] 41)) w2) :
    DSt w Bt b D b2 D2 w.heap.size (w.heap.size + 1) n c0 c2 A m c zs L L w2 := by
  have e : (w.alloc (.cells #[c0, .int .i64 n, c2] 41)).heap.size = w.heap.size + 1 := by simp
  rw [e] at ho hb
  have h1 : Below w.heap.size w (w.alloc (.cells #[c0, .int .i64 n, c2] 41)) := (Below.refl _ _).alloc (Nat.le_refl _) _
  have h2 : Below w.heap.size w w2 := h1.trans (hb.mono (by omega))
  exact ⟨ht.below h2, hr.below h2, (Whole.made w 41 _).below hb (by omega), ho, ha.2, h2.mono (by have := ht.size; omega), hb1, hb2⟩
end Go.Proofs.Ytibgchnfodpehaa
