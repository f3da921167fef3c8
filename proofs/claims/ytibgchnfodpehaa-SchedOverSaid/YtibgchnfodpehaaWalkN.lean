/- The walks of layer 19: a deed of both tables, the function. -/
import Derived.Test.YtibgchnfodpehaaWalkM
namespace Go.Proofs.Ytibgchnfodpehaa
open Go.RowKit
set_option linter.unusedVariables false
attribute [local go_sem ↓] Go.wp_at_zero Go.wp_at_succ

set_option maxRecDepth 100000 in
set_option maxHeartbeats 2000000 in
theorem does_add (w : World) (Bt b D b2 D2 : Nat) (L : Tb) (n : Int) (A : Option Addr) (m c : Nat) (zs : List Int) (ht : TabAt w b D L) (hr : RabAt w b2 D2 L) (hb1 : Bt ≤ b) (hb2 : Bt ≤ b2) (hz : Ints w w.heap.size A m zs) (hm : m ≤ 9223372036854775807) :
    Calls Try.prog 15 #[.pointer (some ⟨b, 0, none⟩), .pointer (some ⟨b2, 0, none⟩), .agg #[.int .i64 0, .int .i64 n, .slice A m c]] w (Did w Bt b D b2 D2 (addL L)) := by
  have HZ : Hid (Ints (w.alloc (.cells #[.int .i64 0, .int .i64 n, .slice A m c] 41)) (w.alloc (.cells #[.int .i64 0, .int .i64 n, .slice A m c] 41)).heap.size A m zs) := (hz.below ((Below.refl _ _).alloc (Nat.le_refl _) _)).more (by simp)
  have HM := Lib.hid hm
  have HB := Lib.hid (Whole.made w 41 #[.int .i64 0, .int .i64 n, .slice A m c])
  have hs0 := fun (w2 : World) (A' : Option Addr) (m' c' : Nat) => dst_start (w := w) (w2 := w2) (c0 := .int .i64 0) (c2 := .slice A m c) (n := n) (A := A') (m := m') (c := c') (zs := zs.take 12) ht hr hb1 hb2
  have HS := Lib.hid hs0
  have HL := Lib.hid ht.len
  clear ht hr hz hm hb1 hb2 hs0
  go_enter Try.func15, Try.ntmps15
  go_wp2_with fail
  refine (few_any _ A m c zs HZ.out HM.out).mono ?_
  rintro e w2 ⟨A', m', c', rfl, ho, ha, hb⟩
  have HX := Lib.hid (HS.out w2 A' m' c' ho ha hb)
  have HW := HX.out.box
  have x0 : w2.cell? ⟨w.heap.size, 0, none⟩ = some (.int .i64 0) := HW.cell 0
  have x1 : w2.cell? ⟨w.heap.size, 1, none⟩ = some (.int .i64 n) := HW.cell 1
  clear HZ HM HB HS HW ho ha hb
  go_wp2_with fail
  refine (add_any w2 b D L HX.out.tab).mono ?_
  rintro e w3 ⟨rfl, t3, f3⟩
  have H3 := Lib.hid (HX.out.onTab t3 f3)
  clear t3 f3 HX
  go_wp2_with fail
  refine (radd_any w3 b2 D2 L H3.out.rab).mono ?_
  rintro e w4 ⟨rfl, t4, f4⟩
  have H4 := Lib.hid (H3.out.onRab t4 f4)
  clear t4 f4 H3 x0 x1
  generalize addA L = a1 at *
  generalize addE L = a2 at *
  go_wp2_with fail
  go_ret
  exact H4.out.did
set_option maxRecDepth 100000 in
set_option maxHeartbeats 2000000 in
theorem does_wait (w : World) (Bt b D b2 D2 : Nat) (L : Tb) (n : Int) (A : Option Addr) (m c : Nat) (zs : List Int) (ht : TabAt w b D L) (hr : RabAt w b2 D2 L) (hb1 : Bt ≤ b) (hb2 : Bt ≤ b2) (hz : Ints w w.heap.size A m zs) (hm : m ≤ 9223372036854775807) :
    Calls Try.prog 15 #[.pointer (some ⟨b, 0, none⟩), .pointer (some ⟨b2, 0, none⟩), .agg #[.int .i64 1, .int .i64 n, .slice A m c]] w (Did w Bt b D b2 D2 (waitL L n (zs.take 12))) := by
  have HZ : Hid (Ints (w.alloc (.cells #[.int .i64 1, .int .i64 n, .slice A m c] 41)) (w.alloc (.cells #[.int .i64 1, .int .i64 n, .slice A m c] 41)).heap.size A m zs) := (hz.below ((Below.refl _ _).alloc (Nat.le_refl _) _)).more (by simp)
  have HM := Lib.hid hm
  have HB := Lib.hid (Whole.made w 41 #[.int .i64 1, .int .i64 n, .slice A m c])
  have hs0 := fun (w2 : World) (A' : Option Addr) (m' c' : Nat) => dst_start (w := w) (w2 := w2) (c0 := .int .i64 1) (c2 := .slice A m c) (n := n) (A := A') (m := m') (c := c') (zs := zs.take 12) ht hr hb1 hb2
  have HS := Lib.hid hs0
  have HL := Lib.hid ht.len
  clear ht hr hz hm hb1 hb2 hs0
  go_enter Try.func15, Try.ntmps15
  go_wp2_with fail
  refine (few_any _ A m c zs HZ.out HM.out).mono ?_
  rintro e w2 ⟨A', m', c', rfl, ho, ha, hb⟩
  have HX := Lib.hid (HS.out w2 A' m' c' ho ha hb)
  have HW := HX.out.box
  have x0 : w2.cell? ⟨w.heap.size, 0, none⟩ = some (.int .i64 1) := HW.cell 0
  have x1 : w2.cell? ⟨w.heap.size, 1, none⟩ = some (.int .i64 n) := HW.cell 1
  clear HZ HM HB HS HW ho ha hb
  have C1 := fun (wx : World) (Q : Tb) => wait_st (w0 := w) (Bt := Bt) (b := b) (D := D) (b2 := b2) (D2 := D2) (B := w.heap.size) (base := w.heap.size + 1) (n := n) (c0 := .int .i64 1) (c2 := .slice A m c) (A := A') (m := m') (c := c') (zs := zs.take 12) (P := L) wx Q
  have C2 := fun (wx : World) (P : Tb) => rwait_st (w0 := w) (Bt := Bt) (b := b) (D := D) (b2 := b2) (D2 := D2) (B := w.heap.size) (base := w.heap.size + 1) (n := n) (c0 := .int .i64 1) (c2 := .slice A m c) (A := A') (m := m') (c := c') (zs := zs.take 12) (Q := L) wx P
  generalize waitE L n = ee at *
  go_wp2_with fail
  clear x0
  go_region_held3 (fun W => W.cell? ⟨w.heap.size, 1, none⟩ = some (.int .i64 n))
    (first | go_keep)
    (first
      | ((go_at_call 11; with_reducible refine (C1 _ L ?_).mono ?_); (exact HX.out.drew); rintro e wm ⟨rfl, s1, m1⟩)
      | ((go_at_call 33; with_reducible refine (C2 _ (waitL L n (zs.take 12)) ?_).mono ?_); (exact s1); rintro e wm ⟨rfl, s2, m2⟩))
  all_goals
    go_wp2_with fail
    go_ret
    exact s2.did
set_option maxRecDepth 100000 in
set_option maxHeartbeats 2000000 in
theorem does_end (w : World) (Bt b D b2 D2 : Nat) (L : Tb) (n : Int) (A : Option Addr) (m c : Nat) (zs : List Int) (ht : TabAt w b D L) (hr : RabAt w b2 D2 L) (hb1 : Bt ≤ b) (hb2 : Bt ≤ b2) (hz : Ints w w.heap.size A m zs) (hm : m ≤ 9223372036854775807) :
    Calls Try.prog 15 #[.pointer (some ⟨b, 0, none⟩), .pointer (some ⟨b2, 0, none⟩), .agg #[.int .i64 3, .int .i64 n, .slice A m c]] w (Did w Bt b D b2 D2 (endL L n)) := by
  have HZ : Hid (Ints (w.alloc (.cells #[.int .i64 3, .int .i64 n, .slice A m c] 41)) (w.alloc (.cells #[.int .i64 3, .int .i64 n, .slice A m c] 41)).heap.size A m zs) := (hz.below ((Below.refl _ _).alloc (Nat.le_refl _) _)).more (by simp)
  have HM := Lib.hid hm
  have HB := Lib.hid (Whole.made w 41 #[.int .i64 3, .int .i64 n, .slice A m c])
  have hs0 := fun (w2 : World) (A' : Option Addr) (m' c' : Nat) => dst_start (w := w) (w2 := w2) (c0 := .int .i64 3) (c2 := .slice A m c) (n := n) (A := A') (m := m') (c := c') (zs := zs.take 12) ht hr hb1 hb2
  have HS := Lib.hid hs0
  have HL := Lib.hid ht.len
  clear ht hr hz hm hb1 hb2 hs0
  go_enter Try.func15, Try.ntmps15
  go_wp2_with fail
  refine (few_any _ A m c zs HZ.out HM.out).mono ?_
  rintro e w2 ⟨A', m', c', rfl, ho, ha, hb⟩
  have HX := Lib.hid (HS.out w2 A' m' c' ho ha hb)
  have HW := HX.out.box
  have x0 : w2.cell? ⟨w.heap.size, 0, none⟩ = some (.int .i64 3) := HW.cell 0
  have x1 : w2.cell? ⟨w.heap.size, 1, none⟩ = some (.int .i64 n) := HW.cell 1
  clear HZ HM HB HS HW ho ha hb
  have C1 := fun (wx : World) (Q : Tb) => end_st (w0 := w) (Bt := Bt) (b := b) (D := D) (b2 := b2) (D2 := D2) (B := w.heap.size) (base := w.heap.size + 1) (n := n) (c0 := .int .i64 3) (c2 := .slice A m c) (A := A') (m := m') (c := c') (zs := zs.take 12) (P := L) wx Q
  have C2 := fun (wx : World) (P : Tb) => rend_st (w0 := w) (Bt := Bt) (b := b) (D := D) (b2 := b2) (D2 := D2) (B := w.heap.size) (base := w.heap.size + 1) (n := n) (c0 := .int .i64 3) (c2 := .slice A m c) (A := A') (m := m') (c := c') (zs := zs.take 12) (Q := L) wx P
  generalize endE L n = ee at *
  go_wp2_with fail
  clear x0
  go_region_held3 (fun W => W.cell? ⟨w.heap.size, 1, none⟩ = some (.int .i64 n))
    (first | go_keep)
    (first
      | ((go_at_call 23; with_reducible refine (C1 _ L ?_).mono ?_); (exact HX.out.drew); rintro e wm ⟨rfl, s1, m1⟩)
      | ((go_at_call 24; with_reducible refine (C2 _ (endL L n) ?_).mono ?_); (exact s1); rintro e wm ⟨rfl, s2, m2⟩))
  all_goals
    go_wp2_with fail
    go_ret
    exact s2.did
set_option maxRecDepth 100000 in
set_option maxHeartbeats 2000000 in
theorem does_wake (w : World) (Bt b D b2 D2 : Nat) (L : Tb) (n : Int) (A : Option Addr) (m c : Nat) (zs : List Int) (ht : TabAt w b D L) (hr : RabAt w b2 D2 L) (hb1 : Bt ≤ b) (hb2 : Bt ≤ b2) (hz : Ints w w.heap.size A m zs) (hm : m ≤ 9223372036854775807) :
    Calls Try.prog 15 #[.pointer (some ⟨b, 0, none⟩), .pointer (some ⟨b2, 0, none⟩), .agg #[.int .i64 2, .int .i64 n, .slice A m c]] w (Did w Bt b D b2 D2 (wakeL L n)) := by
  have HZ : Hid (Ints (w.alloc (.cells #[.int .i64 2, .int .i64 n, .slice A m c] 41)) (w.alloc (.cells #[.int .i64 2, .int .i64 n, .slice A m c] 41)).heap.size A m zs) := (hz.below ((Below.refl _ _).alloc (Nat.le_refl _) _)).more (by simp)
  have HM := Lib.hid hm
  have HB := Lib.hid (Whole.made w 41 #[.int .i64 2, .int .i64 n, .slice A m c])
  have hs0 := fun (w2 : World) (A' : Option Addr) (m' c' : Nat) => dst_start (w := w) (w2 := w2) (c0 := .int .i64 2) (c2 := .slice A m c) (n := n) (A := A') (m := m') (c := c') (zs := zs.take 12) ht hr hb1 hb2
  have HS := Lib.hid hs0
  have HL := Lib.hid ht.len
  clear ht hr hz hm hb1 hb2 hs0
  go_enter Try.func15, Try.ntmps15
  go_wp2_with fail
  refine (few_any _ A m c zs HZ.out HM.out).mono ?_
  rintro e w2 ⟨A', m', c', rfl, ho, ha, hb⟩
  have HX := Lib.hid (HS.out w2 A' m' c' ho ha hb)
  have HW := HX.out.box
  have x0 : w2.cell? ⟨w.heap.size, 0, none⟩ = some (.int .i64 2) := HW.cell 0
  have x1 : w2.cell? ⟨w.heap.size, 1, none⟩ = some (.int .i64 n) := HW.cell 1
  clear HZ HM HB HS HW ho ha hb
  have C1 := fun (wx : World) (Q : Tb) => wake_st (w0 := w) (Bt := Bt) (b := b) (D := D) (b2 := b2) (D2 := D2) (B := w.heap.size) (base := w.heap.size + 1) (n := n) (c0 := .int .i64 2) (c2 := .slice A m c) (A := A') (m := m') (c := c') (zs := zs.take 12) (P := L) wx Q
  have C2 := fun (wx : World) (P : Tb) => rwake_st (w0 := w) (Bt := Bt) (b := b) (D := D) (b2 := b2) (D2 := D2) (B := w.heap.size) (base := w.heap.size + 1) (n := n) (c0 := .int .i64 2) (c2 := .slice A m c) (A := A') (m := m') (c := c') (zs := zs.take 12) (Q := L) wx P
  have C3 := fun (wx : World) (u v : Value) => same_st (w0 := w) (Bt := Bt) (b := b) (D := D) (b2 := b2) (D2 := D2) (B := w.heap.size) (base := w.heap.size + 1) (n := n) (c0 := .int .i64 2) (c2 := .slice A m c) (A := A') (m := m') (c := c') (zs := zs.take 12) (P := wakeL L n) (Q := wakeL L n) (P' := L) wx u v
  go_wp2_with fail
  clear x0
  go_region_held3 (fun W => W.cell? ⟨w.heap.size, 1, none⟩ = some (.int .i64 n))
    (first | go_keep)
    (first
      | ((go_at_call 12; with_reducible refine (C1 _ L ?_).mono ?_); (exact HX.out.drew); rintro e wm ⟨v1, rfl, s1, m1, r1, _⟩)
      | ((go_at_call 25; with_reducible refine (C2 _ (wakeL L n) ?_).mono ?_); (exact s1); rintro e wm ⟨v2, rfl, s2, m2, r2, k2⟩)
      | ((go_at_call 17; with_reducible refine (C3 _ v1 v2 ?_ ?_ ?_ ?_).mono ?_); (exact s2); (exact k2 _ _ r1); (exact r2); (exact HL.out); rintro e wm ⟨rfl, s3, m3⟩))
  all_goals
    go_wp2_with fail
    go_ret
    exact s3.did
set_option maxRecDepth 100000 in
set_option maxHeartbeats 2000000 in
theorem does_none (w : World) (Bt b D b2 D2 : Nat) (L : Tb) (k : Int) (n : Int) (A : Option Addr) (m c : Nat) (zs : List Int) (ht : TabAt w b D L) (hr : RabAt w b2 D2 L) (hb1 : Bt ≤ b) (hb2 : Bt ≤ b2) (hz : Ints w w.heap.size A m zs) (hm : m ≤ 9223372036854775807) (k0 : (k == 0) = false) (k1 : (k == 1) = false) (k2 : (k == 2) = false) (k3 : (k == 3) = false) :
    Calls Try.prog 15 #[.pointer (some ⟨b, 0, none⟩), .pointer (some ⟨b2, 0, none⟩), .agg #[.int .i64 k, .int .i64 n, .slice A m c]] w (Did w Bt b D b2 D2 L) := by
  have HZ : Hid (Ints (w.alloc (.cells #[.int .i64 k, .int .i64 n, .slice A m c] 41)) (w.alloc (.cells #[.int .i64 k, .int .i64 n, .slice A m c] 41)).heap.size A m zs) := (hz.below ((Below.refl _ _).alloc (Nat.le_refl _) _)).more (by simp)
  have HM := Lib.hid hm
  have HB := Lib.hid (Whole.made w 41 #[.int .i64 k, .int .i64 n, .slice A m c])
  have hs0 := fun (w2 : World) (A' : Option Addr) (m' c' : Nat) => dst_start (w := w) (w2 := w2) (c0 := .int .i64 k) (c2 := .slice A m c) (n := n) (A := A') (m := m') (c := c') (zs := zs.take 12) ht hr hb1 hb2
  have HS := Lib.hid hs0
  have HL := Lib.hid ht.len
  clear ht hr hz hm hb1 hb2 hs0
  go_enter Try.func15, Try.ntmps15
  go_wp2_with fail
  refine (few_any _ A m c zs HZ.out HM.out).mono ?_
  rintro e w2 ⟨A', m', c', rfl, ho, ha, hb⟩
  have HX := Lib.hid (HS.out w2 A' m' c' ho ha hb)
  have HW := HX.out.box
  have x0 : w2.cell? ⟨w.heap.size, 0, none⟩ = some (.int .i64 k) := HW.cell 0
  have x1 : w2.cell? ⟨w.heap.size, 1, none⟩ = some (.int .i64 n) := HW.cell 1
  clear HZ HM HB HS HW ho ha hb
  go_wp2_with fail
  go_ret
  exact HX.out.did
theorem does_any (w : World) (Bt b D b2 D2 : Nat) (L : Tb) (d : Deed) (A : Option Addr) (m c : Nat) (ht : TabAt w b D L) (hr : RabAt w b2 D2 L) (hb1 : Bt ≤ b) (hb2 : Bt ≤ b2) (hz : Ints w w.heap.size A m d.vars) (hm : m ≤ 9223372036854775807) :
    Calls Try.prog 15 #[.pointer (some ⟨b, 0, none⟩), .pointer (some ⟨b2, 0, none⟩), .agg #[.int .i64 d.k, .int .i64 d.n, .slice A m c]] w (Did w Bt b D b2 D2 (doL L d)) := by
  obtain ⟨k, n, zs⟩ := d
  unfold doL
  by_cases h0 : k = 0
  · subst h0; exact does_add w Bt b D b2 D2 L n A m c zs ht hr hb1 hb2 hz hm
  by_cases h1 : k = 1
  · subst h1; exact does_wait w Bt b D b2 D2 L n A m c zs ht hr hb1 hb2 hz hm
  by_cases h2 : k = 2
  · subst h2; exact does_wake w Bt b D b2 D2 L n A m c zs ht hr hb1 hb2 hz hm
  by_cases h3 : k = 3
  · subst h3; exact does_end w Bt b D b2 D2 L n A m c zs ht hr hb1 hb2 hz hm
  rw [if_neg h0, if_neg h1, if_neg h2, if_neg h3]
  exact does_none w Bt b D b2 D2 L k n A m c zs ht hr hb1 hb2 hz hm (beq_eq_false_iff_ne.2 h0) (beq_eq_false_iff_ne.2 h1) (beq_eq_false_iff_ne.2 h2) (beq_eq_false_iff_ne.2 h3)
end Go.Proofs.Ytibgchnfodpehaa
