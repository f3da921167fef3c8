/- The walks of layer 14: the document's examples. -/
import Derived.Test.YtjkbhdocpjekmaaVWalkK
import Derived.Test.YtjkbhdocpjekmaaVWalkL
import Derived.Test.YtjkbhdocpjekmaaRWalkG
import Derived.Test.YtjkbhdocpjekmaaPlainD
namespace Go.Proofs.Ytjkbhdocpjekmaa
open Go.RowKit Go.Maps
set_option linter.unusedVariables false
attribute [local go_sem ↓] Go.wp_at_zero Go.wp_at_succ

theorem whole3 (w : World) (a b c : Array Value) (s t u : TypeId) : Whole (((w.alloc (.cells a s)).alloc (.cells b t)).alloc (.cells c u)) (w.heap.size + 1) t b ∧ Whole (((w.alloc (.cells a s)).alloc (.cells b t)).alloc (.cells c u)) (w.heap.size + 1 + 1) u c := by
  have h1 := Whole.made (w.alloc (.cells a s)) t b
  have h2 := Whole.made ((w.alloc (.cells a s)).alloc (.cells b t)) u c
  exact ⟨Whole.alloc (by simpa using h1) _, by simpa using h2⟩
theorem cod_one {w : World} {F I g n : Nat} {is : List Ins} (h1 : Whole w I 3 #[.int .i64 1]) (h2 : Whole w F 40 #[.int .i64 0, .int .i64 1, .int .i64 3, .slice (some ⟨g, 0, none⟩) n n]) (hi : InsAt w w.heap.size (some ⟨g, 0, none⟩) n is) (hn : n ≤ 9223372036854775807) :
    CodAt w w.heap.size (.agg #[.slice (some ⟨F, 0, none⟩) 1 1, .slice (some ⟨I, 0, none⟩) 1 1, .slice none 0 0, .int .i64 0]) (codE is) := by
  refine ⟨_, _, _, _, _, _, _, _, _, rfl, ⟨rfl, fun _ => ⟨F, 0, rfl, h2.lt, fun j hj => ?_⟩⟩, ⟨rfl, fun _ => ⟨I, 0, rfl, h1.lt, fun j hj => ?_⟩⟩, ⟨rfl, fun h => absurd h (by omega)⟩, by omega, by omega, by omega⟩
  · obtain rfl : j = 0 := by omega
    exact ⟨h2.cell 0, h2.cell 1, h2.cell 2, _, n, n, h2.cell 3, hi, hn⟩
  · obtain rfl : j = 0 := by omega
    exact h1.cell 0
theorem one_any (w : World) (g n : Nat) (is : List Ins) (hi : InsAt w w.heap.size (some ⟨g, 0, none⟩) n is) (hn : n ≤ 9223372036854775807) :
    Calls Try.prog 20 #[.slice (some ⟨g, 0, none⟩) n n] w fun e w' => ∃ F I, e = .returned (.agg #[.slice (some ⟨F, 0, none⟩) 1 1, .slice (some ⟨I, 0, none⟩) 1 1, .slice none 0 0, .int .i64 0]) ∧ CodAt w' w'.heap.size (.agg #[.slice (some ⟨F, 0, none⟩) 1 1, .slice (some ⟨I, 0, none⟩) 1 1, .slice none 0 0, .int .i64 0]) (codE is) ∧ Below w.heap.size w w' := by
  have HI := Lib.hid hi
  clear hi
  go_enter Try.func20, Try.ntmps20
  go_wp2
  obtain ⟨k1, k2⟩ := whole3 w #[.slice (some ⟨w.heap.size + 1 + 1, 0, none⟩) 1 1, .slice (some ⟨w.heap.size + 1, 0, none⟩) 1 1, .slice none 0 0, .int .i64 0] #[.int .i64 1] #[.int .i64 0, .int .i64 1, .int .i64 3, .slice (some ⟨g, 0, none⟩) n n] 26 3 40
  have hb := (((Below.refl w.heap.size w).alloc (Nat.le_refl _) (.cells #[.slice (some ⟨w.heap.size + 1 + 1, 0, none⟩) 1 1, .slice (some ⟨w.heap.size + 1, 0, none⟩) 1 1, .slice none 0 0, .int .i64 0] 26)).alloc (by simp) (.cells #[.int .i64 1] 3)).alloc (by simp; omega) (.cells #[.int .i64 0, .int .i64 1, .int .i64 3, .slice (some ⟨g, 0, none⟩) n n] 40)
  exact bodyPost_ret (v := .agg #[.slice (some ⟨w.heap.size + 1 + 1, 0, none⟩) 1 1, .slice (some ⟨w.heap.size + 1, 0, none⟩) 1 1, .slice none 0 0, .int .i64 0]) (by simp [results, Try.results20, go_sem]) rfl ⟨_, _, rfl, cod_one k1 k2 ((HI.out.below hb).more hb.size) hn, hb⟩
theorem insAt_new {w : World} {g : Nat} {is : List Ins} (h : Whole w g 36 (List.toArray (insCells is))) : InsAt w w.heap.size (some ⟨g, 0, none⟩) is.length is :=
  ⟨rfl, fun _ => ⟨g, 0, rfl, h.lt, fun j hj => by
    have := insCells_get is j hj
    rw [Nat.zero_add]
    exact ⟨(h.cell _).trans (by simpa using this.1), (h.cell _).trans (by simpa using this.2.1), (h.cell _).trans (by simpa using this.2.2)⟩⟩⟩
/-- An example's box. -/
def exV (F I : Nat) : Value := .agg #[.slice (some ⟨F, 0, none⟩) 1 1, .slice (some ⟨I, 0, none⟩) 1 1, .slice none 0 0, .int .i64 0]
structure ExAt (w : World) (g F I : Nat) (is : List Ins) : Prop where
  box : Whole w g 26 #[.slice (some ⟨F, 0, none⟩) 1 1, .slice (some ⟨I, 0, none⟩) 1 1, .slice none 0 0, .int .i64 0]
  cod : CodAt w w.heap.size (.agg #[.slice (some ⟨F, 0, none⟩) 1 1, .slice (some ⟨I, 0, none⟩) 1 1, .slice none 0 0, .int .i64 0]) (codE is)
theorem ExAt.below {w w' : World} {g F I : Nat} {is : List Ins} (h : ExAt w g F I is) (hb : Below w.heap.size w w') : ExAt w' g F I is := ⟨h.box.below hb h.box.lt, (h.cod.below hb).more hb.size⟩
theorem ExAt.made {w : World} {F I : Nat} {is : List Ins} (h : CodAt w w.heap.size (.agg #[.slice (some ⟨F, 0, none⟩) 1 1, .slice (some ⟨I, 0, none⟩) 1 1, .slice none 0 0, .int .i64 0]) (codE is)) :
    ExAt (w.alloc (.cells #[.slice (some ⟨F, 0, none⟩) 1 1, .slice (some ⟨I, 0, none⟩) 1 1, .slice none 0 0, .int .i64 0] 26)) w.heap.size F I is :=
  have hb : Below w.heap.size w (w.alloc (.cells #[.slice (some ⟨F, 0, none⟩) 1 1, .slice (some ⟨I, 0, none⟩) 1 1, .slice none 0 0, .int .i64 0] 26)) := (Below.refl _ _).alloc (Nat.le_refl _) _
  ⟨Whole.made _ _ _, (h.below hb).more hb.size⟩
theorem ex_dep {w : World} {g F I : Nat} {is : List Ins} {xs : List Int} (h : ExAt w g F I is) (hx : DepIs (codE is) 0 xs) : Calls Try.prog 12 #[.agg #[.slice (some ⟨F, 0, none⟩) 1 1, .slice (some ⟨I, 0, none⟩) 1 1, .slice none 0 0, .int .i64 0], .int .i64 0] w fun e w' => ∃ A cap, e = .returned (.slice A xs.length cap) ∧ Ints w' w'.heap.size A xs.length xs ∧ Below w.heap.size w w' :=
  (depths_any w _ _ 0 h.cod).mono fun e w' ⟨h1, A, n, cap, ys, h2, h3, h4, h5⟩ => by
    obtain rfl := h4.uniq hx
    obtain rfl : ys.length = n := h3.1
    exact ⟨A, cap, h2, h3, h1⟩
theorem ex_code {w : World} {g F I : Nat} {is : List Ins} {x : Int} (h : ExAt w g F I is) (hx : CodeIs (codE is) x) : Calls Try.prog 9 #[.agg #[.slice (some ⟨F, 0, none⟩) 1 1, .slice (some ⟨I, 0, none⟩) 1 1, .slice none 0 0, .int .i64 0]] w fun e w' => e = .returned (.int .i64 x) ∧ Below w.heap.size w w' :=
  (code_any w _ _ h.cod).mono fun e w' ⟨y, h1, h2, h3⟩ => by
    obtain rfl := h2.uniq hx
    exact ⟨h1, h3⟩
theorem ints_lit (w : World) (zs : List Int) : Ints (w.alloc (.cells (zs.map (Value.int .i64)).toArray 3)) (w.alloc (.cells (zs.map (Value.int .i64)).toArray 3)).heap.size (some ⟨w.heap.size, 0, none⟩) zs.length zs :=
  ⟨rfl, fun _ => ⟨_, 0, rfl, by simp, fun j hj => by
    rw [(Whole.made w 3 _).cell]
    simp [List.getElem?_eq_getElem hj]⟩⟩
theorem ex_same {w : World} {A : Option Addr} {cap : Nat} {xs : List Int} (h : Ints w w.heap.size A xs.length xs) (hl : xs.length ≤ 1000) : Calls Try.prog 14 #[.slice A xs.length cap, .slice (some ⟨w.heap.size, 0, none⟩) xs.length xs.length] (w.alloc (.cells (xs.map (Value.int .i64)).toArray 3)) fun e w' => e = .returned (.bool true) ∧ Below w.heap.size w w' := by
  have hb : Below w.heap.size w (w.alloc (.cells (xs.map (Value.int .i64)).toArray 3)) := (Below.refl _ _).alloc (Nat.le_refl _) _
  refine (sameints_any _ _ A _ _ _ cap _ xs xs ((h.below hb).more hb.size) (ints_lit w xs) (by omega) (by omega)).mono ?_
  rintro e w' ⟨h1, h2⟩
  exact ⟨by rw [h1, beq_self_eq_true], hb.trans (h2.mono hb.size)⟩
set_option maxRecDepth 100000 in
set_option maxHeartbeats 8000000 in
theorem lives_any (w : World) : Calls Try.prog 11 #[] w fun e w' => e = .returned (.bool true) ∧ Below w.heap.size w w' := by
  have IN : Hid (InsAt (w.alloc (.cells #[.int .i64 1, .int .i64 0, .int .i64 0, .int .i64 15, .int .i64 0, .int .i64 0] 36)) (w.alloc (.cells #[.int .i64 1, .int .i64 0, .int .i64 0, .int .i64 15, .int .i64 0, .int .i64 0] 36)).heap.size (some ⟨w.heap.size, 0, none⟩) 2 isA) := insAt_new (is := isA) (Whole.made _ _ _)
  have HB0 : Hid (Below w.heap.size w (w.alloc (.cells #[.int .i64 1, .int .i64 0, .int .i64 0, .int .i64 15, .int .i64 0, .int .i64 0] 36))) := (Below.refl _ _).alloc (Nat.le_refl _) _
  have CA := Lib.hid (one_any _ _ _ _ IN.out (by omega))
  go_enter Try.func11, Try.ntmps11
  go_upto_region 2 with (go_at_call 20; refine CA.out.mono ?_; rintro e vA ⟨FA, IA, rfl, hc1, hb1⟩; have HC1 := Lib.hid hc1; have HB1 := Lib.hid hb1; clear hc1 hb1)
  obtain ⟨wA, hw⟩ : ∃ wA, wA = vA.alloc (.cells #[.slice (some ⟨FA, 0, none⟩) 1 1, .slice (some ⟨IA, 0, none⟩) 1 1, .slice none 0 0, .int .i64 0] 26) := ⟨_, rfl⟩
  have HNA : Hid (Below w.heap.size w wA) := by show Below _ _ _; rw [hw]; exact (HB0.out.trans (HB1.out.mono HB0.out.size)).alloc (Nat.le_trans HB0.out.size HB1.out.size) _
  have HXA : Hid (ExAt wA vA.heap.size FA IA isA) := by show ExAt _ _ _ _ _; rw [hw]; exact ExAt.made HC1.out
  rw [← hw]
  clear hw IN HB0 CA HC1 HB1
  have HB : Hid (Below w.heap.size w wA) := HNA.out
  clear HNA
  generalize vA.heap.size = gA at *
  have IN : Hid (InsAt (wA.alloc (.cells #[.int .i64 9, .int .i64 0, .int .i64 0] 36)) (wA.alloc (.cells #[.int .i64 9, .int .i64 0, .int .i64 0] 36)).heap.size (some ⟨wA.heap.size, 0, none⟩) 1 isB) := insAt_new (is := isB) (Whole.made _ _ _)
  have HB0 : Hid (Below wA.heap.size wA (wA.alloc (.cells #[.int .i64 9, .int .i64 0, .int .i64 0] 36))) := (Below.refl _ _).alloc (Nat.le_refl _) _
  have CA := Lib.hid (one_any _ _ _ _ IN.out (by omega))
  go_upto_region 3 with (go_at_call 20; refine CA.out.mono ?_; rintro e vB ⟨FB, IB, rfl, hc1, hb1⟩; have HC1 := Lib.hid hc1; have HB1 := Lib.hid hb1; clear hc1 hb1)
  obtain ⟨wB, hw⟩ : ∃ wB, wB = vB.alloc (.cells #[.slice (some ⟨FB, 0, none⟩) 1 1, .slice (some ⟨IB, 0, none⟩) 1 1, .slice none 0 0, .int .i64 0] 26) := ⟨_, rfl⟩
  have HNB : Hid (Below wA.heap.size wA wB) := by show Below _ _ _; rw [hw]; exact (HB0.out.trans (HB1.out.mono HB0.out.size)).alloc (Nat.le_trans HB0.out.size HB1.out.size) _
  have HXB : Hid (ExAt wB vB.heap.size FB IB isB) := by show ExAt _ _ _ _ _; rw [hw]; exact ExAt.made HC1.out
  rw [← hw]
  clear hw IN HB0 CA HC1 HB1
  replace HXA := Lib.hid (HXA.out.below HNB.out)
  replace HB : Hid (Below w.heap.size w wB) := HB.out.trans (HNB.out.mono HB.out.size)
  clear HNB
  generalize vB.heap.size = gB at *
  have IN : Hid (InsAt (wB.alloc (.cells #[.int .i64 21, .int .i64 2, .int .i64 0, .int .i64 16, .int .i64 1, .int .i64 0, .int .i64 15, .int .i64 0, .int .i64 0] 36)) (wB.alloc (.cells #[.int .i64 21, .int .i64 2, .int .i64 0, .int .i64 16, .int .i64 1, .int .i64 0, .int .i64 15, .int .i64 0, .int .i64 0] 36)).heap.size (some ⟨wB.heap.size, 0, none⟩) 3 isC) := insAt_new (is := isC) (Whole.made _ _ _)
  have HB0 : Hid (Below wB.heap.size wB (wB.alloc (.cells #[.int .i64 21, .int .i64 2, .int .i64 0, .int .i64 16, .int .i64 1, .int .i64 0, .int .i64 15, .int .i64 0, .int .i64 0] 36))) := (Below.refl _ _).alloc (Nat.le_refl _) _
  have CA := Lib.hid (one_any _ _ _ _ IN.out (by omega))
  go_upto_region 4 with (go_at_call 20; refine CA.out.mono ?_; rintro e vC ⟨FC, IC, rfl, hc1, hb1⟩; have HC1 := Lib.hid hc1; have HB1 := Lib.hid hb1; clear hc1 hb1)
  obtain ⟨wC, hw⟩ : ∃ wC, wC = vC.alloc (.cells #[.slice (some ⟨FC, 0, none⟩) 1 1, .slice (some ⟨IC, 0, none⟩) 1 1, .slice none 0 0, .int .i64 0] 26) := ⟨_, rfl⟩
  have HNC : Hid (Below wB.heap.size wB wC) := by show Below _ _ _; rw [hw]; exact (HB0.out.trans (HB1.out.mono HB0.out.size)).alloc (Nat.le_trans HB0.out.size HB1.out.size) _
  have HXC : Hid (ExAt wC vC.heap.size FC IC isC) := by show ExAt _ _ _ _ _; rw [hw]; exact ExAt.made HC1.out
  rw [← hw]
  clear hw IN HB0 CA HC1 HB1
  replace HXA := Lib.hid (HXA.out.below HNC.out)
  replace HXB := Lib.hid (HXB.out.below HNC.out)
  replace HB : Hid (Below w.heap.size w wC) := HB.out.trans (HNC.out.mono HB.out.size)
  clear HNC
  generalize vC.heap.size = gC at *
  have A0 : wC.cell? ⟨gA, 0, none⟩ = some (.slice (some ⟨FA, 0, none⟩) 1 1) := HXA.out.box.cell 0; have A1 : wC.cell? ⟨gA, 1, none⟩ = some (.slice (some ⟨IA, 0, none⟩) 1 1) := HXA.out.box.cell 1; have A2 : wC.cell? ⟨gA, 2, none⟩ = some (.slice none 0 0) := HXA.out.box.cell 2; have A3 : wC.cell? ⟨gA, 3, none⟩ = some (.int .i64 0) := HXA.out.box.cell 3; have B0 : wC.cell? ⟨gB, 0, none⟩ = some (.slice (some ⟨FB, 0, none⟩) 1 1) := HXB.out.box.cell 0; have B1 : wC.cell? ⟨gB, 1, none⟩ = some (.slice (some ⟨IB, 0, none⟩) 1 1) := HXB.out.box.cell 1; have B2 : wC.cell? ⟨gB, 2, none⟩ = some (.slice none 0 0) := HXB.out.box.cell 2; have B3 : wC.cell? ⟨gB, 3, none⟩ = some (.int .i64 0) := HXB.out.box.cell 3; have C0 : wC.cell? ⟨gC, 0, none⟩ = some (.slice (some ⟨FC, 0, none⟩) 1 1) := HXC.out.box.cell 0; have C1 : wC.cell? ⟨gC, 1, none⟩ = some (.slice (some ⟨IC, 0, none⟩) 1 1) := HXC.out.box.cell 1; have C2 : wC.cell? ⟨gC, 2, none⟩ = some (.slice none 0 0) := HXC.out.box.cell 2; have C3 : wC.cell? ⟨gC, 3, none⟩ = some (.int .i64 0) := HXC.out.box.cell 3
  go_upto_region 5 with (first
    | (go_at_call 12; (with_reducible refine (ex_dep HXA.out depA).mono ?_); rintro e wd ⟨AA, cap, rfl, hi, hb⟩; have HI := Lib.hid hi; replace HXA := Lib.hid (HXA.out.below hb); replace HXB := Lib.hid (HXB.out.below hb); replace HXC := Lib.hid (HXC.out.below hb); replace HB : Hid (Below w.heap.size w wd) := HB.out.trans (hb.mono HB.out.size); clear hb; clear A0 A1 A2 A3 B0 B1 B2 B3 C0 C1 C2 C3; have A0 : wd.cell? ⟨gA, 0, none⟩ = some (.slice (some ⟨FA, 0, none⟩) 1 1) := HXA.out.box.cell 0; have A1 : wd.cell? ⟨gA, 1, none⟩ = some (.slice (some ⟨IA, 0, none⟩) 1 1) := HXA.out.box.cell 1; have A2 : wd.cell? ⟨gA, 2, none⟩ = some (.slice none 0 0) := HXA.out.box.cell 2; have A3 : wd.cell? ⟨gA, 3, none⟩ = some (.int .i64 0) := HXA.out.box.cell 3; have B0 : wd.cell? ⟨gB, 0, none⟩ = some (.slice (some ⟨FB, 0, none⟩) 1 1) := HXB.out.box.cell 0; have B1 : wd.cell? ⟨gB, 1, none⟩ = some (.slice (some ⟨IB, 0, none⟩) 1 1) := HXB.out.box.cell 1; have B2 : wd.cell? ⟨gB, 2, none⟩ = some (.slice none 0 0) := HXB.out.box.cell 2; have B3 : wd.cell? ⟨gB, 3, none⟩ = some (.int .i64 0) := HXB.out.box.cell 3; have C0 : wd.cell? ⟨gC, 0, none⟩ = some (.slice (some ⟨FC, 0, none⟩) 1 1) := HXC.out.box.cell 0; have C1 : wd.cell? ⟨gC, 1, none⟩ = some (.slice (some ⟨IC, 0, none⟩) 1 1) := HXC.out.box.cell 1; have C2 : wd.cell? ⟨gC, 2, none⟩ = some (.slice none 0 0) := HXC.out.box.cell 2; have C3 : wd.cell? ⟨gC, 3, none⟩ = some (.int .i64 0) := HXC.out.box.cell 3; have CS := Lib.hid (ex_same (cap := cap) HI.out (by decide)); clear hi HI)
    | (go_at_call 14; refine CS.out.mono ?_; rintro e we ⟨rfl, hb⟩; replace HXA := Lib.hid (HXA.out.below hb); replace HXB := Lib.hid (HXB.out.below hb); replace HXC := Lib.hid (HXC.out.below hb); replace HB : Hid (Below w.heap.size w we) := HB.out.trans (hb.mono HB.out.size); clear hb; clear A0 A1 A2 A3 B0 B1 B2 B3 C0 C1 C2 C3; have A0 : we.cell? ⟨gA, 0, none⟩ = some (.slice (some ⟨FA, 0, none⟩) 1 1) := HXA.out.box.cell 0; have A1 : we.cell? ⟨gA, 1, none⟩ = some (.slice (some ⟨IA, 0, none⟩) 1 1) := HXA.out.box.cell 1; have A2 : we.cell? ⟨gA, 2, none⟩ = some (.slice none 0 0) := HXA.out.box.cell 2; have A3 : we.cell? ⟨gA, 3, none⟩ = some (.int .i64 0) := HXA.out.box.cell 3; have B0 : we.cell? ⟨gB, 0, none⟩ = some (.slice (some ⟨FB, 0, none⟩) 1 1) := HXB.out.box.cell 0; have B1 : we.cell? ⟨gB, 1, none⟩ = some (.slice (some ⟨IB, 0, none⟩) 1 1) := HXB.out.box.cell 1; have B2 : we.cell? ⟨gB, 2, none⟩ = some (.slice none 0 0) := HXB.out.box.cell 2; have B3 : we.cell? ⟨gB, 3, none⟩ = some (.int .i64 0) := HXB.out.box.cell 3; have C0 : we.cell? ⟨gC, 0, none⟩ = some (.slice (some ⟨FC, 0, none⟩) 1 1) := HXC.out.box.cell 0; have C1 : we.cell? ⟨gC, 1, none⟩ = some (.slice (some ⟨IC, 0, none⟩) 1 1) := HXC.out.box.cell 1; have C2 : we.cell? ⟨gC, 2, none⟩ = some (.slice none 0 0) := HXC.out.box.cell 2; have C3 : we.cell? ⟨gC, 3, none⟩ = some (.int .i64 0) := HXC.out.box.cell 3; clear CS))
  go_upto_region 6 with (first
    | (go_at_call 12; (with_reducible refine (ex_dep HXC.out depC).mono ?_); rintro e wd ⟨AA, cap, rfl, hi, hb⟩; have HI := Lib.hid hi; replace HXA := Lib.hid (HXA.out.below hb); replace HXB := Lib.hid (HXB.out.below hb); replace HXC := Lib.hid (HXC.out.below hb); replace HB : Hid (Below w.heap.size w wd) := HB.out.trans (hb.mono HB.out.size); clear hb; clear A0 A1 A2 A3 B0 B1 B2 B3 C0 C1 C2 C3; have A0 : wd.cell? ⟨gA, 0, none⟩ = some (.slice (some ⟨FA, 0, none⟩) 1 1) := HXA.out.box.cell 0; have A1 : wd.cell? ⟨gA, 1, none⟩ = some (.slice (some ⟨IA, 0, none⟩) 1 1) := HXA.out.box.cell 1; have A2 : wd.cell? ⟨gA, 2, none⟩ = some (.slice none 0 0) := HXA.out.box.cell 2; have A3 : wd.cell? ⟨gA, 3, none⟩ = some (.int .i64 0) := HXA.out.box.cell 3; have B0 : wd.cell? ⟨gB, 0, none⟩ = some (.slice (some ⟨FB, 0, none⟩) 1 1) := HXB.out.box.cell 0; have B1 : wd.cell? ⟨gB, 1, none⟩ = some (.slice (some ⟨IB, 0, none⟩) 1 1) := HXB.out.box.cell 1; have B2 : wd.cell? ⟨gB, 2, none⟩ = some (.slice none 0 0) := HXB.out.box.cell 2; have B3 : wd.cell? ⟨gB, 3, none⟩ = some (.int .i64 0) := HXB.out.box.cell 3; have C0 : wd.cell? ⟨gC, 0, none⟩ = some (.slice (some ⟨FC, 0, none⟩) 1 1) := HXC.out.box.cell 0; have C1 : wd.cell? ⟨gC, 1, none⟩ = some (.slice (some ⟨IC, 0, none⟩) 1 1) := HXC.out.box.cell 1; have C2 : wd.cell? ⟨gC, 2, none⟩ = some (.slice none 0 0) := HXC.out.box.cell 2; have C3 : wd.cell? ⟨gC, 3, none⟩ = some (.int .i64 0) := HXC.out.box.cell 3; have CS := Lib.hid (ex_same (cap := cap) HI.out (by decide)); clear hi HI)
    | (go_at_call 14; refine CS.out.mono ?_; rintro e we ⟨rfl, hb⟩; replace HXA := Lib.hid (HXA.out.below hb); replace HXB := Lib.hid (HXB.out.below hb); replace HXC := Lib.hid (HXC.out.below hb); replace HB : Hid (Below w.heap.size w we) := HB.out.trans (hb.mono HB.out.size); clear hb; clear A0 A1 A2 A3 B0 B1 B2 B3 C0 C1 C2 C3; have A0 : we.cell? ⟨gA, 0, none⟩ = some (.slice (some ⟨FA, 0, none⟩) 1 1) := HXA.out.box.cell 0; have A1 : we.cell? ⟨gA, 1, none⟩ = some (.slice (some ⟨IA, 0, none⟩) 1 1) := HXA.out.box.cell 1; have A2 : we.cell? ⟨gA, 2, none⟩ = some (.slice none 0 0) := HXA.out.box.cell 2; have A3 : we.cell? ⟨gA, 3, none⟩ = some (.int .i64 0) := HXA.out.box.cell 3; have B0 : we.cell? ⟨gB, 0, none⟩ = some (.slice (some ⟨FB, 0, none⟩) 1 1) := HXB.out.box.cell 0; have B1 : we.cell? ⟨gB, 1, none⟩ = some (.slice (some ⟨IB, 0, none⟩) 1 1) := HXB.out.box.cell 1; have B2 : we.cell? ⟨gB, 2, none⟩ = some (.slice none 0 0) := HXB.out.box.cell 2; have B3 : we.cell? ⟨gB, 3, none⟩ = some (.int .i64 0) := HXB.out.box.cell 3; have C0 : we.cell? ⟨gC, 0, none⟩ = some (.slice (some ⟨FC, 0, none⟩) 1 1) := HXC.out.box.cell 0; have C1 : we.cell? ⟨gC, 1, none⟩ = some (.slice (some ⟨IC, 0, none⟩) 1 1) := HXC.out.box.cell 1; have C2 : we.cell? ⟨gC, 2, none⟩ = some (.slice none 0 0) := HXC.out.box.cell 2; have C3 : we.cell? ⟨gC, 3, none⟩ = some (.int .i64 0) := HXC.out.box.cell 3; clear CS))
  go_wp2_with (first
    | (go_at_call 9; (with_reducible refine (ex_code HXA.out codeA).mono ?_); rintro e wa ⟨rfl, hb⟩; replace HXA := Lib.hid (HXA.out.below hb); replace HXB := Lib.hid (HXB.out.below hb); replace HXC := Lib.hid (HXC.out.below hb); replace HB : Hid (Below w.heap.size w wa) := HB.out.trans (hb.mono HB.out.size); clear hb; clear A0 A1 A2 A3 B0 B1 B2 B3 C0 C1 C2 C3; have A0 : wa.cell? ⟨gA, 0, none⟩ = some (.slice (some ⟨FA, 0, none⟩) 1 1) := HXA.out.box.cell 0; have A1 : wa.cell? ⟨gA, 1, none⟩ = some (.slice (some ⟨IA, 0, none⟩) 1 1) := HXA.out.box.cell 1; have A2 : wa.cell? ⟨gA, 2, none⟩ = some (.slice none 0 0) := HXA.out.box.cell 2; have A3 : wa.cell? ⟨gA, 3, none⟩ = some (.int .i64 0) := HXA.out.box.cell 3; have B0 : wa.cell? ⟨gB, 0, none⟩ = some (.slice (some ⟨FB, 0, none⟩) 1 1) := HXB.out.box.cell 0; have B1 : wa.cell? ⟨gB, 1, none⟩ = some (.slice (some ⟨IB, 0, none⟩) 1 1) := HXB.out.box.cell 1; have B2 : wa.cell? ⟨gB, 2, none⟩ = some (.slice none 0 0) := HXB.out.box.cell 2; have B3 : wa.cell? ⟨gB, 3, none⟩ = some (.int .i64 0) := HXB.out.box.cell 3; have C0 : wa.cell? ⟨gC, 0, none⟩ = some (.slice (some ⟨FC, 0, none⟩) 1 1) := HXC.out.box.cell 0; have C1 : wa.cell? ⟨gC, 1, none⟩ = some (.slice (some ⟨IC, 0, none⟩) 1 1) := HXC.out.box.cell 1; have C2 : wa.cell? ⟨gC, 2, none⟩ = some (.slice none 0 0) := HXC.out.box.cell 2; have C3 : wa.cell? ⟨gC, 3, none⟩ = some (.int .i64 0) := HXC.out.box.cell 3)
    | (go_at_call 9; (with_reducible refine (ex_code HXB.out codeB).mono ?_); rintro e wb ⟨rfl, hb⟩; replace HXA := Lib.hid (HXA.out.below hb); replace HXB := Lib.hid (HXB.out.below hb); replace HXC := Lib.hid (HXC.out.below hb); replace HB : Hid (Below w.heap.size w wb) := HB.out.trans (hb.mono HB.out.size); clear hb; clear A0 A1 A2 A3 B0 B1 B2 B3 C0 C1 C2 C3; have A0 : wb.cell? ⟨gA, 0, none⟩ = some (.slice (some ⟨FA, 0, none⟩) 1 1) := HXA.out.box.cell 0; have A1 : wb.cell? ⟨gA, 1, none⟩ = some (.slice (some ⟨IA, 0, none⟩) 1 1) := HXA.out.box.cell 1; have A2 : wb.cell? ⟨gA, 2, none⟩ = some (.slice none 0 0) := HXA.out.box.cell 2; have A3 : wb.cell? ⟨gA, 3, none⟩ = some (.int .i64 0) := HXA.out.box.cell 3; have B0 : wb.cell? ⟨gB, 0, none⟩ = some (.slice (some ⟨FB, 0, none⟩) 1 1) := HXB.out.box.cell 0; have B1 : wb.cell? ⟨gB, 1, none⟩ = some (.slice (some ⟨IB, 0, none⟩) 1 1) := HXB.out.box.cell 1; have B2 : wb.cell? ⟨gB, 2, none⟩ = some (.slice none 0 0) := HXB.out.box.cell 2; have B3 : wb.cell? ⟨gB, 3, none⟩ = some (.int .i64 0) := HXB.out.box.cell 3; have C0 : wb.cell? ⟨gC, 0, none⟩ = some (.slice (some ⟨FC, 0, none⟩) 1 1) := HXC.out.box.cell 0; have C1 : wb.cell? ⟨gC, 1, none⟩ = some (.slice (some ⟨IC, 0, none⟩) 1 1) := HXC.out.box.cell 1; have C2 : wb.cell? ⟨gC, 2, none⟩ = some (.slice none 0 0) := HXC.out.box.cell 2; have C3 : wb.cell? ⟨gC, 3, none⟩ = some (.int .i64 0) := HXC.out.box.cell 3)
    | (go_at_call 9; (with_reducible refine (ex_code HXC.out codeC).mono ?_); rintro e wc ⟨rfl, hb⟩; replace HXA := Lib.hid (HXA.out.below hb); replace HXB := Lib.hid (HXB.out.below hb); replace HXC := Lib.hid (HXC.out.below hb); replace HB : Hid (Below w.heap.size w wc) := HB.out.trans (hb.mono HB.out.size); clear hb; clear A0 A1 A2 A3 B0 B1 B2 B3 C0 C1 C2 C3; have A0 : wc.cell? ⟨gA, 0, none⟩ = some (.slice (some ⟨FA, 0, none⟩) 1 1) := HXA.out.box.cell 0; have A1 : wc.cell? ⟨gA, 1, none⟩ = some (.slice (some ⟨IA, 0, none⟩) 1 1) := HXA.out.box.cell 1; have A2 : wc.cell? ⟨gA, 2, none⟩ = some (.slice none 0 0) := HXA.out.box.cell 2; have A3 : wc.cell? ⟨gA, 3, none⟩ = some (.int .i64 0) := HXA.out.box.cell 3; have B0 : wc.cell? ⟨gB, 0, none⟩ = some (.slice (some ⟨FB, 0, none⟩) 1 1) := HXB.out.box.cell 0; have B1 : wc.cell? ⟨gB, 1, none⟩ = some (.slice (some ⟨IB, 0, none⟩) 1 1) := HXB.out.box.cell 1; have B2 : wc.cell? ⟨gB, 2, none⟩ = some (.slice none 0 0) := HXB.out.box.cell 2; have B3 : wc.cell? ⟨gB, 3, none⟩ = some (.int .i64 0) := HXB.out.box.cell 3; have C0 : wc.cell? ⟨gC, 0, none⟩ = some (.slice (some ⟨FC, 0, none⟩) 1 1) := HXC.out.box.cell 0; have C1 : wc.cell? ⟨gC, 1, none⟩ = some (.slice (some ⟨IC, 0, none⟩) 1 1) := HXC.out.box.cell 1; have C2 : wc.cell? ⟨gC, 2, none⟩ = some (.slice none 0 0) := HXC.out.box.cell 2; have C3 : wc.cell? ⟨gC, 3, none⟩ = some (.int .i64 0) := HXC.out.box.cell 3)
    | (go_at_call 12; (with_reducible refine (ex_dep HXB.out depB).mono ?_); rintro e wd ⟨AA, cap, rfl, hi, hb⟩; replace HXA := Lib.hid (HXA.out.below hb); replace HXB := Lib.hid (HXB.out.below hb); replace HXC := Lib.hid (HXC.out.below hb); replace HB : Hid (Below w.heap.size w wd) := HB.out.trans (hb.mono HB.out.size); clear hb; clear A0 A1 A2 A3 B0 B1 B2 B3 C0 C1 C2 C3; have A0 : wd.cell? ⟨gA, 0, none⟩ = some (.slice (some ⟨FA, 0, none⟩) 1 1) := HXA.out.box.cell 0; have A1 : wd.cell? ⟨gA, 1, none⟩ = some (.slice (some ⟨IA, 0, none⟩) 1 1) := HXA.out.box.cell 1; have A2 : wd.cell? ⟨gA, 2, none⟩ = some (.slice none 0 0) := HXA.out.box.cell 2; have A3 : wd.cell? ⟨gA, 3, none⟩ = some (.int .i64 0) := HXA.out.box.cell 3; have B0 : wd.cell? ⟨gB, 0, none⟩ = some (.slice (some ⟨FB, 0, none⟩) 1 1) := HXB.out.box.cell 0; have B1 : wd.cell? ⟨gB, 1, none⟩ = some (.slice (some ⟨IB, 0, none⟩) 1 1) := HXB.out.box.cell 1; have B2 : wd.cell? ⟨gB, 2, none⟩ = some (.slice none 0 0) := HXB.out.box.cell 2; have B3 : wd.cell? ⟨gB, 3, none⟩ = some (.int .i64 0) := HXB.out.box.cell 3; have C0 : wd.cell? ⟨gC, 0, none⟩ = some (.slice (some ⟨FC, 0, none⟩) 1 1) := HXC.out.box.cell 0; have C1 : wd.cell? ⟨gC, 1, none⟩ = some (.slice (some ⟨IC, 0, none⟩) 1 1) := HXC.out.box.cell 1; have C2 : wd.cell? ⟨gC, 2, none⟩ = some (.slice none 0 0) := HXC.out.box.cell 2; have C3 : wd.cell? ⟨gC, 3, none⟩ = some (.int .i64 0) := HXC.out.box.cell 3; clear hi))
  go_ret
  exact ⟨rfl, HB.out⟩
end Go.Proofs.Ytjkbhdocpjekmaa
