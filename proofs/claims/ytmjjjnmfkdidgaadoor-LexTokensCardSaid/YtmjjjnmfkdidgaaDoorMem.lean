/- Turned from another seat: But.trans But.refl But.of_below But.mono But.below But.alloc But.drew But.set But.setCell But.whole whole_ne list_app step_app Appended.stays Appended.far Appended.own Appended.grows Appended.below Appended.other own_ne_type own_whole_ne own_of_block own_setCell own_below own_drew own_more own_cell own_form elemTy own_made own_more_alloc row_get cell_far below_drewN Whole.below Whole.far Whole.put Whole.free Whole.cell Whole.lt Whole.made Whole.alloc. -/
import Derived.WalkKit
import Derived.Deep.Draws
import Derived.Laws.Rows
import Derived.WalkSpells
import Derived.WalkLawsBesides
import Derived.Lib.Hide
import Derived.Deep.DeepMust
import Derived.Deep.QuietTactic
import Derived.BigQuiet
import Derived.Deep.AppendLies
import Derived.Deep.RegionHeld3
import Derived.Deep.RegionLaw
import Derived.Deep.DrawnRows
import Derived.StillTailTactics
import Derived.Outline
import Derived.OwnWalk
import Derived.Test.YtmjjjnmfkdidgaaDoorProg
namespace Go.Proofs.YtmjjjnmfkdidgaaDoor
open Go.RowKit
set_option linter.unusedVariables false

/-- Block g holds just these cells, none of them frozen. -/
def Whole (w : World) (g : Nat) (t : TypeId) (cs : Array Value) : Prop := w.heap[g]? = some (.cells cs t (0, 0))
theorem Whole.lt {w : World} {g : Nat} {t : TypeId} {cs : Array Value} (h : Whole w g t cs) : g < w.heap.size := by
  unfold Whole at h
  rcases Nat.lt_or_ge g w.heap.size with hl | hl
  · exact hl
  · rw [Array.getElem?_eq_none hl] at h; cases h
theorem Whole.cell {w : World} {g : Nat} {t : TypeId} {cs : Array Value} (h : Whole w g t cs) (i : Nat) : w.cell? ⟨g, i, none⟩ = cs[i]? :=
  cell_of_row w g i cs t (0, 0) h
theorem Whole.free {w : World} {g : Nat} {t : TypeId} {cs : Array Value} (h : Whole w g t cs) (i : Nat) : w.frozen? ⟨g, i, none⟩ = false := by
  unfold Whole at h; simp [World.frozen?, h]
theorem Whole.made (w : World) (t : TypeId) (cs : Array Value) : Whole (w.alloc (.cells cs t)) w.heap.size t cs := heap_alloc_new w _
theorem Whole.put {w : World} {g : Nat} {t : TypeId} {cs : Array Value} (h : Whole w g t cs) (i : Nat) (u : Value) : Whole (w.setCell ⟨g, i, none⟩ u) g t (cs.setIfInBounds i u) := by
  unfold Whole at h ⊢; simp [World.setCell, Array.getElem?_modify, h]
theorem Whole.alloc {w : World} {g : Nat} {t : TypeId} {cs : Array Value} (h : Whole w g t cs) (o : Obj) : Whole (w.alloc o) g t cs := (Below.heap_alloc w o g h.lt).trans h
theorem Whole.far {w : World} {g : Nat} {t : TypeId} {cs : Array Value} (h : Whole w g t cs) {p : Addr} (hp : g ≠ p.block) (u : Value) : Whole (w.setCell p u) g t cs := (Below.heap_setCell w p u g hp).trans h
theorem Whole.below {B : Nat} {w w' : World} {g : Nat} {t : TypeId} {cs : Array Value} (h : Whole w g t cs) (hb : Below B w w') (hg : g < B) : Whole w' g t cs := (hb.block g hg).trans h
theorem below_drewN {B : Nat} {a w : World} (h : Below B a w) (n : Nat) : Below B a (w.drewN n) := ⟨h.os, h.tape, h.output, h.size, h.block⟩
/-- A slice type, its elements' type, how many cells and bytes one has. -/
structure ElemTy (t e : TypeId) (size bytes : Nat) : Prop where
  under : Tryd.prog.underlying t = some (.slice e)
  info : ∃ i z, Tryd.prog.info? e = some i ∧ i.zero = some z ∧ i.size = size ∧ i.bytes = bytes ∧ z.cells.size = size
  pos : 0 < size
theorem Whole.news {w : World} {g : Nat} {t : TypeId} {news : List Value} (h : Whole w g t news.toArray) : ∀ j u, news[j]? = some u → w.cell? ((⟨g, 0, none⟩ : Addr).add j) = some u := fun j u hj => by
  have e : (⟨g, 0, none⟩ : Addr).add j = ⟨g, j, none⟩ := by unfold Addr.add; split <;> simp_all
  rw [e, h.cell j]; simpa using hj
/-- What an append leaves: the value owns the row, which is the old one, or new. -/
def Appended (w : World) (base : Nat) (e : TypeId) (size : Nat) (v : Value) (n : Nat) (xs : List Value) (v' : Value) (w' : World) : Prop :=
  w'.ownsRow base e size v' n xs ∧ w.grownBy w' v.ownBlock ∧ (∀ k, v'.ownBlock = some k → v.ownBlock = some k ∨ k = w.heap.size)
theorem list_app {t e : TypeId} {size bytes : Nat} (T : ElemTy t e size bytes) {ops : Array Oper} {rest : List Oper} {o : Oper} {a : Act} {Q : Exit → Act → World → Prop} {w : World} {base : Nat} {v : Value} {n : Nat} {xs : List Value} (hgd : o.guard = none) (s x : Operand)
    (ho : o.op = .call { callee := .builtin .append, args := #[s, x], argTypes := #[t, t] }) (hs : a.eval s = v) (hown : w.ownsRow base e size v n xs) (g m : Nat) (news : List Value) (hx : a.eval x = .slice (some ⟨g, 0, none⟩) m m)
    (hnew : Whole w g e news.toArray) (hl : news.length = m * size) (h1 : ∀ u ∈ news, u.oneCell' = true) (hm : 0 < m) (hn : n + m ≤ 1000000000) (hb : bytes ≤ 1000) (hbase : base ≤ w.heap.size)
    (h : ∀ g' cap w', Appended w base e size v (n + m) (xs ++ news) (.slice (some ⟨g', 0, none⟩) (n + m) cap) w' → wpList Tryd.prog ops Q rest (a.put o.dst (.slice (some ⟨g', 0, none⟩) (n + m) cap)) w') : wpList Tryd.prog ops Q (o :: rest) a w := by
  obtain ⟨i, z, hi, hz, hsz, hby, hzs⟩ := T.info
  refine wpList_append_lies w hgd s x t ho base e i z size bytes T.under hi hz hsz hby hzs T.pos v n xs hs hown ⟨g, 0, none⟩ m m news hx hl hnew.news h1 hm (by unfold maxLen; omega) ?_ hbase _ rfl ?_
  · have := Nat.mul_le_mul hn hb; omega
  · intro g' cap w' ho' hg' hat _
    exact h _ _ w' ⟨ho', hg', fun k hk => by
      have : g' = k := by simpa [Value.ownBlock] using hk
      subst this; exact hat⟩
theorem step_app {t e : TypeId} {size bytes : Nat} (T : ElemTy t e size bytes) {ops : Array Oper} {o : Oper} {a : Act} {K : Act → World → Prop} {Q : Exit → Act → World → Prop} {E : Prop} {w : World} {base : Nat} {v : Value} {n : Nat} {xs : List Value} (hgd : o.guard = none) (s x : Operand)
    (ho : o.op = .call { callee := .builtin .append, args := #[s, x], argTypes := #[t, t] }) (hs : a.eval s = v) (hown : w.ownsRow base e size v n xs) (g m : Nat) (news : List Value) (hx : a.eval x = .slice (some ⟨g, 0, none⟩) m m)
    (hnew : Whole w g e news.toArray) (hl : news.length = m * size) (h1 : ∀ u ∈ news, u.oneCell' = true) (hm : 0 < m) (hn : n + m ≤ 1000000000) (hb : bytes ≤ 1000) (hbase : base ≤ w.heap.size)
    (h : ∀ g' cap w', Appended w base e size v (n + m) (xs ++ news) (.slice (some ⟨g', 0, none⟩) (n + m) cap) w' → K (a.put o.dst (.slice (some ⟨g', 0, none⟩) (n + m) cap)) w') :
    if Region.wanted o (yielded ops a.tmps) = true then Oper.wp Tryd.prog o a w K Q else E := by
  obtain ⟨i, z, hi, hz, hsz, hby, hzs⟩ := T.info
  refine step_append_lies w hgd s x t ho base e i z size bytes T.under hi hz hsz hby hzs T.pos v n xs hs hown ⟨g, 0, none⟩ m m news hx hl hnew.news h1 hm (by unfold maxLen; omega) ?_ hbase _ rfl ?_
  · have := Nat.mul_le_mul hn hb; omega
  · intro g' cap w' ho' hg' hat _
    exact h _ _ w' ⟨ho', hg', fun k hk => by
      have : g' = k := by simpa [Value.ownBlock] using hk
      subst this; exact hat⟩
section
variable {w w' : World} {base n size : Nat} {e : TypeId} {v v' : Value} {xs : List Value}
theorem heap_lt {g : Nat} {o : Obj} (h : w.heap[g]? = some o) : g < w.heap.size := by
  rcases Nat.lt_or_ge g w.heap.size with h2 | h2
  · exact h2
  · rw [Array.getElem?_eq_none h2] at h; cases h
/-- A block that is not of the row's elements is as it was. -/
theorem Appended.stays (h : Appended w base e size v n xs v' w') {n0 : Nat} {xs0 : List Value} (ho : w.ownsRow base e size v n0 xs0) {g : Nat} {t : TypeId} {cs : Array Value} (hw : Whole w g t cs) (ht : t ≠ e) : Whole w' g t cs := by
  refine (h.2.1.block g hw.lt ?_).trans hw
  intro hh
  rcases ho.2 with ⟨rfl, _⟩ | ⟨g2, cap, cur, rfl, _, hh2, _⟩
  · cases hh
  · have : g = g2 := by simpa [Value.ownBlock] using hh
    subst this
    unfold Whole at hw; rw [hw] at hh2
    simp only [Option.some.injEq, Obj.cells.injEq] at hh2
    exact ht hh2.2.1
/-- A block that is no row of this value is as it was. -/
theorem Appended.far (h : Appended w base e size v n xs v' w') {g : Nat} {t : TypeId} {cs : Array Value} (hw : Whole w g t cs) (hne : v.ownBlock ≠ some g) : Whole w' g t cs :=
  (h.2.1.block g hw.lt (Ne.symm hne)).trans hw
theorem Appended.own (h : Appended w base e size v n xs v' w') : w'.ownsRow base e size v' n xs := h.1
theorem Appended.grows (h : Appended w base e size v n xs v' w') : w.heap.size ≤ w'.heap.size := h.2.1.size
theorem Appended.below (h : Appended w base e size v n xs v' w') {n0 : Nat} {xs0 : List Value} (ho : w.ownsRow base e size v n0 xs0) {B : Nat} {a : World} (hB : Below B a w) (hb : B ≤ base) (hs : base ≤ w.heap.size) : Below B a w' :=
  hB.grown h.2.1 (by omega) (fun k hk => by have := (ho.lt k hk).1; omega)
/-- A row owned by another value is as it was. -/
theorem Appended.other (h : Appended w base e size v n xs v' w') {b2 n2 s2 : Nat} {e2 : TypeId} {u : Value} {ys : List Value} (hu : w.ownsRow b2 e2 s2 u n2 ys) (hne : ∀ g, u.ownBlock = some g → v.ownBlock ≠ some g) : w'.ownsRow b2 e2 s2 u n2 ys := by
  refine hu.kept h.2.1 ?_
  rcases hq : u.ownBlock with _ | g
  · exact .inl rfl
  · exact .inr (fun hh => hne g hq hh.symm)
theorem own_ne_type {b2 n2 s2 : Nat} {e2 : TypeId} {u : Value} {ys : List Value} (ho : w.ownsRow base e size v n xs) (hu : w.ownsRow b2 e2 s2 u n2 ys) (ht : e2 ≠ e) : ∀ g, u.ownBlock = some g → v.ownBlock ≠ some g := fun g hg hv => by
  rcases ho.2 with ⟨rfl, _⟩ | ⟨g1, c1, cur1, rfl, _, h1, _⟩
  · cases hv
  rcases hu.2 with ⟨rfl, _⟩ | ⟨g2, c2, cur2, rfl, _, h2, _⟩
  · cases hg
  have e1 : g1 = g := by simpa [Value.ownBlock] using hv
  have e2 : g2 = g := by simpa [Value.ownBlock] using hg
  subst e1; subst e2
  rw [h1] at h2
  simp only [Option.some.injEq, Obj.cells.injEq] at h2
  exact ht h2.2.1.symm
theorem own_whole_ne {g : Nat} {t : TypeId} {cs : Array Value} (ho : w.ownsRow base e size v n xs) (hw : Whole w g t cs) (ht : t ≠ e) : v.ownBlock ≠ some g := fun hv => by
  rcases ho.2 with ⟨rfl, _⟩ | ⟨g1, c1, cur1, rfl, _, h1, _⟩
  · cases hv
  have e1 : g1 = g := by simpa [Value.ownBlock] using hv
  subst e1
  unfold Whole at hw; rw [hw] at h1
  simp only [Option.some.injEq, Obj.cells.injEq] at h1
  exact ht h1.2.1
/-- A row is as it was where its block is. -/
theorem own_of_block (ho : w.ownsRow base e size v n xs) (h : ∀ g, v.ownBlock = some g → w'.heap[g]? = w.heap[g]?) : w'.ownsRow base e size v n xs := by
  refine ⟨ho.1, ?_⟩
  rcases ho.2 with h1 | ⟨g, c, cur, rfl, hb, hh, hr⟩
  · exact .inl h1
  · exact .inr ⟨g, c, cur, rfl, hb, (h g rfl).trans hh, hr⟩
theorem own_setCell (ho : w.ownsRow base e size v n xs) {p : Addr} (hp : v.ownBlock ≠ some p.block) (u : Value) : (w.setCell p u).ownsRow base e size v n xs :=
  own_of_block ho fun g hg => Below.heap_setCell w p u g (fun hh => hp (hh ▸ hg))
theorem own_below (ho : w.ownsRow base e size v n xs) {B : Nat} (hb : Below B w w') (hB : w.heap.size ≤ B) : w'.ownsRow base e size v n xs :=
  own_of_block ho fun g hg => hb.block g (Nat.lt_of_lt_of_le (ho.lt g hg).2 hB)
theorem own_drew (ho : w.ownsRow base e size v n xs) : w.drew.ownsRow base e size v n xs := ho
theorem own_more {b2 : Nat} (ho : w.ownsRow base e size v n xs) (h : b2 ≤ base) : w.ownsRow b2 e size v n xs := by
  refine ⟨ho.1, ?_⟩
  rcases ho.2 with h1 | ⟨g, c, cur, rfl, hb, hr⟩
  · exact .inl h1
  · exact .inr ⟨g, c, cur, rfl, by omega, hr⟩
/-- The cells of a row that is owned. -/
theorem own_cell (ho : w.ownsRow base e size v n xs) {k : Nat} (hk : k < n * size) : ∃ g c, v = .slice (some ⟨g, 0, none⟩) n c ∧ base ≤ g ∧ g < w.heap.size ∧ w.cell? ⟨g, k, none⟩ = xs[k]? ∧ w.frozen? ⟨g, k, none⟩ = false := by
  rcases ho.2 with ⟨rfl, rfl⟩ | ⟨g, c, cur, rfl, hb, hh, hn, hc, hs, ht⟩
  · omega
  · refine ⟨g, c, rfl, hb, heap_lt hh, ?_, by simp [World.frozen?, hh]⟩
    rw [cell_of_row w g k cur e (0, 0) hh, ← ht, List.getElem?_take, if_pos hk, Array.getElem?_toList]
theorem own_form (ho : w.ownsRow base e size v n xs) : ∃ A c, v = .slice A n c ∧ (∀ a, A = some a → ∃ g, a = ⟨g, 0, none⟩ ∧ base ≤ g ∧ g < w.heap.size) ∧ c ≤ maxLen ∧ n ≤ c := by
  rcases ho.2 with ⟨rfl, rfl⟩ | ⟨g, c, cur, rfl, hb, hh, hn, hc, _⟩
  · exact ⟨none, 0, rfl, (fun a ha => by cases ha), by unfold maxLen; omega, by omega⟩
  · exact ⟨_, c, rfl, fun a ha => by cases ha; exact ⟨g, rfl, hb, heap_lt hh⟩, hc, hn⟩
end
theorem cell_far {w : World} {p q : Addr} {u v : Value} (h : w.cell? q = some v) (hne : q.block ≠ p.block) : (w.setCell p u).cell? q = some v := by
  rw [← h]; exact World.cell?_of_block (Below.heap_setCell w p u q.block hne)
theorem Below.whole {B : Nat} {w w' : World} (h : Below B w w') {g : Nat} {t : TypeId} {cs : Array Value} (hw : Whole w g t cs) (hg : g < B) : Whole w' g t cs := hw.below h hg
/-- A block of the call's own at G, whole; what lies below it is as it was. -/
def BoxAt (w2 : World) (G : Nat) (t : TypeId) (cs : Array Value) (wr : World) : Prop := Below G w2 wr ∧ Whole wr G t cs ∧ G + 1 ≤ wr.heap.size
section
variable {w2 wr w' : World} {G : Nat} {t e : TypeId} {cs : Array Value} {size n n0 : Nat} {v v' : Value} {xs xs0 : List Value}
theorem BoxAt.cell (h : BoxAt w2 G t cs wr) (i : Nat) : wr.cell? ⟨G, i, none⟩ = cs[i]? := h.2.1.cell i
theorem BoxAt.free (h : BoxAt w2 G t cs wr) (i : Nat) : wr.frozen? ⟨G, i, none⟩ = false := h.2.1.free i
theorem BoxAt.alloc (h : BoxAt w2 G t cs wr) (o : Obj) : BoxAt w2 G t cs (wr.alloc o) := ⟨h.1.alloc (by have := h.2.2; omega) _, h.2.1.alloc _, by have := h.2.2; simp; omega⟩
theorem BoxAt.drew (h : BoxAt w2 G t cs wr) : BoxAt w2 G t cs wr.drew := ⟨h.1.drew, h.2.1, h.2.2⟩
theorem BoxAt.made (w : World) (t : TypeId) (cs : Array Value) : BoxAt w w.heap.size t cs (w.alloc (.cells cs t)) := ⟨(Below.refl _ _).alloc (Nat.le_refl _) _, Whole.made _ _ _, by simp⟩
theorem BoxAt.put (h : BoxAt w2 G t cs wr) (i : Nat) (u : Value) : BoxAt w2 G t (cs.setIfInBounds i u) (wr.setCell ⟨G, i, none⟩ u) :=
  ⟨h.1.setCell (Nat.le_refl _) _, h.2.1.put i u, by have := h.2.2; simp [World.setCell]; omega⟩
theorem BoxAt.below (h : BoxAt w2 G t cs wr) {B : Nat} (hb : Below B wr w') (hB : G < B) : BoxAt w2 G t cs w' := ⟨h.1.trans (hb.mono (by omega)), h.2.1.below hb hB, Nat.le_trans h.2.2 hb.size⟩
end
attribute [local go_sem ↓] Go.wp_at_zero Go.wp_at_succ
theorem elemTy {t e : TypeId} {i : Option TypeInfo} {z : Value} {size bytes : Nat} (hu : Tryd.prog.underlying t = some (.slice e)) (hi : (Tryd.prog.info? e).map (fun i => (i.zero, i.size, i.bytes)) = some (some z, size, bytes)) (hz : z.cells.size = size) (hp : 0 < size) : ElemTy t e size bytes := by
  obtain ⟨i0, h1, h2, h3, h4⟩ := info_parts hi
  exact ⟨hu, ⟨i0, z, h1, h2, h3, h4, hz⟩, hp⟩
/-- All as it was below B, but block H. -/
structure But (H B : Nat) (w w' : World) : Prop where
  os : w'.os = w.os
  tape : w'.tape = w.tape
  output : w'.output = w.output
  size : w.heap.size ≤ w'.heap.size
  block : ∀ g, g < B → g ≠ H → w'.heap[g]? = w.heap[g]?
section
variable {H B : Nat} {w w' w'' : World}
theorem But.refl (H B : Nat) (w : World) : But H B w w := ⟨rfl, rfl, rfl, Nat.le_refl _, fun _ _ _ => rfl⟩
theorem But.trans (h : But H B w w') (k : But H B w' w'') : But H B w w'' :=
  ⟨k.os.trans h.os, k.tape.trans h.tape, k.output.trans h.output, Nat.le_trans h.size k.size, fun i hi hh => (k.block i hi hh).trans (h.block i hi hh)⟩
theorem But.of_below (h : Below B w w') : But H B w w' := ⟨h.os, h.tape, h.output, h.size, fun g hg _ => h.block g hg⟩
theorem But.mono (h : But H B w w') {b : Nat} (hb : b ≤ B) : But H b w w' := ⟨h.os, h.tape, h.output, h.size, fun g hg => h.block g (by omega)⟩
theorem But.below (h : But H B w w') {b : Nat} (hb : b ≤ B) (hH : b ≤ H) : Below b w w' := ⟨h.os, h.tape, h.output, h.size, fun g hg => h.block g (by omega) (by omega)⟩
theorem But.alloc (h : But H B w w') (hB : B ≤ w'.heap.size) (o : Obj) : But H B w (w'.alloc o) := h.trans (.of_below ((Below.refl _ _).alloc hB o))
theorem But.drew (h : But H B w w') : But H B w w'.drew := h.trans (.of_below (Below.refl _ _).drew)
theorem But.set (h : But H B w w') (o : Nat) (u : Value) : But H B w (w'.setCell ⟨H, o, none⟩ u) :=
  h.trans ⟨rfl, rfl, rfl, by simp [World.setCell], fun g hg hh => Below.heap_setCell _ _ _ _ (by simpa using hh)⟩
theorem But.setCell (h : But H B w w') {p : Addr} (hp : B ≤ p.block) (u : Value) : But H B w (w'.setCell p u) :=
  h.trans (.of_below ((Below.refl _ _).setCell hp u))
theorem But.whole (h : But H B w w') {g : Nat} {t : TypeId} {cs : Array Value} (hw : Whole w g t cs) (hg : g < B) (hn : g ≠ H) : Whole w' g t cs := (h.block g hg hn).trans hw
theorem whole_ne {g k : Nat} {t e : TypeId} {cs ds : Array Value} (h : Whole w g t cs) (hk : Whole w k e ds) (ht : t ≠ e) : g ≠ k := fun hh => by
  subst hh; unfold Whole at h hk; rw [h] at hk
  simp only [Option.some.injEq, Obj.cells.injEq] at hk
  exact ht hk.2.1
theorem own_made {w : World} {base e size n : Nat} {cs : List Value} (hl : cs.length = n * size) (hb : base ≤ w.heap.size) (hn : n ≤ maxLen) : (w.alloc (.cells cs.toArray e)).ownsRow base e size (.slice (some ⟨w.heap.size, 0, none⟩) n n) n cs :=
  ⟨hl, .inr ⟨w.heap.size, n, cs.toArray, rfl, hb, Whole.made w e cs.toArray, Nat.le_refl _, hn, by simp [hl], by simp [← hl]⟩⟩
theorem own_more_alloc {w : World} {base e size n : Nat} {v : Value} {xs : List Value} (h : w.ownsRow base e size v n xs) (o : Obj) : (w.alloc o).ownsRow base e size v n xs := own_below h ((Below.refl _ _).alloc (Nat.le_refl _) o) (Nat.le_refl _)
theorem row_get {ys : List Value} {a b c : Value} {j : Nat} (h : ys.length = j * 3) : (ys ++ [a, b, c])[j * 3]? = some a ∧ (ys ++ [a, b, c])[j * 3 + 1]? = some b ∧ (ys ++ [a, b, c])[j * 3 + 2]? = some c := by
  rw [← h]; simp
end
end Go.Proofs.YtmjjjnmfkdidgaaDoor
