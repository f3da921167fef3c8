import Derived.Test.YtgjchgmlogbmmaaN1
import Derived.WalkKit
import Derived.Deep.Draws
import Derived.Laws.Rows
import Derived.WalkSpells
import Derived.WalkLawsBesides
import Derived.Lib.Hide
import Derived.Deep.DeepMust
import Derived.Deep.QuietTactic
import Derived.BigQuiet
import Derived.Deep.AppendLies
import Derived.Deep.RegionHeld3
import Derived.Deep.RegionLaw
import Derived.Deep.DrawnRows
import Derived.StillTailTactics
import Derived.Outline
import Derived.OwnWalk
import Derived.Lib.IndexMore
import Derived.Deep.LoopGhost
import Derived.Deep.CutBlock
import Derived.Deep.DeepCutAuto
import Derived.Test.YtgjchgmlogbmmaaProg
/- Turned from another seat: rtokens_any toks_row TokRow.below TokRow.at_ Toks.places Toks.len Toks.at_le of_tokensF tokensF_of tokensF_bad Toks.ne shortQ u8_eq u8_ne own_form own_cell own_below own_more own_more_alloc own_of_block own_setCell own_drew own_made own_whole_ne own_ne_type list_app step_app elemTy But.trans But.refl But.of_below But.mono But.below But.alloc But.drew But.set But.setCell But.whole whole_ne Whole.below Whole.far Whole.put Whole.free Whole.cell Whole.lt Whole.made Whole.alloc Appended.stays Appended.far Appended.own Appended.grows Appended.below Appended.other cell_far below_drewN ba_list ba_ext ba_eq get_list size_list. -/
namespace Go.Proofs.Ytgjchgmlogbmmaa
open Go.RowKit
open Go.Proofs.Ytgjchgmlogbmmaa.S (unqF)
set_option linter.unusedVariables false

/-- Block g holds just these cells, none of them frozen. -/
def Whole (w : World) (g : Nat) (t : TypeId) (cs : Array Value) : Prop := w.heap[g]? = some (.cells cs t (0, 0))
theorem Whole.lt {w : World} {g : Nat} {t : TypeId} {cs : Array Value} (h : Whole w g t cs) : g < w.heap.size := by
  unfold Whole at h
  rcases Nat.lt_or_ge g w.heap.size with hl | hl
  · exact hl
  · rw [Array.getElem?_eq_none hl] at h; cases h
theorem Whole.cell {w : World} {g : Nat} {t : TypeId} {cs : Array Value} (h : Whole w g t cs) (i : Nat) : w.cell? ⟨g, i, none⟩ = cs[i]? :=
  cell_of_row w g i cs t (0, 0) h
theorem Whole.free {w : World} {g : Nat} {t : TypeId} {cs : Array Value} (h : Whole w g t cs) (i : Nat) : w.frozen? ⟨g, i, none⟩ = false := by
  unfold Whole at h; simp [World.frozen?, h]
theorem Whole.made (w : World) (t : TypeId) (cs : Array Value) : Whole (w.alloc (.cells cs t)) w.heap.size t cs := heap_alloc_new w _
theorem Whole.put {w : World} {g : Nat} {t : TypeId} {cs : Array Value} (h : Whole w g t cs) (i : Nat) (u : Value) : Whole (w.setCell ⟨g, i, none⟩ u) g t (cs.setIfInBounds i u) := by
  unfold Whole at h ⊢; simp [World.setCell, Array.getElem?_modify, h]
theorem Whole.alloc {w : World} {g : Nat} {t : TypeId} {cs : Array Value} (h : Whole w g t cs) (o : Obj) : Whole (w.alloc o) g t cs := (Below.heap_alloc w o g h.lt).trans h
theorem Whole.far {w : World} {g : Nat} {t : TypeId} {cs : Array Value} (h : Whole w g t cs) {p : Addr} (hp : g ≠ p.block) (u : Value) : Whole (w.setCell p u) g t cs := (Below.heap_setCell w p u g hp).trans h
theorem Whole.below {B : Nat} {w w' : World} {g : Nat} {t : TypeId} {cs : Array Value} (h : Whole w g t cs) (hb : Below B w w') (hg : g < B) : Whole w' g t cs := (hb.block g hg).trans h
theorem below_drewN {B : Nat} {a w : World} (h : Below B a w) (n : Nat) : Below B a (w.drewN n) := ⟨h.os, h.tape, h.output, h.size, h.block⟩
/-- A slice type, its elements' type, how many cells and bytes one has. -/
structure ElemTy (t e : TypeId) (size bytes : Nat) : Prop where
  under : Try.prog.underlying t = some (.slice e)
  info : ∃ i z, Try.prog.info? e = some i ∧ i.zero = some z ∧ i.size = size ∧ i.bytes = bytes ∧ z.cells.size = size
  pos : 0 < size
theorem Whole.news {w : World} {g : Nat} {t : TypeId} {news : List Value} (h : Whole w g t news.toArray) : ∀ j u, news[j]? = some u → w.cell? ((⟨g, 0, none⟩ : Addr).add j) = some u := fun j u hj => by
  have e : (⟨g, 0, none⟩ : Addr).add j = ⟨g, j, none⟩ := by unfold Addr.add; split <;> simp_all
  rw [e, h.cell j]; simpa using hj
/-- What an append leaves: the value owns the row, which is the old one, or new. -/
def Appended (w : World) (base : Nat) (e : TypeId) (size : Nat) (v : Value) (n : Nat) (xs : List Value) (v' : Value) (w' : World) : Prop :=
  w'.ownsRow base e size v' n xs ∧ w.grownBy w' v.ownBlock ∧ (∀ k, v'.ownBlock = some k → v.ownBlock = some k ∨ k = w.heap.size)
theorem list_app {t e : TypeId} {size bytes : Nat} (T : ElemTy t e size bytes) {ops : Array Oper} {rest : List Oper} {o : Oper} {a : Act} {Q : Exit → Act → World → Prop} {w : World} {base : Nat} {v : Value} {n : Nat} {xs : List Value} (hgd : o.guard = none) (s x : Operand)
    (ho : o.op = .call { callee := .builtin .append, args := #[s, x], argTypes := #[t, t] }) (hs : a.eval s = v) (hown : w.ownsRow base e size v n xs) (g m : Nat) (news : List Value) (hx : a.eval x = .slice (some ⟨g, 0, none⟩) m m)
    (hnew : Whole w g e news.toArray) (hl : news.length = m * size) (h1 : ∀ u ∈ news, u.oneCell' = true) (hm : 0 < m) (hn : n + m ≤ 1000000000) (hb : bytes ≤ 1000) (hbase : base ≤ w.heap.size)
    (h : ∀ g' cap w', Appended w base e size v (n + m) (xs ++ news) (.slice (some ⟨g', 0, none⟩) (n + m) cap) w' → wpList Try.prog ops Q rest (a.put o.dst (.slice (some ⟨g', 0, none⟩) (n + m) cap)) w') : wpList Try.prog ops Q (o :: rest) a w := by
  obtain ⟨i, z, hi, hz, hsz, hby, hzs⟩ := T.info
  refine wpList_append_lies w hgd s x t ho base e i z size bytes T.under hi hz hsz hby hzs T.pos v n xs hs hown ⟨g, 0, none⟩ m m news hx hl hnew.news h1 hm (by unfold maxLen; omega) ?_ hbase _ rfl ?_
  · have := Nat.mul_le_mul hn hb; omega
  · intro g' cap w' ho' hg' hat _
    exact h _ _ w' ⟨ho', hg', fun k hk => by
      have : g' = k := by simpa [Value.ownBlock] using hk
      subst this; exact hat⟩
theorem step_app {t e : TypeId} {size bytes : Nat} (T : ElemTy t e size bytes) {ops : Array Oper} {o : Oper} {a : Act} {K : Act → World → Prop} {Q : Exit → Act → World → Prop} {E : Prop} {w : World} {base : Nat} {v : Value} {n : Nat} {xs : List Value} (hgd : o.guard = none) (s x : Operand)
    (ho : o.op = .call { callee := .builtin .append, args := #[s, x], argTypes := #[t, t] }) (hs : a.eval s = v) (hown : w.ownsRow base e size v n xs) (g m : Nat) (news : List Value) (hx : a.eval x = .slice (some ⟨g, 0, none⟩) m m)
    (hnew : Whole w g e news.toArray) (hl : news.length = m * size) (h1 : ∀ u ∈ news, u.oneCell' = true) (hm : 0 < m) (hn : n + m ≤ 1000000000) (hb : bytes ≤ 1000) (hbase : base ≤ w.heap.size)
    (h : ∀ g' cap w', Appended w base e size v (n + m) (xs ++ news) (.slice (some ⟨g', 0, none⟩) (n + m) cap) w' → K (a.put o.dst (.slice (some ⟨g', 0, none⟩) (n + m) cap)) w') :
    if Region.wanted o (yielded ops a.tmps) = true then Oper.wp Try.prog o a w K Q else E := by
  obtain ⟨i, z, hi, hz, hsz, hby, hzs⟩ := T.info
  refine step_append_lies w hgd s x t ho base e i z size bytes T.under hi hz hsz hby hzs T.pos v n xs hs hown ⟨g, 0, none⟩ m m news hx hl hnew.news h1 hm (by unfold maxLen; omega) ?_ hbase _ rfl ?_
  · have := Nat.mul_le_mul hn hb; omega
  · intro g' cap w' ho' hg' hat _
    exact h _ _ w' ⟨ho', hg', fun k hk => by
      have : g' = k := by simpa [Value.ownBlock] using hk
      subst this; exact hat⟩
section
variable {w w' : World} {base n size : Nat} {e : TypeId} {v v' : Value} {xs : List Value}
theorem heap_lt {g : Nat} {o : Obj} (h : w.heap[g]? = some o) : g < w.heap.size := by
  rcases Nat.lt_or_ge g w.heap.size with h2 | h2
  · exact h2
  · rw [Array.getElem?_eq_none h2] at h; cases h
/-- A block that is not of the row's elements is as it was. -/
theorem Appended.stays (h : Appended w base e size v n xs v' w') {n0 : Nat} {xs0 : List Value} (ho : w.ownsRow base e size v n0 xs0) {g : Nat} {t : TypeId} {cs : Array Value} (hw : Whole w g t cs) (ht : t ≠ e) : Whole w' g t cs := by
  refine (h.2.1.block g hw.lt ?_).trans hw
  intro hh
  rcases ho.2 with ⟨rfl, _⟩ | ⟨g2, cap, cur, rfl, _, hh2, _⟩
  · cases hh
  · have : g = g2 := by simpa [Value.ownBlock] using hh
    subst this
    unfold Whole at hw; rw [hw] at hh2
    simp only [Option.some.injEq, Obj.cells.injEq] at hh2
    exact ht hh2.2.1
/-- A block that is no row of this value is as it was. -/
theorem Appended.far (h : Appended w base e size v n xs v' w') {g : Nat} {t : TypeId} {cs : Array Value} (hw : Whole w g t cs) (hne : v.ownBlock ≠ some g) : Whole w' g t cs :=
  (h.2.1.block g hw.lt (Ne.symm hne)).trans hw
theorem Appended.own (h : Appended w base e size v n xs v' w') : w'.ownsRow base e size v' n xs := h.1
theorem Appended.grows (h : Appended w base e size v n xs v' w') : w.heap.size ≤ w'.heap.size := h.2.1.size
theorem Appended.below (h : Appended w base e size v n xs v' w') {n0 : Nat} {xs0 : List Value} (ho : w.ownsRow base e size v n0 xs0) {B : Nat} {a : World} (hB : Below B a w) (hb : B ≤ base) (hs : base ≤ w.heap.size) : Below B a w' :=
  hB.grown h.2.1 (by omega) (fun k hk => by have := (ho.lt k hk).1; omega)
/-- A row owned by another value is as it was. -/
theorem Appended.other (h : Appended w base e size v n xs v' w') {b2 n2 s2 : Nat} {e2 : TypeId} {u : Value} {ys : List Value} (hu : w.ownsRow b2 e2 s2 u n2 ys) (hne : ∀ g, u.ownBlock = some g → v.ownBlock ≠ some g) : w'.ownsRow b2 e2 s2 u n2 ys := by
  refine hu.kept h.2.1 ?_
  rcases hq : u.ownBlock with _ | g
  · exact .inl rfl
  · exact .inr (fun hh => hne g hq hh.symm)
theorem own_ne_type {b2 n2 s2 : Nat} {e2 : TypeId} {u : Value} {ys : List Value} (ho : w.ownsRow base e size v n xs) (hu : w.ownsRow b2 e2 s2 u n2 ys) (ht : e2 ≠ e) : ∀ g, u.ownBlock = some g → v.ownBlock ≠ some g := fun g hg hv => by
  rcases ho.2 with ⟨rfl, _⟩ | ⟨g1, c1, cur1, rfl, _, h1, _⟩
  · cases hv
  rcases hu.2 with ⟨rfl, _⟩ | ⟨g2, c2, cur2, rfl, _, h2, _⟩
  · cases hg
  have e1 : g1 = g := by simpa [Value.ownBlock] using hv
  have e2 : g2 = g := by simpa [Value.ownBlock] using hg
  subst e1; subst e2
  rw [h1] at h2
  simp only [Option.some.injEq, Obj.cells.injEq] at h2
  exact ht h2.2.1.symm
theorem own_whole_ne {g : Nat} {t : TypeId} {cs : Array Value} (ho : w.ownsRow base e size v n xs) (hw : Whole w g t cs) (ht : t ≠ e) : v.ownBlock ≠ some g := fun hv => by
  rcases ho.2 with ⟨rfl, _⟩ | ⟨g1, c1, cur1, rfl, _, h1, _⟩
  · cases hv
  have e1 : g1 = g := by simpa [Value.ownBlock] using hv
  subst e1
  unfold Whole at hw; rw [hw] at h1
  simp only [Option.some.injEq, Obj.cells.injEq] at h1
  exact ht h1.2.1
/-- A row is as it was where its block is. -/
theorem own_of_block (ho : w.ownsRow base e size v n xs) (h : ∀ g, v.ownBlock = some g → w'.heap[g]? = w.heap[g]?) : w'.ownsRow base e size v n xs := by
  refine ⟨ho.1, ?_⟩
  rcases ho.2 with h1 | ⟨g, c, cur, rfl, hb, hh, hr⟩
  · exact .inl h1
  · exact .inr ⟨g, c, cur, rfl, hb, (h g rfl).trans hh, hr⟩
theorem own_setCell (ho : w.ownsRow base e size v n xs) {p : Addr} (hp : v.ownBlock ≠ some p.block) (u : Value) : (w.setCell p u).ownsRow base e size v n xs :=
  own_of_block ho fun g hg => Below.heap_setCell w p u g (fun hh => hp (hh ▸ hg))
theorem own_below (ho : w.ownsRow base e size v n xs) {B : Nat} (hb : Below B w w') (hB : w.heap.size ≤ B) : w'.ownsRow base e size v n xs :=
  own_of_block ho fun g hg => hb.block g (Nat.lt_of_lt_of_le (ho.lt g hg).2 hB)
theorem own_drew (ho : w.ownsRow base e size v n xs) : w.drew.ownsRow base e size v n xs := ho
theorem own_more {b2 : Nat} (ho : w.ownsRow base e size v n xs) (h : b2 ≤ base) : w.ownsRow b2 e size v n xs := by
  refine ⟨ho.1, ?_⟩
  rcases ho.2 with h1 | ⟨g, c, cur, rfl, hb, hr⟩
  · exact .inl h1
  · exact .inr ⟨g, c, cur, rfl, by omega, hr⟩
/-- The cells of a row that is owned. -/
theorem own_cell (ho : w.ownsRow base e size v n xs) {k : Nat} (hk : k < n * size) : ∃ g c, v = .slice (some ⟨g, 0, none⟩) n c ∧ base ≤ g ∧ g < w.heap.size ∧ w.cell? ⟨g, k, none⟩ = xs[k]? ∧ w.frozen? ⟨g, k, none⟩ = false := by
  rcases ho.2 with ⟨rfl, rfl⟩ | ⟨g, c, cur, rfl, hb, hh, hn, hc, hs, ht⟩
  · omega
  · refine ⟨g, c, rfl, hb, heap_lt hh, ?_, by simp [World.frozen?, hh]⟩
    rw [cell_of_row w g k cur e (0, 0) hh, ← ht, List.getElem?_take, if_pos hk, Array.getElem?_toList]
theorem own_form (ho : w.ownsRow base e size v n xs) : ∃ A c, v = .slice A n c ∧ (∀ a, A = some a → ∃ g, a = ⟨g, 0, none⟩ ∧ base ≤ g ∧ g < w.heap.size) ∧ c ≤ maxLen ∧ n ≤ c := by
  rcases ho.2 with ⟨rfl, rfl⟩ | ⟨g, c, cur, rfl, hb, hh, hn, hc, _⟩
  · exact ⟨none, 0, rfl, (fun a ha => by cases ha), by unfold maxLen; omega, by omega⟩
  · exact ⟨_, c, rfl, fun a ha => by cases ha; exact ⟨g, rfl, hb, heap_lt hh⟩, hc, hn⟩
end
theorem cell_far {w : World} {p q : Addr} {u v : Value} (h : w.cell? q = some v) (hne : q.block ≠ p.block) : (w.setCell p u).cell? q = some v := by
  rw [← h]; exact World.cell?_of_block (Below.heap_setCell w p u q.block hne)
theorem Below.whole {B : Nat} {w w' : World} (h : Below B w w') {g : Nat} {t : TypeId} {cs : Array Value} (hw : Whole w g t cs) (hg : g < B) : Whole w' g t cs := hw.below h hg
/-- A block of the call's own at G, whole; what lies below it is as it was. -/
def BoxAt (w2 : World) (G : Nat) (t : TypeId) (cs : Array Value) (wr : World) : Prop := Below G w2 wr ∧ Whole wr G t cs ∧ G + 1 ≤ wr.heap.size
section
variable {w2 wr w' : World} {G : Nat} {t e : TypeId} {cs : Array Value} {size n n0 : Nat} {v v' : Value} {xs xs0 : List Value}
theorem BoxAt.cell (h : BoxAt w2 G t cs wr) (i : Nat) : wr.cell? ⟨G, i, none⟩ = cs[i]? := h.2.1.cell i
theorem BoxAt.free (h : BoxAt w2 G t cs wr) (i : Nat) : wr.frozen? ⟨G, i, none⟩ = false := h.2.1.free i
theorem BoxAt.alloc (h : BoxAt w2 G t cs wr) (o : Obj) : BoxAt w2 G t cs (wr.alloc o) := ⟨h.1.alloc (by have := h.2.2; omega) _, h.2.1.alloc _, by have := h.2.2; simp; omega⟩
theorem BoxAt.drew (h : BoxAt w2 G t cs wr) : BoxAt w2 G t cs wr.drew := ⟨h.1.drew, h.2.1, h.2.2⟩
theorem BoxAt.made (w : World) (t : TypeId) (cs : Array Value) : BoxAt w w.heap.size t cs (w.alloc (.cells cs t)) := ⟨(Below.refl _ _).alloc (Nat.le_refl _) _, Whole.made _ _ _, by simp⟩
theorem BoxAt.put (h : BoxAt w2 G t cs wr) (i : Nat) (u : Value) : BoxAt w2 G t (cs.setIfInBounds i u) (wr.setCell ⟨G, i, none⟩ u) :=
  ⟨h.1.setCell (Nat.le_refl _) _, h.2.1.put i u, by have := h.2.2; simp [World.setCell]; omega⟩
theorem BoxAt.below (h : BoxAt w2 G t cs wr) {B : Nat} (hb : Below B wr w') (hB : G < B) : BoxAt w2 G t cs w' := ⟨h.1.trans (hb.mono (by omega)), h.2.1.below hb hB, Nat.le_trans h.2.2 hb.size⟩
end
attribute [local go_sem ↓] Go.wp_at_zero Go.wp_at_succ
theorem elemTy {t e : TypeId} {i : Option TypeInfo} {z : Value} {size bytes : Nat} (hu : Try.prog.underlying t = some (.slice e)) (hi : (Try.prog.info? e).map (fun i => (i.zero, i.size, i.bytes)) = some (some z, size, bytes)) (hz : z.cells.size = size) (hp : 0 < size) : ElemTy t e size bytes := by
  obtain ⟨i0, h1, h2, h3, h4⟩ := info_parts hi
  exact ⟨hu, ⟨i0, z, h1, h2, h3, h4, hz⟩, hp⟩
/-- All as it was below B, but block H. -/
structure But (H B : Nat) (w w' : World) : Prop where
  os : w'.os = w.os
  tape : w'.tape = w.tape
  output : w'.output = w.output
  size : w.heap.size ≤ w'.heap.size
  block : ∀ g, g < B → g ≠ H → w'.heap[g]? = w.heap[g]?
section
variable {H B : Nat} {w w' w'' : World}
theorem But.refl (H B : Nat) (w : World) : But H B w w := ⟨rfl, rfl, rfl, Nat.le_refl _, fun _ _ _ => rfl⟩
theorem But.trans (h : But H B w w') (k : But H B w' w'') : But H B w w'' :=
  ⟨k.os.trans h.os, k.tape.trans h.tape, k.output.trans h.output, Nat.le_trans h.size k.size, fun i hi hh => (k.block i hi hh).trans (h.block i hi hh)⟩
theorem But.of_below (h : Below B w w') : But H B w w' := ⟨h.os, h.tape, h.output, h.size, fun g hg _ => h.block g hg⟩
theorem But.mono (h : But H B w w') {b : Nat} (hb : b ≤ B) : But H b w w' := ⟨h.os, h.tape, h.output, h.size, fun g hg => h.block g (by omega)⟩
theorem But.below (h : But H B w w') {b : Nat} (hb : b ≤ B) (hH : b ≤ H) : Below b w w' := ⟨h.os, h.tape, h.output, h.size, fun g hg => h.block g (by omega) (by omega)⟩
theorem But.alloc (h : But H B w w') (hB : B ≤ w'.heap.size) (o : Obj) : But H B w (w'.alloc o) := h.trans (.of_below ((Below.refl _ _).alloc hB o))
theorem But.drew (h : But H B w w') : But H B w w'.drew := h.trans (.of_below (Below.refl _ _).drew)
theorem But.set (h : But H B w w') (o : Nat) (u : Value) : But H B w (w'.setCell ⟨H, o, none⟩ u) :=
  h.trans ⟨rfl, rfl, rfl, by simp [World.setCell], fun g hg hh => Below.heap_setCell _ _ _ _ (by simpa using hh)⟩
theorem But.setCell (h : But H B w w') {p : Addr} (hp : B ≤ p.block) (u : Value) : But H B w (w'.setCell p u) :=
  h.trans (.of_below ((Below.refl _ _).setCell hp u))
theorem But.whole (h : But H B w w') {g : Nat} {t : TypeId} {cs : Array Value} (hw : Whole w g t cs) (hg : g < B) (hn : g ≠ H) : Whole w' g t cs := (h.block g hg hn).trans hw
theorem whole_ne {g k : Nat} {t e : TypeId} {cs ds : Array Value} (h : Whole w g t cs) (hk : Whole w k e ds) (ht : t ≠ e) : g ≠ k := fun hh => by
  subst hh; unfold Whole at h hk; rw [h] at hk
  simp only [Option.some.injEq, Obj.cells.injEq] at hk
  exact ht hk.2.1
theorem own_made {w : World} {base e size n : Nat} {cs : List Value} (hl : cs.length = n * size) (hb : base ≤ w.heap.size) (hn : n ≤ maxLen) : (w.alloc (.cells cs.toArray e)).ownsRow base e size (.slice (some ⟨w.heap.size, 0, none⟩) n n) n cs :=
  ⟨hl, .inr ⟨w.heap.size, n, cs.toArray, rfl, hb, Whole.made w e cs.toArray, Nat.le_refl _, hn, by simp [hl], by simp [← hl]⟩⟩
theorem own_more_alloc {w : World} {base e size n : Nat} {v : Value} {xs : List Value} (h : w.ownsRow base e size v n xs) (o : Obj) : (w.alloc o).ownsRow base e size v n xs := own_below h ((Below.refl _ _).alloc (Nat.le_refl _) o) (Nat.le_refl _)
def digB (c : UInt8) : Bool := decide (48 ≤ c.toNat) && decide (c.toNat ≤ 57)
def smaB (c : UInt8) : Bool := decide (97 ≤ c.toNat) && decide (c.toNat ≤ 122)
def larB (c : UInt8) : Bool := decide (65 ≤ c.toNat) && decide (c.toNat ≤ 90)
def innB (c : UInt8) : Bool := smaB c || larB c || digB c || c == 95
/-- `=<+-*/%^;|(),_` -/
def signL : List UInt8 := [61, 60, 43, 45, 42, 47, 37, 94, 59, 124, 40, 41, 44, 95]
/-- The number of digits. -/
def valT (l : List UInt8) : Nat := l.foldl (fun v c => 10 * v + (c.toNat - 48)) 0
def keyL : List (List UInt8) := [[108, 101, 116], [114, 101, 99], [105, 110], [102, 117, 110], [105, 102], [116, 104, 101, 110], [101, 108, 115, 101], [109, 97, 116, 99, 104], [119, 105, 116, 104], [101, 110, 100], [116, 114, 121], [112, 114, 105, 110, 116], [114, 97, 105, 115, 101], [115, 112, 97, 119, 110], [97, 116, 111, 109, 105, 99, 97, 108, 108, 121], [114, 101, 116, 114, 121], [111, 114, 101, 108, 115, 101], [116, 118, 97, 114], [114, 101, 97, 100], [119, 114, 105, 116, 101], [116, 121, 112, 101], [111, 102], [100, 111]]
def keyB (l : List UInt8) : Bool := keyL.contains l
/-- A token: kind, text, number, place. -/
structure Tok where
  kind : Int
  text : List UInt8
  num : Int
  at_ : Nat
deriving DecidableEq
/-- What a token comes to: kind, text, number, how many bytes; an error (0: none). -/
structure TokR where
  kind : Int
  text : List UInt8
  num : Int
  n : Nat
  e : Int
def tokF (l : List UInt8) : TokR := match l with
  | [] => ⟨0, [], 0, 0, 0⟩
  | c :: r =>
    if digB c = true then
      (if 4611686018427387903 < valT (l.takeWhile digB) then ⟨0, [], 0, 0, 13⟩ else ⟨1, [], valT (l.takeWhile digB), (l.takeWhile digB).length, 0⟩)
    else if c = 34 then ⟨2, (unqF l).1, 0, (unqF l).2.1, (unqF l).2.2⟩
    else if (smaB c || larB c) = true then
      (if 16 < (l.takeWhile innB).length then ⟨0, [], 0, 0, 12⟩
       else ⟨if larB c = true then 4 else if keyB (l.takeWhile innB) = true then 6 else 3, l.takeWhile innB, 0, (l.takeWhile innB).length, 0⟩)
    else if c = 45 ∧ r.head? = some 62 then ⟨5, [45, 62], 0, 2, 0⟩
    else if signL.contains c = true then ⟨5, [c], 0, 1, 0⟩
    else ⟨0, [], 0, 0, 10⟩
/-- What stands between tokens: how many bytes. -/
def gapF : Nat → List UInt8 → Nat
  | 0, _ => 0
  | f + 1, l => match l with
    | [] => 0
    | c :: r => if c = 32 ∨ c = 9 ∨ c = 10 then 1 + gapF f r else if c = 35 then (l.takeWhile (· ≠ 10)).length + gapF f (l.drop (l.takeWhile (· ≠ 10)).length) else 0
attribute [local go_sem ↓] Go.wp_at_zero Go.wp_at_succ
theorem rt_b {a b : Bool} (h : a = b) : Ending.returned (.bool a) = .returned (.bool b) := by rw [h]
theorem rdigit_any (c : UInt8) (w : World) : Calls Try.prog 61 #[.int .u8 (c.toNat : Int)] w fun e w' => e = .returned (.bool (digB c)) ∧ w = w' := by
  have HF : Hid (digB c = (decide (48 ≤ c.toNat) && decide (c.toNat ≤ 57))) := rfl
  have hc := c.toNat_lt
  generalize c.toNat = n at *
  by_cases h1 : 48 ≤ n
  · have d1 : decide (48 ≤ (n : Int)) = true := decide_eq_true (by omega)
    by_cases h2 : n ≤ 57
    · have d2 : decide ((n : Int) ≤ 57) = true := decide_eq_true (by omega)
      have HG : Hid (digB c = true) := by show _ = _; rw [HF.out, decide_eq_true h1, decide_eq_true h2]; rfl
      rw [HG.out]
      go_enter Try.func61, Try.ntmps61
      go_wp2
      go_ret
      exact ⟨rt_b (by simp [*]), rfl⟩
    · have d2 : decide ((n : Int) ≤ 57) = false := decide_eq_false (by omega)
      have HG : Hid (digB c = false) := by show _ = _; rw [HF.out, decide_eq_true h1, decide_eq_false h2]; rfl
      rw [HG.out]
      go_enter Try.func61, Try.ntmps61
      go_wp2
      go_ret
      exact ⟨rt_b (by simp [*]), rfl⟩
  · have d1 : decide (48 ≤ (n : Int)) = false := decide_eq_false (by omega)
    have HG : Hid (digB c = false) := by show _ = _; rw [HF.out, decide_eq_false h1]; rfl
    rw [HG.out]
    go_enter Try.func61, Try.ntmps61
    go_wp2
    go_ret
    exact ⟨rt_b (by simp [*]), rfl⟩
theorem rsmall_any (c : UInt8) (w : World) : Calls Try.prog 63 #[.int .u8 (c.toNat : Int)] w fun e w' => e = .returned (.bool (smaB c)) ∧ w = w' := by
  have HF : Hid (smaB c = (decide (97 ≤ c.toNat) && decide (c.toNat ≤ 122))) := rfl
  have hc := c.toNat_lt
  generalize c.toNat = n at *
  by_cases h1 : 97 ≤ n
  · have d1 : decide (97 ≤ (n : Int)) = true := decide_eq_true (by omega)
    by_cases h2 : n ≤ 122
    · have d2 : decide ((n : Int) ≤ 122) = true := decide_eq_true (by omega)
      have HG : Hid (smaB c = true) := by show _ = _; rw [HF.out, decide_eq_true h1, decide_eq_true h2]; rfl
      rw [HG.out]
      go_enter Try.func63, Try.ntmps63
      go_wp2
      go_ret
      exact ⟨rt_b (by simp [*]), rfl⟩
    · have d2 : decide ((n : Int) ≤ 122) = false := decide_eq_false (by omega)
      have HG : Hid (smaB c = false) := by show _ = _; rw [HF.out, decide_eq_true h1, decide_eq_false h2]; rfl
      rw [HG.out]
      go_enter Try.func63, Try.ntmps63
      go_wp2
      go_ret
      exact ⟨rt_b (by simp [*]), rfl⟩
  · have d1 : decide (97 ≤ (n : Int)) = false := decide_eq_false (by omega)
    have HG : Hid (smaB c = false) := by show _ = _; rw [HF.out, decide_eq_false h1]; rfl
    rw [HG.out]
    go_enter Try.func63, Try.ntmps63
    go_wp2
    go_ret
    exact ⟨rt_b (by simp [*]), rfl⟩
theorem rlarge_any (c : UInt8) (w : World) : Calls Try.prog 64 #[.int .u8 (c.toNat : Int)] w fun e w' => e = .returned (.bool (larB c)) ∧ w = w' := by
  have HF : Hid (larB c = (decide (65 ≤ c.toNat) && decide (c.toNat ≤ 90))) := rfl
  have hc := c.toNat_lt
  generalize c.toNat = n at *
  by_cases h1 : 65 ≤ n
  · have d1 : decide (65 ≤ (n : Int)) = true := decide_eq_true (by omega)
    by_cases h2 : n ≤ 90
    · have d2 : decide ((n : Int) ≤ 90) = true := decide_eq_true (by omega)
      have HG : Hid (larB c = true) := by show _ = _; rw [HF.out, decide_eq_true h1, decide_eq_true h2]; rfl
      rw [HG.out]
      go_enter Try.func64, Try.ntmps64
      go_wp2
      go_ret
      exact ⟨rt_b (by simp [*]), rfl⟩
    · have d2 : decide ((n : Int) ≤ 90) = false := decide_eq_false (by omega)
      have HG : Hid (larB c = false) := by show _ = _; rw [HF.out, decide_eq_true h1, decide_eq_false h2]; rfl
      rw [HG.out]
      go_enter Try.func64, Try.ntmps64
      go_wp2
      go_ret
      exact ⟨rt_b (by simp [*]), rfl⟩
  · have d1 : decide (65 ≤ (n : Int)) = false := decide_eq_false (by omega)
    have HG : Hid (larB c = false) := by show _ = _; rw [HF.out, decide_eq_false h1]; rfl
    rw [HG.out]
    go_enter Try.func64, Try.ntmps64
    go_wp2
    go_ret
    exact ⟨rt_b (by simp [*]), rfl⟩
attribute [local go_sem ↓] Go.wp_at_zero Go.wp_at_succ
/-- How many bytes of a kind stand at i. -/
def runN (P : UInt8 → Bool) (s : ByteArray) (i : Nat) : Nat := ((s.data.toList.drop i).takeWhile P).length
theorem size_list (s : ByteArray) : s.data.toList.length = s.size := by simp
theorem get_list (s : ByteArray) (k : Nat) (h : k < s.size) : s.data.toList[k]? = some s[k] := by
  rw [Array.getElem?_toList, Array.getElem?_eq_getElem (by simpa using h)]; rfl
theorem tw_len {P : UInt8 → Bool} : ∀ {l : List UInt8} {n : Nat}, n ≤ l.length → (∀ j (c : UInt8), j < n → l[j]? = some c → P c = true) → (n = l.length ∨ ∃ c, l[n]? = some c ∧ P c = false) → (l.takeWhile P).length = n
  | [], n, h, _, _ => by simp at h; subst h; rfl
  | x :: l, 0, _, _, h => by
    rcases h with h | ⟨c, h1, h2⟩
    · simp at h
    · simp at h1; subst h1; rw [List.takeWhile_cons, h2]; rfl
  | x :: l, n + 1, h, hp, he => by
    have hx := hp 0 x (by omega) rfl
    rw [List.takeWhile_cons, hx]
    simp only [if_true, List.length_cons]
    rw [tw_len (n := n) (by simpa using h) (fun j c hj hc => hp (j + 1) c (by omega) (by simpa using hc)) (by simpa using he)]
theorem run_len {P : UInt8 → Bool} {s : ByteArray} {i k : Nat} (h1 : i ≤ k) (h2 : k ≤ s.size) (hp : ∀ j, i ≤ j → j < k → ∀ h : j < s.size, P s[j] = true) (he : ∀ h : k < s.size, P s[k] = false) : k = i + runN P s i := by
  have hl := size_list s
  have := tw_len (P := P) (l := s.data.toList.drop i) (n := k - i) (by rw [List.length_drop]; omega) (fun j c hj hc => by
      rw [List.getElem?_drop, get_list s (i + j) (by omega)] at hc
      cases hc; exact hp _ (by omega) (by omega) _) (by
      rcases Nat.lt_or_ge k s.size with h | h
      · right
        refine ⟨s[k], ?_, he h⟩
        rw [List.getElem?_drop, show i + (k - i) = k from by omega]; exact get_list s k h
      · left; rw [List.length_drop]; omega)
  unfold runN; omega
theorem runN_le (P : UInt8 → Bool) (s : ByteArray) (i : Nat) (h : i ≤ s.size) : i + runN P s i ≤ s.size := by
  have := (List.takeWhile_sublist P (l := s.data.toList.drop i)).length_le
  rw [List.length_drop, size_list] at this
  unfold runN; omega
attribute [local go_sem ↓] Go.wp_at_zero Go.wp_at_succ
theorem ba_eq {t : ByteArray} {l : List UInt8} (h : t.data.toList = l) : t = ⟨l.toArray⟩ := by
  cases t; simp at h; subst h; simp
theorem ba_ext {t u : ByteArray} (h : t.data.toList = u.data.toList) : t = u := (ba_eq h).trans (by cases u; simp)
attribute [local go_sem ↓] Go.wp_at_zero Go.wp_at_succ
/-- All as it was but blocks R and T. -/
structure Two (R T B : Nat) (w w' : World) : Prop where
  os : w'.os = w.os
  tape : w'.tape = w.tape
  output : w'.output = w.output
  size : w.heap.size ≤ w'.heap.size
  block : ∀ g, g < B → g ≠ R → g ≠ T → w'.heap[g]? = w.heap[g]?
theorem Two.of_but {R T B : Nat} {w w' : World} (h : But R B w w') : Two R T B w w' := ⟨h.os, h.tape, h.output, h.size, fun g h1 h2 _ => h.block g h1 h2⟩
theorem Two.trans {R T B : Nat} {w w' w'' : World} (h : Two R T B w w') (k : Two R T B w' w'') : Two R T B w w'' :=
  ⟨k.os.trans h.os, k.tape.trans h.tape, k.output.trans h.output, Nat.le_trans h.size k.size, fun g h1 h2 h3 => (k.block g h1 h2 h3).trans (h.block g h1 h2 h3)⟩
theorem Two.below {R T B C : Nat} {w w' : World} (h : Two R T B w w') (hR : C ≤ R) (hT : C ≤ T) (hB : C ≤ B) : Below C w w' := ⟨h.os, h.tape, h.output, h.size, fun g hg => h.block g (by omega) (by omega) (by omega)⟩
theorem mem_tw {P : UInt8 → Bool} {c : UInt8} : ∀ {l : List UInt8}, c ∈ l.takeWhile P → P c = true
  | [], h => by simp at h
  | x :: l, h => by
    rw [List.takeWhile_cons] at h
    split at h
    · rename_i hx
      rcases List.mem_cons.1 h with rfl | h
      · exact hx
      · exact mem_tw h
    · simp at h
attribute [local go_sem ↓] Go.wp_at_zero Go.wp_at_succ
theorem unq_le : ∀ (f : Nat) (rest acc : List UInt8) (k : Nat), (S.unq f rest acc k).2.1 ≤ k + rest.length ∧ ((S.unq f rest acc k).2.2 = 0 → k < (S.unq f rest acc k).2.1)
  | 0, _, _, _ => ⟨by simp [S.unq], by simp [S.unq]⟩
  | f + 1, [], _, _ => ⟨by simp [S.unq], by simp [S.unq]⟩
  | f + 1, c :: r, acc, k => by
    unfold S.unq
    dsimp only
    split
    · exact ⟨by simp, by simp⟩
    split
    · split
      · exact ⟨by simp, by simp⟩
      · exact ⟨by simp only [List.length_cons]; omega, fun _ => by simp⟩
    split
    · split
      · rename_i hz
        obtain ⟨n1, n2, _⟩ := S.escF_len _ hz
        have h := unq_le f (r.drop (S.escF r).2.1) (acc ++ [(S.escF r).1]) (k + 1 + (S.escF r).2.1)
        rw [List.length_drop] at h
        exact ⟨by have := h.1; simp only [List.length_cons]; omega, fun h0 => by have := h.2 h0; omega⟩
      · exact ⟨by simp, fun h => by rename_i hz; exact absurd h hz⟩
    split
    · have h := unq_le f r (acc ++ [c]) (k + 1)
      exact ⟨by have := h.1; simp only [List.length_cons]; omega, fun h0 => by have := h.2 h0; omega⟩
    · exact ⟨by simp, by simp⟩
theorem unqF_le (l : List UInt8) : (S.unqF l).2.1 ≤ l.length ∧ ((S.unqF l).2.2 = 0 → 1 < (S.unqF l).2.1) := by
  cases l with
  | nil => exact ⟨by simp [S.unqF], by simp [S.unqF]⟩
  | cons c r =>
    unfold S.unqF
    dsimp only
    split
    · have h := unq_le (r.length + 1) r [] 1
      exact ⟨by have := h.1; simp only [List.length_cons]; omega, h.2⟩
    · exact ⟨by simp, by simp⟩
attribute [local go_sem ↓] Go.wp_at_zero Go.wp_at_succ
/-- `->` ahead? -/
def arrB (l : List UInt8) : Bool := l.take 2 == [45, 62]
theorem Two.drew {R T B : Nat} {w w' : World} (h : Two R T B w w') : Two R T B w w'.drew := h.trans (.of_but (.of_below (Below.refl _ _).drew))
attribute [local go_sem ↓] Go.wp_at_zero Go.wp_at_succ
/-- A name's kind. -/
def nameK (c : UInt8) (l : List UInt8) : Int := if larB c = true then 4 else if keyB l = true then 6 else 3
attribute [local go_sem ↓] Go.wp_at_zero Go.wp_at_succ
/-- How many bytes stand between here and the next token. -/
def gapL (l : List UInt8) : Nat := gapF l.length l
/-- How many bytes to the line's end. -/
def remN (s : ByteArray) (k : Nat) : Nat := ((s.data.toList.drop k).takeWhile (· ≠ 10)).length
theorem remN_le (s : ByteArray) (k : Nat) (h : k ≤ s.size) : k + remN s k ≤ s.size := by
  have h1 := (List.takeWhile_sublist (· ≠ (10 : UInt8)) (l := s.data.toList.drop k)).length_le
  rw [List.length_drop, size_list] at h1
  unfold remN; omega
theorem remN_pos (s : ByteArray) (k : Nat) (h : k < s.size) (h3 : s[k] = 35) : 0 < remN s k := by
  have h1 := get_list s k h
  unfold remN
  cases hd : s.data.toList.drop k with
  | nil => have := congrArg List.length hd; rw [List.length_drop, size_list] at this; simp at this; omega
  | cons c l =>
    have h2 : c = 35 := by
      have := List.getElem?_drop (xs := s.data.toList) (i := k) (j := 0)
      rw [hd, Nat.add_zero, h1, h3] at this
      simpa using this
    subst h2
    rw [List.takeWhile_cons, if_pos (by decide)]; simp
theorem drop_cons (s : ByteArray) (k : Nat) (h : k < s.size) : s.data.toList.drop k = s[k] :: s.data.toList.drop (k + 1) := by
  have hl : k < s.data.toList.length := by rw [size_list]; exact h
  rw [List.drop_eq_getElem_cons hl]
  congr 1
theorem u8_eq (c d : UInt8) (h : c = d) : ((c.toNat : Int) == (d.toNat : Int)) = true := by rw [h]; exact beq_self_eq_true _
theorem u8_ne (c d : UInt8) (h : c ≠ d) : ((c.toNat : Int) == (d.toNat : Int)) = false := beq_eq_false_iff_ne.2 fun e => h (UInt8.toNat_inj.1 (by omega))
attribute [local go_sem ↓] Go.wp_at_zero Go.wp_at_succ
def tkV (kd : Int) (tx : ByteArray) (nm : Int) (a : Nat) : Value := .agg #[.int .i64 kd, .string tx, .int .i64 nm, .int .i64 (a : Int)]
theorem tok_num (c : UInt8) (r : List UInt8) (h : digB c = true) : tokF (c :: r) = if 4611686018427387903 < valT ((c :: r).takeWhile digB) then ⟨0, [], 0, 0, 13⟩ else ⟨1, [], valT ((c :: r).takeWhile digB), ((c :: r).takeWhile digB).length, 0⟩ := by
  unfold tokF; dsimp only; rw [if_pos h]
theorem tok_text (r : List UInt8) : tokF (34 :: r) = ⟨2, (S.unqF (34 :: r)).1, 0, (S.unqF (34 :: r)).2.1, (S.unqF (34 :: r)).2.2⟩ := by
  unfold tokF; dsimp only; rw [if_neg (by decide), if_pos rfl]
theorem tok_name (c : UInt8) (r : List UInt8) (h1 : digB c = false) (h2 : c ≠ 34) (h : (smaB c || larB c) = true) : tokF (c :: r) = if 16 < ((c :: r).takeWhile innB).length then ⟨0, [], 0, 0, 12⟩
       else ⟨nameK c ((c :: r).takeWhile innB), (c :: r).takeWhile innB, 0, ((c :: r).takeWhile innB).length, 0⟩ := by
  show (if _ then _ else if _ then _ else if _ then _ else _) = _; rw [if_neg (by rw [h1]; decide), if_neg h2, if_pos h]; rfl
theorem tok_sign (c : UInt8) (r : List UInt8) (h1 : digB c = false) (h2 : c ≠ 34) (h3 : (smaB c || larB c) = false) (h : signL.contains c = true) : tokF (c :: r) = if arrB (c :: r) = true then ⟨5, [45, 62], 0, 2, 0⟩ else ⟨5, [c], 0, 1, 0⟩ := by
  show (if _ then _ else if _ then _ else if _ then _ else if _ then _ else if _ then _ else _) = _
  rw [if_neg (by rw [h1]; decide), if_neg h2, if_neg (by rw [h3]; decide), if_pos h]
  have e : (c = 45 ∧ r.head? = some 62) ↔ arrB (c :: r) = true := by
    unfold arrB
    cases r with
    | nil => simp
    | cons d r => simp
  by_cases ha : arrB (c :: r) = true
  · rw [if_pos (e.2 ha), if_pos ha]
  · rw [if_neg (fun h => ha (e.1 h)), if_neg ha]
theorem tok_odd (c : UInt8) (r : List UInt8) (h1 : digB c = false) (h2 : c ≠ 34) (h3 : (smaB c || larB c) = false) (h : signL.contains c = false) : tokF (c :: r) = ⟨0, [], 0, 0, 10⟩ := by
  show (if _ then _ else if _ then _ else if _ then _ else if _ then _ else if _ then _ else _) = _
  rw [if_neg (by rw [h1]; decide), if_neg h2, if_neg (by rw [h3]; decide), if_neg, if_neg (by rw [h]; decide)]
  rintro ⟨rfl, _⟩
  exact absurd h (by decide)
theorem ba_list (t : ByteArray) : t = ⟨t.data.toList.toArray⟩ := ba_ext rfl
theorem gap_le : ∀ (f : Nat) (l : List UInt8), gapF f l ≤ l.length
  | 0, _ => Nat.zero_le _
  | f + 1, [] => Nat.le_refl _
  | f + 1, c :: r => by
    unfold gapF
    dsimp only
    split
    · have := gap_le f r; simp only [List.length_cons]; omega
    split
    · have h1 := gap_le f ((c :: r).drop ((c :: r).takeWhile (· ≠ 10)).length)
      have h2 := (List.takeWhile_sublist (· ≠ (10 : UInt8)) (l := c :: r)).length_le
      rw [List.length_drop] at h1
      omega
    · exact Nat.zero_le _
theorem Two.but {R T B b : Nat} {w w' : World} (h : Two R T B w w') (hT : b ≤ T) (hB : b ≤ B) : But R b w w' := ⟨h.os, h.tape, h.output, h.size, fun g h1 h2 => h.block g (by omega) h2 (by omega)⟩
theorem Two.whole {R T B : Nat} {w w' : World} (h : Two R T B w w') {g : Nat} {t : TypeId} {cs : Array Value} (hw : Whole w g t cs) (hg : g < B) (hn : g ≠ R) (hm : g ≠ T) : Whole w' g t cs := (h.block g hg hn hm).trans hw
/-- The tokens from place i on, behind acc: the tokens, the place, the error. -/
def toksA : Nat → List UInt8 → Nat → List Tok → List Tok × Nat × Int
  | 0, _, _, acc => (acc, 0, 0)
  | f + 1, l, i, acc =>
    if (tokF (l.drop (gapL l))).e ≠ 0 then ([], i + gapL l, (tokF (l.drop (gapL l))).e)
    else if (tokF (l.drop (gapL l))).kind = 0 then (acc ++ [⟨0, [], 0, i + gapL l⟩], 0, 0)
    else toksA f ((l.drop (gapL l)).drop (tokF (l.drop (gapL l))).n) (i + gapL l + (tokF (l.drop (gapL l))).n)
      (acc ++ [⟨(tokF (l.drop (gapL l))).kind, (tokF (l.drop (gapL l))).text, (tokF (l.drop (gapL l))).num, i + gapL l⟩])
def tokensF (l : List UInt8) : List Tok × Nat × Int := if 2000 < l.length then ([], 0, 12) else toksA (l.length + 1) l 0 []
theorem nameK_pos (c : UInt8) (l : List UInt8) : nameK c l = 4 ∨ nameK c l = 6 ∨ nameK c l = 3 := by
  unfold nameK; split
  · exact .inl rfl
  · split
    · exact .inr (.inl rfl)
    · exact .inr (.inr rfl)
theorem tw_le (P : UInt8 → Bool) (l : List UInt8) : (l.takeWhile P).length ≤ l.length := (List.takeWhile_sublist P).length_le
/-- What a token is: its kind, and how many bytes. -/
theorem tok_fit (l : List UInt8) : ((tokF l).e = 0 ∧ (tokF l).kind = 0 ↔ l = []) ∧ ((tokF l).e = 0 → (tokF l).kind ≠ 0 → 0 < (tokF l).n) ∧ ((tokF l).e = 0 → (tokF l).n ≤ l.length) := by
  cases l with
  | nil => exact ⟨⟨fun _ => rfl, fun _ => ⟨rfl, rfl⟩⟩, fun _ h => absurd rfl h, fun _ => Nat.le_refl _⟩
  | cons c r =>
    rcases h1 : digB c with _ | _
    · by_cases h2 : c = 34
      · subst h2
        rw [tok_text]
        have h := unqF_le (34 :: r)
        exact ⟨⟨fun h => absurd h.2 (show ¬ ((2 : Int) = 0) by decide), fun h => by cases h⟩, fun h0 _ => by have := h.2 h0; show 0 < (S.unqF (34 :: r)).2.1; omega, fun _ => h.1⟩
      · rcases h3 : (smaB c || larB c) with _ | _
        · rcases h4 : signL.contains c with _ | _
          · rw [tok_odd c r h1 h2 h3 h4]
            exact ⟨⟨fun h => absurd h.1 (by decide), fun h => by cases h⟩, fun h => absurd h (by decide), fun h => absurd h (by decide)⟩
          · rw [tok_sign c r h1 h2 h3 h4]
            split
            · rename_i ha
              refine ⟨⟨fun h => absurd h.2 (by decide), fun h => by cases h⟩, fun _ _ => (by decide : (0 : Nat) < 2), fun _ => ?_⟩
              unfold arrB at ha
              have := congrArg List.length (beq_iff_eq.1 ha)
              rw [List.length_take] at this
              show 2 ≤ _
              simp only [List.length_cons, List.length_nil] at this ⊢; omega
            · exact ⟨⟨fun h => absurd h.2 (show ¬ ((5 : Int) = 0) by decide), fun h => by cases h⟩, fun _ _ => (by decide : (0 : Nat) < 1), fun _ => by show 1 ≤ _; simp⟩
        · rw [tok_name c r h1 h2 h3]
          have hp : 0 < ((c :: r).takeWhile innB).length := by rw [List.takeWhile_cons, if_pos (by unfold innB; rw [h3]; rfl)]; simp
          split
          · exact ⟨⟨fun h => absurd h.1 (by decide), fun h => by cases h⟩, fun h => absurd h (by decide), fun h => absurd h (by decide)⟩
          · exact ⟨⟨fun h => by have := nameK_pos c ((c :: r).takeWhile innB); have h' : nameK c ((c :: r).takeWhile innB) = 0 := h.2; omega, fun h => by cases h⟩, fun _ _ => hp, fun _ => tw_le _ _⟩
    · rw [tok_num c r h1]
      have hp : 0 < ((c :: r).takeWhile digB).length := by rw [List.takeWhile_cons, if_pos h1]; simp
      split
      · exact ⟨⟨fun h => absurd h.1 (by decide), fun h => by cases h⟩, fun h => absurd h (by decide), fun h => absurd h (by decide)⟩
      · exact ⟨⟨fun h => absurd h.2 (show ¬ ((1 : Int) = 0) by decide), fun h => by cases h⟩, fun _ _ => hp, fun _ => tw_le _ _⟩
theorem gapL_le (l : List UInt8) : gapL l ≤ l.length := gap_le _ _
theorem toks_err (f : Nat) (l : List UInt8) (i : Nat) (acc : List Tok) (h : (tokF (l.drop (gapL l))).e ≠ 0) : toksA (f + 1) l i acc = ([], i + gapL l, (tokF (l.drop (gapL l))).e) := by
  show (if _ then _ else _) = _; rw [if_pos h]
theorem toks_end (f : Nat) (l : List UInt8) (i : Nat) (acc : List Tok) (h : (tokF (l.drop (gapL l))).e = 0) (h2 : (tokF (l.drop (gapL l))).kind = 0) : toksA (f + 1) l i acc = (acc ++ [⟨0, [], 0, i + gapL l⟩], 0, 0) := by
  show (if _ then _ else if _ then _ else _) = _; rw [if_neg (by rw [h]; decide), if_pos h2]
theorem toks_more (f : Nat) (l : List UInt8) (i : Nat) (acc : List Tok) (h : (tokF (l.drop (gapL l))).e = 0) (h2 : (tokF (l.drop (gapL l))).kind ≠ 0) : toksA (f + 1) l i acc =
    toksA f ((l.drop (gapL l)).drop (tokF (l.drop (gapL l))).n) (i + gapL l + (tokF (l.drop (gapL l))).n) (acc ++ [⟨(tokF (l.drop (gapL l))).kind, (tokF (l.drop (gapL l))).text, (tokF (l.drop (gapL l))).num, i + gapL l⟩]) := by
  show (if _ then _ else if _ then _ else _) = _; rw [if_neg (by rw [h]; decide), if_neg h2]
/-- A token's cells. -/
def tkC (t : Tok) : List Value := [.int .i64 t.kind, .string ⟨t.text.toArray⟩, .int .i64 t.num, .int .i64 (t.at_ : Int)]
def mkToks (ts : List Tok) : List Value := ts.flatMap tkC
theorem mkToks_snoc (ts : List Tok) (t : Tok) : mkToks (ts ++ [t]) = mkToks ts ++ tkC t := by
  unfold mkToks; rw [List.flatMap_append]; simp
theorem mkToks_get (ts : List Tok) (k : Nat) (t : Tok) (h : ts[k]? = some t) : (mkToks ts)[k * 4]? = some (.int .i64 t.kind) ∧ (mkToks ts)[k * 4 + 1]? = some (.string ⟨t.text.toArray⟩) ∧ (mkToks ts)[k * 4 + 2]? = some (.int .i64 t.num) ∧ (mkToks ts)[k * 4 + 3]? = some (.int .i64 (t.at_ : Int)) := by
  induction ts generalizing k with
  | nil => simp at h
  | cons u ts ih =>
    cases k with
    | zero =>
      simp only [List.getElem?_cons_zero, Option.some.injEq] at h
      subst h
      exact ⟨rfl, rfl, rfl, rfl⟩
    | succ k =>
      have := ih k (by simpa using h)
      have e : mkToks (u :: ts) = tkC u ++ mkToks ts := by unfold mkToks; rw [List.flatMap_cons]
      rw [e]
      have hl : (tkC u).length = 4 := rfl
      refine ⟨?_, ?_, ?_, ?_⟩
      all_goals rw [List.getElem?_append_right (by rw [hl]; omega), hl]
      · rw [show (k + 1) * 4 - 4 = k * 4 by omega]; exact this.1
      · rw [show (k + 1) * 4 + 1 - 4 = k * 4 + 1 by omega]; exact this.2.1
      · rw [show (k + 1) * 4 + 2 - 4 = k * 4 + 2 by omega]; exact this.2.2.1
      · rw [show (k + 1) * 4 + 3 - 4 = k * 4 + 3 by omega]; exact this.2.2.2
attribute [local go_sem ↓] Go.wp_at_zero Go.wp_at_succ
theorem ty_tok : ElemTy 56 67 4 40 := elemTy (i := none) (z := .agg #[.int .i64 0, .string ⟨#[]⟩, .int .i64 0, .int .i64 0]) Try.underlying56 (by kernel_rfl) rfl (by decide)
/-- Each quote has no more than 1000 bytes behind it. -/
def ShortQ (l : List UInt8) : Prop := ∀ j, (l.drop j).head? = some 34 → l.length - j ≤ 1000
/-- What a list of tokens is. -/
def ToksAt (w : World) (base : Nat) (v : Value) (ts : List Tok) : Prop := w.ownsRow base 67 4 v ts.length (mkToks ts)
/-- The tokens of a source from place i on. -/
inductive Toks : List UInt8 → Nat → List Tok → Prop
  | fin (l : List UInt8) (i : Nat) (h : l.drop (gapL l) = []) : Toks l i [⟨0, [], 0, i + gapL l⟩]
  | one (l : List UInt8) (i : Nat) (ts : List Tok) (kd : Int) (tx : List UInt8) (nm : Int) (n : Nat) (hr : tokF (l.drop (gapL l)) = ⟨kd, tx, nm, n, 0⟩) (hk : kd ≠ 0) (ht : Toks (l.drop (gapL l + n)) (i + gapL l + n) ts) :
      Toks l i (⟨kd, tx, nm, i + gapL l⟩ :: ts)
theorem tok_len {l : List UInt8} {kd : Int} {tx : List UInt8} {nm : Int} {n : Nat} (hr : tokF l = ⟨kd, tx, nm, n, 0⟩) (hk : kd ≠ 0) : 0 < n ∧ n ≤ l.length := by
  have h := tok_fit l
  rw [hr] at h
  exact ⟨h.2.1 rfl hk, h.2.2 rfl⟩
theorem toks_of {l : List UInt8} {i : Nat} {ts : List Tok} (h : Toks l i ts) : ∀ f acc, l.length < f → toksA f l i acc = (acc ++ ts, 0, 0) := by
  induction h with
  | fin l i h =>
    intro f acc hf
    obtain ⟨f, rfl⟩ : ∃ g, f = g + 1 := ⟨f - 1, by omega⟩
    exact toks_end f l i acc (by rw [h]; rfl) (by rw [h]; rfl)
  | one l i ts kd tx nm n hr hk ht ih =>
    intro f acc hf
    obtain ⟨f, rfl⟩ : ∃ g, f = g + 1 := ⟨f - 1, by omega⟩
    have hn := tok_len hr hk
    have hg := gapL_le l
    rw [List.length_drop] at hn
    rw [toks_more f l i acc (by rw [hr]) (by rw [hr]; exact hk), hr]
    dsimp only
    rw [List.drop_drop, ih f _ (by rw [List.length_drop]; omega), List.append_assoc, List.singleton_append]
theorem of_toks : ∀ (f : Nat) (l : List UInt8) (i : Nat) (acc ts : List Tok) (p : Nat), l.length < f → toksA f l i acc = (ts, p, 0) → ∃ us, Toks l i us ∧ ts = acc ++ us ∧ p = 0
  | 0, _, _, _, _, _, h, _ => by omega
  | f + 1, l, i, acc, ts, p, hf, h => by
    by_cases he : (tokF (l.drop (gapL l))).e = 0
    · by_cases hk : (tokF (l.drop (gapL l))).kind = 0
      · rw [toks_end f l i acc he hk] at h
        injection h with h1 h2
        injection h2 with h2 h3
        exact ⟨_, .fin l i ((tok_fit _).1.1 ⟨he, hk⟩), h1.symm, h2.symm⟩
      · rw [toks_more f l i acc he hk] at h
        rcases hr : tokF (l.drop (gapL l)) with ⟨kd, tx, nm, n, e⟩
        rw [hr] at h he hk
        dsimp only at h he hk
        subst he
        have hn := tok_len hr hk
        have hg := gapL_le l
        rw [List.length_drop] at hn
        rw [List.drop_drop] at h
        obtain ⟨us, h1, h2, h3⟩ := of_toks f _ _ _ _ _ (by rw [List.length_drop]; omega) h
        exact ⟨_, .one l i us kd tx nm n hr hk h1, by rw [h2, List.append_assoc, List.singleton_append], h3⟩
    · rw [toks_err f l i acc he] at h
      injection h with h1 h2
      injection h2 with h2 h3
      exact absurd h3 he
theorem tokensF_of {l : List UInt8} {ts : List Tok} (h : Toks l 0 ts) (hl : l.length ≤ 2000) : tokensF l = (ts, 0, 0) := by
  unfold tokensF
  rw [if_neg (by omega), toks_of h _ _ (Nat.lt_succ_self _)]; rfl
theorem of_tokensF {l : List UInt8} {ts : List Tok} {p : Nat} (h : tokensF l = (ts, p, 0)) : Toks l 0 ts := by
  unfold tokensF at h
  split at h
  · injection h with h1 h2
    injection h2 with h2 h3
    cases h3
  · obtain ⟨us, h1, h2, _⟩ := of_toks _ _ _ _ _ _ (Nat.lt_succ_self _) h
    rw [h2]; exact h1
/-- Refused: no tokens. -/
theorem toksA_bad : ∀ (f : Nat) (l : List UInt8) (i : Nat) (acc ts : List Tok) (p : Nat) (e : Int), toksA f l i acc = (ts, p, e) → e ≠ 0 → ts = []
  | 0, _, _, _, _, _, _, h, he => by
    unfold toksA at h
    injection h with h1 h2
    injection h2 with h2 h3
    exact absurd h3.symm he
  | f + 1, l, i, acc, ts, p, e, h, he => by
    by_cases h0 : (tokF (l.drop (gapL l))).e = 0
    · by_cases hk : (tokF (l.drop (gapL l))).kind = 0
      · rw [toks_end f l i acc h0 hk] at h
        injection h with h1 h2
        injection h2 with h2 h3
        exact absurd h3.symm he
      · rw [toks_more f l i acc h0 hk] at h
        exact toksA_bad f _ _ _ _ _ _ h he
    · rw [toks_err f l i acc h0] at h
      injection h with h1 h2
      exact h1.symm
theorem tokensF_bad {l : List UInt8} {ts : List Tok} {p : Nat} {e : Int} (h : tokensF l = (ts, p, e)) (he : e ≠ 0) : ts = [] := by
  unfold tokensF at h
  split at h
  · injection h with h1 h2; exact h1.symm
  · exact toksA_bad _ _ _ _ _ _ _ h he
theorem Toks.ne {l : List UInt8} {i : Nat} {ts : List Tok} (h : Toks l i ts) : ts ≠ [] := by cases h <;> simp
/-- No more tokens than bytes, and one. -/
theorem Toks.len {l : List UInt8} {i : Nat} {ts : List Tok} (h : Toks l i ts) : ts.length ≤ l.length + 1 := by
  induction h with
  | fin l i h => simp
  | one l i ts kd tx nm n hr hk ht ih =>
    have hn := tok_len hr hk
    rw [List.length_drop] at hn ih
    rw [List.length_cons]; omega
/-- Where tokens stand. -/
theorem Toks.places {l : List UInt8} {i : Nat} {ts : List Tok} (h : Toks l i ts) : ∀ k t, ts[k]? = some t → ((t.kind = 0) ↔ k + 1 = ts.length) ∧ (t.at_ = i + l.length ↔ k + 1 = ts.length) ∧ i ≤ t.at_ ∧ (∀ u, ts[k + 1]? = some u → t.at_ < u.at_) := by
  induction h with
  | fin l i h =>
    intro k t hk
    have hg := gapL_le l
    have h2 : gapL l = l.length := by
      have := congrArg List.length h
      rw [List.length_drop, List.length_nil] at this; omega
    cases k with
    | zero =>
      simp only [List.getElem?_cons_zero, Option.some.injEq] at hk
      subst hk
      exact ⟨by simp, by simp [h2], by simp, by simp⟩
    | succ k => simp at hk
  | one l i ts kd tx nm n hr hk ht ih =>
    intro k t hkt
    have hn := tok_len hr hk
    have hg := gapL_le l
    have hne := ht.ne
    rw [List.length_drop] at hn
    have hlen : 0 < ts.length := List.length_pos_iff.2 hne
    have hll : i + gapL l + n + (l.drop (gapL l + n)).length = i + l.length := by rw [List.length_drop]; omega
    rw [hll] at ih
    cases k with
    | zero =>
      simp only [List.getElem?_cons_zero, Option.some.injEq] at hkt
      subst hkt
      dsimp only
      refine ⟨⟨fun h => absurd h hk, fun h => by simp only [List.length_cons] at h; omega⟩, ⟨fun h => by omega, fun h => by simp only [List.length_cons] at h; omega⟩, by omega, fun u hu => ?_⟩
      simp only [List.getElem?_cons_succ] at hu
      have := (ih 0 u hu).2.2.1
      omega
    | succ k =>
      simp only [List.getElem?_cons_succ] at hkt
      obtain ⟨a, b, c, d⟩ := ih k t hkt
      refine ⟨by rw [a]; simp, by rw [b]; simp, by omega, fun u hu => d u (by simpa using hu)⟩
theorem gap_fuel : ∀ (n : Nat) (l : List UInt8), l.length ≤ n → ∀ f g, l.length ≤ f → l.length ≤ g → gapF f l = gapF g l
  | 0, l, h, f, g, hf, hg => by
    have : l = [] := List.eq_nil_of_length_eq_zero (by omega)
    subst this
    cases f <;> cases g <;> rfl
  | n + 1, l, h, f, g, hf, hg => by
    cases l with
    | nil => cases f <;> cases g <;> rfl
    | cons c r =>
      simp only [List.length_cons] at h hf hg
      obtain ⟨f, rfl⟩ : ∃ k, f = k + 1 := ⟨f - 1, by omega⟩
      obtain ⟨g, rfl⟩ : ∃ k, g = k + 1 := ⟨g - 1, by omega⟩
      unfold gapF
      dsimp only
      split
      · rw [gap_fuel n r (by omega) f g (by omega) (by omega)]
      · split
        · rename_i h35
          have hp : 0 < ((c :: r).takeWhile (· ≠ 10)).length := by
            rw [List.takeWhile_cons, if_pos (by rw [h35]; decide)]; simp
          have hl : ((c :: r).drop ((c :: r).takeWhile (· ≠ 10)).length).length ≤ r.length := by rw [List.length_drop, List.length_cons]; omega
          rw [gap_fuel n _ (by omega) f g (by omega) (by omega)]
        · rfl
theorem gapL_blank (c : UInt8) (r : List UInt8) (h : c = 32 ∨ c = 9 ∨ c = 10) : gapL (c :: r) = 1 + gapL r := by
  unfold gapL
  show (if c = 32 ∨ c = 9 ∨ c = 10 then 1 + gapF r.length r else _) = 1 + gapF r.length r
  rw [if_pos h]
theorem gapL_rem (c : UInt8) (r : List UInt8) (h : c = 35) : gapL (c :: r) = ((c :: r).takeWhile (· ≠ 10)).length + gapL ((c :: r).drop ((c :: r).takeWhile (· ≠ 10)).length) := by
  have hp : 0 < ((c :: r).takeWhile (· ≠ 10)).length := by
    rw [List.takeWhile_cons, if_pos (by rw [h]; decide)]; simp
  have hl : ((c :: r).drop ((c :: r).takeWhile (· ≠ 10)).length).length ≤ r.length := by rw [List.length_drop, List.length_cons]; omega
  have e : gapL (c :: r) = ((c :: r).takeWhile (· ≠ 10)).length + gapF r.length ((c :: r).drop ((c :: r).takeWhile (· ≠ 10)).length) := by
    unfold gapL
    show (if c = 32 ∨ c = 9 ∨ c = 10 then _ else if c = 35 then _ else _) = _
    rw [if_neg (by rw [h]; decide), if_pos h]
  rw [e]
  unfold gapL
  rw [gap_fuel _ _ (Nat.le_refl _) r.length _ hl (Nat.le_refl _)]
theorem gapL_other (c : UInt8) (r : List UInt8) (h : ¬ (c = 32 ∨ c = 9 ∨ c = 10)) (h2 : c ≠ 35) : gapL (c :: r) = 0 := by
  unfold gapL
  show (if c = 32 ∨ c = 9 ∨ c = 10 then _ else if c = 35 then _ else _) = _
  rw [if_neg h, if_neg h2]
theorem toks_fuel : ∀ (n : Nat) (l : List UInt8), l.length ≤ n → ∀ f g, l.length < f → l.length < g → ∀ i acc, toksA f l i acc = toksA g l i acc
  | n, l, h, f, g, hf, hg, i, acc => by
    obtain ⟨f, rfl⟩ : ∃ k, f = k + 1 := ⟨f - 1, by omega⟩
    obtain ⟨g, rfl⟩ : ∃ k, g = k + 1 := ⟨g - 1, by omega⟩
    by_cases he : (tokF (l.drop (gapL l))).e = 0
    · by_cases hk : (tokF (l.drop (gapL l))).kind = 0
      · rw [toks_end f l i acc he hk, toks_end g l i acc he hk]
      · rw [toks_more f l i acc he hk, toks_more g l i acc he hk]
        have hfit := tok_fit (l.drop (gapL l))
        have h1 := hfit.2.1 he hk
        have h2 := hfit.2.2 he
        rw [List.length_drop] at h2
        have hgl := gapL_le l
        rcases n with _ | n
        · omega
        · exact toks_fuel n _ (by rw [List.length_drop, List.length_drop]; omega) f g (by rw [List.length_drop, List.length_drop]; omega) (by rw [List.length_drop, List.length_drop]; omega) _ _
    · rw [toks_err f l i acc he, toks_err g l i acc he]
/-- The tokens from here on, behind acc. -/
def runT (l : List UInt8) (i : Nat) (acc : List Tok) : List Tok × Nat × Int := toksA (l.length + 1) l i acc
theorem runT_gap (l : List UInt8) (i k : Nat) (acc : List Tok) (h : gapL l = k + gapL (l.drop k)) : runT l i acc = runT (l.drop k) (i + k) acc := by
  unfold runT
  have hd : (l.drop k).drop (gapL (l.drop k)) = l.drop (gapL l) := by rw [List.drop_drop, h]
  have hi : i + k + gapL (l.drop k) = i + gapL l := by rw [h]; omega
  have hgl := gapL_le l
  have hgk := gapL_le (l.drop k)
  rw [List.length_drop] at hgk
  have e1 := toks_err (l.drop k).length (l.drop k) (i + k) acc
  have e2 := toks_end (l.drop k).length (l.drop k) (i + k) acc
  have e3 := toks_more (l.drop k).length (l.drop k) (i + k) acc
  rw [hd, hi] at e1 e2 e3
  by_cases he : (tokF (l.drop (gapL l))).e = 0
  · by_cases hk : (tokF (l.drop (gapL l))).kind = 0
    · rw [toks_end _ l i acc he hk, e2 he hk]
    · rw [toks_more _ l i acc he hk, e3 he hk]
      have hfit := tok_fit (l.drop (gapL l))
      have h1 := hfit.2.1 he hk
      have h2 := hfit.2.2 he
      rw [List.length_drop] at h2
      exact toks_fuel _ _ (Nat.le_refl _) _ _ (by rw [List.length_drop, List.length_drop]; omega) (by rw [List.length_drop, List.length_drop, List.length_drop]; omega) _ _
  · rw [toks_err _ l i acc he, e1 he]
theorem runT_end (i : Nat) (acc : List Tok) : runT [] i acc = (acc ++ [⟨0, [], 0, i⟩], 0, 0) := by
  unfold runT
  rw [toks_end _ [] i acc rfl rfl]; rfl
theorem runT_err (l : List UInt8) (i : Nat) (acc : List Tok) (hg : gapL l = 0) (h : (tokF l).e ≠ 0) : runT l i acc = ([], i, (tokF l).e) := by
  unfold runT
  have := toks_err l.length l i acc
  rw [hg, List.drop_zero] at this
  exact this h
theorem runT_more (l : List UInt8) (i : Nat) (acc : List Tok) (hg : gapL l = 0) (h : (tokF l).e = 0) (hk : (tokF l).kind ≠ 0) : runT l i acc = runT (l.drop (tokF l).n) (i + (tokF l).n) (acc ++ [⟨(tokF l).kind, (tokF l).text, (tokF l).num, i⟩]) := by
  unfold runT
  have h3 := toks_more l.length l i acc
  have h1 := (tok_fit l).2.1 h hk
  have h2 := (tok_fit l).2.2 h
  rw [hg, List.drop_zero] at h3
  rw [h3 h hk]
  exact toks_fuel _ _ (Nat.le_refl _) _ _ (by rw [List.length_drop]; omega) (by omega) _ _
attribute [local go_sem ↓] Go.wp_at_zero Go.wp_at_succ
def sgnS : ByteArray := ⟨#[61, 60, 43, 45, 42, 47, 37, 94, 59, 124, 40, 41, 44, 95]⟩
theorem rsign_any (c : UInt8) (w : World) : Calls Try.prog 66 #[.int .u8 (c.toNat : Int)] w fun e w' => e = .returned (.bool (signL.contains c)) ∧ w = w' := by
  obtain ⟨r, hr⟩ : ∃ r, signL.contains c = r := ⟨_, rfl⟩
  rw [hr]
  have HRR := Lib.hid hr
  clear hr
  go_enter Try.func66, Try.ntmps66
  go_wp2_with fail
  go_loopg [4] 14 (fun gk ks wr => ∃ k : Nat, ks = .int .i64 (k : Int) ∧ k + gk = 14 ∧ (∀ j, j < k → signL[j]? ≠ some c) ∧ w = wr)
  case atStart => exact ⟨0, rfl, rfl, fun j h => by omega, rfl⟩
  case round =>
    obtain ⟨k, rfl, hkg, hp, rfl⟩ := hrel
    have HP := Lib.hid hp
    clear hp
    by_cases hlt : k < 14
    · have d1 : decide ((k : Int) < 14) = true := decide_eq_true (by omega)
      have i1 : (0 : Int) ≤ (k : Int) := by omega
      have i2 : (k : Int) < 14 := by omega
      have hks : k < sgnS.size := hlt
      have HQ : Hid (signL[k]? = some sgnS[k]) := get_list sgnS k hks
      by_cases hq : sgnS[k] = c
      · have e1 := u8_eq sgnS[k] c hq
        have hc : r = true := by
          rw [hq] at HQ
          rw [← HRR.out]
          exact List.contains_iff_mem.2 (List.mem_of_getElem? HQ.out)
        subst hc
        clear HRR HQ hq HP
        unfold sgnS at e1
        go_wp2_with fail
        go_ret
        exact ⟨rfl, rfl⟩
      · have e1 := u8_ne sgnS[k] c hq
        have HP2 : Hid (∀ j, j < k + 1 → signL[j]? ≠ some c) := fun j h hj => by
          rcases Nat.lt_or_ge j k with h1 | h1
          · exact HP.out j h1 hj
          · obtain rfl : j = k := by omega
            rw [HQ.out] at hj
            exact hq (Option.some.inj hj)
        clear HP HQ hq
        unfold sgnS at e1
        go_wp2_with fail
        go_roundg (gk - 1)
        case measure => omega
        case rel => exact ⟨k + 1, rfl, by omega, HP2.out, rfl⟩
    · have d1 : decide ((k : Int) < 14) = false := decide_eq_false (by omega)
      have hc : r = false := by
        rw [← HRR.out, Bool.eq_false_iff]
        intro h
        obtain ⟨j, hj, hh⟩ := List.getElem_of_mem (List.contains_iff_mem.1 h)
        exact HP.out j (by have : j < 14 := hj; omega) (by rw [List.getElem?_eq_getElem hj, hh])
      subst hc
      clear HRR HP
      go_wp2_with fail
      go_ret
      exact ⟨rfl, rfl⟩
attribute [local go_sem ↓] Go.wp_at_zero Go.wp_at_succ
def keyV : List Value := keyL.map fun l => .string ⟨l.toArray⟩
theorem keyV_get (k : Nat) (l : List UInt8) (h : keyL[k]? = some l) : keyV.toArray[k]? = some (.string ⟨l.toArray⟩) := by
  unfold keyV; simp [h]
theorem rkey_any (s : ByteArray) (w : World) : Calls Try.prog 65 #[.string s] w fun e w' => e = .returned (.bool (keyB s.data.toList)) ∧ Below w.heap.size w w' := by
  obtain ⟨r, hr⟩ : ∃ r, keyB s.data.toList = r := ⟨_, rfl⟩
  rw [hr]
  have HRR := Lib.hid hr
  clear hr
  go_enter Try.func65, Try.ntmps65
  go_wp2_with fail
  have HK : Hid (Whole (w.alloc (.cells keyV.toArray 9)) w.heap.size 9 keyV.toArray) := Whole.made _ _ _
  have HB : Hid (Below w.heap.size w (w.alloc (.cells keyV.toArray 9))) := (Below.refl _ _).alloc (Nat.le_refl _) _
  go_loopg [4] 23 (fun gk ks wr => ∃ k : Nat, ks = .int .i64 (k : Int) ∧ k + gk = 23 ∧ (∀ j, j < k → keyL[j]? ≠ some s.data.toList) ∧ Whole wr w.heap.size 9 keyV.toArray ∧ Below w.heap.size w wr)
  case atStart => exact ⟨0, rfl, rfl, fun j h => by omega, HK.out, HB.out⟩
  case round =>
    obtain ⟨k, rfl, hkg, hp, hk, hb⟩ := hrel
    have HP := Lib.hid hp
    have HK1 := Lib.hid hk
    have HB1 := Lib.hid hb
    clear hp hk hb HK HB
    by_cases hlt : k < 23
    · have d1 : decide ((k : Int) < 23) = true := decide_eq_true (by omega)
      have i1 : (0 : Int) ≤ (k : Int) := by omega
      have i2 : (k : Int) < 23 := by omega
      have i2n : k < 23 := hlt
      obtain ⟨x, hx⟩ : ∃ x, keyL[k]? = some x := ⟨_, List.getElem?_eq_getElem (by exact hlt)⟩
      have HX := Lib.hid hx
      have c0 : wr.cell? ⟨w.heap.size, k, none⟩ = some (.string ⟨x.toArray⟩) := (HK1.out.cell k).trans (keyV_get k x hx)
      clear hx
      by_cases hq : x = s.data.toList
      · have hc : r = true := by
          rw [← HRR.out]
          unfold keyB
          rw [hq] at HX
          exact List.contains_iff_mem.2 (List.mem_of_getElem? HX.out)
        subst hc
        have e1 : (x == s.toList) = true := by rw [ByteArray.toList_eq]; exact beq_iff_eq.2 hq
        clear HRR HX hq HP
        go_wp2_with fail
        go_ret
        exact ⟨rfl, HB1.out⟩
      · have e1 : (x == s.toList) = false := by rw [ByteArray.toList_eq]; exact beq_eq_false_iff_ne.2 hq
        have HP2 : Hid (∀ j, j < k + 1 → keyL[j]? ≠ some s.data.toList) := fun j h hj => by
          rcases Nat.lt_or_ge j k with h1 | h1
          · exact HP.out j h1 hj
          · obtain rfl : j = k := by omega
            rw [HX.out] at hj
            exact hq (Option.some.inj hj)
        clear HP HX hq
        go_wp2_with fail
        go_roundg (gk - 1)
        case measure => omega
        case rel => exact ⟨k + 1, rfl, by omega, HP2.out, HK1.out, HB1.out⟩
    · have d1 : decide ((k : Int) < 23) = false := decide_eq_false (by omega)
      have hc : r = false := by
        rw [← HRR.out, Bool.eq_false_iff]
        intro h
        unfold keyB at h
        obtain ⟨j, hj, hh⟩ := List.getElem_of_mem (List.contains_iff_mem.1 h)
        exact HP.out j (by have : j < 23 := hj; omega) (by rw [List.getElem?_eq_getElem hj, hh])
      subst hc
      clear HRR HP
      go_wp2_with fail
      go_ret
      exact ⟨rfl, HB1.out⟩
attribute [local go_sem ↓] Go.wp_at_zero Go.wp_at_succ
/-- What the document's token is told to be. -/
def RTok (r : TokR) (w : World) (e : Ending) (w' : World) : Prop :=
  ∃ kd nm n : Int, ∃ tx : ByteArray, e = .returned (.tuple #[tkV kd tx nm 0, .int .i64 n, .int .i64 r.e]) ∧ Below w.heap.size w w' ∧
    (r.e = 0 → kd = r.kind ∧ tx = ⟨r.text.toArray⟩ ∧ nm = r.num ∧ n = (r.n : Int))
theorem valT_snoc (l : List UInt8) (c : UInt8) : valT (l ++ [c]) = 10 * valT l + (c.toNat - 48) := by simp [valT]
theorem valT_le : ∀ (l m : List UInt8), valT l ≤ valT (l ++ m)
  | l, [] => by rw [List.append_nil]; exact Nat.le_refl _
  | l, c :: m => by
    have h := valT_le (l ++ [c]) m
    rw [List.append_assoc, List.singleton_append] at h
    have h2 := valT_snoc l c
    omega
theorem valT_take (s : ByteArray) (k : Nat) (h : k < s.size) : valT (s.data.toList.take (k + 1)) = 10 * valT (s.data.toList.take k) + (s[k].toNat - 48) := by
  rw [List.take_add_one, get_list s k h]
  exact valT_snoc _ _
theorem valT_more (l : List UInt8) {a b : Nat} (h : a ≤ b) : valT (l.take a) ≤ valT (l.take b) := by
  have e : l.take a ++ (l.take b).drop a = l.take b := by
    have := List.take_append_drop a (l.take b)
    rwa [List.take_take, Nat.min_eq_left h] at this
  rw [← e]; exact valT_le _ _
theorem take_run (P : UInt8 → Bool) (s : ByteArray) : s.data.toList.takeWhile P = s.data.toList.take (runN P s 0) := by
  have h := List.prefix_iff_eq_take.1 (List.takeWhile_prefix (l := s.data.toList) P)
  rw [h]; unfold runN; simp
theorem dig_lo {c : UInt8} (h : digB c = true) : 48 ≤ (c.toNat : Int) := by simp [digB] at h; omega
theorem dig_hi {c : UInt8} (h : digB c = true) : (c.toNat : Int) ≤ 57 := by simp [digB] at h; omega
set_option maxRecDepth 100000 in
set_option maxHeartbeats 4000000 in
theorem rtoken_num (w : World) (s : ByteArray) (c : UInt8) (hs : s.size ≤ 10000) (h0 : 0 < s.size) (hc : s[0] = c) (hd : digB c = true) : Calls Try.prog 49 #[.string s] w (RTok (tokF s.data.toList) w) := by
  have he : tokF s.data.toList = if 4611686018427387903 < valT (s.data.toList.take (runN digB s 0)) then ⟨0, [], 0, 0, 13⟩ else ⟨1, [], valT (s.data.toList.take (runN digB s 0)), runN digB s 0, 0⟩ := by
    have h1 := drop_cons s 0 h0
    rw [List.drop_zero] at h1
    rw [← take_run]
    unfold runN
    rw [List.drop_zero, h1, hc]; exact tok_num c _ hd
  obtain ⟨r, hr⟩ : ∃ r, tokF s.data.toList = r := ⟨_, rfl⟩
  rw [hr] at he ⊢
  clear hr
  have hdg : ∀ j, j < runN digB s 0 → ∀ h : j < s.size, digB s[j] = true := fun j hj h => by
    have h1 := get_list s j h
    have h2 : (s.data.toList.takeWhile digB)[j]? = some s[j] := by rw [take_run, List.getElem?_take, if_pos hj, h1]
    exact mem_tw (List.mem_of_getElem? h2)
  have hrl := runN_le digB s 0 (Nat.zero_le _)
  subst hc
  have CD : Hid (∀ (c : UInt8) (wx : World), Calls Try.prog 61 #[.int .u8 (c.toNat : Int)] wx fun e w' => e = .returned (.bool (digB c)) ∧ wx = w') := rdigit_any
  obtain ⟨N, hN⟩ : ∃ N, runN digB s 0 = N := ⟨_, rfl⟩
  rw [hN] at hdg hrl he
  have HN := Lib.hid hN
  have HRR := Lib.hid he
  have HD := Lib.hid hdg
  clear hN he hdg
  have i0 : (0 : Int) < (s.size : Int) := by omega
  have CT : Hid (∀ wx, Calls Try.prog 61 #[.int .u8 (s[0].toNat : Int)] wx fun e w' => e = .returned (.bool true) ∧ wx = w') := fun wx => (rdigit_any _ wx).mono fun e w' ⟨h1, h2⟩ => ⟨by rw [h1, hd], h2⟩
  have HI := Lib.hid hd
  clear hd
  have HZ : Hid (Whole (w.alloc (.cells #[.int .i64 0, .string ⟨#[]⟩, .int .i64 0, .int .i64 0] 67)) w.heap.size 67 #[.int .i64 0, .string ⟨#[]⟩, .int .i64 0, .int .i64 0]) := Whole.made _ _ _
  have HB : Hid (Below w.heap.size w (w.alloc (.cells #[.int .i64 0, .string ⟨#[]⟩, .int .i64 0, .int .i64 0] 67))) := (Below.refl _ _).alloc (Nat.le_refl _) _
  go_enter Try.func49, Try.ntmps49
  go_wp2_with (go_at_call 61; refine (CT.out _).mono ?_; rintro e w1 ⟨rfl, rfl⟩)
  generalize w.alloc (.cells #[.int .i64 0, .string ⟨#[]⟩, .int .i64 0, .int .i64 0] 67) = w2 at *
  go_loopg [6] (s.size - 1) (fun gk ks wr => ∃ k : Nat, ks = .int .i64 (k : Int) ∧ 1 ≤ k ∧ k + gk = s.size ∧ (∀ j, 0 ≤ j → j < k → ∀ h : j < s.size, digB s[j] = true) ∧ w2 = wr)
  case atStart => exact ⟨1, rfl, Nat.le_refl _, by omega, fun j _ h1 h => by obtain rfl : j = 0 := by omega
                                                                             exact HI.out, rfl⟩
  case round =>
    obtain ⟨k, rfl, hk1, hkg, hp, hw⟩ := hrel
    subst hw
    have HP := Lib.hid hp
    clear hp
    by_cases hlt : k < s.size
    · have d1 : decide ((k : Int) < (s.size : Int)) = true := decide_eq_true (by omega)
      have d1n : decide (k < s.size) = true := decide_eq_true hlt
      have i1 : (0 : Int) ≤ (k : Int) := by omega
      have i2 : (k : Int) < (s.size : Int) := by omega
      rcases hpk : digB s[k] with _ | _
      · have HE : Hid (k = 0 + runN digB s 0) := run_len (Nat.zero_le _) (by omega) HP.out (fun h => hpk)
        have CK : Hid (∀ wx : World, Calls Try.prog 61 #[.int .u8 (s[k].toNat : Int)] wx fun e w' => e = .returned (.bool false) ∧ wx = w') := fun wx => (rdigit_any _ wx).mono fun e w' ⟨h1, h2⟩ => ⟨by rw [h1, hpk], h2⟩
        have hkN : k = N := by have := HE.out; have := HN.out; omega
        clear hpk HP HE HN
        subst hkN
        clear CT HI CD
        go_wp2_with (go_at_call 61; refine (CK.out _).mono ?_; rintro e w1 ⟨rfl, rfl⟩)
        clear CK
        go_loopg [7, 8] k (fun gk vs ks wr => ∃ i V : Nat, vs = .int .i64 (V : Int) ∧ ks = .int .i64 (i : Int) ∧ i + gk = k ∧ V = valT (s.data.toList.take i) ∧ V ≤ 4611686018427387903 ∧ w2 = wr)
        case atStart => exact ⟨0, 0, rfl, rfl, by omega, rfl, by omega, rfl⟩
        case round =>
          obtain ⟨i, V, rfl, rfl, hik, hV, hVM, hw⟩ := hrel
          subst hw
          by_cases hlt2 : i < k
          · have e1 : decide ((i : Int) < (k : Int)) = true := decide_eq_true (by omega)
            have e1n : decide (i < k) = true := decide_eq_true hlt2
            have j1 : (0 : Int) ≤ (i : Int) := by omega
            have j2 : (i : Int) < (s.size : Int) := by omega
            have hdi := HD.out i hlt2 (by omega)
            have hc1 := dig_lo hdi
            have hc2 := dig_hi hdi
            have hst := valT_take s i (by omega)
            have hmo := valT_more s.data.toList (show i + 1 ≤ k from hlt2)
            rw [← hV] at hst
            have hq : (4611686018427387903 - ((s[i].toNat : Int) - 48)).tdiv 10 = (4611686018427387903 - ((s[i].toNat : Int) - 48)) / 10 := Int.tdiv_eq_ediv_of_nonneg (by omega)
            clear hdi hV
            by_cases hbig : 4611686018427387903 < 10 * V + (s[i].toNat - 48)
            · have ht : decide ((4611686018427387903 - ((s[i].toNat : Int) - 48)) / 10 < (V : Int)) = true := decide_eq_true (by omega)
              have ht2 : decide ((4611686018427387903 - ((s[i].toNat : Int) - 48)).tdiv 10 < (V : Int)) = true := by rw [hq]; exact ht
              have hr := HRR.out
              rw [if_pos (by omega)] at hr
              subst hr
              clear hst hmo hbig HRR hq
              have z0 : w2.cell? ⟨w.heap.size, 0, none⟩ = some (.int .i64 0) := HZ.out.cell 0
              have z1 : w2.cell? ⟨w.heap.size, 1, none⟩ = some (.string ⟨#[]⟩) := HZ.out.cell 1
              have z2 : w2.cell? ⟨w.heap.size, 2, none⟩ = some (.int .i64 0) := HZ.out.cell 2
              have z3 : w2.cell? ⟨w.heap.size, 3, none⟩ = some (.int .i64 0) := HZ.out.cell 3
              have y0 := HZ.out.free 0
              have y1 := HZ.out.free 1
              have y2 := HZ.out.free 2
              have y3 := HZ.out.free 3
              go_wp2_with fail
              have HZF : Hid (Whole ((((w2.setCell ⟨w.heap.size, 0, none⟩ (.int .i64 0)).setCell ⟨w.heap.size, 1, none⟩ (.string ⟨#[]⟩)).setCell ⟨w.heap.size, 2, none⟩ (.int .i64 0)).setCell ⟨w.heap.size, 3, none⟩ (.int .i64 0)) w.heap.size 67 #[.int .i64 0, .string ⟨#[]⟩, .int .i64 0, .int .i64 0]) := (((Whole.put (w := w2) HZ.out 0 (.int .i64 0)).put 1 (.string ⟨#[]⟩)).put 2 (.int .i64 0)).put 3 (.int .i64 0)
              have HBF : Hid (Below w.heap.size w ((((w2.setCell ⟨w.heap.size, 0, none⟩ (.int .i64 0)).setCell ⟨w.heap.size, 1, none⟩ (.string ⟨#[]⟩)).setCell ⟨w.heap.size, 2, none⟩ (.int .i64 0)).setCell ⟨w.heap.size, 3, none⟩ (.int .i64 0))) := (((HB.out.setCell (p := ⟨w.heap.size, 0, none⟩) (Nat.le_refl _) (.int .i64 0)).setCell (p := ⟨w.heap.size, 1, none⟩) (Nat.le_refl _) (.string ⟨#[]⟩)).setCell (p := ⟨w.heap.size, 2, none⟩) (Nat.le_refl _) (.int .i64 0)).setCell (p := ⟨w.heap.size, 3, none⟩) (Nat.le_refl _) (.int .i64 0)
              generalize ((((w2.setCell ⟨w.heap.size, 0, none⟩ (.int .i64 0)).setCell ⟨w.heap.size, 1, none⟩ (.string ⟨#[]⟩)).setCell ⟨w.heap.size, 2, none⟩ (.int .i64 0)).setCell ⟨w.heap.size, 3, none⟩ (.int .i64 0)) = wf at *
              have g0 := HZF.out.cell 0
              have g1 := HZF.out.cell 1
              have g2 := HZF.out.cell 2
              have g3 := HZF.out.cell 3
              simp only [List.getElem?_toArray, List.getElem?_cons_zero, List.getElem?_cons_succ] at g0 g1 g2 g3
              exact bodyPost_ret (v := .tuple #[tkV 0 ⟨#[]⟩ 0 0, .int .i64 0, .int .i64 13]) (by simp [results, Try.results49, go_sem, tkV, g0, g1, g2, g3]) rfl ⟨0, 0, 0, ⟨#[]⟩, rfl, HBF.out, fun h => absurd h (by decide)⟩
            · have ht : decide ((4611686018427387903 - ((s[i].toNat : Int) - 48)) / 10 < (V : Int)) = false := decide_eq_false (by omega)
              have ht2 : decide ((4611686018427387903 - ((s[i].toNat : Int) - 48)).tdiv 10 < (V : Int)) = false := by rw [hq]; exact ht
              have HST := Lib.hid hst
              have hle : 10 * (V : Int) + ((s[i].toNat : Int) - 48) ≤ 4611686018427387903 := by omega
              clear hst hmo hq
              go_wp2_with fail
              go_roundg (gk - 1)
              case measure => omega
              case rel => exact ⟨i + 1, 10 * V + (s[i].toNat - 48), by go_num, rfl, by omega, HST.out.symm, by omega, rfl⟩
          · have e1 : decide ((i : Int) < (k : Int)) = false := decide_eq_false (by omega)
            have e1n : decide (i < k) = false := decide_eq_false hlt2
            obtain rfl : i = k := by omega
            have hr := HRR.out
            rw [← hV, if_neg (by omega)] at hr
            subst hr
            clear HRR hV
            have z0 : w2.cell? ⟨w.heap.size, 0, none⟩ = some (.int .i64 0) := HZ.out.cell 0
            have z1 : w2.cell? ⟨w.heap.size, 1, none⟩ = some (.string ⟨#[]⟩) := HZ.out.cell 1
            have z2 : w2.cell? ⟨w.heap.size, 2, none⟩ = some (.int .i64 0) := HZ.out.cell 2
            have z3 : w2.cell? ⟨w.heap.size, 3, none⟩ = some (.int .i64 0) := HZ.out.cell 3
            have y0 := HZ.out.free 0
            have y1 := HZ.out.free 1
            have y2 := HZ.out.free 2
            have y3 := HZ.out.free 3
            go_wp2_with fail
            have HZF : Hid (Whole ((((w2.setCell ⟨w.heap.size, 0, none⟩ (.int .i64 1)).setCell ⟨w.heap.size, 1, none⟩ (.string ⟨#[]⟩)).setCell ⟨w.heap.size, 2, none⟩ (.int .i64 (V : Int))).setCell ⟨w.heap.size, 3, none⟩ (.int .i64 0)) w.heap.size 67 #[.int .i64 1, .string ⟨#[]⟩, .int .i64 (V : Int), .int .i64 0]) := (((Whole.put (w := w2) HZ.out 0 (.int .i64 1)).put 1 (.string ⟨#[]⟩)).put 2 (.int .i64 (V : Int))).put 3 (.int .i64 0)
            have HBF : Hid (Below w.heap.size w ((((w2.setCell ⟨w.heap.size, 0, none⟩ (.int .i64 1)).setCell ⟨w.heap.size, 1, none⟩ (.string ⟨#[]⟩)).setCell ⟨w.heap.size, 2, none⟩ (.int .i64 (V : Int))).setCell ⟨w.heap.size, 3, none⟩ (.int .i64 0))) := (((HB.out.setCell (p := ⟨w.heap.size, 0, none⟩) (Nat.le_refl _) (.int .i64 1)).setCell (p := ⟨w.heap.size, 1, none⟩) (Nat.le_refl _) (.string ⟨#[]⟩)).setCell (p := ⟨w.heap.size, 2, none⟩) (Nat.le_refl _) (.int .i64 (V : Int))).setCell (p := ⟨w.heap.size, 3, none⟩) (Nat.le_refl _) (.int .i64 0)
            generalize ((((w2.setCell ⟨w.heap.size, 0, none⟩ (.int .i64 1)).setCell ⟨w.heap.size, 1, none⟩ (.string ⟨#[]⟩)).setCell ⟨w.heap.size, 2, none⟩ (.int .i64 (V : Int))).setCell ⟨w.heap.size, 3, none⟩ (.int .i64 0)) = wf at *
            have g0 := HZF.out.cell 0
            have g1 := HZF.out.cell 1
            have g2 := HZF.out.cell 2
            have g3 := HZF.out.cell 3
            simp only [List.getElem?_toArray, List.getElem?_cons_zero, List.getElem?_cons_succ] at g0 g1 g2 g3
            exact bodyPost_ret (v := .tuple #[tkV 1 ⟨#[]⟩ (V : Int) 0, .int .i64 (i : Int), .int .i64 0]) (by simp [results, Try.results49, go_sem, tkV, g0, g1, g2, g3]) rfl ⟨1, (V : Int), (i : Int), ⟨#[]⟩, rfl, HBF.out, fun _ => ⟨rfl, rfl, rfl, rfl⟩⟩
      · have CK : Hid (∀ wx : World, Calls Try.prog 61 #[.int .u8 (s[k].toNat : Int)] wx fun e w' => e = .returned (.bool true) ∧ wx = w') := fun wx => (rdigit_any _ wx).mono fun e w' ⟨h1, h2⟩ => ⟨by rw [h1, hpk], h2⟩
        have HP2 : Hid (∀ j, 0 ≤ j → j < k + 1 → ∀ h : j < s.size, digB s[j] = true) := fun j h1 h2 h => by
          rcases Nat.lt_or_ge j k with h3 | h3
          · exact HP.out j h1 h3 h
          · obtain rfl : j = k := by omega
            exact hpk
        clear hpk HP CT HI CD
        go_wp2_with (go_at_call 61; refine (CK.out _).mono ?_; rintro e w1 ⟨rfl, rfl⟩)
        go_roundg (gk - 1)
        case measure => omega
        case rel => exact ⟨k + 1, rfl, by omega, by omega, HP2.out, rfl⟩
    · have d1 : decide ((k : Int) < (s.size : Int)) = false := decide_eq_false (by omega)
      have d1n : decide (k < s.size) = false := decide_eq_false hlt
      have HE : Hid (k = 0 + runN digB s 0) := run_len (Nat.zero_le _) (by omega) HP.out (fun h => absurd h hlt)
      have hkN : k = N := by have := HE.out; have := HN.out; omega
      clear HP HE HN
      subst hkN
      clear CT HI CD
      go_wp2_with fail
      go_loopg [7, 8] k (fun gk vs ks wr => ∃ i V : Nat, vs = .int .i64 (V : Int) ∧ ks = .int .i64 (i : Int) ∧ i + gk = k ∧ V = valT (s.data.toList.take i) ∧ V ≤ 4611686018427387903 ∧ w2 = wr)
      case atStart => exact ⟨0, 0, rfl, rfl, by omega, rfl, by omega, rfl⟩
      case round =>
        obtain ⟨i, V, rfl, rfl, hik, hV, hVM, hw⟩ := hrel
        subst hw
        by_cases hlt2 : i < k
        · have e1 : decide ((i : Int) < (k : Int)) = true := decide_eq_true (by omega)
          have e1n : decide (i < k) = true := decide_eq_true hlt2
          have j1 : (0 : Int) ≤ (i : Int) := by omega
          have j2 : (i : Int) < (s.size : Int) := by omega
          have hdi := HD.out i hlt2 (by omega)
          have hc1 := dig_lo hdi
          have hc2 := dig_hi hdi
          have hst := valT_take s i (by omega)
          have hmo := valT_more s.data.toList (show i + 1 ≤ k from hlt2)
          rw [← hV] at hst
          have hq : (4611686018427387903 - ((s[i].toNat : Int) - 48)).tdiv 10 = (4611686018427387903 - ((s[i].toNat : Int) - 48)) / 10 := Int.tdiv_eq_ediv_of_nonneg (by omega)
          clear hdi hV
          by_cases hbig : 4611686018427387903 < 10 * V + (s[i].toNat - 48)
          · have ht : decide ((4611686018427387903 - ((s[i].toNat : Int) - 48)) / 10 < (V : Int)) = true := decide_eq_true (by omega)
            have ht2 : decide ((4611686018427387903 - ((s[i].toNat : Int) - 48)).tdiv 10 < (V : Int)) = true := by rw [hq]; exact ht
            have hr := HRR.out
            rw [if_pos (by omega)] at hr
            subst hr
            clear hst hmo hbig HRR hq
            have z0 : w2.cell? ⟨w.heap.size, 0, none⟩ = some (.int .i64 0) := HZ.out.cell 0
            have z1 : w2.cell? ⟨w.heap.size, 1, none⟩ = some (.string ⟨#[]⟩) := HZ.out.cell 1
            have z2 : w2.cell? ⟨w.heap.size, 2, none⟩ = some (.int .i64 0) := HZ.out.cell 2
            have z3 : w2.cell? ⟨w.heap.size, 3, none⟩ = some (.int .i64 0) := HZ.out.cell 3
            have y0 := HZ.out.free 0
            have y1 := HZ.out.free 1
            have y2 := HZ.out.free 2
            have y3 := HZ.out.free 3
            go_wp2_with fail
            have HZF : Hid (Whole ((((w2.setCell ⟨w.heap.size, 0, none⟩ (.int .i64 0)).setCell ⟨w.heap.size, 1, none⟩ (.string ⟨#[]⟩)).setCell ⟨w.heap.size, 2, none⟩ (.int .i64 0)).setCell ⟨w.heap.size, 3, none⟩ (.int .i64 0)) w.heap.size 67 #[.int .i64 0, .string ⟨#[]⟩, .int .i64 0, .int .i64 0]) := (((Whole.put (w := w2) HZ.out 0 (.int .i64 0)).put 1 (.string ⟨#[]⟩)).put 2 (.int .i64 0)).put 3 (.int .i64 0)
            have HBF : Hid (Below w.heap.size w ((((w2.setCell ⟨w.heap.size, 0, none⟩ (.int .i64 0)).setCell ⟨w.heap.size, 1, none⟩ (.string ⟨#[]⟩)).setCell ⟨w.heap.size, 2, none⟩ (.int .i64 0)).setCell ⟨w.heap.size, 3, none⟩ (.int .i64 0))) := (((HB.out.setCell (p := ⟨w.heap.size, 0, none⟩) (Nat.le_refl _) (.int .i64 0)).setCell (p := ⟨w.heap.size, 1, none⟩) (Nat.le_refl _) (.string ⟨#[]⟩)).setCell (p := ⟨w.heap.size, 2, none⟩) (Nat.le_refl _) (.int .i64 0)).setCell (p := ⟨w.heap.size, 3, none⟩) (Nat.le_refl _) (.int .i64 0)
            generalize ((((w2.setCell ⟨w.heap.size, 0, none⟩ (.int .i64 0)).setCell ⟨w.heap.size, 1, none⟩ (.string ⟨#[]⟩)).setCell ⟨w.heap.size, 2, none⟩ (.int .i64 0)).setCell ⟨w.heap.size, 3, none⟩ (.int .i64 0)) = wf at *
            have g0 := HZF.out.cell 0
            have g1 := HZF.out.cell 1
            have g2 := HZF.out.cell 2
            have g3 := HZF.out.cell 3
            simp only [List.getElem?_toArray, List.getElem?_cons_zero, List.getElem?_cons_succ] at g0 g1 g2 g3
            exact bodyPost_ret (v := .tuple #[tkV 0 ⟨#[]⟩ 0 0, .int .i64 0, .int .i64 13]) (by simp [results, Try.results49, go_sem, tkV, g0, g1, g2, g3]) rfl ⟨0, 0, 0, ⟨#[]⟩, rfl, HBF.out, fun h => absurd h (by decide)⟩
          · have ht : decide ((4611686018427387903 - ((s[i].toNat : Int) - 48)) / 10 < (V : Int)) = false := decide_eq_false (by omega)
            have ht2 : decide ((4611686018427387903 - ((s[i].toNat : Int) - 48)).tdiv 10 < (V : Int)) = false := by rw [hq]; exact ht
            have HST := Lib.hid hst
            have hle : 10 * (V : Int) + ((s[i].toNat : Int) - 48) ≤ 4611686018427387903 := by omega
            clear hst hmo hq
            go_wp2_with fail
            go_roundg (gk - 1)
            case measure => omega
            case rel => exact ⟨i + 1, 10 * V + (s[i].toNat - 48), by go_num, rfl, by omega, HST.out.symm, by omega, rfl⟩
        · have e1 : decide ((i : Int) < (k : Int)) = false := decide_eq_false (by omega)
          have e1n : decide (i < k) = false := decide_eq_false hlt2
          obtain rfl : i = k := by omega
          have hr := HRR.out
          rw [← hV, if_neg (by omega)] at hr
          subst hr
          clear HRR hV
          have z0 : w2.cell? ⟨w.heap.size, 0, none⟩ = some (.int .i64 0) := HZ.out.cell 0
          have z1 : w2.cell? ⟨w.heap.size, 1, none⟩ = some (.string ⟨#[]⟩) := HZ.out.cell 1
          have z2 : w2.cell? ⟨w.heap.size, 2, none⟩ = some (.int .i64 0) := HZ.out.cell 2
          have z3 : w2.cell? ⟨w.heap.size, 3, none⟩ = some (.int .i64 0) := HZ.out.cell 3
          have y0 := HZ.out.free 0
          have y1 := HZ.out.free 1
          have y2 := HZ.out.free 2
          have y3 := HZ.out.free 3
          go_wp2_with fail
          have HZF : Hid (Whole ((((w2.setCell ⟨w.heap.size, 0, none⟩ (.int .i64 1)).setCell ⟨w.heap.size, 1, none⟩ (.string ⟨#[]⟩)).setCell ⟨w.heap.size, 2, none⟩ (.int .i64 (V : Int))).setCell ⟨w.heap.size, 3, none⟩ (.int .i64 0)) w.heap.size 67 #[.int .i64 1, .string ⟨#[]⟩, .int .i64 (V : Int), .int .i64 0]) := (((Whole.put (w := w2) HZ.out 0 (.int .i64 1)).put 1 (.string ⟨#[]⟩)).put 2 (.int .i64 (V : Int))).put 3 (.int .i64 0)
          have HBF : Hid (Below w.heap.size w ((((w2.setCell ⟨w.heap.size, 0, none⟩ (.int .i64 1)).setCell ⟨w.heap.size, 1, none⟩ (.string ⟨#[]⟩)).setCell ⟨w.heap.size, 2, none⟩ (.int .i64 (V : Int))).setCell ⟨w.heap.size, 3, none⟩ (.int .i64 0))) := (((HB.out.setCell (p := ⟨w.heap.size, 0, none⟩) (Nat.le_refl _) (.int .i64 1)).setCell (p := ⟨w.heap.size, 1, none⟩) (Nat.le_refl _) (.string ⟨#[]⟩)).setCell (p := ⟨w.heap.size, 2, none⟩) (Nat.le_refl _) (.int .i64 (V : Int))).setCell (p := ⟨w.heap.size, 3, none⟩) (Nat.le_refl _) (.int .i64 0)
          generalize ((((w2.setCell ⟨w.heap.size, 0, none⟩ (.int .i64 1)).setCell ⟨w.heap.size, 1, none⟩ (.string ⟨#[]⟩)).setCell ⟨w.heap.size, 2, none⟩ (.int .i64 (V : Int))).setCell ⟨w.heap.size, 3, none⟩ (.int .i64 0)) = wf at *
          have g0 := HZF.out.cell 0
          have g1 := HZF.out.cell 1
          have g2 := HZF.out.cell 2
          have g3 := HZF.out.cell 3
          simp only [List.getElem?_toArray, List.getElem?_cons_zero, List.getElem?_cons_succ] at g0 g1 g2 g3
          exact bodyPost_ret (v := .tuple #[tkV 1 ⟨#[]⟩ (V : Int) 0, .int .i64 (i : Int), .int .i64 0]) (by simp [results, Try.results49, go_sem, tkV, g0, g1, g2, g3]) rfl ⟨1, (V : Int), (i : Int), ⟨#[]⟩, rfl, HBF.out, fun _ => ⟨rfl, rfl, rfl, rfl⟩⟩
attribute [local go_sem ↓] Go.wp_at_zero Go.wp_at_succ
theorem list0 (s : ByteArray) (h : 0 < s.size) : s.data.toList = s[0] :: s.data.toList.drop 1 := by
  have := drop_cons s 0 h
  rwa [List.drop_zero] at this
theorem list1 (s : ByteArray) (h : 1 < s.size) : s.data.toList = s[0] :: s[1] :: s.data.toList.drop 2 := by
  rw [list0 s (by omega), drop_cons s 1 h]; rfl
theorem arr_yes (s : ByteArray) (h : 1 < s.size) (h0 : s[0] = 45) (h1 : s[1] = 62) : arrB s.data.toList = true := by
  rw [list1 s h, h0, h1]; rfl
theorem arr_no (s : ByteArray) (h : 0 < s.size) (hn : ∀ h1 : 1 < s.size, s[0] = 45 → s[1] ≠ 62) : arrB s.data.toList = false := by
  by_cases h1 : 1 < s.size
  · rw [list1 s h1]
    unfold arrB
    refine beq_eq_false_iff_ne.2 fun e => ?_
    simp only [List.take_succ_cons, List.take_zero, List.cons.injEq] at e
    exact hn h1 e.1 e.2.1
  · unfold arrB
    refine beq_eq_false_iff_ne.2 fun e => ?_
    have := congrArg List.length e
    rw [List.length_take, size_list] at this
    simp at this; omega
set_option maxRecDepth 100000 in
set_option maxHeartbeats 4000000 in
theorem rtoken_text (w : World) (s : ByteArray) (c : UInt8) (hs : s.size ≤ 10000) (h0 : 0 < s.size) (hc : s[0] = c) (h : c = 34) (hq : s.size ≤ 1000) : Calls Try.prog 49 #[.string s] w (RTok (tokF s.data.toList) w) := by
  have he : tokF s.data.toList = ⟨2, (S.unqF s.data.toList).1, 0, (S.unqF s.data.toList).2.1, (S.unqF s.data.toList).2.2⟩ := by
    have h1 := list0 s h0
    rw [hc, h] at h1
    rw [h1]; exact tok_text _
  obtain ⟨r, hr⟩ : ∃ r, tokF s.data.toList = r := ⟨_, rfl⟩
  rw [hr] at he ⊢
  clear hr
  have HRR := Lib.hid he
  clear he
  subst hc
  have i0 : (0 : Int) < (s.size : Int) := by omega
  have CD : Hid (∀ wx : World, Calls Try.prog 61 #[.int .u8 (s[0].toNat : Int)] wx fun e w' => e = .returned (.bool (digB s[0])) ∧ wx = w') := fun wx => rdigit_any _ wx
  have CM : Hid (∀ wx : World, Calls Try.prog 63 #[.int .u8 (s[0].toNat : Int)] wx fun e w' => e = .returned (.bool (smaB s[0])) ∧ wx = w') := fun wx => rsmall_any _ wx
  have CG : Hid (∀ wx : World, Calls Try.prog 64 #[.int .u8 (s[0].toNat : Int)] wx fun e w' => e = .returned (.bool (larB s[0])) ∧ wx = w') := fun wx => rlarge_any _ wx
  have CI : Hid (∀ wx : World, Calls Try.prog 66 #[.int .u8 (s[0].toNat : Int)] wx fun e w' => e = .returned (.bool (signL.contains s[0])) ∧ wx = w') := fun wx => rsign_any _ wx
  have hd : digB s[0] = false := by rw [h]; rfl
  rw [hd] at CD
  have q34 : ((s[0].toNat : Int) == 34) = true := u8_eq s[0] 34 h
  have CU : Hid (∀ wx : World, Calls Try.prog 62 #[.string s] wx fun e w' => e = .returned (.tuple #[.string ⟨(S.unqF s.data.toList).1.toArray⟩, .int .i64 ((S.unqF s.data.toList).2.1 : Int), .int .i64 (S.unqF s.data.toList).2.2]) ∧ Below wx.heap.size wx w') := fun wx => S.runquote_any s wx hq
  clear hd h hq
  generalize S.unqF s.data.toList = u at *
  obtain ⟨ut, un, ue⟩ := u
  dsimp only at CU HRR
  have HZ : Hid (Whole (w.alloc (.cells #[.int .i64 0, .string ⟨#[]⟩, .int .i64 0, .int .i64 0] 67)) w.heap.size 67 #[.int .i64 0, .string ⟨#[]⟩, .int .i64 0, .int .i64 0]) := Whole.made _ _ _
  have HB : Hid (Below w.heap.size w (w.alloc (.cells #[.int .i64 0, .string ⟨#[]⟩, .int .i64 0, .int .i64 0] 67))) := (Below.refl _ _).alloc (Nat.le_refl _) _
  go_enter Try.func49, Try.ntmps49
  go_upto_region 17 with (first
    | (go_at_call 61; refine (CD.out _).mono ?_; rintro e w1 ⟨rfl, rfl⟩)
    | (go_at_call 63; refine (CM.out _).mono ?_; rintro e w1 ⟨rfl, rfl⟩)
    | (go_at_call 64; refine (CG.out _).mono ?_; rintro e w1 ⟨rfl, rfl⟩)
    | (go_at_call 66; refine (CI.out _).mono ?_; rintro e w1 ⟨rfl, rfl⟩)
    | (go_at_call 62; refine (CU.out _).mono ?_; rintro e w2 ⟨rfl, hb⟩; have HB2 := Lib.hid hb; clear hb))
  have HZ2 := Lib.hid (HZ.out.below HB2.out HZ.out.lt)
  have HBB := Lib.hid (HB.out.trans (HB2.out.mono (by simp)))
  clear HZ HB HB2 CU
  have HZ := HZ2
  have HB := HBB
  clear HZ2 HBB
  have hr := HRR.out
  subst hr
  clear HRR
  have z0 : w2.cell? ⟨w.heap.size, 0, none⟩ = some (.int .i64 0) := HZ.out.cell 0
  have z1 : w2.cell? ⟨w.heap.size, 1, none⟩ = some (.string ⟨#[]⟩) := HZ.out.cell 1
  have z2 : w2.cell? ⟨w.heap.size, 2, none⟩ = some (.int .i64 0) := HZ.out.cell 2
  have z3 : w2.cell? ⟨w.heap.size, 3, none⟩ = some (.int .i64 0) := HZ.out.cell 3
  have y0 := HZ.out.free 0
  have y1 := HZ.out.free 1
  have y2 := HZ.out.free 2
  have y3 := HZ.out.free 3
  go_wp2_with fail
  have HZF : Hid (Whole ((((w2.setCell ⟨w.heap.size, 0, none⟩ (.int .i64 2)).setCell ⟨w.heap.size, 1, none⟩ (.string ⟨ut.toArray⟩)).setCell ⟨w.heap.size, 2, none⟩ (.int .i64 0)).setCell ⟨w.heap.size, 3, none⟩ (.int .i64 0)) w.heap.size 67 #[.int .i64 2, .string ⟨ut.toArray⟩, .int .i64 0, .int .i64 0]) := (((Whole.put (w := w2) HZ.out 0 (.int .i64 2)).put 1 (.string ⟨ut.toArray⟩)).put 2 (.int .i64 0)).put 3 (.int .i64 0)
  have HBF : Hid (Below w.heap.size w ((((w2.setCell ⟨w.heap.size, 0, none⟩ (.int .i64 2)).setCell ⟨w.heap.size, 1, none⟩ (.string ⟨ut.toArray⟩)).setCell ⟨w.heap.size, 2, none⟩ (.int .i64 0)).setCell ⟨w.heap.size, 3, none⟩ (.int .i64 0))) := (((HB.out.setCell (p := ⟨w.heap.size, 0, none⟩) (Nat.le_refl _) (.int .i64 2)).setCell (p := ⟨w.heap.size, 1, none⟩) (Nat.le_refl _) (.string ⟨ut.toArray⟩)).setCell (p := ⟨w.heap.size, 2, none⟩) (Nat.le_refl _) (.int .i64 0)).setCell (p := ⟨w.heap.size, 3, none⟩) (Nat.le_refl _) (.int .i64 0)
  generalize ((((w2.setCell ⟨w.heap.size, 0, none⟩ (.int .i64 2)).setCell ⟨w.heap.size, 1, none⟩ (.string ⟨ut.toArray⟩)).setCell ⟨w.heap.size, 2, none⟩ (.int .i64 0)).setCell ⟨w.heap.size, 3, none⟩ (.int .i64 0)) = wf at *
  have g0 := HZF.out.cell 0
  have g1 := HZF.out.cell 1
  have g2 := HZF.out.cell 2
  have g3 := HZF.out.cell 3
  simp only [List.getElem?_toArray, List.getElem?_cons_zero, List.getElem?_cons_succ] at g0 g1 g2 g3
  exact bodyPost_ret (v := .tuple #[tkV 2 ⟨ut.toArray⟩ 0 0, .int .i64 (un : Int), .int .i64 ue]) (by simp [results, Try.results49, go_sem, tkV, g0, g1, g2, g3]) rfl ⟨2, 0, (un : Int), ⟨ut.toArray⟩, rfl, HBF.out, fun _ => ⟨rfl, rfl, rfl, rfl⟩⟩
set_option maxRecDepth 100000 in
set_option maxHeartbeats 4000000 in
theorem rtoken_odd (w : World) (s : ByteArray) (c : UInt8) (hs : s.size ≤ 10000) (h0 : 0 < s.size) (hc : s[0] = c) (h1 : digB c = false) (h2 : c ≠ 34) (h3 : (smaB c || larB c) = false) (h : signL.contains c = false) : Calls Try.prog 49 #[.string s] w (RTok (tokF s.data.toList) w) := by
  have he : tokF s.data.toList = ⟨0, [], 0, 0, 10⟩ := by
    rw [list0 s h0, hc]; exact tok_odd c _ h1 h2 h3 h
  obtain ⟨r, hr⟩ : ∃ r, tokF s.data.toList = r := ⟨_, rfl⟩
  rw [hr] at he ⊢
  clear hr
  have HRR := Lib.hid he
  clear he
  subst hc
  have i0 : (0 : Int) < (s.size : Int) := by omega
  have CD : Hid (∀ wx : World, Calls Try.prog 61 #[.int .u8 (s[0].toNat : Int)] wx fun e w' => e = .returned (.bool (digB s[0])) ∧ wx = w') := fun wx => rdigit_any _ wx
  have CM : Hid (∀ wx : World, Calls Try.prog 63 #[.int .u8 (s[0].toNat : Int)] wx fun e w' => e = .returned (.bool (smaB s[0])) ∧ wx = w') := fun wx => rsmall_any _ wx
  have CG : Hid (∀ wx : World, Calls Try.prog 64 #[.int .u8 (s[0].toNat : Int)] wx fun e w' => e = .returned (.bool (larB s[0])) ∧ wx = w') := fun wx => rlarge_any _ wx
  have CI : Hid (∀ wx : World, Calls Try.prog 66 #[.int .u8 (s[0].toNat : Int)] wx fun e w' => e = .returned (.bool (signL.contains s[0])) ∧ wx = w') := fun wx => rsign_any _ wx
  rw [Bool.or_eq_false_iff] at h3
  rw [h1] at CD
  rw [h3.1] at CM
  rw [h3.2] at CG
  rw [h] at CI
  have q34 : ((s[0].toNat : Int) == 34) = false := u8_ne s[0] 34 h2
  have q45 : ((s[0].toNat : Int) == 45) = false := u8_ne s[0] 45 (fun e => by rw [e] at h; exact absurd h (by decide))
  clear h1 h2 h3 h
  have HZ : Hid (Whole (w.alloc (.cells #[.int .i64 0, .string ⟨#[]⟩, .int .i64 0, .int .i64 0] 67)) w.heap.size 67 #[.int .i64 0, .string ⟨#[]⟩, .int .i64 0, .int .i64 0]) := Whole.made _ _ _
  have HB : Hid (Below w.heap.size w (w.alloc (.cells #[.int .i64 0, .string ⟨#[]⟩, .int .i64 0, .int .i64 0] 67))) := (Below.refl _ _).alloc (Nat.le_refl _) _
  go_enter Try.func49, Try.ntmps49
  go_upto_region 33 with (first
    | (go_at_call 61; refine (CD.out _).mono ?_; rintro e w1 ⟨rfl, rfl⟩)
    | (go_at_call 63; refine (CM.out _).mono ?_; rintro e w1 ⟨rfl, rfl⟩)
    | (go_at_call 64; refine (CG.out _).mono ?_; rintro e w1 ⟨rfl, rfl⟩)
    | (go_at_call 66; refine (CI.out _).mono ?_; rintro e w1 ⟨rfl, rfl⟩))
  have hr := HRR.out
  subst hr
  clear HRR
  generalize w.alloc (.cells #[.int .i64 0, .string ⟨#[]⟩, .int .i64 0, .int .i64 0] 67) = w2 at *
  have z0 : w2.cell? ⟨w.heap.size, 0, none⟩ = some (.int .i64 0) := HZ.out.cell 0
  have z1 : w2.cell? ⟨w.heap.size, 1, none⟩ = some (.string ⟨#[]⟩) := HZ.out.cell 1
  have z2 : w2.cell? ⟨w.heap.size, 2, none⟩ = some (.int .i64 0) := HZ.out.cell 2
  have z3 : w2.cell? ⟨w.heap.size, 3, none⟩ = some (.int .i64 0) := HZ.out.cell 3
  have y0 := HZ.out.free 0
  have y1 := HZ.out.free 1
  have y2 := HZ.out.free 2
  have y3 := HZ.out.free 3
  go_wp2_with fail
  have HZF : Hid (Whole ((((w2.setCell ⟨w.heap.size, 0, none⟩ (.int .i64 0)).setCell ⟨w.heap.size, 1, none⟩ (.string ⟨#[]⟩)).setCell ⟨w.heap.size, 2, none⟩ (.int .i64 0)).setCell ⟨w.heap.size, 3, none⟩ (.int .i64 0)) w.heap.size 67 #[.int .i64 0, .string ⟨#[]⟩, .int .i64 0, .int .i64 0]) := (((Whole.put (w := w2) HZ.out 0 (.int .i64 0)).put 1 (.string ⟨#[]⟩)).put 2 (.int .i64 0)).put 3 (.int .i64 0)
  have HBF : Hid (Below w.heap.size w ((((w2.setCell ⟨w.heap.size, 0, none⟩ (.int .i64 0)).setCell ⟨w.heap.size, 1, none⟩ (.string ⟨#[]⟩)).setCell ⟨w.heap.size, 2, none⟩ (.int .i64 0)).setCell ⟨w.heap.size, 3, none⟩ (.int .i64 0))) := (((HB.out.setCell (p := ⟨w.heap.size, 0, none⟩) (Nat.le_refl _) (.int .i64 0)).setCell (p := ⟨w.heap.size, 1, none⟩) (Nat.le_refl _) (.string ⟨#[]⟩)).setCell (p := ⟨w.heap.size, 2, none⟩) (Nat.le_refl _) (.int .i64 0)).setCell (p := ⟨w.heap.size, 3, none⟩) (Nat.le_refl _) (.int .i64 0)
  generalize ((((w2.setCell ⟨w.heap.size, 0, none⟩ (.int .i64 0)).setCell ⟨w.heap.size, 1, none⟩ (.string ⟨#[]⟩)).setCell ⟨w.heap.size, 2, none⟩ (.int .i64 0)).setCell ⟨w.heap.size, 3, none⟩ (.int .i64 0)) = wf at *
  have g0 := HZF.out.cell 0
  have g1 := HZF.out.cell 1
  have g2 := HZF.out.cell 2
  have g3 := HZF.out.cell 3
  simp only [List.getElem?_toArray, List.getElem?_cons_zero, List.getElem?_cons_succ] at g0 g1 g2 g3
  exact bodyPost_ret (v := .tuple #[tkV 0 ⟨#[]⟩ 0 0, .int .i64 0, .int .i64 10]) (by simp [results, Try.results49, go_sem, tkV, g0, g1, g2, g3]) rfl ⟨0, 0, 0, ⟨#[]⟩, rfl, HBF.out, fun h => absurd h (by decide)⟩
set_option maxRecDepth 100000 in
set_option maxHeartbeats 4000000 in
theorem rtoken_arrow (w : World) (s : ByteArray) (c : UInt8) (hs : s.size ≤ 10000) (h0 : 0 < s.size) (hc : s[0] = c) (h1 : 1 < s.size) (h2 : c = 45) (h3 : s[1] = 62) : Calls Try.prog 49 #[.string s] w (RTok (tokF s.data.toList) w) := by
  have he : tokF s.data.toList = ⟨5, [45, 62], 0, 2, 0⟩ := by
    have ha := arr_yes s h1 (hc.trans h2) h3
    have hl := list0 s h0
    rw [hc, h2] at hl
    rw [hl] at ha ⊢
    rw [tok_sign 45 _ rfl (by decide) rfl (by decide), if_pos ha]
  obtain ⟨r, hr⟩ : ∃ r, tokF s.data.toList = r := ⟨_, rfl⟩
  rw [hr] at he ⊢
  clear hr
  have HRR := Lib.hid he
  clear he
  subst hc
  have i0 : (0 : Int) < (s.size : Int) := by omega
  have CD : Hid (∀ wx : World, Calls Try.prog 61 #[.int .u8 (s[0].toNat : Int)] wx fun e w' => e = .returned (.bool (digB s[0])) ∧ wx = w') := fun wx => rdigit_any _ wx
  have CM : Hid (∀ wx : World, Calls Try.prog 63 #[.int .u8 (s[0].toNat : Int)] wx fun e w' => e = .returned (.bool (smaB s[0])) ∧ wx = w') := fun wx => rsmall_any _ wx
  have CG : Hid (∀ wx : World, Calls Try.prog 64 #[.int .u8 (s[0].toNat : Int)] wx fun e w' => e = .returned (.bool (larB s[0])) ∧ wx = w') := fun wx => rlarge_any _ wx
  have CI : Hid (∀ wx : World, Calls Try.prog 66 #[.int .u8 (s[0].toNat : Int)] wx fun e w' => e = .returned (.bool (signL.contains s[0])) ∧ wx = w') := fun wx => rsign_any _ wx
  have hd : digB s[0] = false := by rw [h2]; rfl
  have hm : smaB s[0] = false := by rw [h2]; rfl
  have hg : larB s[0] = false := by rw [h2]; rfl
  rw [hd] at CD
  rw [hm] at CM
  rw [hg] at CG
  have q34 : ((s[0].toNat : Int) == 34) = false := u8_ne s[0] 34 (by rw [h2]; decide)
  have q45 : ((s[0].toNat : Int) == 45) = true := u8_eq s[0] 45 h2
  have q62 : ((s[1].toNat : Int) == 62) = true := u8_eq s[1] 62 h3
  have j1 : (1 : Int) < (s.size : Int) := by omega
  have j1d : decide ((1 : Int) < (s.size : Int)) = true := decide_eq_true j1
  have j1e : decide (1 < s.size) = true := decide_eq_true h1
  clear hd hm hg h2 h3
  have HZ : Hid (Whole (w.alloc (.cells #[.int .i64 0, .string ⟨#[]⟩, .int .i64 0, .int .i64 0] 67)) w.heap.size 67 #[.int .i64 0, .string ⟨#[]⟩, .int .i64 0, .int .i64 0]) := Whole.made _ _ _
  have HB : Hid (Below w.heap.size w (w.alloc (.cells #[.int .i64 0, .string ⟨#[]⟩, .int .i64 0, .int .i64 0] 67))) := (Below.refl _ _).alloc (Nat.le_refl _) _
  go_enter Try.func49, Try.ntmps49
  go_upto_region 30 with (first
    | (go_at_call 61; refine (CD.out _).mono ?_; rintro e w1 ⟨rfl, rfl⟩)
    | (go_at_call 63; refine (CM.out _).mono ?_; rintro e w1 ⟨rfl, rfl⟩)
    | (go_at_call 64; refine (CG.out _).mono ?_; rintro e w1 ⟨rfl, rfl⟩)
    | (go_at_call 66; refine (CI.out _).mono ?_; rintro e w1 ⟨rfl, rfl⟩))
  have hr := HRR.out
  subst hr
  clear HRR
  generalize w.alloc (.cells #[.int .i64 0, .string ⟨#[]⟩, .int .i64 0, .int .i64 0] 67) = w2 at *
  have z0 : w2.cell? ⟨w.heap.size, 0, none⟩ = some (.int .i64 0) := HZ.out.cell 0
  have z1 : w2.cell? ⟨w.heap.size, 1, none⟩ = some (.string ⟨#[]⟩) := HZ.out.cell 1
  have z2 : w2.cell? ⟨w.heap.size, 2, none⟩ = some (.int .i64 0) := HZ.out.cell 2
  have z3 : w2.cell? ⟨w.heap.size, 3, none⟩ = some (.int .i64 0) := HZ.out.cell 3
  have y0 := HZ.out.free 0
  have y1 := HZ.out.free 1
  have y2 := HZ.out.free 2
  have y3 := HZ.out.free 3
  go_wp2_with fail
  have HZF : Hid (Whole ((((w2.setCell ⟨w.heap.size, 0, none⟩ (.int .i64 5)).setCell ⟨w.heap.size, 1, none⟩ (.string ⟨#[45, 62]⟩)).setCell ⟨w.heap.size, 2, none⟩ (.int .i64 0)).setCell ⟨w.heap.size, 3, none⟩ (.int .i64 0)) w.heap.size 67 #[.int .i64 5, .string ⟨#[45, 62]⟩, .int .i64 0, .int .i64 0]) := (((Whole.put (w := w2) HZ.out 0 (.int .i64 5)).put 1 (.string ⟨#[45, 62]⟩)).put 2 (.int .i64 0)).put 3 (.int .i64 0)
  have HBF : Hid (Below w.heap.size w ((((w2.setCell ⟨w.heap.size, 0, none⟩ (.int .i64 5)).setCell ⟨w.heap.size, 1, none⟩ (.string ⟨#[45, 62]⟩)).setCell ⟨w.heap.size, 2, none⟩ (.int .i64 0)).setCell ⟨w.heap.size, 3, none⟩ (.int .i64 0))) := (((HB.out.setCell (p := ⟨w.heap.size, 0, none⟩) (Nat.le_refl _) (.int .i64 5)).setCell (p := ⟨w.heap.size, 1, none⟩) (Nat.le_refl _) (.string ⟨#[45, 62]⟩)).setCell (p := ⟨w.heap.size, 2, none⟩) (Nat.le_refl _) (.int .i64 0)).setCell (p := ⟨w.heap.size, 3, none⟩) (Nat.le_refl _) (.int .i64 0)
  generalize ((((w2.setCell ⟨w.heap.size, 0, none⟩ (.int .i64 5)).setCell ⟨w.heap.size, 1, none⟩ (.string ⟨#[45, 62]⟩)).setCell ⟨w.heap.size, 2, none⟩ (.int .i64 0)).setCell ⟨w.heap.size, 3, none⟩ (.int .i64 0)) = wf at *
  have g0 := HZF.out.cell 0
  have g1 := HZF.out.cell 1
  have g2 := HZF.out.cell 2
  have g3 := HZF.out.cell 3
  simp only [List.getElem?_toArray, List.getElem?_cons_zero, List.getElem?_cons_succ] at g0 g1 g2 g3
  exact bodyPost_ret (v := .tuple #[tkV 5 ⟨#[45, 62]⟩ 0 0, .int .i64 2, .int .i64 0]) (by simp [results, Try.results49, go_sem, tkV, g0, g1, g2, g3]) rfl ⟨5, 0, 2, ⟨#[45, 62]⟩, rfl, HBF.out, fun _ => ⟨rfl, rfl, rfl, rfl⟩⟩
set_option maxRecDepth 100000 in
set_option maxHeartbeats 4000000 in
theorem rtoken_sign (w : World) (s : ByteArray) (c : UInt8) (hs : s.size ≤ 10000) (h0 : 0 < s.size) (hc : s[0] = c) (h1 : digB c = false) (h2 : c ≠ 34) (h3 : (smaB c || larB c) = false) (h : signL.contains c = true) (ha : ∀ h1 : 1 < s.size, c = 45 → s[1] ≠ 62) : Calls Try.prog 49 #[.string s] w (RTok (tokF s.data.toList) w) := by
  have he : tokF s.data.toList = ⟨5, [c], 0, 1, 0⟩ := by
    have hb := arr_no s h0 (by rw [hc]; exact ha)
    have hl := list0 s h0
    rw [hc] at hl
    rw [hl] at hb ⊢
    rw [tok_sign c _ h1 h2 h3 h, if_neg (by rw [hb]; decide)]
  obtain ⟨r, hr⟩ : ∃ r, tokF s.data.toList = r := ⟨_, rfl⟩
  rw [hr] at he ⊢
  clear hr
  have HRR := Lib.hid he
  clear he
  subst hc
  have i0 : (0 : Int) < (s.size : Int) := by omega
  have CD : Hid (∀ wx : World, Calls Try.prog 61 #[.int .u8 (s[0].toNat : Int)] wx fun e w' => e = .returned (.bool (digB s[0])) ∧ wx = w') := fun wx => rdigit_any _ wx
  have CM : Hid (∀ wx : World, Calls Try.prog 63 #[.int .u8 (s[0].toNat : Int)] wx fun e w' => e = .returned (.bool (smaB s[0])) ∧ wx = w') := fun wx => rsmall_any _ wx
  have CG : Hid (∀ wx : World, Calls Try.prog 64 #[.int .u8 (s[0].toNat : Int)] wx fun e w' => e = .returned (.bool (larB s[0])) ∧ wx = w') := fun wx => rlarge_any _ wx
  have CI : Hid (∀ wx : World, Calls Try.prog 66 #[.int .u8 (s[0].toNat : Int)] wx fun e w' => e = .returned (.bool (signL.contains s[0])) ∧ wx = w') := fun wx => rsign_any _ wx
  rw [Bool.or_eq_false_iff] at h3
  rw [h1] at CD
  rw [h3.1] at CM
  rw [h3.2] at CG
  rw [h] at CI
  have q34 : ((s[0].toNat : Int) == 34) = false := u8_ne s[0] 34 h2
  have i1 : (1 : Int) ≤ (s.size : Int) := by omega
  have HX : Hid (s.extract 0 1 = ⟨[s[0]].toArray⟩) := by
    refine ba_ext ?_
    rw [ByteArray.data_extract, Array.toList_extract, list0 s h0]; rfl
  clear h1 h2 h3 h
  have HZ : Hid (Whole (w.alloc (.cells #[.int .i64 0, .string ⟨#[]⟩, .int .i64 0, .int .i64 0] 67)) w.heap.size 67 #[.int .i64 0, .string ⟨#[]⟩, .int .i64 0, .int .i64 0]) := Whole.made _ _ _
  have HB : Hid (Below w.heap.size w (w.alloc (.cells #[.int .i64 0, .string ⟨#[]⟩, .int .i64 0, .int .i64 0] 67))) := (Below.refl _ _).alloc (Nat.le_refl _) _
  by_cases h45 : s[0] = 45
  · have q45 : ((s[0].toNat : Int) == 45) = true := u8_eq s[0] 45 h45
    by_cases h1 : 1 < s.size
    · have q62 : ((s[1].toNat : Int) == 62) = false := u8_ne s[1] 62 (ha h1 h45)
      have j1 : (1 : Int) < (s.size : Int) := by omega
      have j1d : decide ((1 : Int) < (s.size : Int)) = true := decide_eq_true j1
      have j1e : decide (1 < s.size) = true := decide_eq_true h1
      clear h45 ha
      go_enter Try.func49, Try.ntmps49
      go_upto_region 32 with (first
        | (go_at_call 61; refine (CD.out _).mono ?_; rintro e w1 ⟨rfl, rfl⟩)
        | (go_at_call 63; refine (CM.out _).mono ?_; rintro e w1 ⟨rfl, rfl⟩)
        | (go_at_call 64; refine (CG.out _).mono ?_; rintro e w1 ⟨rfl, rfl⟩)
        | (go_at_call 66; refine (CI.out _).mono ?_; rintro e w1 ⟨rfl, rfl⟩))
      have hr := HRR.out
      subst hr
      clear HRR
      generalize w.alloc (.cells #[.int .i64 0, .string ⟨#[]⟩, .int .i64 0, .int .i64 0] 67) = w2 at *
      have z0 : w2.cell? ⟨w.heap.size, 0, none⟩ = some (.int .i64 0) := HZ.out.cell 0
      have z1 : w2.cell? ⟨w.heap.size, 1, none⟩ = some (.string ⟨#[]⟩) := HZ.out.cell 1
      have z2 : w2.cell? ⟨w.heap.size, 2, none⟩ = some (.int .i64 0) := HZ.out.cell 2
      have z3 : w2.cell? ⟨w.heap.size, 3, none⟩ = some (.int .i64 0) := HZ.out.cell 3
      have y0 := HZ.out.free 0
      have y1 := HZ.out.free 1
      have y2 := HZ.out.free 2
      have y3 := HZ.out.free 3
      go_wp2_with fail
      have HZF : Hid (Whole ((((w2.setCell ⟨w.heap.size, 0, none⟩ (.int .i64 5)).setCell ⟨w.heap.size, 1, none⟩ (.string (s.extract 0 1))).setCell ⟨w.heap.size, 2, none⟩ (.int .i64 0)).setCell ⟨w.heap.size, 3, none⟩ (.int .i64 0)) w.heap.size 67 #[.int .i64 5, .string (s.extract 0 1), .int .i64 0, .int .i64 0]) := (((Whole.put (w := w2) HZ.out 0 (.int .i64 5)).put 1 (.string (s.extract 0 1))).put 2 (.int .i64 0)).put 3 (.int .i64 0)
      have HBF : Hid (Below w.heap.size w ((((w2.setCell ⟨w.heap.size, 0, none⟩ (.int .i64 5)).setCell ⟨w.heap.size, 1, none⟩ (.string (s.extract 0 1))).setCell ⟨w.heap.size, 2, none⟩ (.int .i64 0)).setCell ⟨w.heap.size, 3, none⟩ (.int .i64 0))) := (((HB.out.setCell (p := ⟨w.heap.size, 0, none⟩) (Nat.le_refl _) (.int .i64 5)).setCell (p := ⟨w.heap.size, 1, none⟩) (Nat.le_refl _) (.string (s.extract 0 1))).setCell (p := ⟨w.heap.size, 2, none⟩) (Nat.le_refl _) (.int .i64 0)).setCell (p := ⟨w.heap.size, 3, none⟩) (Nat.le_refl _) (.int .i64 0)
      generalize ((((w2.setCell ⟨w.heap.size, 0, none⟩ (.int .i64 5)).setCell ⟨w.heap.size, 1, none⟩ (.string (s.extract 0 1))).setCell ⟨w.heap.size, 2, none⟩ (.int .i64 0)).setCell ⟨w.heap.size, 3, none⟩ (.int .i64 0)) = wf at *
      have g0 := HZF.out.cell 0
      have g1 := HZF.out.cell 1
      have g2 := HZF.out.cell 2
      have g3 := HZF.out.cell 3
      simp only [List.getElem?_toArray, List.getElem?_cons_zero, List.getElem?_cons_succ] at g0 g1 g2 g3
      exact bodyPost_ret (v := .tuple #[tkV 5 (s.extract 0 1) 0 0, .int .i64 1, .int .i64 0]) (by simp [results, Try.results49, go_sem, tkV, g0, g1, g2, g3]) rfl ⟨5, 0, 1, (s.extract 0 1), rfl, HBF.out, fun _ => ⟨rfl, HX.out, rfl, rfl⟩⟩
    · have j1d : decide ((1 : Int) < (s.size : Int)) = false := decide_eq_false (by omega)
      have j1e : decide (1 < s.size) = false := decide_eq_false h1
      clear h45 ha
      go_enter Try.func49, Try.ntmps49
      go_upto_region 32 with (first
        | (go_at_call 61; refine (CD.out _).mono ?_; rintro e w1 ⟨rfl, rfl⟩)
        | (go_at_call 63; refine (CM.out _).mono ?_; rintro e w1 ⟨rfl, rfl⟩)
        | (go_at_call 64; refine (CG.out _).mono ?_; rintro e w1 ⟨rfl, rfl⟩)
        | (go_at_call 66; refine (CI.out _).mono ?_; rintro e w1 ⟨rfl, rfl⟩))
      have hr := HRR.out
      subst hr
      clear HRR
      generalize w.alloc (.cells #[.int .i64 0, .string ⟨#[]⟩, .int .i64 0, .int .i64 0] 67) = w2 at *
      have z0 : w2.cell? ⟨w.heap.size, 0, none⟩ = some (.int .i64 0) := HZ.out.cell 0
      have z1 : w2.cell? ⟨w.heap.size, 1, none⟩ = some (.string ⟨#[]⟩) := HZ.out.cell 1
      have z2 : w2.cell? ⟨w.heap.size, 2, none⟩ = some (.int .i64 0) := HZ.out.cell 2
      have z3 : w2.cell? ⟨w.heap.size, 3, none⟩ = some (.int .i64 0) := HZ.out.cell 3
      have y0 := HZ.out.free 0
      have y1 := HZ.out.free 1
      have y2 := HZ.out.free 2
      have y3 := HZ.out.free 3
      go_wp2_with fail
      have HZF : Hid (Whole ((((w2.setCell ⟨w.heap.size, 0, none⟩ (.int .i64 5)).setCell ⟨w.heap.size, 1, none⟩ (.string (s.extract 0 1))).setCell ⟨w.heap.size, 2, none⟩ (.int .i64 0)).setCell ⟨w.heap.size, 3, none⟩ (.int .i64 0)) w.heap.size 67 #[.int .i64 5, .string (s.extract 0 1), .int .i64 0, .int .i64 0]) := (((Whole.put (w := w2) HZ.out 0 (.int .i64 5)).put 1 (.string (s.extract 0 1))).put 2 (.int .i64 0)).put 3 (.int .i64 0)
      have HBF : Hid (Below w.heap.size w ((((w2.setCell ⟨w.heap.size, 0, none⟩ (.int .i64 5)).setCell ⟨w.heap.size, 1, none⟩ (.string (s.extract 0 1))).setCell ⟨w.heap.size, 2, none⟩ (.int .i64 0)).setCell ⟨w.heap.size, 3, none⟩ (.int .i64 0))) := (((HB.out.setCell (p := ⟨w.heap.size, 0, none⟩) (Nat.le_refl _) (.int .i64 5)).setCell (p := ⟨w.heap.size, 1, none⟩) (Nat.le_refl _) (.string (s.extract 0 1))).setCell (p := ⟨w.heap.size, 2, none⟩) (Nat.le_refl _) (.int .i64 0)).setCell (p := ⟨w.heap.size, 3, none⟩) (Nat.le_refl _) (.int .i64 0)
      generalize ((((w2.setCell ⟨w.heap.size, 0, none⟩ (.int .i64 5)).setCell ⟨w.heap.size, 1, none⟩ (.string (s.extract 0 1))).setCell ⟨w.heap.size, 2, none⟩ (.int .i64 0)).setCell ⟨w.heap.size, 3, none⟩ (.int .i64 0)) = wf at *
      have g0 := HZF.out.cell 0
      have g1 := HZF.out.cell 1
      have g2 := HZF.out.cell 2
      have g3 := HZF.out.cell 3
      simp only [List.getElem?_toArray, List.getElem?_cons_zero, List.getElem?_cons_succ] at g0 g1 g2 g3
      exact bodyPost_ret (v := .tuple #[tkV 5 (s.extract 0 1) 0 0, .int .i64 1, .int .i64 0]) (by simp [results, Try.results49, go_sem, tkV, g0, g1, g2, g3]) rfl ⟨5, 0, 1, (s.extract 0 1), rfl, HBF.out, fun _ => ⟨rfl, HX.out, rfl, rfl⟩⟩
  · have q45 : ((s[0].toNat : Int) == 45) = false := u8_ne s[0] 45 h45
    clear h45 ha
    go_enter Try.func49, Try.ntmps49
    go_upto_region 32 with (first
      | (go_at_call 61; refine (CD.out _).mono ?_; rintro e w1 ⟨rfl, rfl⟩)
      | (go_at_call 63; refine (CM.out _).mono ?_; rintro e w1 ⟨rfl, rfl⟩)
      | (go_at_call 64; refine (CG.out _).mono ?_; rintro e w1 ⟨rfl, rfl⟩)
      | (go_at_call 66; refine (CI.out _).mono ?_; rintro e w1 ⟨rfl, rfl⟩))
    have hr := HRR.out
    subst hr
    clear HRR
    generalize w.alloc (.cells #[.int .i64 0, .string ⟨#[]⟩, .int .i64 0, .int .i64 0] 67) = w2 at *
    have z0 : w2.cell? ⟨w.heap.size, 0, none⟩ = some (.int .i64 0) := HZ.out.cell 0
    have z1 : w2.cell? ⟨w.heap.size, 1, none⟩ = some (.string ⟨#[]⟩) := HZ.out.cell 1
    have z2 : w2.cell? ⟨w.heap.size, 2, none⟩ = some (.int .i64 0) := HZ.out.cell 2
    have z3 : w2.cell? ⟨w.heap.size, 3, none⟩ = some (.int .i64 0) := HZ.out.cell 3
    have y0 := HZ.out.free 0
    have y1 := HZ.out.free 1
    have y2 := HZ.out.free 2
    have y3 := HZ.out.free 3
    go_wp2_with fail
    have HZF : Hid (Whole ((((w2.setCell ⟨w.heap.size, 0, none⟩ (.int .i64 5)).setCell ⟨w.heap.size, 1, none⟩ (.string (s.extract 0 1))).setCell ⟨w.heap.size, 2, none⟩ (.int .i64 0)).setCell ⟨w.heap.size, 3, none⟩ (.int .i64 0)) w.heap.size 67 #[.int .i64 5, .string (s.extract 0 1), .int .i64 0, .int .i64 0]) := (((Whole.put (w := w2) HZ.out 0 (.int .i64 5)).put 1 (.string (s.extract 0 1))).put 2 (.int .i64 0)).put 3 (.int .i64 0)
    have HBF : Hid (Below w.heap.size w ((((w2.setCell ⟨w.heap.size, 0, none⟩ (.int .i64 5)).setCell ⟨w.heap.size, 1, none⟩ (.string (s.extract 0 1))).setCell ⟨w.heap.size, 2, none⟩ (.int .i64 0)).setCell ⟨w.heap.size, 3, none⟩ (.int .i64 0))) := (((HB.out.setCell (p := ⟨w.heap.size, 0, none⟩) (Nat.le_refl _) (.int .i64 5)).setCell (p := ⟨w.heap.size, 1, none⟩) (Nat.le_refl _) (.string (s.extract 0 1))).setCell (p := ⟨w.heap.size, 2, none⟩) (Nat.le_refl _) (.int .i64 0)).setCell (p := ⟨w.heap.size, 3, none⟩) (Nat.le_refl _) (.int .i64 0)
    generalize ((((w2.setCell ⟨w.heap.size, 0, none⟩ (.int .i64 5)).setCell ⟨w.heap.size, 1, none⟩ (.string (s.extract 0 1))).setCell ⟨w.heap.size, 2, none⟩ (.int .i64 0)).setCell ⟨w.heap.size, 3, none⟩ (.int .i64 0)) = wf at *
    have g0 := HZF.out.cell 0
    have g1 := HZF.out.cell 1
    have g2 := HZF.out.cell 2
    have g3 := HZF.out.cell 3
    simp only [List.getElem?_toArray, List.getElem?_cons_zero, List.getElem?_cons_succ] at g0 g1 g2 g3
    exact bodyPost_ret (v := .tuple #[tkV 5 (s.extract 0 1) 0 0, .int .i64 1, .int .i64 0]) (by simp [results, Try.results49, go_sem, tkV, g0, g1, g2, g3]) rfl ⟨5, 0, 1, (s.extract 0 1), rfl, HBF.out, fun _ => ⟨rfl, HX.out, rfl, rfl⟩⟩
attribute [local go_sem ↓] Go.wp_at_zero Go.wp_at_succ
theorem ext_take (s : ByteArray) (k : Nat) : s.extract 0 k = ⟨(s.data.toList.take k).toArray⟩ := by
  refine ba_ext ?_
  rw [ByteArray.data_extract, Array.toList_extract]; simp [List.extract]
set_option maxRecDepth 100000 in
set_option maxHeartbeats 40000000 in
theorem rtoken_name (w : World) (s : ByteArray) (c : UInt8) (hs : s.size ≤ 10000) (h0 : 0 < s.size) (hc : s[0] = c) (h1 : digB c = false) (h2 : c ≠ 34) (hl : (smaB c || larB c) = true) : Calls Try.prog 49 #[.string s] w (RTok (tokF s.data.toList) w) := by
  have he : tokF s.data.toList = if 16 < runN innB s 0 then ⟨0, [], 0, 0, 12⟩ else ⟨nameK c (s.data.toList.take (runN innB s 0)), s.data.toList.take (runN innB s 0), 0, runN innB s 0, 0⟩ := by
    have h3 := list0 s h0
    rw [← take_run]
    unfold runN
    rw [List.drop_zero, h3, hc]; exact tok_name c _ h1 h2 hl
  obtain ⟨r, hr⟩ : ∃ r, tokF s.data.toList = r := ⟨_, rfl⟩
  rw [hr] at he ⊢
  clear hr
  have hin : innB s[0] = true := by rw [hc]; unfold innB; rw [hl]; rfl
  have hrl := runN_le innB s 0 (Nat.zero_le _)
  obtain ⟨N, hN⟩ : ∃ N, runN innB s 0 = N := ⟨_, rfl⟩
  rw [hN] at hrl he
  have HN := Lib.hid hN
  have HRR := Lib.hid he
  have HI := Lib.hid hin
  clear hN he hin
  subst hc
  have i0 : (0 : Int) < (s.size : Int) := by omega
  have q34 : ((s[0].toNat : Int) == 34) = false := u8_ne s[0] 34 h2
  have CD : Hid (∀ wx : World, Calls Try.prog 61 #[.int .u8 (s[0].toNat : Int)] wx fun e w' => e = .returned (.bool false) ∧ wx = w') := fun wx => (rdigit_any _ wx).mono fun e w' ⟨a, b⟩ => ⟨by rw [a, h1], b⟩
  have CM : Hid (∀ wx : World, Calls Try.prog 63 #[.int .u8 (s[0].toNat : Int)] wx fun e w' => e = .returned (.bool (smaB s[0])) ∧ wx = w') := fun wx => rsmall_any _ wx
  have CG : Hid (∀ wx : World, Calls Try.prog 64 #[.int .u8 (s[0].toNat : Int)] wx fun e w' => e = .returned (.bool (larB s[0])) ∧ wx = w') := fun wx => rlarge_any _ wx
  have HZ : Hid (Whole (w.alloc (.cells #[.int .i64 0, .string ⟨#[]⟩, .int .i64 0, .int .i64 0] 67)) w.heap.size 67 #[.int .i64 0, .string ⟨#[]⟩, .int .i64 0, .int .i64 0]) := Whole.made _ _ _
  have HB : Hid (Below w.heap.size w (w.alloc (.cells #[.int .i64 0, .string ⟨#[]⟩, .int .i64 0, .int .i64 0] 67))) := (Below.refl _ _).alloc (Nat.le_refl _) _
  have HLT : Hid (smaB s[0] = true ∨ smaB s[0] = false ∧ larB s[0] = true) := by
    show _ ∨ _
    rcases hq : smaB s[0] with _ | _
    · rw [hq, Bool.false_or] at hl; exact .inr ⟨rfl, hl⟩
    · exact .inl rfl
  clear h1 h2 hl
  generalize hb1 : smaB s[0] = b1 at *
  generalize hb2 : larB s[0] = b2 at *
  have HB2 := Lib.hid hb2
  clear hb1 hb2
  go_enter Try.func49, Try.ntmps49
  go_upto_region 18 with (first
    | (go_at_call 61; refine (CD.out _).mono ?_; rintro e w1 ⟨rfl, rfl⟩)
    | (go_at_call 63; refine (CM.out _).mono ?_; rintro e w1 ⟨rfl, rfl⟩)
    | (go_at_call 64; refine (CG.out _).mono ?_; rintro e w1 ⟨rfl, rfl⟩))
  generalize w.alloc (.cells #[.int .i64 0, .string ⟨#[]⟩, .int .i64 0, .int .i64 0] 67) = w2 at *
  go_cut [70] (fun x wx => x = .bool true ∧ w2 = wx)
  case first =>
    rcases HLT.out with rfl | ⟨rfl, rfl⟩
    all_goals
      go_wp2_with (first
          | (go_at_call 61; refine (CD.out _).mono ?_; rintro e w1 ⟨rfl, rfl⟩)
          | (go_at_call 63; refine (CM.out _).mono ?_; rintro e w1 ⟨rfl, rfl⟩)
          | (go_at_call 64; refine (CG.out _).mono ?_; rintro e w1 ⟨rfl, rfl⟩))
      go_meet
      exact ⟨rfl, rfl⟩
  case rest =>
    obtain ⟨rfl, rfl⟩ := hcut
    clear HLT
    go_wp2_with fail
    go_loopg [6] (s.size - 1) (fun gk ks wr => ∃ k : Nat, ks = .int .i64 (k : Int) ∧ 1 ≤ k ∧ k + gk = s.size ∧ (∀ j, 0 ≤ j → j < k → ∀ h : j < s.size, innB s[j] = true) ∧ w2 = wr)
    case atStart => exact ⟨1, rfl, Nat.le_refl _, by omega, fun j _ h1 h => by obtain rfl : j = 0 := by omega
                                                                               exact HI.out, rfl⟩
    case round =>
      obtain ⟨k, rfl, hk1, hkg, hp, hw⟩ := hrel
      subst hw
      have HP := Lib.hid hp
      clear hp
      obtain ⟨b, hb⟩ : ∃ b : Bool, b = if h : k < s.size then innB s[k] else false := ⟨_, rfl⟩
      have HBV := Lib.hid hb
      clear hb
      go_upto_region 19 with (fail)
      go_cut [98] (fun x wx => x = .bool b ∧ w2 = wx)
      case first =>
        by_cases hlt : k < s.size
        · have d1 : decide ((k : Int) < (s.size : Int)) = true := decide_eq_true (by omega)
          have d1n : decide (k < s.size) = true := decide_eq_true hlt
          have i1 : (0 : Int) ≤ (k : Int) := by omega
          have i2 : (k : Int) < (s.size : Int) := by omega
          have KM : Hid (∀ wx : World, Calls Try.prog 63 #[.int .u8 (s[k].toNat : Int)] wx fun e w' => e = .returned (.bool (smaB s[k])) ∧ wx = w') := fun wx => rsmall_any _ wx
          have KG : Hid (∀ wx : World, Calls Try.prog 64 #[.int .u8 (s[k].toNat : Int)] wx fun e w' => e = .returned (.bool (larB s[k])) ∧ wx = w') := fun wx => rlarge_any _ wx
          have KD : Hid (∀ wx : World, Calls Try.prog 61 #[.int .u8 (s[k].toNat : Int)] wx fun e w' => e = .returned (.bool (digB s[k])) ∧ wx = w') := fun wx => rdigit_any _ wx
          have hq95 : ((s[k].toNat : Int) == 95) = (s[k] == 95) := by
            by_cases h : s[k] = 95
            · exact (show ((s[k].toNat : Int) == 95) = true from u8_eq s[k] 95 h).trans (beq_iff_eq.2 h).symm
            · exact (show ((s[k].toNat : Int) == 95) = false from u8_ne s[k] 95 h).trans (beq_eq_false_iff_ne.2 h).symm
          have hb : b = (smaB s[k] || larB s[k] || digB s[k] || s[k] == 95) := by rw [HBV.out, dif_pos hlt]; rfl
          clear HBV HP
          generalize smaB s[k] = x1 at *
          generalize larB s[k] = x2 at *
          generalize digB s[k] = x3 at *
          generalize (s[k] == 95) = x4 at *
          subst hb
          rcases x1 with _ | _
          · rcases x2 with _ | _
            · rcases x3 with _ | _
              · rcases x4 with _ | _
                · go_wp2_with (first
                      | (go_at_call 63; refine (KM.out _).mono ?_; rintro e w1 ⟨rfl, rfl⟩)
                      | (go_at_call 64; refine (KG.out _).mono ?_; rintro e w1 ⟨rfl, rfl⟩)
                      | (go_at_call 61; refine (KD.out _).mono ?_; rintro e w1 ⟨rfl, rfl⟩))
                  go_meet
                  exact ⟨rfl, rfl⟩
                · go_wp2_with (first
                      | (go_at_call 63; refine (KM.out _).mono ?_; rintro e w1 ⟨rfl, rfl⟩)
                      | (go_at_call 64; refine (KG.out _).mono ?_; rintro e w1 ⟨rfl, rfl⟩)
                      | (go_at_call 61; refine (KD.out _).mono ?_; rintro e w1 ⟨rfl, rfl⟩))
                  go_meet
                  exact ⟨rfl, rfl⟩
              · go_wp2_with (first
                    | (go_at_call 63; refine (KM.out _).mono ?_; rintro e w1 ⟨rfl, rfl⟩)
                    | (go_at_call 64; refine (KG.out _).mono ?_; rintro e w1 ⟨rfl, rfl⟩)
                    | (go_at_call 61; refine (KD.out _).mono ?_; rintro e w1 ⟨rfl, rfl⟩))
                go_meet
                exact ⟨rfl, rfl⟩
            · go_wp2_with (first
                  | (go_at_call 63; refine (KM.out _).mono ?_; rintro e w1 ⟨rfl, rfl⟩)
                  | (go_at_call 64; refine (KG.out _).mono ?_; rintro e w1 ⟨rfl, rfl⟩)
                  | (go_at_call 61; refine (KD.out _).mono ?_; rintro e w1 ⟨rfl, rfl⟩))
              go_meet
              exact ⟨rfl, rfl⟩
          · go_wp2_with (first
                | (go_at_call 63; refine (KM.out _).mono ?_; rintro e w1 ⟨rfl, rfl⟩)
                | (go_at_call 64; refine (KG.out _).mono ?_; rintro e w1 ⟨rfl, rfl⟩)
                | (go_at_call 61; refine (KD.out _).mono ?_; rintro e w1 ⟨rfl, rfl⟩))
            go_meet
            exact ⟨rfl, rfl⟩
        · have d1 : decide ((k : Int) < (s.size : Int)) = false := decide_eq_false (by omega)
          have d1n : decide (k < s.size) = false := decide_eq_false hlt
          have hb : b = false := by rw [HBV.out, dif_neg hlt]
          subst hb
          clear HBV HP
          go_wp2_with fail
          go_meet
          exact ⟨rfl, rfl⟩
      case rest =>
        obtain ⟨rfl, rfl⟩ := hcut
        rcases b with _ | _
        · have HE : Hid (k = 0 + runN innB s 0) := run_len (Nat.zero_le _) (by omega) HP.out (fun h => by have := HBV.out; rw [dif_pos h] at this; exact this.symm)
          clear HBV
          have hkN : k = N := by have := HE.out; have := HN.out; omega
          clear HP HE HN HI
          subst hkN
          by_cases hbig : 16 < k
          · have e1 : decide ((16 : Int) < (k : Int)) = true := decide_eq_true (by omega)
            have e1n : decide (16 < k) = true := decide_eq_true hbig
            have hr := HRR.out
            rw [if_pos hbig] at hr
            subst hr
            clear HRR hbig CG CM CD
            have z0 : w2.cell? ⟨w.heap.size, 0, none⟩ = some (.int .i64 0) := HZ.out.cell 0
            have z1 : w2.cell? ⟨w.heap.size, 1, none⟩ = some (.string ⟨#[]⟩) := HZ.out.cell 1
            have z2 : w2.cell? ⟨w.heap.size, 2, none⟩ = some (.int .i64 0) := HZ.out.cell 2
            have z3 : w2.cell? ⟨w.heap.size, 3, none⟩ = some (.int .i64 0) := HZ.out.cell 3
            have y0 := HZ.out.free 0
            have y1 := HZ.out.free 1
            have y2 := HZ.out.free 2
            have y3 := HZ.out.free 3
            go_wp2_with (fail)
            have HZF : Hid (Whole ((((w2.setCell ⟨w.heap.size, 0, none⟩ (.int .i64 0)).setCell ⟨w.heap.size, 1, none⟩ (.string ⟨#[]⟩)).setCell ⟨w.heap.size, 2, none⟩ (.int .i64 0)).setCell ⟨w.heap.size, 3, none⟩ (.int .i64 0)) w.heap.size 67 #[.int .i64 0, .string ⟨#[]⟩, .int .i64 0, .int .i64 0]) := (((Whole.put (w := w2) HZ.out 0 (.int .i64 0)).put 1 (.string ⟨#[]⟩)).put 2 (.int .i64 0)).put 3 (.int .i64 0)
            have HBF : Hid (Below w.heap.size w ((((w2.setCell ⟨w.heap.size, 0, none⟩ (.int .i64 0)).setCell ⟨w.heap.size, 1, none⟩ (.string ⟨#[]⟩)).setCell ⟨w.heap.size, 2, none⟩ (.int .i64 0)).setCell ⟨w.heap.size, 3, none⟩ (.int .i64 0))) := (((HB.out.setCell (p := ⟨w.heap.size, 0, none⟩) (Nat.le_refl _) (.int .i64 0)).setCell (p := ⟨w.heap.size, 1, none⟩) (Nat.le_refl _) (.string ⟨#[]⟩)).setCell (p := ⟨w.heap.size, 2, none⟩) (Nat.le_refl _) (.int .i64 0)).setCell (p := ⟨w.heap.size, 3, none⟩) (Nat.le_refl _) (.int .i64 0)
            generalize ((((w2.setCell ⟨w.heap.size, 0, none⟩ (.int .i64 0)).setCell ⟨w.heap.size, 1, none⟩ (.string ⟨#[]⟩)).setCell ⟨w.heap.size, 2, none⟩ (.int .i64 0)).setCell ⟨w.heap.size, 3, none⟩ (.int .i64 0)) = wf at *
            have g0 := HZF.out.cell 0
            have g1 := HZF.out.cell 1
            have g2 := HZF.out.cell 2
            have g3 := HZF.out.cell 3
            simp only [List.getElem?_toArray, List.getElem?_cons_zero, List.getElem?_cons_succ] at g0 g1 g2 g3
            exact bodyPost_ret (v := .tuple #[tkV 0 ⟨#[]⟩ 0 0, .int .i64 0, .int .i64 12]) (by simp [results, Try.results49, go_sem, tkV, g0, g1, g2, g3]) rfl ⟨0, 0, 0, ⟨#[]⟩, rfl, HBF.out, fun h => absurd h (by decide)⟩
          · have e1 : decide ((16 : Int) < (k : Int)) = false := decide_eq_false (by omega)
            have e1n : decide (16 < k) = false := decide_eq_false hbig
            have hr := HRR.out
            rw [if_neg hbig] at hr
            have j1 : (0 : Int) ≤ (k : Int) := by omega
            have j2 : (k : Int) ≤ (s.size : Int) := by omega
            clear HRR hbig CM CD
            obtain ⟨X, hX⟩ : ∃ X, s.extract 0 k = X := ⟨_, rfl⟩
            have HX : Hid (X = ⟨(s.data.toList.take k).toArray⟩) := by rw [← hX]; exact ext_take s k
            rcases b2 with _ | _
            · have CK := Lib.hid (fun wx => rkey_any X wx)
              have hkx : X.data.toList = s.data.toList.take k := by rw [HX.out]
              rw [← hkx] at hr
              unfold nameK at hr
              rw [HB2.out, if_neg (by decide)] at hr
              rcases hkey : keyB X.data.toList with _ | _
              · rw [hkey, if_neg (by decide)] at hr
                rw [hkey] at CK
                have HX2 : Hid (X = ⟨X.data.toList.toArray⟩) := ba_list X
                subst hr
                clear hkey hkx HX HB2
                have HX := HX2
                clear HX2
                go_upto_region 24 with (fail)
                have HT3 : Hid (Whole (w2.alloc (Obj.cells #[.int .i64 3, .string X, .int .i64 0, .int .i64 0] 67)) w2.heap.size 67 #[.int .i64 3, .string X, .int .i64 0, .int .i64 0]) := Whole.made _ _ _
                have HZ3 := Lib.hid (HZ.out.alloc (Obj.cells #[.int .i64 3, .string X, .int .i64 0, .int .i64 0] 67))
                have HB3 := Lib.hid (HB.out.alloc (Nat.le_of_lt HZ.out.lt) (Obj.cells #[.int .i64 3, .string X, .int .i64 0, .int .i64 0] 67))
                have HNE : Hid (w.heap.size < w2.heap.size) := HZ.out.lt
                clear HZ HB
                generalize w2.alloc (Obj.cells #[.int .i64 3, .string X, .int .i64 0, .int .i64 0] 67) = w3 at *
                generalize w2.heap.size = T at *
                go_upto_region 28 with (first
                    | (go_at_call 64; refine (CG.out _).mono ?_; rintro e w1 ⟨rfl, rfl⟩)
                    | (go_at_call 65; refine (CK.out _).mono ?_; rintro e w4 ⟨rfl, h4⟩; have H4 := Lib.hid h4; clear h4))
                have HT := Lib.hid (HT3.out.below H4.out HT3.out.lt)
                have HZ := Lib.hid (HZ3.out.below H4.out HZ3.out.lt)
                have HB := Lib.hid (HB3.out.trans (H4.out.mono HB3.out.size))
                clear HT3 HZ3 HB3 H4 CK CG
                generalize w4 = w5 at *
                have t0 : w5.cell? ⟨T, 0, none⟩ = some (.int .i64 3) := HT.out.cell 0
                have t1 : w5.cell? ⟨T, 1, none⟩ = some (.string X) := HT.out.cell 1
                have t2 : w5.cell? ⟨T, 2, none⟩ = some (.int .i64 0) := HT.out.cell 2
                have t3 : w5.cell? ⟨T, 3, none⟩ = some (.int .i64 0) := HT.out.cell 3
                have z0 : w5.cell? ⟨w.heap.size, 0, none⟩ = some (.int .i64 0) := HZ.out.cell 0
                have z1 : w5.cell? ⟨w.heap.size, 1, none⟩ = some (.string ⟨#[]⟩) := HZ.out.cell 1
                have z2 : w5.cell? ⟨w.heap.size, 2, none⟩ = some (.int .i64 0) := HZ.out.cell 2
                have z3 : w5.cell? ⟨w.heap.size, 3, none⟩ = some (.int .i64 0) := HZ.out.cell 3
                have y0 := HZ.out.free 0
                have y1 := HZ.out.free 1
                have y2 := HZ.out.free 2
                have y3 := HZ.out.free 3
                go_wp2_with fail
                have HZF : Hid (Whole ((((w5.setCell ⟨w.heap.size, 0, none⟩ (.int .i64 3)).setCell ⟨w.heap.size, 1, none⟩ (.string X)).setCell ⟨w.heap.size, 2, none⟩ (.int .i64 0)).setCell ⟨w.heap.size, 3, none⟩ (.int .i64 0)) w.heap.size 67 #[.int .i64 3, .string X, .int .i64 0, .int .i64 0]) := (((Whole.put (w := w5) HZ.out 0 (.int .i64 3)).put 1 (.string X)).put 2 (.int .i64 0)).put 3 (.int .i64 0)
                have HBF : Hid (Below w.heap.size w ((((w5.setCell ⟨w.heap.size, 0, none⟩ (.int .i64 3)).setCell ⟨w.heap.size, 1, none⟩ (.string X)).setCell ⟨w.heap.size, 2, none⟩ (.int .i64 0)).setCell ⟨w.heap.size, 3, none⟩ (.int .i64 0))) := (((HB.out.setCell (p := ⟨w.heap.size, 0, none⟩) (Nat.le_refl _) (.int .i64 3)).setCell (p := ⟨w.heap.size, 1, none⟩) (Nat.le_refl _) (.string X)).setCell (p := ⟨w.heap.size, 2, none⟩) (Nat.le_refl _) (.int .i64 0)).setCell (p := ⟨w.heap.size, 3, none⟩) (Nat.le_refl _) (.int .i64 0)
                generalize ((((w5.setCell ⟨w.heap.size, 0, none⟩ (.int .i64 3)).setCell ⟨w.heap.size, 1, none⟩ (.string X)).setCell ⟨w.heap.size, 2, none⟩ (.int .i64 0)).setCell ⟨w.heap.size, 3, none⟩ (.int .i64 0)) = wf at *
                have g0 := HZF.out.cell 0
                have g1 := HZF.out.cell 1
                have g2 := HZF.out.cell 2
                have g3 := HZF.out.cell 3
                simp only [List.getElem?_toArray, List.getElem?_cons_zero, List.getElem?_cons_succ] at g0 g1 g2 g3
                exact bodyPost_ret (v := .tuple #[tkV 3 X 0 0, .int .i64 (k : Int), .int .i64 0]) (by simp [results, Try.results49, go_sem, tkV, g0, g1, g2, g3]) rfl ⟨3, 0, (k : Int), X, rfl, HBF.out, fun _ => ⟨rfl, ba_list X, rfl, rfl⟩⟩
              · rw [hkey, if_pos rfl] at hr
                rw [hkey] at CK
                have HX2 : Hid (X = ⟨X.data.toList.toArray⟩) := ba_list X
                subst hr
                clear hkey hkx HX HB2
                have HX := HX2
                clear HX2
                go_upto_region 24 with (fail)
                have HT3 : Hid (Whole (w2.alloc (Obj.cells #[.int .i64 3, .string X, .int .i64 0, .int .i64 0] 67)) w2.heap.size 67 #[.int .i64 3, .string X, .int .i64 0, .int .i64 0]) := Whole.made _ _ _
                have HZ3 := Lib.hid (HZ.out.alloc (Obj.cells #[.int .i64 3, .string X, .int .i64 0, .int .i64 0] 67))
                have HB3 := Lib.hid (HB.out.alloc (Nat.le_of_lt HZ.out.lt) (Obj.cells #[.int .i64 3, .string X, .int .i64 0, .int .i64 0] 67))
                have HNE : Hid (w.heap.size < w2.heap.size) := HZ.out.lt
                clear HZ HB
                generalize w2.alloc (Obj.cells #[.int .i64 3, .string X, .int .i64 0, .int .i64 0] 67) = w3 at *
                generalize w2.heap.size = T at *
                go_upto_region 27 with (first
                    | (go_at_call 64; refine (CG.out _).mono ?_; rintro e w1 ⟨rfl, rfl⟩)
                    | (go_at_call 65; refine (CK.out _).mono ?_; rintro e w4 ⟨rfl, h4⟩; have H4 := Lib.hid h4; clear h4))
                have HT := Lib.hid (HT3.out.below H4.out HT3.out.lt)
                have HZ := Lib.hid (HZ3.out.below H4.out HZ3.out.lt)
                have HB := Lib.hid (HB3.out.trans (H4.out.mono HB3.out.size))
                clear HT3 HZ3 HB3 H4 CK CG
                have t0 : w4.cell? ⟨T, 0, none⟩ = some (.int .i64 3) := HT.out.cell 0
                have f0 := HT.out.free 0
                go_upto_region 28 with (fail)
                clear t0 f0
                have HT4 := Lib.hid (HT.out.put 0 (.int .i64 6))
                have HZ4 := Lib.hid (HZ.out.far (p := ⟨T, 0, none⟩) (Nat.ne_of_lt HNE.out) (.int .i64 6))
                have HB4 := Lib.hid (HB.out.setCell (p := ⟨T, 0, none⟩) (Nat.le_of_lt HNE.out) (.int .i64 6))
                clear HT HZ HB
                have HT := HT4
                have HZ := HZ4
                have HB := HB4
                clear HT4 HZ4 HB4
                generalize w4.setCell ⟨T, 0, none⟩ (.int .i64 6) = w5 at *
                have t0 : w5.cell? ⟨T, 0, none⟩ = some (.int .i64 6) := HT.out.cell 0
                have t1 : w5.cell? ⟨T, 1, none⟩ = some (.string X) := HT.out.cell 1
                have t2 : w5.cell? ⟨T, 2, none⟩ = some (.int .i64 0) := HT.out.cell 2
                have t3 : w5.cell? ⟨T, 3, none⟩ = some (.int .i64 0) := HT.out.cell 3
                have z0 : w5.cell? ⟨w.heap.size, 0, none⟩ = some (.int .i64 0) := HZ.out.cell 0
                have z1 : w5.cell? ⟨w.heap.size, 1, none⟩ = some (.string ⟨#[]⟩) := HZ.out.cell 1
                have z2 : w5.cell? ⟨w.heap.size, 2, none⟩ = some (.int .i64 0) := HZ.out.cell 2
                have z3 : w5.cell? ⟨w.heap.size, 3, none⟩ = some (.int .i64 0) := HZ.out.cell 3
                have y0 := HZ.out.free 0
                have y1 := HZ.out.free 1
                have y2 := HZ.out.free 2
                have y3 := HZ.out.free 3
                go_wp2_with fail
                have HZF : Hid (Whole ((((w5.setCell ⟨w.heap.size, 0, none⟩ (.int .i64 6)).setCell ⟨w.heap.size, 1, none⟩ (.string X)).setCell ⟨w.heap.size, 2, none⟩ (.int .i64 0)).setCell ⟨w.heap.size, 3, none⟩ (.int .i64 0)) w.heap.size 67 #[.int .i64 6, .string X, .int .i64 0, .int .i64 0]) := (((Whole.put (w := w5) HZ.out 0 (.int .i64 6)).put 1 (.string X)).put 2 (.int .i64 0)).put 3 (.int .i64 0)
                have HBF : Hid (Below w.heap.size w ((((w5.setCell ⟨w.heap.size, 0, none⟩ (.int .i64 6)).setCell ⟨w.heap.size, 1, none⟩ (.string X)).setCell ⟨w.heap.size, 2, none⟩ (.int .i64 0)).setCell ⟨w.heap.size, 3, none⟩ (.int .i64 0))) := (((HB.out.setCell (p := ⟨w.heap.size, 0, none⟩) (Nat.le_refl _) (.int .i64 6)).setCell (p := ⟨w.heap.size, 1, none⟩) (Nat.le_refl _) (.string X)).setCell (p := ⟨w.heap.size, 2, none⟩) (Nat.le_refl _) (.int .i64 0)).setCell (p := ⟨w.heap.size, 3, none⟩) (Nat.le_refl _) (.int .i64 0)
                generalize ((((w5.setCell ⟨w.heap.size, 0, none⟩ (.int .i64 6)).setCell ⟨w.heap.size, 1, none⟩ (.string X)).setCell ⟨w.heap.size, 2, none⟩ (.int .i64 0)).setCell ⟨w.heap.size, 3, none⟩ (.int .i64 0)) = wf at *
                have g0 := HZF.out.cell 0
                have g1 := HZF.out.cell 1
                have g2 := HZF.out.cell 2
                have g3 := HZF.out.cell 3
                simp only [List.getElem?_toArray, List.getElem?_cons_zero, List.getElem?_cons_succ] at g0 g1 g2 g3
                exact bodyPost_ret (v := .tuple #[tkV 6 X 0 0, .int .i64 (k : Int), .int .i64 0]) (by simp [results, Try.results49, go_sem, tkV, g0, g1, g2, g3]) rfl ⟨6, 0, (k : Int), X, rfl, HBF.out, fun _ => ⟨rfl, ba_list X, rfl, rfl⟩⟩
            · have hkx : X.data.toList = s.data.toList.take k := by rw [HX.out]
              rw [← hkx] at hr
              unfold nameK at hr
              rw [HB2.out, if_pos rfl] at hr
              have HX2 : Hid (X = ⟨X.data.toList.toArray⟩) := ba_list X
              subst hr
              clear hkx HX HB2
              have HX := HX2
              clear HX2
              go_upto_region 24 with (fail)
              have HT3 : Hid (Whole (w2.alloc (Obj.cells #[.int .i64 3, .string X, .int .i64 0, .int .i64 0] 67)) w2.heap.size 67 #[.int .i64 3, .string X, .int .i64 0, .int .i64 0]) := Whole.made _ _ _
              have HZ3 := Lib.hid (HZ.out.alloc (Obj.cells #[.int .i64 3, .string X, .int .i64 0, .int .i64 0] 67))
              have HB3 := Lib.hid (HB.out.alloc (Nat.le_of_lt HZ.out.lt) (Obj.cells #[.int .i64 3, .string X, .int .i64 0, .int .i64 0] 67))
              have HNE : Hid (w.heap.size < w2.heap.size) := HZ.out.lt
              clear HZ HB
              generalize w2.alloc (Obj.cells #[.int .i64 3, .string X, .int .i64 0, .int .i64 0] 67) = w3 at *
              generalize w2.heap.size = T at *
              have t0 : w3.cell? ⟨T, 0, none⟩ = some (.int .i64 3) := HT3.out.cell 0
              have f0 := HT3.out.free 0
              go_upto_region 28 with (go_at_call 64; refine (CG.out _).mono ?_; rintro e w1 ⟨rfl, rfl⟩)
              clear t0 f0 CG
              have HT := Lib.hid (HT3.out.put 0 (.int .i64 4))
              have HZ := Lib.hid (HZ3.out.far (p := ⟨T, 0, none⟩) (Nat.ne_of_lt HNE.out) (.int .i64 4))
              have HB := Lib.hid (HB3.out.setCell (p := ⟨T, 0, none⟩) (Nat.le_of_lt HNE.out) (.int .i64 4))
              clear HT3 HZ3 HB3
              generalize w3.setCell ⟨T, 0, none⟩ (.int .i64 4) = w5 at *
              have t0 : w5.cell? ⟨T, 0, none⟩ = some (.int .i64 4) := HT.out.cell 0
              have t1 : w5.cell? ⟨T, 1, none⟩ = some (.string X) := HT.out.cell 1
              have t2 : w5.cell? ⟨T, 2, none⟩ = some (.int .i64 0) := HT.out.cell 2
              have t3 : w5.cell? ⟨T, 3, none⟩ = some (.int .i64 0) := HT.out.cell 3
              have z0 : w5.cell? ⟨w.heap.size, 0, none⟩ = some (.int .i64 0) := HZ.out.cell 0
              have z1 : w5.cell? ⟨w.heap.size, 1, none⟩ = some (.string ⟨#[]⟩) := HZ.out.cell 1
              have z2 : w5.cell? ⟨w.heap.size, 2, none⟩ = some (.int .i64 0) := HZ.out.cell 2
              have z3 : w5.cell? ⟨w.heap.size, 3, none⟩ = some (.int .i64 0) := HZ.out.cell 3
              have y0 := HZ.out.free 0
              have y1 := HZ.out.free 1
              have y2 := HZ.out.free 2
              have y3 := HZ.out.free 3
              go_wp2_with fail
              have HZF : Hid (Whole ((((w5.setCell ⟨w.heap.size, 0, none⟩ (.int .i64 4)).setCell ⟨w.heap.size, 1, none⟩ (.string X)).setCell ⟨w.heap.size, 2, none⟩ (.int .i64 0)).setCell ⟨w.heap.size, 3, none⟩ (.int .i64 0)) w.heap.size 67 #[.int .i64 4, .string X, .int .i64 0, .int .i64 0]) := (((Whole.put (w := w5) HZ.out 0 (.int .i64 4)).put 1 (.string X)).put 2 (.int .i64 0)).put 3 (.int .i64 0)
              have HBF : Hid (Below w.heap.size w ((((w5.setCell ⟨w.heap.size, 0, none⟩ (.int .i64 4)).setCell ⟨w.heap.size, 1, none⟩ (.string X)).setCell ⟨w.heap.size, 2, none⟩ (.int .i64 0)).setCell ⟨w.heap.size, 3, none⟩ (.int .i64 0))) := (((HB.out.setCell (p := ⟨w.heap.size, 0, none⟩) (Nat.le_refl _) (.int .i64 4)).setCell (p := ⟨w.heap.size, 1, none⟩) (Nat.le_refl _) (.string X)).setCell (p := ⟨w.heap.size, 2, none⟩) (Nat.le_refl _) (.int .i64 0)).setCell (p := ⟨w.heap.size, 3, none⟩) (Nat.le_refl _) (.int .i64 0)
              generalize ((((w5.setCell ⟨w.heap.size, 0, none⟩ (.int .i64 4)).setCell ⟨w.heap.size, 1, none⟩ (.string X)).setCell ⟨w.heap.size, 2, none⟩ (.int .i64 0)).setCell ⟨w.heap.size, 3, none⟩ (.int .i64 0)) = wf at *
              have g0 := HZF.out.cell 0
              have g1 := HZF.out.cell 1
              have g2 := HZF.out.cell 2
              have g3 := HZF.out.cell 3
              simp only [List.getElem?_toArray, List.getElem?_cons_zero, List.getElem?_cons_succ] at g0 g1 g2 g3
              exact bodyPost_ret (v := .tuple #[tkV 4 X 0 0, .int .i64 (k : Int), .int .i64 0]) (by simp [results, Try.results49, go_sem, tkV, g0, g1, g2, g3]) rfl ⟨4, 0, (k : Int), X, rfl, HBF.out, fun _ => ⟨rfl, ba_list X, rfl, rfl⟩⟩
        · have hlt : k < s.size := by
            rcases Nat.lt_or_ge k s.size with h | h
            · exact h
            · have := HBV.out; rw [dif_neg (by omega)] at this; cases this
          have HP2 : Hid (∀ j, 0 ≤ j → j < k + 1 → ∀ h : j < s.size, innB s[j] = true) := fun j h1 h2 h => by
            rcases Nat.lt_or_ge j k with h3 | h3
            · exact HP.out j h1 h3 h
            · obtain rfl : j = k := by omega
              have := HBV.out; rw [dif_pos h] at this; exact this.symm
          clear HP HBV HI CM CG CD
          go_wp2_with fail
          go_roundg (gk - 1)
          case measure => omega
          case rel => exact ⟨k + 1, rfl, by omega, by omega, HP2.out, rfl⟩
attribute [local go_sem ↓] Go.wp_at_zero Go.wp_at_succ
theorem rtoken_any (w : World) (s : ByteArray) (hs : s.size ≤ 10000) (h0 : 0 < s.size) (hq : s[0] = 34 → s.size ≤ 1000) : Calls Try.prog 49 #[.string s] w (RTok (tokF s.data.toList) w) := by
  rcases h1 : digB s[0] with _ | _
  · by_cases h2 : s[0] = 34
    · exact rtoken_text w s s[0] hs h0 rfl h2 (hq h2)
    · rcases h3 : (smaB s[0] || larB s[0]) with _ | _
      · rcases h4 : signL.contains s[0] with _ | _
        · exact rtoken_odd w s s[0] hs h0 rfl h1 h2 h3 h4
        · by_cases h5 : ∃ h1 : 1 < s.size, s[0] = 45 ∧ s[1] = 62
          · obtain ⟨h5, h6, h7⟩ := h5
            exact rtoken_arrow w s s[0] hs h0 rfl h5 h6 h7
          · exact rtoken_sign w s s[0] hs h0 rfl h1 h2 h3 h4 (fun a b c => h5 ⟨a, b, c⟩)
      · exact rtoken_name w s s[0] hs h0 rfl h1 h2 h3
  · exact rtoken_num w s s[0] hs h0 rfl h1
theorem rest_list (s : ByteArray) (i : Nat) : (s.extract i s.size).data.toList = s.data.toList.drop i := by
  rw [ByteArray.data_extract, Array.toList_extract]
  simp [List.extract]
  exact List.take_of_length_le (by rw [List.length_drop, size_list]; exact Nat.le_refl _)
set_option maxRecDepth 100000 in
set_option maxHeartbeats 8000000 in
theorem rtokens_any (w : World) (s : ByteArray) (hs : s.size ≤ 10000) (hq : ShortQ s.data.toList) :
    Calls Try.prog 33 #[.string s] w fun e w' => ∃ v, e = .returned (.tuple #[v, .int .i64 ((tokensF s.data.toList).2.1 : Int), .int .i64 (tokensF s.data.toList).2.2]) ∧ ToksAt w' w.heap.size v (tokensF s.data.toList).1 ∧ Below w.heap.size w w' := by
  have HQ := Lib.hid hq
  clear hq
  by_cases hbig : 2000 < s.size
  · have hf : tokensF s.data.toList = ([], 0, 12) := if_pos (by rw [size_list]; exact hbig)
    rw [hf]
    have d1 : decide ((2000 : Int) < (s.size : Int)) = true := decide_eq_true (by omega)
    go_enter Try.func33, Try.ntmps33
    go_wp2_with fail
    go_ret3
    exact ⟨_, rfl, ⟨rfl, .inl ⟨rfl, rfl⟩⟩, Below.refl _ _⟩
  · have d1 : decide ((2000 : Int) < (s.size : Int)) = false := decide_eq_false (by omega)
    have hf : tokensF s.data.toList = runT s.data.toList 0 [] := by
      show (if _ then _ else _) = _
      rw [if_neg (by rw [size_list]; exact hbig)]; rfl
    rw [hf]
    clear hf
    generalize hF : runT s.data.toList 0 [] = F at *
    have HF := Lib.hid hF
    clear hF
    obtain ⟨ts, p, er⟩ := F
    dsimp only
    go_enter Try.func33, Try.ntmps33
    go_wp2_with fail
    go_loopg [5, 6] (s.size + 1) (fun gk out is wr => ∃ (i : Nat) (acc : List Tok), is = .int .i64 (i : Int) ∧ i ≤ s.size ∧ s.size + 1 ≤ gk + i ∧ runT (s.data.toList.drop i) i acc = (ts, p, er) ∧ acc.length ≤ i ∧
      wr.ownsRow w.heap.size 67 4 out acc.length (mkToks acc) ∧ Below w.heap.size w wr)
    case atStart => exact ⟨0, [], rfl, Nat.zero_le _, Nat.le_refl _, HF.out, Nat.le_refl _, ⟨rfl, .inl ⟨rfl, rfl⟩⟩, Below.refl _ _⟩
    case round =>
      obtain ⟨i, acc, rfl, hi, hgk, htk, hai, ho, hbw⟩ := hrel
      obtain ⟨f, rfl⟩ : ∃ f, gk = f + 1 := ⟨gk - 1, by omega⟩
      have HT := Lib.hid htk
      have HO := Lib.hid ho
      have HB := Lib.hid hbw
      clear htk ho hbw HF
      by_cases hlt : i < s.size
      · have d2 : decide ((i : Int) < (s.size : Int)) = true := decide_eq_true (by omega)
        have d2n : decide (i < s.size) = true := decide_eq_true hlt
        have i1 : (0 : Int) ≤ (i : Int) := by omega
        have i2 : (i : Int) < (s.size : Int) := by omega
        have hdc := drop_cons s i hlt
        by_cases hbl : s[i] = 32 ∨ s[i] = 9 ∨ s[i] = 10
        · have HN : Hid (runT (s.data.toList.drop (i + 1)) (i + 1) acc = (ts, p, er)) := by
            show _ = _
            rw [← HT.out]
            have := runT_gap (s.data.toList.drop i) i 1 acc (by rw [List.drop_drop, hdc, gapL_blank _ _ hbl])
            rw [List.drop_drop] at this
            exact this.symm
          clear hdc HT
          rcases hbl with hb | hb | hb
          · have q1 : ((s[i].toNat : Int) == 32) = true := u8_eq s[i] 32 hb
            clear hb
            go_wp2_with fail
            go_roundg f
            case measure => exact Nat.lt_succ_self _
            case rel => exact ⟨i + 1, acc, rfl, by omega, by omega, HN.out, by omega, HO.out, HB.out⟩
          · have q1 : ((s[i].toNat : Int) == 32) = false := u8_ne s[i] 32 (by rw [hb]; decide)
            have q2 : ((s[i].toNat : Int) == 9) = true := u8_eq s[i] 9 hb
            clear hb
            go_wp2_with fail
            go_roundg f
            case measure => exact Nat.lt_succ_self _
            case rel => exact ⟨i + 1, acc, rfl, by omega, by omega, HN.out, by omega, HO.out, HB.out⟩
          · have q1 : ((s[i].toNat : Int) == 32) = false := u8_ne s[i] 32 (by rw [hb]; decide)
            have q2 : ((s[i].toNat : Int) == 9) = false := u8_ne s[i] 9 (by rw [hb]; decide)
            have q3 : ((s[i].toNat : Int) == 10) = true := u8_eq s[i] 10 hb
            clear hb
            go_wp2_with fail
            go_roundg f
            case measure => exact Nat.lt_succ_self _
            case rel => exact ⟨i + 1, acc, rfl, by omega, by omega, HN.out, by omega, HO.out, HB.out⟩
        · have q1 : ((s[i].toNat : Int) == 32) = false := u8_ne s[i] 32 (fun h => hbl (.inl h))
          have q2 : ((s[i].toNat : Int) == 9) = false := u8_ne s[i] 9 (fun h => hbl (.inr (.inl h)))
          have q3 : ((s[i].toNat : Int) == 10) = false := u8_ne s[i] 10 (fun h => hbl (.inr (.inr h)))
          by_cases h35 : s[i] = 35
          · have q4 : ((s[i].toNat : Int) == 35) = true := u8_eq s[i] 35 h35
            have hrp := remN_pos s i hlt h35
            have hrl := remN_le s i hi
            have HN : Hid (runT (s.data.toList.drop (i + remN s i)) (i + remN s i) acc = (ts, p, er)) := by
              show _ = _
              rw [← HT.out]
              have := runT_gap (s.data.toList.drop i) i (remN s i) acc (by
                have h := gapL_rem s[i] (s.data.toList.drop (i + 1)) h35
                rw [← hdc] at h
                exact h)
              rw [List.drop_drop] at this
              exact this.symm
            obtain ⟨R, hR⟩ : ∃ R, remN s i = R := ⟨_, rfl⟩
            rw [hR] at HN hrp hrl
            have HR := Lib.hid hR
            have HNB := Lib.hid hbl
            clear hdc HT hbl h35 hR
            go_wp2_with fail
            go_loopg [6] (s.size + 1 - i) (fun hk ks wx => ∃ k : Nat, ks = .int .i64 (k : Int) ∧ i ≤ k ∧ k ≤ s.size ∧ hk + k = s.size + 1 ∧ (∀ j, i ≤ j → j < k → ∀ h : j < s.size, s[j] ≠ 10) ∧ wr = wx)
            case atStart => exact ⟨i, rfl, Nat.le_refl _, by omega, by omega, fun j h1 h2 => by omega, rfl⟩
            case round =>
              obtain ⟨k, rfl, hk1, hk2, hk3, hp, hw⟩ := hrel
              subst hw
              have HP := Lib.hid hp
              clear hp
              by_cases hlt2 : k < s.size
              · have d3 : decide ((k : Int) < (s.size : Int)) = true := decide_eq_true (by omega)
                have d3n : decide (k < s.size) = true := decide_eq_true hlt2
                have j1 : (0 : Int) ≤ (k : Int) := by omega
                have j2 : (k : Int) < (s.size : Int) := by omega
                by_cases h10 : s[k] = 10
                · have q5 : ((s[k].toNat : Int) != 10) = false := by rw [bne_eq_false_iff_eq]; exact beq_iff_eq.1 (u8_eq s[k] 10 h10)
                  have hkR : k = i + R := by
                    have := run_len (P := fun c => decide (c ≠ 10)) hk1 (by omega) (fun j h1 h2 h => decide_eq_true (HP.out j h1 h2 h)) (fun h => decide_eq_false (fun hn => hn h10))
                    rw [← HR.out]; exact this
                  clear h10 HP HR
                  subst hkR
                  go_wp2_with fail
                  go_roundg f
                  case measure => exact Nat.lt_succ_self _
                  case rel => exact ⟨i + R, acc, rfl, by omega, by omega, HN.out, by omega, HO.out, HB.out⟩
                · have q5 : ((s[k].toNat : Int) != 10) = true := by rw [bne_iff_ne]; exact beq_eq_false_iff_ne.1 (u8_ne s[k] 10 h10)
                  have HP2 : Hid (∀ j, i ≤ j → j < k + 1 → ∀ h : j < s.size, s[j] ≠ 10) := fun j h1 h2 h => by
                    rcases Nat.lt_or_ge j k with h3 | h3
                    · exact HP.out j h1 h3 h
                    · obtain rfl : j = k := by omega
                      exact h10
                  clear h10 HP HR HN
                  go_wp2_with fail
                  go_roundg (gk - 1)
                  case measure => omega
                  case rel => exact ⟨k + 1, rfl, by omega, by omega, by omega, HP2.out, rfl⟩
              · have d3 : decide ((k : Int) < (s.size : Int)) = false := decide_eq_false (by omega)
                have d3n : decide (k < s.size) = false := decide_eq_false hlt2
                have hkR : k = i + R := by
                  have := run_len (P := fun c => decide (c ≠ 10)) hk1 (by omega) (fun j h1 h2 h => decide_eq_true (HP.out j h1 h2 h)) (fun h => absurd h hlt2)
                  rw [← HR.out]; exact this
                clear HP HR
                subst hkR
                go_wp2_with fail
                go_roundg f
                case measure => exact Nat.lt_succ_self _
                case rel => exact ⟨i + R, acc, rfl, by omega, by omega, HN.out, by omega, HO.out, HB.out⟩
          · have q4 : ((s[i].toNat : Int) == 35) = false := u8_ne s[i] 35 h35
            have hg : gapL (s.data.toList.drop i) = 0 := by rw [hdc]; exact gapL_other _ _ hbl h35
            have hrs := rest_list s i
            have hsz : (s.extract i s.size).size = s.size - i := by rw [← size_list, hrs, List.length_drop, size_list]
            have hx0 : ∀ h : 0 < (s.extract i s.size).size, (s.extract i s.size)[0] = s[i] := fun h => by
              have h2 := get_list (s.extract i s.size) 0 h
              rw [hrs, hdc] at h2
              exact (Option.some.inj h2).symm
            have CT : Hid (∀ wx : World, Calls Try.prog 49 #[.string (s.extract i s.size)] wx (RTok (tokF (s.data.toList.drop i)) wx)) := fun wx => by
              have := rtoken_any wx (s.extract i s.size) (by omega) (by omega) (fun h => by
                have h2 := HQ.out i (by rw [hdc]; exact congrArg some ((hx0 (by omega)).symm.trans h))
                rw [size_list] at h2; omega)
              rw [hrs] at this
              exact this
            have hfit := tok_fit (s.data.toList.drop i)
            have he := runT_err (s.data.toList.drop i) i acc hg
            have hmo := runT_more (s.data.toList.drop i) i acc hg
            have hne : s.data.toList.drop i ≠ [] := by rw [hdc]; simp
            rw [List.drop_drop] at hmo
            rw [HT.out] at he hmo
            rw [List.length_drop, size_list] at hfit
            clear hg hrs hsz hx0 hdc HT hbl h35
            unfold RTok at CT
            generalize tokF (s.data.toList.drop i) = r at *
            by_cases h0 : r.e = 0
            · obtain ⟨rk, rt, rn, rl, re⟩ := r
              dsimp only at h0 he hmo hfit CT
              subst h0
              have hk : rk ≠ 0 := fun h => hne (hfit.1.1 ⟨rfl, h⟩)
              have HE := Lib.hid (hmo rfl hk)
              have HF2 := Lib.hid (hfit.2.1 rfl hk)
              have HF3 := Lib.hid (hfit.2.2 rfl)
              clear he hmo hfit hk hne
              go_upto_region 13 with (go_at_call 49; refine (CT.out _).mono ?_; rintro e w1 ⟨kd, nm, n, tx, rfl, h2, h3⟩; obtain ⟨h3a, h3b, h3c, h3d⟩ := h3 rfl; subst h3a h3b h3c h3d; have H2 := Lib.hid h2; clear h2 h3 CT; unfold tkV)
              have HO1 := Lib.hid (own_below HO.out H2.out (Nat.le_refl _))
              have HB1 : Hid (Below w.heap.size w w1) := HB.out.trans (H2.out.mono HB.out.size)
              have HT2 : Hid (Whole (w1.alloc (Obj.cells #[.int .i64 kd, .string ⟨rt.toArray⟩, .int .i64 nm, .int .i64 0] 67)) w1.heap.size 67 #[.int .i64 kd, .string ⟨rt.toArray⟩, .int .i64 nm, .int .i64 0]) := Whole.made _ _ _
              have HO2 := Lib.hid (own_more_alloc HO1.out (Obj.cells #[.int .i64 kd, .string ⟨rt.toArray⟩, .int .i64 nm, .int .i64 0] 67))
              have HB2 := Lib.hid (HB1.out.alloc HB1.out.size (Obj.cells #[.int .i64 kd, .string ⟨rt.toArray⟩, .int .i64 nm, .int .i64 0] 67))
              have HTU : Hid (u5.ownBlock ≠ some w1.heap.size) := fun hh => by have := (HO1.out.lt _ hh).2; omega
              have HBT : Hid (w.heap.size ≤ w1.heap.size) := HB1.out.size
              clear HO HB HO1 HB1 H2
              generalize w1.alloc (Obj.cells #[.int .i64 kd, .string ⟨rt.toArray⟩, .int .i64 nm, .int .i64 0] 67) = w2 at *
              generalize w1.heap.size = T at *
              go_upto_region 15 with (fail)
              have f3 := HT2.out.free 3
              have t3 : w2.cell? ⟨T, 3, none⟩ = some (.int .i64 0) := HT2.out.cell 3
              go_upto_region 16 with (fail)
              clear f3 t3
              have HT3 : Hid (Whole (w2.setCell ⟨T, 3, none⟩ (.int .i64 (i : Int))) T 67 #[.int .i64 kd, .string ⟨rt.toArray⟩, .int .i64 nm, .int .i64 (i : Int)]) := HT2.out.put 3 (.int .i64 (i : Int))
              have HO3 := Lib.hid (own_setCell HO2.out (p := ⟨T, 3, none⟩) HTU.out (.int .i64 (i : Int)))
              have HB3 := Lib.hid (HB2.out.setCell (p := ⟨T, 3, none⟩) HBT.out (.int .i64 (i : Int)))
              clear HO2 HB2 HT2
              generalize w2.setCell ⟨T, 3, none⟩ (.int .i64 (i : Int)) = w3 at *
              have c0 := HT3.out.cell 0
              have c1 := HT3.out.cell 1
              have c2 := HT3.out.cell 2
              have c3 := HT3.out.cell 3
              simp only [List.getElem?_toArray, List.getElem?_cons_zero, List.getElem?_cons_succ] at c0 c1 c2 c3
              have HO4 := Lib.hid (own_more_alloc HO3.out (Obj.cells #[.int .i64 kd, .string ⟨rt.toArray⟩, .int .i64 nm, .int .i64 (i : Int)] 67))
              have HB4 := Lib.hid (HB3.out.alloc HB3.out.size (Obj.cells #[.int .i64 kd, .string ⟨rt.toArray⟩, .int .i64 nm, .int .i64 (i : Int)] 67))
              have hbase := HB4.out.size
              go_upto_region 17 with (at_builtin; refine list_app ty_tok (v := u5) rfl _ _ rfl rfl HO4.out w3.heap.size 1 [.int .i64 kd, .string ⟨rt.toArray⟩, .int .i64 nm, .int .i64 (i : Int)] rfl (Whole.made w3 67 _) rfl (by simp [Value.oneCell']) (by decide) (by omega) (by decide) hbase ?_; intro g' cap' w5 hap; have HAP := Lib.hid hap; clear hap)
              have HO5 := Lib.hid HAP.out.own
              have HB5 := Lib.hid (HAP.out.below HO4.out HB4.out (Nat.le_refl _) hbase)
              clear c0 c1 c2 c3 HO3 HO4 HB3 HB4 HT3 HAP hbase
              have hj1 := HF3.out
              go_wp2_with fail
              go_roundg f
              case measure => exact Nat.lt_succ_self _
              case rel =>
                refine ⟨i + rl, acc ++ [⟨kd, rt, nm, i⟩], rfl, by omega, by have := HF2.out; omega, HE.out.symm, by have := HF2.out; rw [List.length_append, List.length_singleton]; omega, ?_, HB5.out⟩
                rw [List.length_append, mkToks_snoc]
                exact HO5.out
            · have HE := Lib.hid (he h0)
              have q1 : (r.e != 0) = true := bne_iff_ne.2 h0
              clear he hmo hfit h0 hne
              go_upto_region 13 with (go_at_call 49; refine (CT.out _).mono ?_; rintro e w1 ⟨kd, nm, n, tx, rfl, h2, h3⟩; have H2 := Lib.hid h2; clear h2 h3 CT; unfold tkV)
              have HB1 : Hid (Below w.heap.size w w1) := HB.out.trans (H2.out.mono HB.out.size)
              have HB2 := Lib.hid (HB1.out.alloc HB1.out.size (Obj.cells #[.int .i64 kd, .string tx, .int .i64 nm, .int .i64 0] 67))
              generalize w1.alloc (Obj.cells #[.int .i64 kd, .string tx, .int .i64 nm, .int .i64 0] 67) = w2 at *
              go_wp2_with fail
              go_ret3
              have he := HE.out
              injection he with e1 e2
              injection e2 with e2 e3
              subst e1 e2 e3
              exact ⟨_, rfl, ⟨rfl, .inl ⟨rfl, rfl⟩⟩, HB2.out⟩
      · have d2 : decide ((i : Int) < (s.size : Int)) = false := decide_eq_false (by omega)
        have d2n : decide (i < s.size) = false := decide_eq_false hlt
        obtain rfl : i = s.size := by omega
        have HE : Hid ((acc ++ [⟨0, [], 0, s.size⟩], 0, 0) = (ts, p, er)) := by
          show _ = _
          rw [← HT.out, List.drop_eq_nil_of_le (by rw [size_list]; exact Nat.le_refl _), runT_end]
        clear HT
        have HO4 := Lib.hid (own_more_alloc HO.out (Obj.cells #[.int .i64 0, .string ⟨#[]⟩, .int .i64 0, .int .i64 (s.size : Int)] 67))
        have HB4 := Lib.hid (HB.out.alloc HB.out.size (Obj.cells #[.int .i64 0, .string ⟨#[]⟩, .int .i64 0, .int .i64 (s.size : Int)] 67))
        have hbase := HB4.out.size
        go_wp2_with (at_builtin; refine list_app ty_tok (v := u5) rfl _ _ rfl rfl HO4.out wr.heap.size 1 [.int .i64 0, .string ⟨#[]⟩, .int .i64 0, .int .i64 (s.size : Int)] rfl (Whole.made wr 67 _) rfl (by simp [Value.oneCell']) (by decide) (by omega) (by decide) hbase ?_; intro g' cap' w5 hap; have HAP := Lib.hid hap; clear hap)
        have HO5 := Lib.hid HAP.out.own
        have HB5 := Lib.hid (HAP.out.below HO4.out HB4.out (Nat.le_refl _) hbase)
        go_ret3
        have he := HE.out
        injection he with e1 e2
        injection e2 with e2 e3
        subst e1 e2 e3
        refine ⟨_, rfl, ?_, HB5.out⟩
        unfold ToksAt
        rw [List.length_append, mkToks_snoc]
        exact HO5.out
attribute [local go_sem ↓] Go.wp_at_zero Go.wp_at_succ
/-- The cells of a list of tokens. -/
def TokRow (w : World) (A : Option Addr) (ts : List Tok) : Prop := ts = [] ∨ ∃ g, A = some ⟨g, 0, none⟩ ∧ g < w.heap.size ∧
  ∀ k (h : k < ts.length), w.cell? ⟨g, k * 4, none⟩ = some (.int .i64 ts[k].kind) ∧ w.cell? ⟨g, k * 4 + 1, none⟩ = some (.string ⟨ts[k].text.toArray⟩) ∧ w.cell? ⟨g, k * 4 + 2, none⟩ = some (.int .i64 ts[k].num) ∧ w.cell? ⟨g, k * 4 + 3, none⟩ = some (.int .i64 (ts[k].at_ : Int))
theorem TokRow.below {w w' : World} {A : Option Addr} {ts : List Tok} (h : TokRow w A ts) (hb : Below w.heap.size w w') : TokRow w' A ts := by
  rcases h with h | ⟨g, h1, h2, h3⟩
  · exact .inl h
  · refine .inr ⟨g, h1, Nat.lt_of_lt_of_le h2 hb.size, fun k hk => ?_⟩
    obtain ⟨a, b, c, d⟩ := h3 k hk
    exact ⟨(hb.cell (p := ⟨g, _, none⟩) h2).trans a, (hb.cell (p := ⟨g, _, none⟩) h2).trans b, (hb.cell (p := ⟨g, _, none⟩) h2).trans c, (hb.cell (p := ⟨g, _, none⟩) h2).trans d⟩
theorem TokRow.at_ {w : World} {A : Option Addr} {ts : List Tok} (h : TokRow w A ts) {k : Nat} {t : Tok} (hk : ts[k]? = some t) : ∃ g, A = some ⟨g, 0, none⟩ ∧ w.cell? ⟨g, k * 4, none⟩ = some (.int .i64 t.kind) ∧ w.cell? ⟨g, k * 4 + 1, none⟩ = some (.string ⟨t.text.toArray⟩) ∧ w.cell? ⟨g, k * 4 + 2, none⟩ = some (.int .i64 t.num) ∧ w.cell? ⟨g, k * 4 + 3, none⟩ = some (.int .i64 (t.at_ : Int)) := by
  rcases h with h | ⟨g, h1, h2, h3⟩
  · subst h; simp at hk
  · obtain ⟨hl, rfl⟩ := List.getElem?_eq_some_iff.1 hk
    exact ⟨g, h1, h3 k hl⟩
theorem toks_row {w : World} {base : Nat} {v : Value} {ts : List Tok} (h : ToksAt w base v ts) : ∃ A c, v = .slice A ts.length c ∧ TokRow w A ts ∧ ts.length ≤ c ∧ c ≤ maxLen := by
  unfold ToksAt at h
  obtain ⟨A, c, e, h1, h2, h3⟩ := own_form h
  refine ⟨A, c, e, ?_, h3, h2⟩
  rcases ts with _ | ⟨t, ts⟩
  · exact .inl rfl
  · obtain ⟨g, c', e', hb, hl, _⟩ := own_cell h (k := 0) (by simp)
    rw [e] at e'
    simp only [Value.slice.injEq] at e'
    obtain ⟨rfl, _, rfl⟩ := e'
    refine .inr ⟨g, rfl, hl, fun k hk => ?_⟩
    have hg := mkToks_get (t :: ts) k _ (List.getElem?_eq_getElem hk)
    have hx : ∀ o, o < 4 → w.cell? ⟨g, k * 4 + o, none⟩ = (mkToks (t :: ts))[k * 4 + o]? := fun o ho => by
      obtain ⟨g', c', e', _, _, hcell, _⟩ := own_cell h (k := k * 4 + o) (by omega)
      rw [e] at e'
      simp only [Value.slice.injEq, Option.some.injEq, Addr.mk.injEq] at e'
      obtain ⟨⟨rfl, _⟩, _⟩ := e'
      exact hcell
    exact ⟨(hx 0 (by omega)).trans hg.1, (hx 1 (by omega)).trans hg.2.1, (hx 2 (by omega)).trans hg.2.2.1, (hx 3 (by omega)).trans hg.2.2.2⟩
theorem shortQ (l : List UInt8) (h : l.length ≤ 1000) : ShortQ l := fun j _ => by omega
attribute [local go_sem ↓] Go.wp_at_zero Go.wp_at_succ
theorem Toks.at_le {l : List UInt8} {i : Nat} {ts : List Tok} (h : Toks l i ts) : ∀ (k : Nat) (t : Tok), ts[k]? = some t → t.at_ ≤ i + l.length := by
  induction h with
  | fin l i h =>
    intro k t hk
    have hg := gapL_le l
    rcases k with _ | k
    · simp only [List.getElem?_cons_zero, Option.some.injEq] at hk
      subst hk; dsimp only; omega
    · simp at hk
  | one l i ts kd tx nm n hr hk ht ih =>
    intro k t hkt
    have hn := tok_len hr hk
    have hg := gapL_le l
    rw [List.length_drop] at hn
    rcases k with _ | k
    · simp only [List.getElem?_cons_zero, Option.some.injEq] at hkt
      subst hkt; dsimp only; omega
    · simp only [List.getElem?_cons_succ] at hkt
      have := ih k t hkt
      rw [List.length_drop] at this
      omega
end
end Go.Proofs.Ytgjchgmlogbmmaa
