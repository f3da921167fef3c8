/- Small words for slices that a call owns, whatever their elements: appends, and what they leave as it was. -/
import Derived.Test.YtjkbhdocpjekmaaRows
import Derived.WalkKit
import Derived.Deep.AppendLies
import Derived.Test.YtjkbhdocpjekmaaWords
namespace Go.Proofs.Ytjkbhdocpjekmaa
open Go.RowKit
set_option linter.unusedVariables false

/-- A slice type, its elements' type, how many cells and bytes one has. -/
structure ElemTy (t e : TypeId) (size bytes : Nat) : Prop where
  under : Try.prog.underlying t = some (.slice e)
  info : ∃ i z, Try.prog.info? e = some i ∧ i.zero = some z ∧ i.size = size ∧ i.bytes = bytes ∧ z.cells.size = size
  pos : 0 < size
theorem Whole.news {w : World} {g : Nat} {t : TypeId} {news : List Value} (h : Whole w g t news.toArray) : ∀ j u, news[j]? = some u → w.cell? ((⟨g, 0, none⟩ : Addr).add j) = some u := fun j u hj => by
  have e : (⟨g, 0, none⟩ : Addr).add j = ⟨g, j, none⟩ := by unfold Addr.add; split <;> simp_all
  rw [e, h.cell j]; simpa using hj
/-- What an append leaves: the value owns the row, which is the old one, or new. -/
def Appended (w : World) (base : Nat) (e : TypeId) (size : Nat) (v : Value) (n : Nat) (xs : List Value) (v' : Value) (w' : World) : Prop :=
  w'.ownsRow base e size v' n xs ∧ w.grownBy w' v.ownBlock ∧ (∀ k, v'.ownBlock = some k → v.ownBlock = some k ∨ k = w.heap.size)
theorem list_app {t e : TypeId} {size bytes : Nat} (T : ElemTy t e size bytes) {ops : Array Oper} {rest : List Oper} {o : Oper} {a : Act} {Q : Exit → Act → World → Prop} {w : World} {base : Nat} {v : Value} {n : Nat} {xs : List Value} (hgd : o.guard = none) (s x : Operand)
    (ho : o.op = .call { callee := .builtin .append, args := #[s, x], argTypes := #[t, t] }) (hs : a.eval s = v) (hown : w.ownsRow base e size v n xs) (g m : Nat) (news : List Value) (hx : a.eval x = .slice (some ⟨g, 0, none⟩) m m)
    (hnew : Whole w g e news.toArray) (hl : news.length = m * size) (h1 : ∀ u ∈ news, u.oneCell' = true) (hm : 0 < m) (hn : n + m ≤ 1000000000) (hb : bytes ≤ 1000) (hbase : base ≤ w.heap.size)
    (h : ∀ g' cap w', Appended w base e size v (n + m) (xs ++ news) (.slice (some ⟨g', 0, none⟩) (n + m) cap) w' → wpList Try.prog ops Q rest (a.put o.dst (.slice (some ⟨g', 0, none⟩) (n + m) cap)) w') : wpList Try.prog ops Q (o :: rest) a w := by
  obtain ⟨i, z, hi, hz, hsz, hby, hzs⟩ := T.info
  refine wpList_append_lies w hgd s x t ho base e i z size bytes T.under hi hz hsz hby hzs T.pos v n xs hs hown ⟨g, 0, none⟩ m m news hx hl hnew.news h1 hm (by unfold maxLen; omega) ?_ hbase _ rfl ?_
  · have := Nat.mul_le_mul hn hb; omega
  · intro g' cap w' ho' hg' hat _
    exact h _ _ w' ⟨ho', hg', fun k hk => by
      have : g' = k := by simpa [Value.ownBlock] using hk
      subst this; exact hat⟩
theorem step_app {t e : TypeId} {size bytes : Nat} (T : ElemTy t e size bytes) {ops : Array Oper} {o : Oper} {a : Act} {K : Act → World → Prop} {Q : Exit → Act → World → Prop} {E : Prop} {w : World} {base : Nat} {v : Value} {n : Nat} {xs : List Value} (hgd : o.guard = none) (s x : Operand)
    (ho : o.op = .call { callee := .builtin .append, args := #[s, x], argTypes := #[t, t] }) (hs : a.eval s = v) (hown : w.ownsRow base e size v n xs) (g m : Nat) (news : List Value) (hx : a.eval x = .slice (some ⟨g, 0, none⟩) m m)
    (hnew : Whole w g e news.toArray) (hl : news.length = m * size) (h1 : ∀ u ∈ news, u.oneCell' = true) (hm : 0 < m) (hn : n + m ≤ 1000000000) (hb : bytes ≤ 1000) (hbase : base ≤ w.heap.size)
    (h : ∀ g' cap w', Appended w base e size v (n + m) (xs ++ news) (.slice (some ⟨g', 0, none⟩) (n + m) cap) w' → K (a.put o.dst (.slice (some ⟨g', 0, none⟩) (n + m) cap)) w') :
    if Region.wanted o (yielded ops a.tmps) = true then Oper.wp Try.prog o a w K Q else E := by
  obtain ⟨i, z, hi, hz, hsz, hby, hzs⟩ := T.info
  refine step_append_lies w hgd s x t ho base e i z size bytes T.under hi hz hsz hby hzs T.pos v n xs hs hown ⟨g, 0, none⟩ m m news hx hl hnew.news h1 hm (by unfold maxLen; omega) ?_ hbase _ rfl ?_
  · have := Nat.mul_le_mul hn hb; omega
  · intro g' cap w' ho' hg' hat _
    exact h _ _ w' ⟨ho', hg', fun k hk => by
      have : g' = k := by simpa [Value.ownBlock] using hk
      subst this; exact hat⟩
section
variable {w w' : World} {base n size : Nat} {e : TypeId} {v v' : Value} {xs : List Value}
theorem heap_lt {g : Nat} {o : Obj} (h : w.heap[g]? = some o) : g < w.heap.size := by
  rcases Nat.lt_or_ge g w.heap.size with h2 | h2
  · exact h2
  · rw [Array.getElem?_eq_none h2] at h; cases h
/-- A block that is not of the row's elements is as it was. -/
theorem Appended.stays (h : Appended w base e size v n xs v' w') {n0 : Nat} {xs0 : List Value} (ho : w.ownsRow base e size v n0 xs0) {g : Nat} {t : TypeId} {cs : Array Value} (hw : Whole w g t cs) (ht : t ≠ e) : Whole w' g t cs := by
  refine (h.2.1.block g hw.lt ?_).trans hw
  intro hh
  rcases ho.2 with ⟨rfl, _⟩ | ⟨g2, cap, cur, rfl, _, hh2, _⟩
  · cases hh
  · have : g = g2 := by simpa [Value.ownBlock] using hh
    subst this
    unfold Whole at hw; rw [hw] at hh2
    simp only [Option.some.injEq, Obj.cells.injEq] at hh2
    exact ht hh2.2.1
/-- A block that is no row of this value is as it was. -/
theorem Appended.far (h : Appended w base e size v n xs v' w') {g : Nat} {t : TypeId} {cs : Array Value} (hw : Whole w g t cs) (hne : v.ownBlock ≠ some g) : Whole w' g t cs :=
  (h.2.1.block g hw.lt (Ne.symm hne)).trans hw
theorem Appended.own (h : Appended w base e size v n xs v' w') : w'.ownsRow base e size v' n xs := h.1
theorem Appended.grows (h : Appended w base e size v n xs v' w') : w.heap.size ≤ w'.heap.size := h.2.1.size
theorem Appended.below (h : Appended w base e size v n xs v' w') {n0 : Nat} {xs0 : List Value} (ho : w.ownsRow base e size v n0 xs0) {B : Nat} {a : World} (hB : Below B a w) (hb : B ≤ base) (hs : base ≤ w.heap.size) : Below B a w' :=
  hB.grown h.2.1 (by omega) (fun k hk => by have := (ho.lt k hk).1; omega)
/-- A row owned by another value is as it was. -/
theorem Appended.other (h : Appended w base e size v n xs v' w') {b2 n2 s2 : Nat} {e2 : TypeId} {u : Value} {ys : List Value} (hu : w.ownsRow b2 e2 s2 u n2 ys) (hne : ∀ g, u.ownBlock = some g → v.ownBlock ≠ some g) : w'.ownsRow b2 e2 s2 u n2 ys := by
  refine hu.kept h.2.1 ?_
  rcases hq : u.ownBlock with _ | g
  · exact .inl rfl
  · exact .inr (fun hh => hne g hq hh.symm)
theorem own_ne_type {b2 n2 s2 : Nat} {e2 : TypeId} {u : Value} {ys : List Value} (ho : w.ownsRow base e size v n xs) (hu : w.ownsRow b2 e2 s2 u n2 ys) (ht : e2 ≠ e) : ∀ g, u.ownBlock = some g → v.ownBlock ≠ some g := fun g hg hv => by
  rcases ho.2 with ⟨rfl, _⟩ | ⟨g1, c1, cur1, rfl, _, h1, _⟩
  · cases hv
  rcases hu.2 with ⟨rfl, _⟩ | ⟨g2, c2, cur2, rfl, _, h2, _⟩
  · cases hg
  have e1 : g1 = g := by simpa [Value.ownBlock] using hv
  have e2 : g2 = g := by simpa [Value.ownBlock] using hg
  subst e1; subst e2
  rw [h1] at h2
  simp only [Option.some.injEq, Obj.cells.injEq] at h2
  exact ht h2.2.1.symm
theorem own_whole_ne {g : Nat} {t : TypeId} {cs : Array Value} (ho : w.ownsRow base e size v n xs) (hw : Whole w g t cs) (ht : t ≠ e) : v.ownBlock ≠ some g := fun hv => by
  rcases ho.2 with ⟨rfl, _⟩ | ⟨g1, c1, cur1, rfl, _, h1, _⟩
  · cases hv
  have e1 : g1 = g := by simpa [Value.ownBlock] using hv
  subst e1
  unfold Whole at hw; rw [hw] at h1
  simp only [Option.some.injEq, Obj.cells.injEq] at h1
  exact ht h1.2.1
/-- A row is as it was where its block is. -/
theorem own_of_block (ho : w.ownsRow base e size v n xs) (h : ∀ g, v.ownBlock = some g → w'.heap[g]? = w.heap[g]?) : w'.ownsRow base e size v n xs := by
  refine ⟨ho.1, ?_⟩
  rcases ho.2 with h1 | ⟨g, c, cur, rfl, hb, hh, hr⟩
  · exact .inl h1
  · exact .inr ⟨g, c, cur, rfl, hb, (h g rfl).trans hh, hr⟩
theorem own_setCell (ho : w.ownsRow base e size v n xs) {p : Addr} (hp : v.ownBlock ≠ some p.block) (u : Value) : (w.setCell p u).ownsRow base e size v n xs :=
  own_of_block ho fun g hg => Below.heap_setCell w p u g (fun hh => hp (hh ▸ hg))
theorem own_below (ho : w.ownsRow base e size v n xs) {B : Nat} (hb : Below B w w') (hB : w.heap.size ≤ B) : w'.ownsRow base e size v n xs :=
  own_of_block ho fun g hg => hb.block g (Nat.lt_of_lt_of_le (ho.lt g hg).2 hB)
theorem own_drew (ho : w.ownsRow base e size v n xs) : w.drew.ownsRow base e size v n xs := ho
theorem own_more {b2 : Nat} (ho : w.ownsRow base e size v n xs) (h : b2 ≤ base) : w.ownsRow b2 e size v n xs := by
  refine ⟨ho.1, ?_⟩
  rcases ho.2 with h1 | ⟨g, c, cur, rfl, hb, hr⟩
  · exact .inl h1
  · exact .inr ⟨g, c, cur, rfl, by omega, hr⟩
/-- The cells of a row that is owned. -/
theorem own_cell (ho : w.ownsRow base e size v n xs) {k : Nat} (hk : k < n * size) : ∃ g c, v = .slice (some ⟨g, 0, none⟩) n c ∧ base ≤ g ∧ g < w.heap.size ∧ w.cell? ⟨g, k, none⟩ = xs[k]? ∧ w.frozen? ⟨g, k, none⟩ = false := by
  rcases ho.2 with ⟨rfl, rfl⟩ | ⟨g, c, cur, rfl, hb, hh, hn, hc, hs, ht⟩
  · omega
  · refine ⟨g, c, rfl, hb, heap_lt hh, ?_, by simp [World.frozen?, hh]⟩
    rw [cell_of_row w g k cur e (0, 0) hh, ← ht, List.getElem?_take, if_pos hk, Array.getElem?_toList]
theorem own_form (ho : w.ownsRow base e size v n xs) : ∃ A c, v = .slice A n c ∧ (∀ a, A = some a → ∃ g, a = ⟨g, 0, none⟩ ∧ base ≤ g ∧ g < w.heap.size) ∧ c ≤ maxLen ∧ n ≤ c := by
  rcases ho.2 with ⟨rfl, rfl⟩ | ⟨g, c, cur, rfl, hb, hh, hn, hc, _⟩
  · exact ⟨none, 0, rfl, (fun a ha => by cases ha), by unfold maxLen; omega, by omega⟩
  · exact ⟨_, c, rfl, fun a ha => by cases ha; exact ⟨g, rfl, hb, heap_lt hh⟩, hc, hn⟩
end
theorem cell_far {w : World} {p q : Addr} {u v : Value} (h : w.cell? q = some v) (hne : q.block ≠ p.block) : (w.setCell p u).cell? q = some v := by
  rw [← h]; exact World.cell?_of_block (Below.heap_setCell w p u q.block hne)
theorem Below.whole {B : Nat} {w w' : World} (h : Below B w w') {g : Nat} {t : TypeId} {cs : Array Value} (hw : Whole w g t cs) (hg : g < B) : Whole w' g t cs := hw.below h hg
/-- A block of the call's own at G, whole; what lies below it is as it was. -/
def BoxAt (w2 : World) (G : Nat) (t : TypeId) (cs : Array Value) (wr : World) : Prop := Below G w2 wr ∧ Whole wr G t cs ∧ G + 1 ≤ wr.heap.size
section
variable {w2 wr w' : World} {G : Nat} {t e : TypeId} {cs : Array Value} {size n n0 : Nat} {v v' : Value} {xs xs0 : List Value}
theorem BoxAt.cell (h : BoxAt w2 G t cs wr) (i : Nat) : wr.cell? ⟨G, i, none⟩ = cs[i]? := h.2.1.cell i
theorem BoxAt.free (h : BoxAt w2 G t cs wr) (i : Nat) : wr.frozen? ⟨G, i, none⟩ = false := h.2.1.free i
theorem BoxAt.alloc (h : BoxAt w2 G t cs wr) (o : Obj) : BoxAt w2 G t cs (wr.alloc o) := ⟨h.1.alloc (by have := h.2.2; omega) _, h.2.1.alloc _, by have := h.2.2; simp; omega⟩
theorem BoxAt.drew (h : BoxAt w2 G t cs wr) : BoxAt w2 G t cs wr.drew := ⟨h.1.drew, h.2.1, h.2.2⟩
theorem BoxAt.start (h : BoxAt w2 G t cs wr) : BoxAt wr G t cs wr := ⟨Below.refl _ _, h.2.1, h.2.2⟩
theorem BoxAt.then_ {w3 : World} {cs' : Array Value} (h : BoxAt w2 G t cs wr) (k : BoxAt wr G t cs' w3) : BoxAt w2 G t cs' w3 := ⟨h.1.trans k.1, k.2.1, k.2.2⟩
theorem BoxAt.made (w : World) (t : TypeId) (cs : Array Value) : BoxAt w w.heap.size t cs (w.alloc (.cells cs t)) := ⟨(Below.refl _ _).alloc (Nat.le_refl _) _, Whole.made _ _ _, by simp⟩
/-- Behind an append to a row that is not of the box's type. -/
theorem BoxAt.app (h : BoxAt w2 G t cs wr) (ha : Appended wr (G + 1) e size v n xs v' w') (ho : wr.ownsRow (G + 1) e size v n0 xs0) (he : t ≠ e) : BoxAt w2 G t cs w' :=
  ⟨ha.below ho h.1 (by omega) h.2.2, ha.stays ho h.2.1 he, Nat.le_trans h.2.2 ha.grows⟩
theorem BoxAt.put (h : BoxAt w2 G t cs wr) (i : Nat) (u : Value) : BoxAt w2 G t (cs.setIfInBounds i u) (wr.setCell ⟨G, i, none⟩ u) :=
  ⟨h.1.setCell (Nat.le_refl _) _, h.2.1.put i u, by have := h.2.2; simp [World.setCell]; omega⟩
theorem BoxAt.own_put (_h : BoxAt w2 G t cs wr) {o : Nat} {u : Value} (ho : wr.ownsRow (G + 1) e size v n xs) : (wr.setCell ⟨G, o, none⟩ u).ownsRow (G + 1) e size v n xs :=
  own_setCell ho (fun hh => by have := (ho.lt _ hh).1; simp at this; omega) u
theorem BoxAt.below (h : BoxAt w2 G t cs wr) {B : Nat} (hb : Below B wr w') (hB : G < B) : BoxAt w2 G t cs w' := ⟨h.1.trans (hb.mono (by omega)), h.2.1.below hb hB, Nat.le_trans h.2.2 hb.size⟩
end
theorem hk_cell {w0 wr w' : World} {B b o : Nat} (h : Below B w0 wr) (h' : Below B w0 w') (hb : b < B) : w'.cell? ⟨b, o, none⟩ = wr.cell? ⟨b, o, none⟩ :=
  (h'.cell (p := ⟨b, o, none⟩) hb).trans (h.cell (p := ⟨b, o, none⟩) hb).symm
end Go.Proofs.Ytjkbhdocpjekmaa
