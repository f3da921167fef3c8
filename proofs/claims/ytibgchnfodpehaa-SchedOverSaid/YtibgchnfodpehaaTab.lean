/- Tables of threads, by the program and by the document: what their memory holds. -/
import Derived.Test.YtibgchnfodpehaaMem
import Derived.Deep.RegionHeld3
import Derived.Deep.RegionLaw
import Derived.Deep.DrawnRows
import Derived.StillTailTactics
import Derived.Deep.QuietTactic
import Derived.BigQuiet
import Derived.Outline
import Derived.Lib.Hide
namespace Go.Proofs.Ytibgchnfodpehaa
open Go.RowKit
set_option linter.unusedVariables false

theorem info_parts {e : TypeId} {z : Value} {size bytes : Nat} (h : (Try.prog.info? e).map (fun i => (i.zero, i.size, i.bytes)) = some (some z, size, bytes)) : ∃ i, Try.prog.info? e = some i ∧ i.zero = some z ∧ i.size = size ∧ i.bytes = bytes := by
  rcases hq : Try.prog.info? e with _ | i
  · rw [hq] at h; cases h
  · rw [hq] at h
    simp only [Option.map_some, Option.some.injEq, Prod.mk.injEq] at h
    exact ⟨i, rfl, h.1, h.2.1, h.2.2⟩
theorem elemTy {t e : TypeId} {z : Value} {size bytes : Nat} (hu : Try.prog.underlying t = some (.slice e)) (hi : (Try.prog.info? e).map (fun i => (i.zero, i.size, i.bytes)) = some (some z, size, bytes)) (hz : z.cells.size = size) (hp : 0 < size) : ElemTy t e size bytes := by
  obtain ⟨i0, h1, h2, h3, h4⟩ := info_parts hi
  exact ⟨hu, ⟨i0, z, h1, h2, h3, h4, hz⟩, hp⟩
theorem ty_ints : ElemTy 22 3 1 8 := elemTy (z := .int .i64 0) Try.underlying22 (by kernel_rfl) rfl (by decide)
theorem ty_thr : ElemTy 50 54 2 32 := elemTy (z := .agg #[.int .i64 0, .slice none 0 0]) Try.underlying50 (by kernel_rfl) rfl (by decide)
theorem ty_rthr : ElemTy 36 59 3 32 := elemTy (z := .agg #[.bool false, .bool false, .slice none 0 0]) Try.underlying36 (by kernel_rfl) rfl (by decide)

inductive Kd
  | ready
  | waits
  | over
  deriving DecidableEq
structure Thr where
  k : Kd
  vars : List Int
abbrev Tb := List Thr
def thr0 : Thr := ⟨.ready, []⟩
def nilV : Value := .slice none 0 0
def kN : Kd → Int
  | .ready => 0
  | .waits => 1
  | .over => 2
def isOver (k : Kd) : Bool := decide (k = .over)
def isWaits (k : Kd) : Bool := decide (k = .waits)
def pCells : Tb → List Value → List Value
  | x :: L, u :: us => .int .i64 (kN x.k) :: u :: pCells L us
  | _, _ => []
def rCells : Tb → List Value → List Value
  | x :: L, u :: us => .bool (isOver x.k) :: .bool (isWaits x.k) :: u :: rCells L us
  | _, _ => []
theorem pCells_snoc : ∀ (L : Tb) (us : List Value) (x : Thr) (u : Value), us.length = L.length → pCells (L ++ [x]) (us ++ [u]) = pCells L us ++ [.int .i64 (kN x.k), u]
  | [], [], _, _, _ => rfl
  | [], _ :: _, _, _, h => by simp at h
  | _ :: _, [], _, _, h => by simp at h
  | c :: L, v :: us, x, u, h => by
    have := pCells_snoc L us x u (by simpa using h)
    simp [pCells, this]
theorem rCells_snoc : ∀ (L : Tb) (us : List Value) (x : Thr) (u : Value), us.length = L.length → rCells (L ++ [x]) (us ++ [u]) = rCells L us ++ [.bool (isOver x.k), .bool (isWaits x.k), u]
  | [], [], _, _, _ => rfl
  | [], _ :: _, _, _, h => by simp at h
  | _ :: _, [], _, _, h => by simp at h
  | c :: L, v :: us, x, u, h => by
    have := rCells_snoc L us x u (by simpa using h)
    simp [rCells, this]
theorem pCells_get : ∀ (L : Tb) (us : List Value) (k : Nat), us.length = L.length → k < L.length →
    (pCells L us)[k * 2]? = some (.int .i64 (kN (L.getD k thr0).k)) ∧ (pCells L us)[k * 2 + 1]? = some (us.getD k nilV)
  | [], _, k, _, h => absurd h (by simp)
  | _ :: _, [], _, h, _ => by simp at h
  | b :: bs, v :: vs, 0, _, _ => ⟨rfl, rfl⟩
  | b :: bs, v :: vs, k + 1, hl, h => by
    have := pCells_get bs vs k (by simpa using hl) (by simpa using h)
    rw [show (k + 1) * 2 = k * 2 + 2 from by omega]
    simpa [pCells] using this
theorem rCells_get : ∀ (L : Tb) (us : List Value) (k : Nat), us.length = L.length → k < L.length →
    (rCells L us)[k * 3]? = some (.bool (isOver (L.getD k thr0).k)) ∧ (rCells L us)[k * 3 + 1]? = some (.bool (isWaits (L.getD k thr0).k)) ∧ (rCells L us)[k * 3 + 2]? = some (us.getD k nilV)
  | [], _, k, _, h => absurd h (by simp)
  | _ :: _, [], _, h, _ => by simp at h
  | b :: bs, v :: vs, 0, _, _ => ⟨rfl, rfl, rfl⟩
  | b :: bs, v :: vs, k + 1, hl, h => by
    have := rCells_get bs vs k (by simpa using hl) (by simpa using h)
    rw [show (k + 1) * 3 = k * 3 + 3 from by omega]
    simpa [rCells] using this
theorem pCells_set : ∀ (L : Tb) (us : List Value) (k : Nat) (x : Thr) (u : Value), us.length = L.length → k < L.length →
    pCells (L.set k x) (us.set k u) = ((pCells L us).set (k * 2) (.int .i64 (kN x.k))).set (k * 2 + 1) u
  | [], _, k, _, _, _, h => absurd h (by simp)
  | _ :: _, [], _, _, _, h, _ => by simp at h
  | b :: bs, v :: vs, 0, _, _, _, _ => rfl
  | b :: bs, v :: vs, k + 1, x, u, hl, h => by
    have := pCells_set bs vs k x u (by simpa using hl) (by simpa using h)
    rw [show (k + 1) * 2 = k * 2 + 2 from by omega]
    simp [pCells, this]
theorem rCells_set : ∀ (L : Tb) (us : List Value) (k : Nat) (x : Thr) (u : Value), us.length = L.length → k < L.length →
    rCells (L.set k x) (us.set k u) = (((rCells L us).set (k * 3) (.bool (isOver x.k))).set (k * 3 + 1) (.bool (isWaits x.k))).set (k * 3 + 2) u
  | [], _, k, _, _, _, h => absurd h (by simp)
  | _ :: _, [], _, _, _, h, _ => by simp at h
  | b :: bs, v :: vs, 0, _, _, _, _ => rfl
  | b :: bs, v :: vs, k + 1, x, u, hl, h => by
    have := rCells_set bs vs k x u (by simpa using hl) (by simpa using h)
    rw [show (k + 1) * 3 = k * 3 + 3 from by omega]
    simp [rCells, this]
/-- What each thread waits for lies in blocks of its own. -/
def VarsOwn (w : World) (D : Nat) (L : Tb) (us : List Value) : Prop :=
  us.length = L.length ∧ ∀ k, k < L.length → w.ownsRow D 3 1 (us.getD k nilV) (L.getD k thr0).vars.length ((L.getD k thr0).vars.map (Value.int .i64)) ∧ (L.getD k thr0).vars.length ≤ 12
/-- A table at block b: its threads behind it, their vars behind D. -/
structure TabG (tT eT : TypeId) (sz : Nat) (cells : Tb → List Value → List Value) (w : World) (b D : Nat) (L : Tb) : Prop where
  ex : ∃ v us, Whole w b tT #[v] ∧ w.ownsRow (b + 1) eT sz v L.length (cells L us) ∧ VarsOwn w D L us
  len : L.length ≤ 8
  size : b + 1 ≤ w.heap.size
  hD : D ≤ w.heap.size
abbrev TabAt := TabG 52 54 2 pCells
abbrev RabAt := TabG 38 59 3 rCells
/-- All blocks but those of two types stay. -/
def KT (p q : TypeId) (w w' : World) : Prop := ∀ g cs t, t ≠ p → t ≠ q → Whole w g t cs → Whole w' g t cs
structure Fr (p q : TypeId) (b : Nat) (w w' : World) : Prop where
  kt : KT p q w w'
  below : Below b w w'
section
variable {p q : TypeId} {b : Nat} {w w1 w' : World}
theorem Fr.refl (p q : TypeId) (b : Nat) (w : World) : Fr p q b w w := ⟨fun _ _ _ _ _ h => h, Below.refl _ _⟩
theorem Fr.trans (h : Fr p q b w w1) (k : Fr p q b w1 w') : Fr p q b w w' := ⟨fun g cs t h1 h2 h3 => k.kt g cs t h1 h2 (h.kt g cs t h1 h2 h3), h.below.trans k.below⟩
theorem Fr.of_below (h : Below w.heap.size w w') (hb : b ≤ w.heap.size) : Fr p q b w w' := ⟨fun g cs t _ _ h3 => h3.below h h3.lt, h.mono hb⟩
theorem Fr.later (h : Fr p q b w w1) (k : Below w1.heap.size w1 w') (hb : b ≤ w1.heap.size) : Fr p q b w w' := h.trans (Fr.of_below k hb)
theorem Fr.setCell (h : Fr p q b w w1) {a : Addr} {t : TypeId} {cs : Array Value} (hw : Whole w1 a.block t cs) (ht : t = p ∨ t = q) (hb : b ≤ a.block) (u : Value) : Fr p q b w (w1.setCell a u) :=
  ⟨fun g cs' t' h1 h2 h3 => (h.kt g cs' t' h1 h2 h3).far (p := a) (fun hh => by
    have h4 := h.kt g cs' t' h1 h2 h3
    rw [hh] at h4
    unfold Whole at h4 hw
    rw [hw] at h4
    simp only [Option.some.injEq, Obj.cells.injEq] at h4
    rcases ht with rfl | rfl
    · exact h1 h4.2.1.symm
    · exact h2 h4.2.1.symm) u, h.below.setCell hb u⟩
theorem Fr.app (h : Fr p q b w w1) {base size n n0 : Nat} {e : TypeId} {v v' : Value} {xs xs0 : List Value} (ha : Appended w1 base e size v n xs v' w') (ho : w1.ownsRow base e size v n0 xs0) (he : e = p ∨ e = q) (hb : b ≤ base) (hs : base ≤ w1.heap.size) : Fr p q b w w' :=
  ⟨fun g cs t h1 h2 h3 => ha.stays ho (h.kt g cs t h1 h2 h3) (by rcases he with rfl | rfl <;> assumption), ha.below ho h.below hb hs⟩
theorem KT.own (h : KT p q w w') {base size n : Nat} {e : TypeId} {v : Value} {xs : List Value} (ho : w.ownsRow base e size v n xs) (h1 : e ≠ p) (h2 : e ≠ q) : w'.ownsRow base e size v n xs := by
  refine ⟨ho.1, ?_⟩
  rcases ho.2 with h3 | ⟨g, c, cur, rfl, hb, hh, hr⟩
  · exact .inl h3
  · exact .inr ⟨g, c, cur, rfl, hb, h g cur e h1 h2 hh, hr⟩
theorem KT.ints {A : Option Addr} {base n m c : Nat} {zs : List Int} (h : KT p q w w') (ho : w.ownsRow base 3 1 (.slice A n c) m (zs.map (Value.int .i64))) (h1 : 3 ≠ p) (h2 : 3 ≠ q) : w'.ownsRow base 3 1 (.slice A n c) m (zs.map (Value.int .i64)) := h.own ho h1 h2
variable {tT eT : TypeId} {sz D : Nat} {cells : Tb → List Value → List Value} {L : Tb}
/-- Another table stays. -/
theorem TabG.keep (h : TabG tT eT sz cells w b D L) {b2 : Nat} (k : Fr p q b2 w w') (h1 : tT ≠ p) (h2 : tT ≠ q) (h3 : eT ≠ p) (h4 : eT ≠ q) (h5 : 3 ≠ p) (h6 : 3 ≠ q) : TabG tT eT sz cells w' b D L := by
  obtain ⟨v, us, hw, ho, hv⟩ := h.ex
  exact ⟨⟨v, us, k.kt _ _ _ h1 h2 hw, k.kt.own ho h3 h4, hv.1, fun i hi => ⟨k.kt.own (hv.2 i hi).1 h5 h6, (hv.2 i hi).2⟩⟩, h.len, Nat.le_trans h.size k.below.size, Nat.le_trans h.hD k.below.size⟩
theorem TabG.below (h : TabG tT eT sz cells w b D L) (hb : Below w.heap.size w w') : TabG tT eT sz cells w' b D L := by
  obtain ⟨v, us, hw, ho, hv⟩ := h.ex
  exact ⟨⟨v, us, hw.below hb hw.lt, own_below ho hb (Nat.le_refl _), hv.1, fun i hi => ⟨own_below (hv.2 i hi).1 hb (Nat.le_refl _), (hv.2 i hi).2⟩⟩, h.len, Nat.le_trans h.size hb.size, Nat.le_trans h.hD hb.size⟩
theorem TabG.drew (h : TabG tT eT sz cells w b D L) : TabG tT eT sz cells w.drew b D L := ⟨h.ex, h.len, h.size, h.hD⟩
theorem TabG.form (h : TabG tT eT sz cells w b D L) : ∃ A c us, Whole w b tT #[.slice A L.length c] ∧ w.ownsRow (b + 1) eT sz (.slice A L.length c) L.length (cells L us) ∧ VarsOwn w D L us ∧ c ≤ maxLen := by
  obtain ⟨v, us, hw, ho, hv⟩ := h.ex
  obtain ⟨A, c, rfl, _, hc, _⟩ := own_form ho
  exact ⟨A, c, us, hw, ho, hv, hc⟩
end
theorem getD_set {α : Type} {l : List α} {k j : Nat} {x d : α} (hk : k < l.length) : (l.set k x).getD j d = if j = k then x else l.getD j d := by
  simp only [List.getD_eq_getElem?_getD, List.getElem?_set]
  by_cases h : k = j
  · subst h; simp [hk]
  · rw [if_neg h, if_neg (fun e => h e.symm)]
theorem getD_snoc {α : Type} {l : List α} {x d : α} {k : Nat} (h : k < l.length + 1) : (l ++ [x]).getD k d = if k < l.length then l.getD k d else x := by
  simp only [List.getD_eq_getElem?_getD]
  split
  · rename_i h1; rw [List.getElem?_append_left h1]
  · rename_i h1
    rw [show k = l.length from by omega, List.getElem?_append_right (Nat.le_refl _)]; simp
/-- The row's block, of a table that has a thread. -/
theorem row_at {w : World} {base n sz : Nat} {eT : TypeId} {A : Option Addr} {c : Nat} {xs : List Value} (h : w.ownsRow base eT sz (.slice A n c) n xs) (h0 : 0 < n) : ∃ g cur, A = some ⟨g, 0, none⟩ ∧ base ≤ g ∧ Whole w g eT cur := by
  rcases h.2 with ⟨_, rfl⟩ | ⟨g, c', cur, hv, hb, hh, _⟩
  · omega
  · simp only [Value.slice.injEq] at hv
    exact ⟨g, cur, hv.1, hb, hh⟩
theorem VarsOwn.set {w w' : World} {D : Nat} {L : Tb} {us : List Value} {k : Nat} {x : Thr} {u : Value} (h : VarsOwn w D L us) (hk : k < L.length) (hx : w'.ownsRow D 3 1 u x.vars.length (x.vars.map (Value.int .i64))) (hn : x.vars.length ≤ 12) (hs : ∀ {v : Value} {n : Nat} {xs : List Value}, w.ownsRow D 3 1 v n xs → w'.ownsRow D 3 1 v n xs) : VarsOwn w' D (L.set k x) (us.set k u) := by
  have hl := h.1
  refine ⟨by simp [hl], fun j hj => ?_⟩
  rw [List.length_set] at hj
  rw [getD_set (l := us) (by omega), getD_set hk]
  split
  · exact ⟨hx, hn⟩
  · exact ⟨hs (h.2 j hj).1, (h.2 j hj).2⟩
theorem tab_set {w : World} {b D g n c k : Nat} {L : Tb} {us : List Value} {x : Thr} {u : Value} (h : TabAt w b D L) (hw : Whole w b 52 #[.slice (some ⟨g, 0, none⟩) n c]) (ho : w.ownsRow (b + 1) 54 2 (.slice (some ⟨g, 0, none⟩) n c) n (pCells L us)) (hv : VarsOwn w D L us) (hn : n = L.length) (hk : k < n)
    (hx : w.ownsRow D 3 1 u x.vars.length (x.vars.map (Value.int .i64))) (hx12 : x.vars.length ≤ 12) :
    TabAt ((w.setCell ⟨g, k * 2, none⟩ (.int .i64 (kN x.k))).setCell ⟨g, k * 2 + 1, none⟩ u) b D (L.set k x) ∧ Fr 52 54 b w ((w.setCell ⟨g, k * 2, none⟩ (.int .i64 (kN x.k))).setCell ⟨g, k * 2 + 1, none⟩ u) := by
  subst hn
  obtain ⟨g', cur, e, hg, hG⟩ := row_at ho (by omega)
  obtain rfl : g = g' := by simpa using e
  have h1 := own_put ho (k * 2) (by omega) (.int .i64 (kN x.k))
  have h2 := own_put h1 (k * 2 + 1) (by omega) u
  have key : ∀ {v : Value} {n : Nat} {xs : List Value}, w.ownsRow D 3 1 v n xs → ((w.setCell ⟨g, k * 2, none⟩ (.int .i64 (kN x.k))).setCell ⟨g, k * 2 + 1, none⟩ u).ownsRow D 3 1 v n xs := fun h =>
    own_setCell (own_setCell h (own_whole_ne (w := w) h hG (by decide)) _) (own_whole_ne (w := w) h hG (by decide)) _
  refine ⟨⟨⟨_, us.set k u, (hw.far (p := ⟨g, k * 2, none⟩) (by show b ≠ g; omega) _).far (p := ⟨g, k * 2 + 1, none⟩) (by show b ≠ g; omega) _, ?_, hv.set hk (key hx) hx12 key⟩, by rw [List.length_set]; exact h.len, ?_, ?_⟩, ?_⟩
  · rw [pCells_set _ _ _ _ _ hv.1 hk, List.length_set]; exact h2
  · have := h.size; simpa [World.setCell] using this
  · have := h.hD; simpa [World.setCell] using this
  · have f1 := (Fr.refl 52 54 b w).setCell (a := ⟨g, k * 2, none⟩) hG (.inr rfl) (by show b ≤ g; omega) (.int .i64 (kN x.k))
    exact f1.setCell (a := ⟨g, k * 2 + 1, none⟩) (Whole.put hG (k * 2) _) (.inr rfl) (by show b ≤ g; omega) u
theorem rab_set {w : World} {b D g n c k : Nat} {L : Tb} {us : List Value} {x : Thr} {u : Value} (h : RabAt w b D L) (hw : Whole w b 38 #[.slice (some ⟨g, 0, none⟩) n c]) (ho : w.ownsRow (b + 1) 59 3 (.slice (some ⟨g, 0, none⟩) n c) n (rCells L us)) (hv : VarsOwn w D L us) (hn : n = L.length) (hk : k < n)
    (hx : w.ownsRow D 3 1 u x.vars.length (x.vars.map (Value.int .i64))) (hx12 : x.vars.length ≤ 12) :
    RabAt (((w.setCell ⟨g, k * 3, none⟩ (.bool (isOver x.k))).setCell ⟨g, k * 3 + 1, none⟩ (.bool (isWaits x.k))).setCell ⟨g, k * 3 + 2, none⟩ u) b D (L.set k x) ∧ Fr 38 59 b w (((w.setCell ⟨g, k * 3, none⟩ (.bool (isOver x.k))).setCell ⟨g, k * 3 + 1, none⟩ (.bool (isWaits x.k))).setCell ⟨g, k * 3 + 2, none⟩ u) := by
  subst hn
  obtain ⟨g', cur, e, hg, hG⟩ := row_at ho (by omega)
  obtain rfl : g = g' := by simpa using e
  have h1 := own_put ho (k * 3) (by omega) (.bool (isOver x.k))
  have h2 := own_put h1 (k * 3 + 1) (by omega) (.bool (isWaits x.k))
  have h3 := own_put h2 (k * 3 + 2) (by omega) u
  have key : ∀ {v : Value} {n : Nat} {xs : List Value}, w.ownsRow D 3 1 v n xs → (((w.setCell ⟨g, k * 3, none⟩ (.bool (isOver x.k))).setCell ⟨g, k * 3 + 1, none⟩ (.bool (isWaits x.k))).setCell ⟨g, k * 3 + 2, none⟩ u).ownsRow D 3 1 v n xs := fun h =>
    own_setCell (own_setCell (own_setCell h (own_whole_ne (w := w) h hG (by decide)) _) (own_whole_ne (w := w) h hG (by decide)) _) (own_whole_ne (w := w) h hG (by decide)) _
  refine ⟨⟨⟨_, us.set k u, ((hw.far (p := ⟨g, k * 3, none⟩) (by show b ≠ g; omega) _).far (p := ⟨g, k * 3 + 1, none⟩) (by show b ≠ g; omega) _).far (p := ⟨g, k * 3 + 2, none⟩) (by show b ≠ g; omega) _, ?_, hv.set hk (key hx) hx12 key⟩, by rw [List.length_set]; exact h.len, ?_, ?_⟩, ?_⟩
  · rw [rCells_set _ _ _ _ _ hv.1 hk, List.length_set]; exact h3
  · have := h.size; simpa [World.setCell] using this
  · have := h.hD; simpa [World.setCell] using this
  · have f1 := (Fr.refl 38 59 b w).setCell (a := ⟨g, k * 3, none⟩) hG (.inr rfl) (by show b ≤ g; omega) (.bool (isOver x.k))
    have f2 := f1.setCell (a := ⟨g, k * 3 + 1, none⟩) (Whole.put hG (k * 3) _) (.inr rfl) (by show b ≤ g; omega) (.bool (isWaits x.k))
    exact f2.setCell (a := ⟨g, k * 3 + 2, none⟩) (Whole.put (Whole.put hG (k * 3) _) (k * 3 + 1) _) (.inr rfl) (by show b ≤ g; omega) u
/-- Behind an append of a thread and its store. -/
theorem tab_add {w w' : World} {b D n : Nat} {v v' : Value} {L : Tb} {us : List Value} (h : TabAt w b D L) (hw : Whole w b 52 #[v]) (hv : VarsOwn w D L us) (ho : w.ownsRow (b + 1) 54 2 v n (pCells L us)) (hn : n = L.length) (h8 : n < 8)
    (ha : Appended (w.alloc (.cells #[.int .i64 0, .slice none 0 0] 54)) (b + 1) 54 2 v (n + 1) (pCells L us ++ [.int .i64 0, .slice none 0 0]) v' w') :
    TabAt (w'.setCell ⟨b, 0, none⟩ v') b D (L ++ [thr0]) ∧ Fr 52 54 b w (w'.setCell ⟨b, 0, none⟩ v') ∧ Whole w' b 52 #[v] := by
  subst hn
  have ho1 := ho.alloc (.cells #[.int .i64 0, .slice none 0 0] 54)
  have hs : b + 1 ≤ (w.alloc (.cells #[.int .i64 0, .slice none 0 0] 54)).heap.size := by have := h.size; simp; omega
  have hW : Whole w' b 52 #[v] := ha.stays ho1 (hw.alloc _) (by decide)
  have f0 : Fr 52 54 b w (w.alloc (.cells #[.int .i64 0, .slice none 0 0] 54)) := Fr.of_below ((Below.refl _ _).alloc (Nat.le_refl _) _) (by have := h.size; omega)
  have f1 := (f0.app ha ho1 (.inr rfl) (by omega) hs)
  have f2 := f1.setCell (a := ⟨b, 0, none⟩) hW (.inl rfl) (Nat.le_refl _) v'
  have hb' : (w'.setCell ⟨b, 0, none⟩ v').heap.size = w'.heap.size := by simp [World.setCell]
  have hgr := f1.below.size
  refine ⟨⟨⟨v', us ++ [nilV], hW.put 0 v', ?_, by simp [hv.1], fun j hj => ?_⟩, by simp; omega, by have := h.size; rw [hb']; omega, by have := h.hD; rw [hb']; omega⟩, f2, hW⟩
  · rw [pCells_snoc _ _ _ _ hv.1, List.length_append]
    exact own_setCell ha.own (fun hh => by have := (ha.own.lt _ hh).1; simp at this; omega) _
  · have hj1 : j < L.length + 1 := by simpa using hj
    rw [getD_snoc (l := us) (by rw [hv.1]; omega), getD_snoc hj1, hv.1]
    split
    · rename_i h4; exact ⟨f2.kt.own (hv.2 j h4).1 (by decide) (by decide), (hv.2 j h4).2⟩
    · exact ⟨World.ownsRow_nil _ _ _ _, by decide⟩
theorem rab_add {w w' : World} {b D n : Nat} {v v' : Value} {L : Tb} {us : List Value} (h : RabAt w b D L) (hw : Whole w b 38 #[v]) (hv : VarsOwn w D L us) (ho : w.ownsRow (b + 1) 59 3 v n (rCells L us)) (hn : n = L.length) (h8 : n < 8)
    (ha : Appended (w.alloc (.cells #[.bool false, .bool false, .slice none 0 0] 59)) (b + 1) 59 3 v (n + 1) (rCells L us ++ [.bool false, .bool false, .slice none 0 0]) v' w') :
    RabAt (w'.setCell ⟨b, 0, none⟩ v') b D (L ++ [thr0]) ∧ Fr 38 59 b w (w'.setCell ⟨b, 0, none⟩ v') ∧ Whole w' b 38 #[v] := by
  subst hn
  have ho1 := ho.alloc (.cells #[.bool false, .bool false, .slice none 0 0] 59)
  have hs : b + 1 ≤ (w.alloc (.cells #[.bool false, .bool false, .slice none 0 0] 59)).heap.size := by have := h.size; simp; omega
  have hW : Whole w' b 38 #[v] := ha.stays ho1 (hw.alloc _) (by decide)
  have f0 : Fr 38 59 b w (w.alloc (.cells #[.bool false, .bool false, .slice none 0 0] 59)) := Fr.of_below ((Below.refl _ _).alloc (Nat.le_refl _) _) (by have := h.size; omega)
  have f1 := (f0.app ha ho1 (.inr rfl) (by omega) hs)
  have f2 := f1.setCell (a := ⟨b, 0, none⟩) hW (.inl rfl) (Nat.le_refl _) v'
  have hb' : (w'.setCell ⟨b, 0, none⟩ v').heap.size = w'.heap.size := by simp [World.setCell]
  have hgr := f1.below.size
  refine ⟨⟨⟨v', us ++ [nilV], hW.put 0 v', ?_, by simp [hv.1], fun j hj => ?_⟩, by simp; omega, by have := h.size; rw [hb']; omega, by have := h.hD; rw [hb']; omega⟩, f2, hW⟩
  · rw [rCells_snoc _ _ _ _ hv.1, List.length_append]
    exact own_setCell ha.own (fun hh => by have := (ha.own.lt _ hh).1; simp at this; omega) _
  · have hj1 : j < L.length + 1 := by simpa using hj
    rw [getD_snoc (l := us) (by rw [hv.1]; omega), getD_snoc hj1, hv.1]
    split
    · rename_i h4; exact ⟨f2.kt.own (hv.2 j h4).1 (by decide) (by decide), (hv.2 j h4).2⟩
    · exact ⟨World.ownsRow_nil _ _ _ _, by decide⟩
/-- An element's cells. -/
theorem tab_cells {w : World} {base n c k : Nat} {A : Option Addr} {L : Tb} {us : List Value} (ho : w.ownsRow base 54 2 (.slice A n c) n (pCells L us)) (hv : us.length = L.length) (hn : n = L.length) (hk : k < n) :
    ∃ g, A = some ⟨g, 0, none⟩ ∧ base ≤ g ∧ g < w.heap.size ∧ w.cell? ⟨g, k * 2, none⟩ = some (.int .i64 (kN (L.getD k thr0).k)) ∧ w.cell? ⟨g, k * 2 + 1, none⟩ = some (us.getD k nilV) ∧ (∀ i, w.frozen? ⟨g, i, none⟩ = false) := by
  obtain ⟨g, cur, rfl, hb, hW⟩ := row_at ho (by omega)
  have hx : ∀ o, o < 2 → w.cell? ⟨g, k * 2 + o, none⟩ = (pCells L us)[k * 2 + o]? := fun o ho' => by
    obtain ⟨g', c', e', _, _, hcell, _⟩ := own_cell ho (k := k * 2 + o) (by omega)
    simp only [Value.slice.injEq, Option.some.injEq, Addr.mk.injEq] at e'
    rw [e'.1.1]; exact hcell
  have hg := pCells_get L us k hv (by omega)
  exact ⟨g, rfl, hb, hW.lt, (hx 0 (by omega)).trans hg.1, (hx 1 (by omega)).trans hg.2, fun i => hW.free i⟩
theorem rab_cells {w : World} {base n c k : Nat} {A : Option Addr} {L : Tb} {us : List Value} (ho : w.ownsRow base 59 3 (.slice A n c) n (rCells L us)) (hv : us.length = L.length) (hn : n = L.length) (hk : k < n) :
    ∃ g, A = some ⟨g, 0, none⟩ ∧ base ≤ g ∧ g < w.heap.size ∧ w.cell? ⟨g, k * 3, none⟩ = some (.bool (isOver (L.getD k thr0).k)) ∧ w.cell? ⟨g, k * 3 + 1, none⟩ = some (.bool (isWaits (L.getD k thr0).k)) ∧ w.cell? ⟨g, k * 3 + 2, none⟩ = some (us.getD k nilV) ∧ (∀ i, w.frozen? ⟨g, i, none⟩ = false) := by
  obtain ⟨g, cur, rfl, hb, hW⟩ := row_at ho (by omega)
  have hx : ∀ o, o < 3 → w.cell? ⟨g, k * 3 + o, none⟩ = (rCells L us)[k * 3 + o]? := fun o ho' => by
    obtain ⟨g', c', e', _, _, hcell, _⟩ := own_cell ho (k := k * 3 + o) (by omega)
    simp only [Value.slice.injEq, Option.some.injEq, Addr.mk.injEq] at e'
    rw [e'.1.1]; exact hcell
  have hg := rCells_get L us k hv (by omega)
  exact ⟨g, rfl, hb, hW.lt, (hx 0 (by omega)).trans hg.1, (hx 1 (by omega)).trans hg.2.1, (hx 2 (by omega)).trans hg.2.2, fun i => hW.free i⟩
/-- What a thread waits for reads. -/
theorem vars_at {w : World} {D : Nat} {L : Tb} {us : List Value} {k : Nat} (hv : VarsOwn w D L us) (hk : k < L.length) : ∃ A c, us.getD k nilV = .slice A (L.getD k thr0).vars.length c ∧ Ints w w.heap.size A (L.getD k thr0).vars.length (L.getD k thr0).vars := by
  obtain ⟨A, c, e, hi⟩ := Ints.of_own (hv.2 k hk).1
  exact ⟨A, c, e, hi⟩
end Go.Proofs.Ytibgchnfodpehaa
