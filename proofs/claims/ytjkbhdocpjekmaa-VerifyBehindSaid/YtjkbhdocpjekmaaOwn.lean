/- A code that a call owns: its cells; it reads. -/
import Derived.Test.YtjkbhdocpjekmaaWalkF
import Derived.Test.YtjkbhdocpjekmaaMem
import Derived.Deep.RegionHeld3
import Derived.Deep.RegionLaw
import Derived.Deep.DrawnRows
import Derived.StillTailTactics
import Derived.Outline
namespace Go.Proofs.Ytjkbhdocpjekmaa
open Go.RowKit
set_option linter.unusedVariables false
attribute [local go_sem ↓] Go.wp_at_zero Go.wp_at_succ

theorem elemTy {t e : TypeId} {i : Option TypeInfo} {z : Value} {size bytes : Nat} (hu : Try.prog.underlying t = some (.slice e)) (hi : (Try.prog.info? e).map (fun i => (i.zero, i.size, i.bytes)) = some (some z, size, bytes)) (hz : z.cells.size = size) (hp : 0 < size) : ElemTy t e size bytes := by
  obtain ⟨i0, h1, h2, h3, h4⟩ := info_parts hi
  exact ⟨hu, ⟨i0, z, h1, h2, h3, h4, hz⟩, hp⟩
theorem ty_ints : ElemTy 23 3 1 8 := elemTy (i := none) (z := .int .i64 0) Try.underlying23 (by kernel_rfl) rfl (by decide)
theorem ty_texts : ElemTy 24 9 1 16 := elemTy (i := none) (z := .string ByteArray.empty) Try.underlying24 (by kernel_rfl) rfl (by decide)
theorem ty_funs : ElemTy 22 40 4 48 := elemTy (i := none) (z := .agg #[.int .i64 0, .int .i64 0, .int .i64 0, .slice none 0 0]) Try.underlying22 (by kernel_rfl) rfl (by decide)
theorem ty_code : ElemTy 38 36 3 24 := elemTy (i := none) (z := .agg #[.int .i64 0, .int .i64 0, .int .i64 0]) Try.underlying38 (by kernel_rfl) rfl (by decide)
def cutT (s : ByteArray) : ByteArray := if 70 < s.size then s.extract 0 70 else s
def cutF (b : Bdy) : Bdy := ⟨b.kept, b.locals, b.stack, b.code.take 60⟩
def cutC (c : Cod) : Cod := ⟨(c.funs.take 6).map cutF, c.ints.take 6, (c.texts.take 6).map cutT, c.lets⟩
theorem take_succ_map {α β : Type} {l : List α} {d : α} {f : α → β} {k : Nat} (h : k < l.length) : (l.take (k + 1)).map f = (l.take k).map f ++ [f (l.getD k d)] := by
  rw [List.take_add_one, List.getElem?_eq_getElem h, Option.toList_some, List.map_append, List.getD_eq_getElem?_getD, List.getElem?_eq_getElem h]; rfl

/-- The cells of instructions, of functions whose code is at vs. -/
def insCells (is : List Ins) : List Value := is.flatMap fun i => [.int .i64 i.op, .int .i64 i.a, .int .i64 i.b]
def bdyCells : List Bdy → List Value → List Value
  | b :: bs, v :: vs => .int .i64 b.kept :: .int .i64 b.locals :: .int .i64 b.stack :: v :: bdyCells bs vs
  | _, _ => []
theorem insCells_snoc (is : List Ins) (i : Ins) : insCells (is ++ [i]) = insCells is ++ [.int .i64 i.op, .int .i64 i.a, .int .i64 i.b] := by simp [insCells]
theorem bdyCells_snoc : ∀ (bs : List Bdy) (vs : List Value) (b : Bdy) (v : Value), vs.length = bs.length → bdyCells (bs ++ [b]) (vs ++ [v]) = bdyCells bs vs ++ [.int .i64 b.kept, .int .i64 b.locals, .int .i64 b.stack, v]
  | [], [], _, _, _ => rfl
  | [], _ :: _, _, _, h => by simp at h
  | _ :: _, [], _, _, h => by simp at h
  | c :: bs, u :: vs, b, v, h => by
    have := bdyCells_snoc bs vs b v (by simpa using h)
    simp [bdyCells, this]
def nilV : Value := .slice none 0 0
/-- Each function's code is owned, each in a block of its own. -/
def CodesOwn (w : World) (base : Nat) (bs : List Bdy) (vs : List Value) : Prop :=
  vs.length = bs.length ∧ (∀ k, k < bs.length → w.ownsRow base 36 3 (vs.getD k nilV) (bs.getD k bdy0).code.length (insCells (bs.getD k bdy0).code)) ∧
  (∀ j k, j < k → k < bs.length → ∀ g, (vs.getD j nilV).ownBlock = some g → (vs.getD k nilV).ownBlock ≠ some g)
theorem CodesOwn.nil (w : World) (base : Nat) : CodesOwn w base [] [] := ⟨rfl, fun k h => absurd h (by simp), fun j k _ h => absurd h (by simp)⟩
theorem getD_snoc {α : Type} {l : List α} {x d : α} {k : Nat} (h : k < l.length + 1) : (l ++ [x]).getD k d = if k < l.length then l.getD k d else x := by
  simp only [List.getD_eq_getElem?_getD]
  split
  · rename_i h1; rw [List.getElem?_append_left h1]
  · rename_i h1
    rw [show k = l.length from by omega, List.getElem?_append_right (Nat.le_refl _)]; simp
/-- The codes stay, and one more is owned, behind all that was. -/
theorem CodesOwn.snoc {w w' : World} {base b2 B : Nat} {bs : List Bdy} {vs : List Value} {b : Bdy} {v : Value} (h : CodesOwn w base bs vs) (hB : w.heap.size ≤ B) (hb : Below B w w') (hv : w'.ownsRow b2 36 3 v b.code.length (insCells b.code)) (h2 : B ≤ b2) (h3 : base ≤ b2) : CodesOwn w' base (bs ++ [b]) (vs ++ [v]) := by
  have hl := h.1
  refine ⟨by simp [hl], fun k hk => ?_, fun j k hjk hk g hj => ?_⟩
  · have hk1 : k < bs.length + 1 := by simpa using hk
    rw [getD_snoc (l := vs) (by omega), getD_snoc hk1, hl]
    split
    · rename_i h4; exact own_below (h.2.1 k h4) hb hB
    · exact own_more hv h3
  · have hk1 : k < bs.length + 1 := by simpa using hk
    rw [getD_snoc (l := vs) (by omega), hl, if_pos (by omega)] at hj
    rw [getD_snoc (l := vs) (by omega), hl]
    split
    · rename_i h4; exact h.2.2 j k hjk h4 g hj
    · intro hh
      have h5 := ((h.2.1 j (by omega)).lt g hj).2
      have h6 := (hv.lt g hh).1
      omega
theorem CodesOwn.other {w w' : World} {base b2 : Nat} {e : TypeId} {size n n0 : Nat} {u u' : Value} {xs xs0 : List Value} {bs : List Bdy} {vs : List Value} (h : CodesOwn w base bs vs) (ha : Appended w b2 e size u n xs u' w') (ho : w.ownsRow b2 e size u n0 xs0) (he : 36 ≠ e) : CodesOwn w' base bs vs :=
  ⟨h.1, fun k hk => ha.other (h.2.1 k hk) (own_ne_type ho (h.2.1 k hk) he), h.2.2⟩
theorem CodesOwn.setCell {w : World} {base : Nat} {bs : List Bdy} {vs : List Value} (h : CodesOwn w base bs vs) {p : Addr} {t : TypeId} {cs : Array Value} (hw : Whole w p.block t cs) (ht : t ≠ 36) (u : Value) : CodesOwn (w.setCell p u) base bs vs :=
  ⟨h.1, fun k hk => own_setCell (h.2.1 k hk) (own_whole_ne (h.2.1 k hk) hw ht) u, h.2.2⟩
theorem CodesOwn.below {w w' : World} {base B : Nat} {bs : List Bdy} {vs : List Value} (h : CodesOwn w base bs vs) (hb : Below B w w') (hB : w.heap.size ≤ B) : CodesOwn w' base bs vs :=
  ⟨h.1, fun k hk => own_below (h.2.1 k hk) hb hB, h.2.2⟩
/-- A code's value, all of it the call's own. -/
def OwnCod (w : World) (base : Nat) (v : Value) (c : Cod) : Prop :=
  ∃ fv iv tv vs, v = .agg #[fv, iv, tv, .int .i64 c.lets] ∧ w.ownsRow base 40 4 fv c.funs.length (bdyCells c.funs vs) ∧ CodesOwn w base c.funs vs ∧ w.ownsRow base 3 1 iv c.ints.length (c.ints.map (Value.int .i64)) ∧ w.ownsRow base 9 1 tv c.texts.length (c.texts.map Value.string)
theorem bdyCells_get : ∀ (bs : List Bdy) (vs : List Value) (k : Nat), vs.length = bs.length → k < bs.length →
    (bdyCells bs vs)[k * 4]? = some (.int .i64 (bs.getD k bdy0).kept) ∧ (bdyCells bs vs)[k * 4 + 1]? = some (.int .i64 (bs.getD k bdy0).locals) ∧ (bdyCells bs vs)[k * 4 + 2]? = some (.int .i64 (bs.getD k bdy0).stack) ∧ (bdyCells bs vs)[k * 4 + 3]? = some (vs.getD k nilV)
  | [], _, k, _, h => absurd h (by simp)
  | _ :: _, [], _, h, _ => by simp at h
  | b :: bs, v :: vs, 0, _, _ => ⟨rfl, rfl, rfl, rfl⟩
  | b :: bs, v :: vs, k + 1, hl, h => by
    have := bdyCells_get bs vs k (by simpa using hl) (by simpa using h)
    rw [show (k + 1) * 4 = k * 4 + 4 from by omega]
    simpa [bdyCells] using this
theorem insCells_get : ∀ (is : List Ins) (k : Nat), k < is.length →
    (insCells is)[k * 3]? = some (.int .i64 (is.getD k ins0).op) ∧ (insCells is)[k * 3 + 1]? = some (.int .i64 (is.getD k ins0).a) ∧ (insCells is)[k * 3 + 2]? = some (.int .i64 (is.getD k ins0).b)
  | [], k, h => absurd h (by simp)
  | i :: is, 0, _ => ⟨rfl, rfl, rfl⟩
  | i :: is, k + 1, h => by
    have := insCells_get is k (by simpa using h)
    rw [show (k + 1) * 3 = k * 3 + 3 from by omega]
    simpa [insCells] using this
theorem insAt_own {w : World} {base : Nat} {v : Value} {is : List Ins} (h : w.ownsRow base 36 3 v is.length (insCells is)) : ∃ A c, v = .slice A is.length c ∧ InsAt w w.heap.size A is.length is ∧ c ≤ maxLen := by
  obtain ⟨A, c, e, hA, hc, _⟩ := own_form h
  refine ⟨A, c, e, ⟨rfl, fun h0 => ?_⟩, hc⟩
  obtain ⟨g, c', e', hb, hl, _⟩ := own_cell h (k := 0) (by omega)
  subst e
  simp only [Value.slice.injEq] at e'
  obtain ⟨rfl, _, rfl⟩ := e'
  refine ⟨g, 0, rfl, hl, fun j hj => ?_⟩
  have hg := insCells_get is j hj
  have h1 : ∀ o, o < 3 → w.cell? ⟨g, j * 3 + o, none⟩ = (insCells is)[j * 3 + o]? := fun o ho => by
    obtain ⟨g', c', e', _, _, hcell, _⟩ := own_cell h (k := j * 3 + o) (by omega)
    simp only [Value.slice.injEq, Option.some.injEq, Addr.mk.injEq] at e'
    rw [e'.1.1]; exact hcell
  rw [Nat.zero_add]
  exact ⟨(h1 0 (by omega)).trans hg.1, (h1 1 (by omega)).trans hg.2.1, (h1 2 (by omega)).trans hg.2.2⟩
theorem ints_own {w : World} {base : Nat} {v : Value} {zs : List Int} (h : w.ownsRow base 3 1 v zs.length (zs.map (Value.int .i64))) : ∃ A c, v = .slice A zs.length c ∧ Ints w w.heap.size A zs.length zs := by
  obtain ⟨A, c, e, hi⟩ := Ints.of_own h
  exact ⟨A, c, e, hi⟩
theorem strs_own {w : World} {base : Nat} {v : Value} {ss : List ByteArray} (h : w.ownsRow base 9 1 v ss.length (ss.map Value.string)) : ∃ A c, v = .slice A ss.length c ∧ StrsAt w w.heap.size A ss.length ss := by
  obtain ⟨A, c, e, hA, hc, _⟩ := own_form h
  refine ⟨A, c, e, ⟨rfl, fun h0 => ?_⟩⟩
  obtain ⟨g, c', e', hb, hl, _⟩ := own_cell h (k := 0) (by omega)
  subst e
  simp only [Value.slice.injEq] at e'
  obtain ⟨rfl, _, rfl⟩ := e'
  refine ⟨g, 0, rfl, hl, fun j hj => ?_⟩
  obtain ⟨g', c', e', _, _, hcell, _⟩ := own_cell h (k := j) (by omega)
  simp only [Value.slice.injEq, Option.some.injEq, Addr.mk.injEq] at e'
  rw [Nat.zero_add, e'.1.1, hcell, List.getElem?_map, List.getElem?_eq_getElem hj, List.getD_eq_getElem?_getD, List.getElem?_eq_getElem hj]; rfl
/-- What is owned reads. -/
theorem OwnCod.at_ {w : World} {base : Nat} {v : Value} {c : Cod} (h : OwnCod w base v c) (h1 : c.funs.length ≤ 9223372036854775807) (h2 : c.ints.length ≤ 9223372036854775807) (h3 : c.texts.length ≤ 9223372036854775807) (h4 : ∀ b ∈ c.funs, b.code.length ≤ 9223372036854775807) : CodAt w w.heap.size v c := by
  obtain ⟨fv, iv, tv, vs, rfl, hf, hcs, hi, ht⟩ := h
  obtain ⟨IA, ic, rfl, hI⟩ := ints_own hi
  obtain ⟨TA, tc, rfl, hT⟩ := strs_own ht
  obtain ⟨FA, fc, rfl, hA, hc, _⟩ := own_form hf
  refine ⟨FA, _, fc, IA, _, ic, TA, _, tc, rfl, ⟨rfl, fun h0 => ?_⟩, hI, hT, h1, h2, h3⟩
  obtain ⟨g, c', e', hb, hl, _⟩ := own_cell hf (k := 0) (by omega)
  simp only [Value.slice.injEq] at e'
  obtain ⟨rfl, _, rfl⟩ := e'
  refine ⟨g, 0, rfl, hl, fun j hj => ?_⟩
  have hg := bdyCells_get c.funs vs j hcs.1 hj
  have hx : ∀ o, o < 4 → w.cell? ⟨g, j * 4 + o, none⟩ = (bdyCells c.funs vs)[j * 4 + o]? := fun o ho => by
    obtain ⟨g', c', e', _, _, hcell, _⟩ := own_cell hf (k := j * 4 + o) (by omega)
    simp only [Value.slice.injEq, Option.some.injEq, Addr.mk.injEq] at e'
    rw [e'.1.1]; exact hcell
  obtain ⟨A', cc, ee, hI2, _⟩ := insAt_own (hcs.2.1 j hj)
  rw [Nat.zero_add]
  refine ⟨(hx 0 (by omega)).trans hg.1, (hx 1 (by omega)).trans hg.2.1, (hx 2 (by omega)).trans hg.2.2.1, A', _, cc, ?_, hI2, ?_⟩
  · rw [hx 3 (by omega), hg.2.2.2, ee]
  · exact h4 _ (by rw [List.getD_eq_getElem?_getD, List.getElem?_eq_getElem hj]; exact List.getElem_mem hj)
end Go.Proofs.Ytjkbhdocpjekmaa
