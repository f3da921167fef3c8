/- Memory of layer 14's document: the states of a function's instructions. -/
import Derived.Test.YtjkbhdocpjekmaaRWalkA
import Derived.Test.YtjkbhdocpjekmaaRWalkB
namespace Go.Proofs.Ytjkbhdocpjekmaa
open Go.RowKit
set_option linter.unusedVariables false

/-- The states read: a row of three cells each; its marks in blocks of their own. -/
def AllAt (w : World) (H : Nat) (all : List (Option St)) : Prop :=
  ∃ cs, Whole w H 59 cs ∧ cs.size = all.length * 3 ∧ ∀ k, k < all.length → cs[k * 3]? = some (.bool (all.getD k none).isSome) ∧ cs[k * 3 + 1]? = some (.int .i64 ((all.getD k none).getD st0).d) ∧
    ∃ A n c, cs[k * 3 + 2]? = some (.slice A n c) ∧ Mks 97 w A n ((all.getD k none).getD st0).m ∧ (A = none → c = 0)
section
variable {w w' : World} {H : Nat} {all : List (Option St)}
theorem AllAt.lt (h : AllAt w H all) : H < w.heap.size := by obtain ⟨cs, hw, _⟩ := h; exact hw.lt
theorem AllAt.at_ (h : AllAt w H all) {k : Nat} (hk : k < all.length) : ∃ A n c, w.cell? ⟨H, k * 3, none⟩ = some (.bool (all.getD k none).isSome) ∧ w.cell? ⟨H, k * 3 + 1, none⟩ = some (.int .i64 ((all.getD k none).getD st0).d) ∧
    w.cell? ⟨H, k * 3 + 2, none⟩ = some (.slice A n c) ∧ Mks 97 w A n ((all.getD k none).getD st0).m ∧ (A = none → c = 0) := by
  obtain ⟨cs, hw, hs, hc⟩ := h
  obtain ⟨h1, h2, A, n, c, h3, h4, h5⟩ := hc k hk
  exact ⟨A, n, c, (hw.cell _).trans h1, (hw.cell _).trans h2, (hw.cell _).trans h3, h4, h5⟩
theorem AllAt.free (h : AllAt w H all) (i : Nat) : w.frozen? ⟨H, i, none⟩ = false := by obtain ⟨cs, hw, _⟩ := h; exact hw.free i
theorem AllAt.below (h : AllAt w H all) (hb : Below w.heap.size w w') : AllAt w' H all := by
  obtain ⟨cs, hw, hs, hc⟩ := h
  refine ⟨cs, hw.below hb hw.lt, hs, fun k hk => ?_⟩
  obtain ⟨h1, h2, A, n, c, h3, h4, h5⟩ := hc k hk
  exact ⟨h1, h2, A, n, c, h3, h4.below hb, h5⟩
theorem AllAt.alloc (h : AllAt w H all) (o : Obj) : AllAt (w.alloc o) H all := h.below ((Below.refl _ _).alloc (Nat.le_refl _) o)
theorem AllAt.drew (h : AllAt w H all) : AllAt w.drew H all := h
/-- A store into a block from B on that is not of marks. -/
theorem AllAt.far (h : AllAt w H all) {p : Addr} {e : TypeId} {ds : Array Value} (hp : Whole w p.block e ds) (he : e ≠ 97) (he2 : e ≠ 59) (u : Value) : AllAt (w.setCell p u) H all := by
  obtain ⟨cs, hw, hs, hc⟩ := h
  refine ⟨cs, hw.far (whole_ne hw hp he2.symm) u, hs, fun k hk => ?_⟩
  obtain ⟨h1, h2, A, n, c, h3, h4, h5⟩ := hc k hk
  exact ⟨h1, h2, A, n, c, h3, h4.far hp he u, h5⟩
/-- Changes of a block from B on leave what lies below. -/
theorem AllAt.over (h : AllAt w H all) (hb : ∀ g, g < w.heap.size → w'.heap[g]? = w.heap[g]?) : AllAt w' H all := by
  have hk : ∀ g t cs, Whole w g t cs → Whole w' g t cs := fun g t cs hw => (hb g hw.lt).trans hw
  obtain ⟨cs, hw, hs, hc⟩ := h
  refine ⟨cs, hk _ _ _ hw, hs, fun k hk2 => ?_⟩
  obtain ⟨h1, h2, A, n, c, h3, h4, h5⟩ := hc k hk2
  exact ⟨h1, h2, A, n, c, h3, h4.keep fun g cs' => hk g _ cs', h5⟩
theorem getD_set2 {α : Type} {l : List (Option α)} {i k : Nat} {x : α} (hi : i < l.length) : (l.set i (some x)).getD k none = if k = i then some x else l.getD k none := getD_set hi
theorem set_at3 {cs : Array Value} {k j : Nat} {a b c : Value} (hk : k * 3 + 2 < cs.size) (o : Nat) (ho : o < 3) :
    (((cs.setIfInBounds (k * 3) a).setIfInBounds (k * 3 + 1) b).setIfInBounds (k * 3 + 2) c)[j * 3 + o]? = if j = k then (if o = 0 then some a else if o = 1 then some b else some c) else cs[j * 3 + o]? := by
  simp only [Array.getElem?_setIfInBounds]
  by_cases h : j = k
  · subst h
    rw [if_pos rfl]
    rcases (by omega : o = 0 ∨ o = 1 ∨ o = 2) with rfl | rfl | rfl
    · rw [if_neg (by omega), if_neg (by omega), if_pos (by omega), if_pos (by omega), if_pos rfl]
    · rw [if_neg (by omega), if_pos (by omega), if_pos (by simp; omega), if_neg (by omega), if_pos rfl]
    · rw [if_pos (by omega), if_pos (by simp; omega), if_neg (by omega), if_neg (by omega)]
  · rw [if_neg h, if_neg (by omega), if_neg (by omega), if_neg (by omega)]
theorem AllAt.set (h : AllAt w H all) {k : Nat} (hk : k < all.length) {s : St} {A : Option Addr} {n c : Nat} (hm : Mks 97 w A n s.m) (hA : A = none → c = 0) :
    AllAt (((w.setCell ⟨H, k * 3, none⟩ (.bool true)).setCell ⟨H, k * 3 + 1, none⟩ (.int .i64 s.d)).setCell ⟨H, k * 3 + 2, none⟩ (.slice A n c)) H (all.set k (some s)) := by
  obtain ⟨cs, hw, hs, hc⟩ := h
  have w1 := hw.put (k * 3) (.bool true)
  have w2 := w1.put (k * 3 + 1) (.int .i64 s.d)
  have w3 := w2.put (k * 3 + 2) (.slice A n c)
  have keep : ∀ {A' : Option Addr} {n' : Nat} {ms : List (Int × Int)}, Mks 97 w A' n' ms → Mks 97 (((w.setCell ⟨H, k * 3, none⟩ (.bool true)).setCell ⟨H, k * 3 + 1, none⟩ (.int .i64 s.d)).setCell ⟨H, k * 3 + 2, none⟩ (.slice A n c)) A' n' ms := fun h =>
    ((h.far (p := ⟨H, _, none⟩) hw (by decide) _).far (p := ⟨H, _, none⟩) w1 (by decide) _).far (p := ⟨H, _, none⟩) w2 (by decide) _
  refine ⟨_, w3, by rw [List.length_set]; simp [hs], fun j hj => ?_⟩
  rw [List.length_set] at hj
  have e := fun o ho => set_at3 (cs := cs) (k := k) (j := j) (a := .bool true) (b := .int .i64 s.d) (c := .slice A n c) (by rw [hs]; omega) o ho
  have e0 := e 0 (by omega); have e1 := e 1 (by omega); have e2 := e 2 (by omega)
  simp only [Nat.add_zero] at e0
  rw [e0, e1, e2, getD_set2 hk]
  by_cases hjk : j = k
  · subst hjk
    simp only [if_true]
    exact ⟨rfl, rfl, A, n, c, rfl, keep hm, hA⟩
  · simp only [if_neg hjk]
    obtain ⟨h1, h2, A', n', c', h3, h4, h5⟩ := hc j hj
    exact ⟨h1, h2, A', n', c', h3, keep h4, h5⟩
theorem AllAt.made {w : World} {L : Nat} {cs : Array Value} (hw : Whole w H 59 cs) (hs : cs.size = L * 3) (hc : ∀ k, k < L → cs[k * 3]? = some (.bool false) ∧ cs[k * 3 + 1]? = some (.int .i64 0) ∧ cs[k * 3 + 2]? = some (.slice none 0 0)) : AllAt w H (List.replicate L none) := by
  have hz : ∀ k : Nat, (List.replicate L (none : Option St)).getD k none = none := fun k => by
    rw [List.getD_eq_getElem?_getD, List.getElem?_replicate]; split <;> rfl
  refine ⟨cs, hw, by simpa using hs, fun k hk => ?_⟩
  rw [hz]
  obtain ⟨h1, h2, h3⟩ := hc k (by simpa using hk)
  exact ⟨h1, h2, none, 0, 0, h3, Mks.nil_, fun _ => rfl⟩
/-- No state's marks lie in block X. -/
def Away (w : World) (H X L : Nat) : Prop := ∀ k, k < L → ∀ A n c, w.cell? ⟨H, k * 3 + 2, none⟩ = some (.slice A n c) → 0 < n → ∀ a, A = some a → a.block ≠ X
theorem AllAt.away {w6 : World} {X : Nat} (h : AllAt w H all) (hb : Below w.heap.size w w6) (hX : w.heap.size ≤ X) : Away w6 H X all.length := by
  intro k hk A n c hc hn a ha
  obtain ⟨cs, hw, hs, he⟩ := h
  obtain ⟨_, _, A', n', c', h3, h4, _⟩ := he k hk
  have e := (hw.below hb hw.lt).cell (k * 3 + 2)
  rw [hc, h3] at e
  simp only [Option.some.injEq, Value.slice.injEq] at e
  obtain ⟨rfl, rfl, rfl⟩ := e
  obtain ⟨g, ds, e2, hg, _⟩ := h4.2 hn
  rw [ha] at e2; cases e2
  have := hg.lt
  show g ≠ X
  omega
/-- All but block X is as it was. -/
theorem AllAt.app {X : Nat} (h : AllAt w H all) (ha : Away w H X all.length) (hX : H ≠ X) (hb : ∀ g, g < w.heap.size → g ≠ X → w'.heap[g]? = w.heap[g]?) : AllAt w' H all := by
  obtain ⟨cs, hw, hs, he⟩ := h
  refine ⟨cs, (hb H hw.lt hX).trans hw, hs, fun k hk => ?_⟩
  obtain ⟨h1, h2, A, n, c, h3, h4, h5⟩ := he k hk
  refine ⟨h1, h2, A, n, c, h3, ⟨h4.1, fun hn => ?_⟩, h5⟩
  obtain ⟨g, ds, e2, hg, hd⟩ := h4.2 hn
  exact ⟨g, ds, e2, (hb g hg.lt (ha k hk A n c ((hw.cell _).trans h3) hn _ e2)).trans hg, hd⟩
theorem Away.set {X L k : Nat} {cs : Array Value} {d : Int} {A : Option Addr} {n c : Nat} (h : Away w H X L) (hw : Whole w H 59 cs) (hs : k * 3 + 2 < cs.size) (hA : ∀ a, A = some a → a.block ≠ X) :
    Away (((w.setCell ⟨H, k * 3, none⟩ (.bool true)).setCell ⟨H, k * 3 + 1, none⟩ (.int .i64 d)).setCell ⟨H, k * 3 + 2, none⟩ (.slice A n c)) H X L := by
  have w3 := ((hw.put (k * 3) (.bool true)).put (k * 3 + 1) (.int .i64 d)).put (k * 3 + 2) (.slice A n c)
  intro j hj A' n' c' hc hn a ha
  rw [w3.cell, set_at3 hs 2 (by omega)] at hc
  by_cases hjk : j = k
  · rw [if_pos hjk, if_neg (by omega), if_neg (by omega)] at hc
    simp only [Option.some.injEq, Value.slice.injEq] at hc
    obtain ⟨rfl, rfl, rfl⟩ := hc
    exact hA a ha
  · rw [if_neg hjk] at hc
    exact h j hj A' n' c' ((hw.cell _).trans hc) hn a ha
theorem Away.same {w' : World} {X L : Nat} (h : Away w H X L) (hw : ∀ o, w'.cell? ⟨H, o, none⟩ = w.cell? ⟨H, o, none⟩) : Away w' H X L := fun k hk A n c hc => h k hk A n c ((hw _).symm.trans hc)
end
end Go.Proofs.Ytjkbhdocpjekmaa
