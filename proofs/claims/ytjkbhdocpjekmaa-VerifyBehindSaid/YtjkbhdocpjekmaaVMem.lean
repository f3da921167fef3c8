/- Memory of layer 14: slices of marks, each in a block of its own; what stays while other blocks change. -/
import Derived.Test.YtjkbhdocpjekmaaPlainA
import Derived.Test.YtjkbhdocpjekmaaOwn
namespace Go.Proofs.Ytjkbhdocpjekmaa
open Go.RowKit
set_option linter.unusedVariables false

def mk0 : Int × Int := (0, 0)
def mkCells (ms : List (Int × Int)) : List Value := ms.flatMap fun m => [.int .i64 m.1, .int .i64 m.2]
theorem mkCells_len : ∀ ms : List (Int × Int), (mkCells ms).length = ms.length * 2
  | [] => rfl
  | m :: ms => by
    have := mkCells_len ms
    simp only [mkCells, List.flatMap_cons, List.length_append, List.length_cons, List.length_nil] at this ⊢
    omega
theorem mkCells_snoc (ms : List (Int × Int)) (a b : Int) : mkCells (ms ++ [(a, b)]) = mkCells ms ++ [.int .i64 a, .int .i64 b] := by simp [mkCells]
theorem mkCells_one : ∀ (ms : List (Int × Int)), ∀ u ∈ mkCells ms, u.oneCell' = true := by
  intro ms u hu
  simp only [mkCells, List.mem_flatMap] at hu
  obtain ⟨m, _, hm⟩ := hu
  simp at hm
  rcases hm with rfl | rfl <;> rfl
theorem mkCells_get : ∀ (ms : List (Int × Int)) (k : Nat), k < ms.length → (mkCells ms)[k * 2]? = some (.int .i64 (ms.getD k mk0).1) ∧ (mkCells ms)[k * 2 + 1]? = some (.int .i64 (ms.getD k mk0).2)
  | [], k, h => absurd h (by simp)
  | m :: ms, 0, _ => ⟨rfl, rfl⟩
  | m :: ms, k + 1, h => by
    have := mkCells_get ms k (by simpa using h)
    rw [show (k + 1) * 2 = k * 2 + 2 from by omega]
    simpa [mkCells] using this
/-- A slice of marks reads as a list; it lies at the head of a block of its own. -/
def Mks (t : TypeId) (w : World) (A : Option Addr) (n : Nat) (ms : List (Int × Int)) : Prop :=
  ms.length = n ∧ (0 < n → ∃ g cs, A = some ⟨g, 0, none⟩ ∧ Whole w g t cs ∧ ∀ j, j < n → cs[j * 2]? = some (.int .i64 (ms.getD j mk0).1) ∧ cs[j * 2 + 1]? = some (.int .i64 (ms.getD j mk0).2))
section
variable {t : TypeId} {w w' : World} {A : Option Addr} {n : Nat} {ms : List (Int × Int)}
theorem Mks.nil_ : Mks t w A 0 [] := ⟨rfl, fun h => absurd h (by omega)⟩
theorem Mks.len (h : Mks t w A n ms) : ms.length = n := h.1
theorem Mks.at_ (h : Mks t w A n ms) {k : Nat} (hk : k < n) : ∃ g, A = some ⟨g, 0, none⟩ ∧ g < w.heap.size ∧ w.cell? ⟨g, k * 2, none⟩ = some (.int .i64 (ms.getD k mk0).1) ∧ w.cell? ⟨g, k * 2 + 1, none⟩ = some (.int .i64 (ms.getD k mk0).2) := by
  obtain ⟨g, cs, e, hw, hc⟩ := h.2 (by omega)
  exact ⟨g, e, hw.lt, (hw.cell _).trans (hc k hk).1, (hw.cell _).trans (hc k hk).2⟩
theorem Mks.keep (h : Mks t w A n ms) (hk : ∀ g cs, Whole w g t cs → Whole w' g t cs) : Mks t w' A n ms :=
  ⟨h.1, fun hn => by
    obtain ⟨g, cs, e, hw, hc⟩ := h.2 hn
    exact ⟨g, cs, e, hk g cs hw, hc⟩⟩
theorem Mks.below (h : Mks t w A n ms) (hb : Below w.heap.size w w') : Mks t w' A n ms := h.keep fun g cs hw => hw.below hb hw.lt
theorem Mks.alloc (h : Mks t w A n ms) (o : Obj) : Mks t (w.alloc o) A n ms := h.keep fun g cs hw => hw.alloc o
theorem Mks.drew (h : Mks t w A n ms) : Mks t w.drew A n ms := h
theorem Mks.far (h : Mks t w A n ms) {p : Addr} {e : TypeId} {cs : Array Value} (hp : Whole w p.block e cs) (he : e ≠ t) (u : Value) : Mks t (w.setCell p u) A n ms :=
  h.keep fun g cs' hw => hw.far (fun hh => by
    subst hh; unfold Whole at hp hw; rw [hp] at hw
    simp only [Option.some.injEq, Obj.cells.injEq] at hw
    exact he hw.2.1) u
theorem Mks.take (h : Mks t w A n ms) {m : Nat} (hm : m ≤ n) : Mks t w A m (ms.take m) := by
  refine ⟨by rw [List.length_take, h.1]; omega, fun h0 => ?_⟩
  obtain ⟨g, cs, e, hw, hc⟩ := h.2 (by omega)
  refine ⟨g, cs, e, hw, fun j hj => ?_⟩
  have : (ms.take m).getD j mk0 = ms.getD j mk0 := by
    rw [List.getD_eq_getElem?_getD, List.getElem?_take, if_pos hj, ← List.getD_eq_getElem?_getD]
  rw [this]; exact hc j (by omega)
theorem Mks.dropLast (h : Mks t w A (n + 1) ms) : Mks t w A n ms.dropLast := by
  have h1 := h.take (m := n) (by omega)
  rw [List.dropLast_eq_take, h.1]; exact h1
theorem Mks.new {g : Nat} (h : Whole w g t (mkCells ms).toArray) : Mks t w (some ⟨g, 0, none⟩) ms.length ms :=
  ⟨rfl, fun _ => ⟨g, _, rfl, h, fun j hj => by have := mkCells_get ms j hj; simpa using this⟩⟩
theorem Mks.of_own {base : Nat} {v : Value} (h : w.ownsRow base t 2 v n (mkCells ms)) (hn : ms.length = n) : ∃ A c, v = .slice A n c ∧ Mks t w A n ms := by
  rcases h.2 with ⟨rfl, h2⟩ | ⟨g, cap, cur, rfl, hg, hh, hle, hc, hs, ht⟩
  · have h3 := mkCells_len ms
    subst h2
    obtain rfl : ms = [] := List.eq_nil_of_length_eq_zero hn
    exact ⟨none, 0, rfl, Mks.nil_⟩
  · refine ⟨_, cap, rfl, hn, fun _ => ⟨g, cur, rfl, hh, fun j hj => ?_⟩⟩
    have hx : ∀ o, o < n * 2 → cur[o]? = (mkCells ms)[o]? := fun o ho => by
      rw [← ht, List.getElem?_take, if_pos ho, Array.getElem?_toList]
    rw [hx _ (by omega), hx _ (by omega)]
    exact mkCells_get ms j (by omega)
theorem getLast_getD {ms : List (Int × Int)} {n : Nat} (h : ms.length = n + 1) : ms.getLast? = some (ms.getD n mk0) := by
  rw [List.getLast?_eq_getElem?, h, Nat.add_sub_cancel, List.getD_eq_getElem?_getD, List.getElem?_eq_getElem (by omega)]; rfl
theorem base_nil {d : Int} : (⟨d, []⟩ : St).base = 0 := rfl
theorem base_last {d : Int} {ms : List (Int × Int)} {n : Nat} (h : ms.length = n + 1) : (⟨d, ms⟩ : St).base = (ms.getD n mk0).2 := by
  unfold St.base; dsimp only; rw [getLast_getD h]
end
/-- All as it was below B, but block H. -/
structure But (H B : Nat) (w w' : World) : Prop where
  os : w'.os = w.os
  tape : w'.tape = w.tape
  output : w'.output = w.output
  size : w.heap.size ≤ w'.heap.size
  block : ∀ g, g < B → g ≠ H → w'.heap[g]? = w.heap[g]?
section
variable {H B : Nat} {w w' w'' : World}
theorem But.refl (H B : Nat) (w : World) : But H B w w := ⟨rfl, rfl, rfl, Nat.le_refl _, fun _ _ _ => rfl⟩
theorem But.trans (h : But H B w w') (k : But H B w' w'') : But H B w w'' :=
  ⟨k.os.trans h.os, k.tape.trans h.tape, k.output.trans h.output, Nat.le_trans h.size k.size, fun i hi hh => (k.block i hi hh).trans (h.block i hi hh)⟩
theorem But.of_below (h : Below B w w') : But H B w w' := ⟨h.os, h.tape, h.output, h.size, fun g hg _ => h.block g hg⟩
theorem But.mono (h : But H B w w') {b : Nat} (hb : b ≤ B) : But H b w w' := ⟨h.os, h.tape, h.output, h.size, fun g hg => h.block g (by omega)⟩
theorem But.below (h : But H B w w') {b : Nat} (hb : b ≤ B) (hH : b ≤ H) : Below b w w' := ⟨h.os, h.tape, h.output, h.size, fun g hg => h.block g (by omega) (by omega)⟩
theorem But.alloc (h : But H B w w') (hB : B ≤ w'.heap.size) (o : Obj) : But H B w (w'.alloc o) := h.trans (.of_below ((Below.refl _ _).alloc hB o))
theorem But.drew (h : But H B w w') : But H B w w'.drew := h.trans (.of_below (Below.refl _ _).drew)
theorem But.set (h : But H B w w') (o : Nat) (u : Value) : But H B w (w'.setCell ⟨H, o, none⟩ u) :=
  h.trans ⟨rfl, rfl, rfl, by simp [World.setCell], fun g hg hh => Below.heap_setCell _ _ _ _ (by simpa using hh)⟩
theorem But.setCell (h : But H B w w') {p : Addr} (hp : B ≤ p.block) (u : Value) : But H B w (w'.setCell p u) :=
  h.trans (.of_below ((Below.refl _ _).setCell hp u))
theorem But.whole (h : But H B w w') {g : Nat} {t : TypeId} {cs : Array Value} (hw : Whole w g t cs) (hg : g < B) (hn : g ≠ H) : Whole w' g t cs := (h.block g hg hn).trans hw
theorem whole_ne {g k : Nat} {t e : TypeId} {cs ds : Array Value} (h : Whole w g t cs) (hk : Whole w k e ds) (ht : t ≠ e) : g ≠ k := fun hh => by
  subst hh; unfold Whole at h hk; rw [h] at hk
  simp only [Option.some.injEq, Obj.cells.injEq] at hk
  exact ht hk.2.1
theorem Mks.but {t e : TypeId} {A : Option Addr} {n : Nat} {ms : List (Int × Int)} {cs : Array Value} (h : Mks t w A n ms) (hb : But H w.heap.size w w') (hH : Whole w H e cs) (he : t ≠ e) : Mks t w' A n ms :=
  h.keep fun g cs' hw => hb.whole hw hw.lt (whole_ne hw hH he)
end
end Go.Proofs.Ytjkbhdocpjekmaa
