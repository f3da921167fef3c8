/- Memory of the document's heap: the relation. -/
import Derived.Test.YtcbehllfljjngaaRMem
namespace Go.Proofs.Ytcbehllfljjngaa
open Go.RowKit
set_option linter.unusedVariables false

abbrev Wd := Bool × Int
def wd0 : Wd := (false, 0)
def nilV : Value := .slice none 0 0
def wCells (ws : List Wd) : List Value := ws.flatMap fun x => [.bool x.1, .int .i64 x.2]
theorem wCells_len : ∀ ws : List Wd, (wCells ws).length = ws.length * 2
  | [] => rfl
  | x :: ws => by
    have := wCells_len ws
    unfold wCells at *
    rw [List.flatMap_cons, List.length_append, this]; simp; omega
theorem wCells_snoc (ws : List Wd) (x : Wd) : wCells (ws ++ [x]) = wCells ws ++ [.bool x.1, .int .i64 x.2] := by simp [wCells]
theorem wCells_get : ∀ (ws : List Wd) (k : Nat), k < ws.length → (wCells ws)[k * 2]? = some (.bool (ws.getD k wd0).1) ∧ (wCells ws)[k * 2 + 1]? = some (.int .i64 (ws.getD k wd0).2)
  | [], k, h => absurd h (by simp)
  | x :: ws, 0, _ => ⟨rfl, rfl⟩
  | x :: ws, k + 1, h => by
    have := wCells_get ws k (by simpa using h)
    rw [show (k + 1) * 2 = k * 2 + 2 from by omega]
    exact this
def rCells : Hp → List (Value × Value) → List Value
  | b :: H, u :: us => .int .i64 b.tag :: u.1 :: u.2 :: rCells H us
  | _, _ => []
theorem rCells_snoc : ∀ (H : Hp) (us : List (Value × Value)) (b : Blk) (u : Value × Value), us.length = H.length → rCells (H ++ [b]) (us ++ [u]) = rCells H us ++ [.int .i64 b.tag, u.1, u.2]
  | [], [], _, _, _ => rfl
  | [], _ :: _, _, _, h => by simp at h
  | _ :: _, [], _, _, h => by simp at h
  | c :: H, v :: us, b, u, h => by
    have := rCells_snoc H us b u (by simpa using h)
    simp [rCells, this]
theorem rCells_get : ∀ (H : Hp) (us : List (Value × Value)) (k : Nat), us.length = H.length → k < H.length →
    (rCells H us)[k * 3]? = some (.int .i64 (H.getD k blk0).tag) ∧ (rCells H us)[k * 3 + 1]? = some (us.getD k (nilV, nilV)).1 ∧ (rCells H us)[k * 3 + 2]? = some (us.getD k (nilV, nilV)).2
  | [], _, k, _, h => absurd h (by simp)
  | _ :: _, [], _, h, _ => by simp at h
  | b :: bs, v :: vs, 0, _, _ => ⟨rfl, rfl, rfl⟩
  | b :: bs, v :: vs, k + 1, hl, h => by
    have := rCells_get bs vs k (by simpa using hl) (by simpa using h)
    rw [show (k + 1) * 3 = k * 3 + 3 from by omega]
    simpa [rCells] using this
/-- A word, as a number. -/
def sayF (H : Hp) (x : Wd) : Int := if x.1 = true then 2 * (posn H x.2.toNat : Nat) else x.2
def SayOk (H : Hp) (x : Wd) (f : Int) : Prop := (x.1 = true → ∃ k : Nat, x.2 = k ∧ k < H.length) ∧ sayF H x = f
theorem SayOk.more {H : Hp} {x : Wd} {f : Int} (h : SayOk H x f) (b : Blk) : SayOk (H ++ [b]) x f := by
  obtain ⟨h1, h2⟩ := h
  refine ⟨fun hx => ?_, ?_⟩
  · obtain ⟨k, e, hk⟩ := h1 hx
    exact ⟨k, e, by rw [List.length_append]; simp; omega⟩
  · rw [← h2]
    unfold sayF
    by_cases hx : x.1 = true
    · obtain ⟨k, e, hk⟩ := h1 hx
      rw [if_pos hx, if_pos hx, posn_app H [b] _ (by rw [e]; simp; omega)]
    · rw [if_neg hx, if_neg hx]
theorem SayOk.of_wd {H : Hp} {z : Int} {x : Wd} (h : wdF H z = (x.1, x.2, true)) : SayOk H x z := by
  obtain ⟨i, n⟩ := x
  cases i with
  | true =>
    obtain ⟨k, e, hk, hz, _, _⟩ := wdF_blk h
    refine ⟨fun _ => ⟨k, e, hk⟩, ?_⟩
    unfold sayF
    dsimp only at *
    rw [if_pos rfl, e, hz]; simp
  | false =>
    refine ⟨fun hh => (by cases hh), ?_⟩
    unfold sayF
    dsimp only at *
    rw [if_neg (by decide)]
    unfold wdF at h
    split at h
    · simp only [Prod.mk.injEq, true_and, and_true] at h; exact h.symm
    · split at h <;> simp at h
def RVar (w : World) (B : Nat) (H : Hp) (b : Blk) (u : Value × Value) : Prop :=
  ∃ ws raw, w.ownsRow B 84 2 u.1 ws.length (wCells ws) ∧ w.ownsRow B 3 1 u.2 raw.length (raw.map (Value.int .i64)) ∧
    ((b.tag = 201 ∧ ws = [] ∧ raw = b.fs) ∨ (b.tag ≠ 201 ∧ raw = [] ∧ ws.length = b.fs.length ∧ ∀ i, i < ws.length → SayOk H (ws.getD i wd0) (b.fs.getD i 0)))
structure RefAt (w : World) (B rb N : Nat) (H : Hp) : Prop where
  ex : ∃ v us, Whole w rb 42 #[.int .i64 N, v] ∧ w.ownsRow B 80 3 v H.length (rCells H us) ∧ us.length = H.length ∧ ∀ k, k < H.length → RVar w B H (H.getD k blk0) (us.getD k (nilV, nilV))
  hB : B ≤ rb
  top : topN H ≤ N + 1
  n : N ≤ 65536
  wf : WfH H
section
variable {w w' : World} {B rb N : Nat} {H : Hp}
theorem RVar.keep {b : Blk} {u : Value × Value} (h : RVar w B H b u) (hk : ∀ g, B ≤ g → g < w.heap.size → w'.heap[g]? = w.heap[g]?) : RVar w' B H b u := by
  obtain ⟨ws, raw, h1, h2, h3⟩ := h
  exact ⟨ws, raw, own_of_block h1 (fun g hg => hk g (h1.lt g hg).1 (h1.lt g hg).2), own_of_block h2 (fun g hg => hk g (h2.lt g hg).1 (h2.lt g hg).2), h3⟩
theorem RefAt.keep (h : RefAt w B rb N H) (hk : ∀ g, B ≤ g → g < w.heap.size → w'.heap[g]? = w.heap[g]?) : RefAt w' B rb N H := by
  obtain ⟨v, us, hw, ho, hl, hv⟩ := h.ex
  exact ⟨⟨v, us, (hk rb h.hB hw.lt).trans hw, own_of_block ho (fun g hg => hk g (ho.lt g hg).1 (ho.lt g hg).2), hl, fun k hk' => (hv k hk').keep hk⟩, h.hB, h.top, h.n, h.wf⟩
theorem RefAt.later (h : RefAt w B rb N H) (hb : Below w.heap.size w w') : RefAt w' B rb N H := h.keep (fun g _ hg => hb.block g hg)
theorem RefAt.mid (h : RefAt w B rb N H) {s e : Nat} (hm : Mid s e w w') (he : e ≤ B) : RefAt w' B rb N H := h.keep (fun g h1 h2 => hm.block g h2 (.inr (by omega)))
theorem RefAt.drew (h : RefAt w B rb N H) : RefAt w.drew B rb N H := ⟨h.ex, h.hB, h.top, h.n, h.wf⟩
theorem RefAt.lt (h : RefAt w B rb N H) : rb < w.heap.size := by obtain ⟨v, us, hw, _⟩ := h.ex; exact hw.lt
theorem RefAt.len (h : RefAt w B rb N H) : H.length ≤ N := by
  have h1 : ∀ H : Hp, H.length ≤ sumSz H := fun H => by
    induction H with
    | nil => simp
    | cons b H ih => have e : sumSz (b :: H) = b.sz + sumSz H := by simp [sumSz]
                     rw [e, List.length_cons]; unfold Blk.sz; omega
  have := h1 H
  have := h.top
  unfold topN at this; omega
/-- A slice of words reads as a list. -/
def WordsAt (w : World) (A : Option Addr) (n : Nat) (ws : List Wd) : Prop :=
  ws.length = n ∧ (0 < n → ∃ g, A = some ⟨g, 0, none⟩ ∧ g < w.heap.size ∧ ∀ j, j < n → w.cell? ⟨g, j * 2, none⟩ = some (.bool (ws.getD j wd0).1) ∧ w.cell? ⟨g, j * 2 + 1, none⟩ = some (.int .i64 (ws.getD j wd0).2))
theorem WordsAt.of_own {w : World} {base n c : Nat} {A : Option Addr} {ws : List Wd} (h : w.ownsRow base 84 2 (.slice A n c) n (wCells ws)) : WordsAt w A n ws := by
  have hl := h.1
  rw [wCells_len] at hl
  refine ⟨by omega, fun h0 => ?_⟩
  obtain ⟨g, c', e, _, hlt, _⟩ := own_cell h (k := 0) (by omega)
  simp only [Value.slice.injEq] at e
  obtain ⟨rfl, _, _⟩ := e
  refine ⟨g, rfl, hlt, fun j hj => ?_⟩
  obtain ⟨g1, c1, e1, _, _, hc1, _⟩ := own_cell h (k := j * 2) (by omega)
  obtain ⟨g2, c2, e2, _, _, hc2, _⟩ := own_cell h (k := j * 2 + 1) (by omega)
  simp only [Value.slice.injEq] at e1 e2
  obtain rfl : g = g1 := by simpa using e1.1
  obtain rfl : g = g2 := by simpa using e2.1
  have := wCells_get ws j (by omega)
  exact ⟨hc1.trans this.1, hc2.trans this.2⟩
/-- A block's cells. -/
def BlkCells (w : World) (H : Hp) (g k : Nat) (b : Blk) : Prop :=
  ∃ A1 n1 c1 A2 n2 c2, w.cell? ⟨g, k * 3, none⟩ = some (.int .i64 b.tag) ∧ w.cell? ⟨g, k * 3 + 1, none⟩ = some (.slice A1 n1 c1) ∧ w.cell? ⟨g, k * 3 + 2, none⟩ = some (.slice A2 n2 c2) ∧ 1 + n1 + n2 = b.sz ∧
    ((b.tag = 201 ∧ n1 = 0 ∧ Ints w w.heap.size A2 n2 b.fs ∧ n2 ≤ c2 ∧ c2 ≤ maxLen) ∨ (b.tag ≠ 201 ∧ n1 = b.fs.length ∧ ∃ ws, WordsAt w A1 n1 ws ∧ ∀ i, i < n1 → SayOk H (ws.getD i wd0) (b.fs.getD i 0)))
theorem RefAt.form (h : RefAt w B rb N H) : ∃ A c, w.cell? ⟨rb, 0, none⟩ = some (.int .i64 N) ∧ w.cell? ⟨rb, 1, none⟩ = some (.slice A H.length c) ∧ (∀ k, k < H.length → ∃ g, A = some ⟨g, 0, none⟩ ∧ g < w.heap.size ∧ BlkCells w H g k (H.getD k blk0)) := by
  obtain ⟨v, us, hw, ho, hl, hv⟩ := h.ex
  obtain ⟨A, c, rfl, _⟩ := own_form ho
  refine ⟨A, c, hw.cell 0, hw.cell 1, fun k hk => ?_⟩
  have hg := rCells_get H us k hl hk
  obtain ⟨g, c', e', _, hlt, hc0, _⟩ := own_cell ho (k := k * 3) (by omega)
  obtain ⟨g1, c1', e1', _, _, hc1, _⟩ := own_cell ho (k := k * 3 + 1) (by omega)
  obtain ⟨g2, c2', e2', _, _, hc2, _⟩ := own_cell ho (k := k * 3 + 2) (by omega)
  simp only [Value.slice.injEq] at e' e1' e2'
  obtain ⟨rfl, _, _⟩ := e'
  obtain rfl : g = g1 := by simpa using e1'.1
  obtain rfl : g = g2 := by simpa using e2'.1
  obtain ⟨ws, raw, h1, h2, h3⟩ := hv k hk
  obtain ⟨A1, c1, e1, _⟩ := own_form h1
  obtain ⟨A2, c2, e2, _, hc2m, hc2n⟩ := own_form h2
  rw [e1] at hg
  obtain ⟨A2', c2', e2b, hI⟩ := Ints.of_own h2
  rw [e2] at hg e2b
  simp only [Value.slice.injEq] at e2b
  obtain ⟨rfl, _, rfl⟩ := e2b
  refine ⟨g, rfl, hlt, A1, _, c1, A2, _, c2, hc0.trans hg.1, hc1.trans hg.2.1, hc2.trans hg.2.2, ?_, ?_⟩
  · rcases h3 with ⟨_, rfl, rfl⟩ | ⟨_, rfl, h3, _⟩
    · unfold Blk.sz; simp only [List.length_nil]
    · unfold Blk.sz; simp only [List.length_nil]; omega
  · rcases h3 with ⟨h4, rfl, rfl⟩ | ⟨h4, rfl, h3, h5⟩
    · exact .inl ⟨h4, rfl, hI, hc2n, hc2m⟩
    · rw [e1] at h1
      exact .inr ⟨h4, h3, ws, WordsAt.of_own h1, h5⟩
end
end Go.Proofs.Ytcbehllfljjngaa
