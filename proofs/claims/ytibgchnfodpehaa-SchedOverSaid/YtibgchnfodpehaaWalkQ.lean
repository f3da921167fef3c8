/- Deeds that came in, as the row hands them: they read. -/
import Derived.Test.YtibgchnfodpehaaWalkO
import Derived.Lib.SmallJoins
import Derived.Deep.Slices
import Derived.Deep.Strs
import Derived.ProofKit
namespace Go.Proofs.Ytibgchnfodpehaa
open Go.RowKit Go.Deep Go.Joins Go.WideShapes Go.ChangeShapes
set_option linter.unusedVariables false

def deed0 : Deed := ⟨0, 0, []⟩
instance : Inhabited Deed := ⟨deed0⟩
/-- A slice of deeds reads as a list; it lies below block B. -/
def DeedsAt (w : World) (B : Nat) (A : Option Addr) (n : Nat) (ds : List Deed) : Prop :=
  ds.length = n ∧ (0 < n → ∃ b off, A = some ⟨b, off, none⟩ ∧ b < B ∧ ∀ j, j < n → w.cell? ⟨b, off + j * 3, none⟩ = some (.int .i64 (ds.getD j deed0).k) ∧ w.cell? ⟨b, off + j * 3 + 1, none⟩ = some (.int .i64 (ds.getD j deed0).n) ∧
    ∃ A' n' c', w.cell? ⟨b, off + j * 3 + 2, none⟩ = some (.slice A' n' c') ∧ Ints w B A' n' (ds.getD j deed0).vars ∧ n' ≤ 9223372036854775807)
theorem DeedsAt.below {w w' : World} {B : Nat} {A : Option Addr} {n : Nat} {ds : List Deed} (h : DeedsAt w B A n ds) (hb : Below B w w') : DeedsAt w' B A n ds :=
  ⟨h.1, fun hn => by
    obtain ⟨b, off, e, hlt, hc⟩ := h.2 hn
    refine ⟨b, off, e, hlt, fun j hj => ?_⟩
    obtain ⟨h1, h2, A', n', c', h3, hi, hm⟩ := hc j hj
    exact ⟨(hb.cell (p := ⟨b, off + j * 3, none⟩) hlt).trans h1, (hb.cell (p := ⟨b, off + j * 3 + 1, none⟩) hlt).trans h2, A', n', c', (hb.cell (p := ⟨b, off + j * 3 + 2, none⟩) hlt).trans h3, hi.below hb, hm⟩⟩
theorem DeedsAt.at_ {w : World} {B : Nat} {A : Option Addr} {n k : Nat} {ds : List Deed} (h : DeedsAt w B A n ds) (hk : k < n) :
    ∃ b off A' n' c', A = some ⟨b, off, none⟩ ∧ b < B ∧ w.cell? ⟨b, off + k * 3, none⟩ = some (.int .i64 (ds.getD k deed0).k) ∧ w.cell? ⟨b, off + k * 3 + 1, none⟩ = some (.int .i64 (ds.getD k deed0).n) ∧ w.cell? ⟨b, off + k * 3 + 2, none⟩ = some (.slice A' n' c') ∧ Ints w B A' n' (ds.getD k deed0).vars ∧ n' ≤ 9223372036854775807 := by
  obtain ⟨b, off, e, hlt, hc⟩ := h.2 (by omega)
  obtain ⟨h1, h2, A', n', c', h3, hi, hm⟩ := hc k hk
  exact ⟨b, off, A', n', c', e, hlt, h1, h2, h3, hi, hm⟩
section
variable {H : Type} {enc : TypeId × Value → H} {w : World} {base : Nat} {spare : Nat → Bool} {held : Bool}
theorem slice_read {t e : TypeId} {size fuel : Nat} {cs : List Value} {x : DataW H × List MemPlace} (ht : Try.prog.underlying t = some (.slice e)) (hc : Try.prog.cellsOf e = size) (hp : 0 < size) (h : DataW.trod enc Try.prog w base spare held fuel t cs = some x) :
    ∃ A len cap, cs = [.slice A len cap] ∧ len ≤ maxLen ∧ (0 < len → ∃ b off, A = some ⟨b, off, none⟩ ∧ b < w.heap.size ∧
      ∀ i, i < len → ∃ cs' n y, cs'.length = size ∧ (∀ o, o < size → w.cell? ⟨b, off + i * size + o, none⟩ = cs'[o]?) ∧ DataW.trod enc Try.prog w base spare held n e cs' = some y) := by
  rcases open_slice ht h with ⟨rfl, _⟩ | ⟨a, len, cap, m, n, D, Pl, rfl, hb, hl, hm, hmm, _, hx⟩
  · exact ⟨none, 0, 0, rfl, by omega, fun h0 => absurd h0 (by omega)⟩
  · refine ⟨some a, len, cap, rfl, by omega, fun h0 => ?_⟩
    have hlm : len ≤ m := by rw [hmm]; split <;> omega
    rw [hc] at hx
    obtain ⟨b, off, spot⟩ := a
    obtain ⟨cs0, h1, h2⟩ := hx 0 (by omega)
    obtain ⟨_, hlen, hcell⟩ := World.cells?_some h1
    have hc0 := hcell 0 hp
    rw [List.getElem?_eq_getElem (by omega)] at hc0
    have hspot : spot = none := by simpa [Addr.add] using World.cell?_spot hc0
    subst hspot
    have hlt := World.block_lt_of_cell? w _ hc0
    have hadd : ∀ p q : Nat, ((⟨b, off, none⟩ : Addr).add p).add q = ⟨b, off + p + q, none⟩ := fun p q => by rw [add_add, ← Go.WideShapes.add_plain]; simp [Go.WideShapes.add_plain, Nat.add_assoc]
    refine ⟨b, off, rfl, ?_, fun i hi => ?_⟩
    · rw [hadd] at hlt; exact hlt
    · obtain ⟨cs', h3, h4⟩ := hx i (by omega)
      obtain ⟨_, hlen', hcell'⟩ := World.cells?_some h3
      exact ⟨cs', n, _, hlen', fun o ho => by rw [← hadd]; exact hcell' o ho, h4⟩
theorem getD_range {α : Type} {f : Nat → α} {d : α} {n i : Nat} (h : i < n) : ((List.range n).map f).getD i d = f i := by
  rw [List.getD_eq_getElem?_getD, List.getElem?_map, List.getElem?_range h]; rfl
theorem ints_read {fuel : Nat} {cs : List Value} {x : DataW H × List MemPlace} (h : DataW.trod enc Try.prog w base spare held fuel 22 cs = some x) : ∃ A n c zs, cs = [.slice A n c] ∧ Ints w w.heap.size A n zs ∧ n ≤ 9223372036854775807 := by
  obtain ⟨A, n, c, rfl, hm, hr⟩ := slice_read Try.underlying22 (by kernel_rfl) (by decide : 0 < 1) h
  rcases Nat.eq_zero_or_pos n with rfl | h0
  · exact ⟨A, 0, c, [], rfl, ⟨rfl, fun h => absurd h (by omega)⟩, by omega⟩
  · obtain ⟨b, off, rfl, hb, hx⟩ := hr h0
    obtain ⟨f, hf⟩ := choose_lt (α := Int) (p := fun i z => w.cell? ⟨b, off + i, none⟩ = some (.int .i64 z)) (fun i hi => by
      obtain ⟨cs', m, y, hl, hc, ht⟩ := hx i hi
      obtain ⟨z, rfl, _, _⟩ := DataW.trod_int Try.underlying3 ht
      exact ⟨z, by have := hc 0 (by decide); simpa using this⟩)
    exact ⟨_, n, c, (List.range n).map f, rfl, ⟨by simp, fun _ => ⟨b, off, rfl, hb, fun j hj => by rw [getD_range hj]; exact hf j hj⟩⟩, by unfold maxLen at hm; omega⟩
theorem deeds_read {fuel : Nat} {cs : List Value} {x : DataW H × List MemPlace} (h : DataW.trod enc Try.prog w base spare held fuel 34 cs = some x) : ∃ A n c ds, cs = [.slice A n c] ∧ DeedsAt w w.heap.size A n ds ∧ n ≤ 9223372036854775807 := by
  obtain ⟨A, n, c, rfl, hm, hr⟩ := slice_read Try.underlying34 (by kernel_rfl) (by decide : 0 < 3) h
  rcases Nat.eq_zero_or_pos n with rfl | h0
  · exact ⟨A, 0, c, [], rfl, ⟨rfl, fun h => absurd h (by omega)⟩, by omega⟩
  · obtain ⟨b, off, rfl, hb, hx⟩ := hr h0
    obtain ⟨f, hf⟩ := choose_lt (α := Deed) (p := fun i z => w.cell? ⟨b, off + i * 3, none⟩ = some (.int .i64 z.k) ∧ w.cell? ⟨b, off + i * 3 + 1, none⟩ = some (.int .i64 z.n) ∧
        ∃ A' n' c', w.cell? ⟨b, off + i * 3 + 2, none⟩ = some (.slice A' n' c') ∧ Ints w w.heap.size A' n' z.vars ∧ n' ≤ 9223372036854775807) (fun i hi => by
      obtain ⟨cs', m, y, hl, hc, ht⟩ := hx i hi
      match cs', hl with
      | [c0, c1, c2], _ =>
        obtain ⟨y0, y1, y2, m', _, _, t0, t1, t2⟩ := trod_struct3 Try.underlying41 ht
        obtain ⟨z0, e0, _, _⟩ := DataW.trod_int Try.underlying3 t0
        obtain ⟨z1, e1, _, _⟩ := DataW.trod_int Try.underlying3 t1
        obtain ⟨A', n', c', is, e3, hI, hn'⟩ := ints_read t2
        have hk : Try.prog.cellsOf 3 = 1 := by kernel_rfl
        have hk2 : Try.prog.cellsOf 22 = 1 := by kernel_rfl
        simp only [hk, hk2, List.drop_zero, List.drop_succ_cons, List.take_succ_cons, List.take_zero, List.cons.injEq, and_true] at e0 e1 e3
        subst e0 e1 e3
        exact ⟨⟨z0, z1, is⟩, by have := hc 0 (by decide); simpa using this, by have := hc 1 (by decide); simpa using this, A', n', c', by have := hc 2 (by decide); simpa using this, hI, hn'⟩)
    exact ⟨_, n, c, (List.range n).map f, rfl, ⟨by simp, fun _ => ⟨b, off, rfl, hb, fun j hj => by rw [getD_range hj]; exact hf j hj⟩⟩, by unfold maxLen at hm; omega⟩
/-- Deeds that came in read. -/
theorem open_deeds {r : Reach} {b0 : Nat} {v : Value} {d : DataW H} {p : List MemPlace} (hv : Value.okWide Try.prog w r b0 34 v) (h : DataW.Trod enc Try.prog w base spare held 34 v d p) : ∃ A n c ds, v = .slice A n c ∧ DeedsAt w w.heap.size A n ds ∧ n ≤ 9223372036854775807 := by
  obtain ⟨A0, n0, c0, rfl⟩ := okWide_slice Try.underlying34 hv
  obtain ⟨fuel, hf⟩ := h
  obtain ⟨A, n, c, ds, e, hd⟩ := deeds_read hf
  simp [Value.cells] at e
  obtain ⟨rfl, rfl, rfl⟩ := e
  exact ⟨_, _, _, ds, rfl, hd⟩
end
/-- The table behind k deeds. -/
def runL (ds : List Deed) (k : Nat) (L : Tb) : Tb := (ds.take k).foldl doL L
theorem runL_succ {ds : List Deed} {k : Nat} (h : k < ds.length) (L : Tb) : runL ds (k + 1) L = doL (runL ds k L) (ds.getD k deed0) := by
  unfold runL
  rw [List.take_succ_eq_append_getElem h, List.foldl_append, List.getD_eq_getElem?_getD, List.getElem?_eq_getElem h]; rfl
/-- Both tables, alike. -/
structure Both (w : World) (b b2 D : Nat) (L : Tb) (wr : World) : Prop where
  tab : TabAt wr b D L
  rab : RabAt wr b2 D L
  below : Below w.heap.size w wr
theorem Both.start (w : World) : Both w w.heap.size (w.heap.size + 1) w.heap.size [] ((w.alloc (.cells #[.slice none 0 0] 52)).alloc (.cells #[.slice none 0 0] 38)) := by
  have h1 : Below w.heap.size w (w.alloc (.cells #[.slice none 0 0] 52)) := (Below.refl _ _).alloc (Nat.le_refl _) _
  have hs : (w.alloc (.cells #[.slice none 0 0] 52)).heap.size = w.heap.size + 1 := by simp
  have h2 : Below (w.heap.size + 1) (w.alloc (.cells #[.slice none 0 0] 52)) ((w.alloc (.cells #[.slice none 0 0] 52)).alloc (.cells #[.slice none 0 0] 38)) := (Below.refl _ _).alloc (by rw [hs]; exact Nat.le_refl _) _
  have hw := Whole.made (w.alloc (.cells #[.slice none 0 0] 52)) 38 #[.slice none 0 0]
  rw [hs] at hw
  have ht := (tab_new w w.heap.size (by omega)).below (w' := (w.alloc (.cells #[.slice none 0 0] 52)).alloc (.cells #[.slice none 0 0] 38)) (by rw [hs]; exact h2)
  exact ⟨ht, ⟨⟨.slice none 0 0, [], hw, World.ownsRow_nil _ _ _ _, rfl, fun k hk => absurd hk (by simp)⟩, by decide, by simp, by simp; omega⟩, h1.trans (h2.mono (by omega))⟩
theorem Both.later {w : World} {b b2 D : Nat} {L : Tb} {wr w' : World} (h : Both w b b2 D L wr) (hb : Below wr.heap.size wr w') : Both w b b2 D L w' := ⟨h.tab.below hb, h.rab.below hb, h.below.trans (hb.mono h.below.size)⟩
/-- A deed of both. -/
theorem does_both {w wr : World} {b b2 D : Nat} {L : Tb} (h : Both w b b2 D L wr) (h1 : w.heap.size ≤ b) (h2 : w.heap.size ≤ b2) (d : Deed) {A : Option Addr} {m c : Nat} (hz : Ints wr wr.heap.size A m d.vars) (hm : m ≤ 9223372036854775807) :
    Calls Try.prog 15 #[.pointer (some ⟨b, 0, none⟩), .pointer (some ⟨b2, 0, none⟩), .agg #[.int .i64 d.k, .int .i64 d.n, .slice A m c]] wr fun e w' => e = .returned (.bool true) ∧ Both w b b2 D (doL L d) w' :=
  (does_any wr w.heap.size b D b2 D L d A m c h.tab h.rab h1 h2 hz hm).mono fun _ _ ⟨he, t, r, f⟩ => ⟨he, t, r, h.below.trans f⟩
end Go.Proofs.Ytibgchnfodpehaa
