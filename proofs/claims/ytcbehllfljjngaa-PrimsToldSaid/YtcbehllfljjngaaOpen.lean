/- Deeds that came in, as the row hands them: they read. -/
import Derived.Test.YtcbehllfljjngaaRWalkJ
import Derived.Lib.SmallJoins
import Derived.Deep.Slices
import Derived.Deep.Strs
import Derived.ProofKit
namespace Go.Proofs.Ytcbehllfljjngaa
open Go.RowKit Go.Deep Go.Joins Go.WideShapes Go.ChangeShapes
set_option linter.unusedVariables false

def deed0 : Deed := ⟨0, ⟨#[]⟩, 0, 0, []⟩
instance : Inhabited Deed := ⟨deed0⟩
/-- What holds of a deed that came in. -/
def DeedIn (w : World) (B : Nat) (b o : Nat) (d : Deed) : Prop :=
  w.cell? ⟨b, o, none⟩ = some (.int .i64 d.k) ∧ w.cell? ⟨b, o + 1, none⟩ = some (.string d.s) ∧ w.cell? ⟨b, o + 2, none⟩ = some (.int .i64 d.a) ∧ w.cell? ⟨b, o + 3, none⟩ = some (.int .i64 d.b) ∧
    (d.s.size ≤ maxLen ∧ WfI d.k ∧ WfI d.a ∧ WfI d.b ∧ ∀ z ∈ d.ws, WfI z) ∧
    ∃ A' n' c', w.cell? ⟨b, o + 4, none⟩ = some (.slice A' n' c') ∧ Ints w B A' n' d.ws ∧ n' ≤ 9223372036854775807
/-- A slice of deeds reads as a list; it lies below block B. -/
def DeedsAt (w : World) (B : Nat) (A : Option Addr) (n : Nat) (ds : List Deed) : Prop :=
  ds.length = n ∧ (0 < n → ∃ b off, A = some ⟨b, off, none⟩ ∧ b < B ∧ ∀ j, j < n → DeedIn w B b (off + j * 5) (ds.getD j deed0))
theorem DeedIn.below {w w' : World} {B b o : Nat} {d : Deed} (h : DeedIn w B b o d) (hb : Below B w w') (hlt : b < B) : DeedIn w' B b o d := by
  obtain ⟨h0, h1, h2, h3, hw, A', n', c', h4, hi, hm⟩ := h
  exact ⟨(hb.cell (p := ⟨b, o, none⟩) hlt).trans h0, (hb.cell (p := ⟨b, o + 1, none⟩) hlt).trans h1, (hb.cell (p := ⟨b, o + 2, none⟩) hlt).trans h2, (hb.cell (p := ⟨b, o + 3, none⟩) hlt).trans h3, hw, A', n', c', (hb.cell (p := ⟨b, o + 4, none⟩) hlt).trans h4, hi.below hb, hm⟩
theorem DeedsAt.below {w w' : World} {B : Nat} {A : Option Addr} {n : Nat} {ds : List Deed} (h : DeedsAt w B A n ds) (hb : Below B w w') : DeedsAt w' B A n ds :=
  ⟨h.1, fun hn => by
    obtain ⟨b, off, e, hlt, hc⟩ := h.2 hn
    exact ⟨b, off, e, hlt, fun j hj => (hc j hj).below hb hlt⟩⟩
theorem DeedsAt.at_ {w : World} {B : Nat} {A : Option Addr} {n k : Nat} {ds : List Deed} (h : DeedsAt w B A n ds) (hk : k < n) :
    ∃ b off, A = some ⟨b, off, none⟩ ∧ b < B ∧ DeedIn w B b (off + k * 5) (ds.getD k deed0) := by
  obtain ⟨b, off, e, hlt, hc⟩ := h.2 (by omega)
  exact ⟨b, off, e, hlt, hc k hk⟩
section
variable {H : Type} {enc : TypeId × Value → H} {w : World} {base : Nat} {spare : Nat → Bool} {held : Bool}
theorem slice_read {t e : TypeId} {size fuel : Nat} {cs : List Value} {x : DataW H × List MemPlace} (ht : Try.prog.underlying t = some (.slice e)) (hc : Try.prog.cellsOf e = size) (hp : 0 < size) (h : DataW.trod enc Try.prog w base spare held fuel t cs = some x) :
    ∃ A len cap, cs = [.slice A len cap] ∧ len ≤ maxLen ∧ (0 < len → ∃ b off, A = some ⟨b, off, none⟩ ∧ b < w.heap.size ∧
      ∀ i, i < len → ∃ cs' n y, cs'.length = size ∧ (∀ o, o < size → w.cell? ⟨b, off + i * size + o, none⟩ = cs'[o]?) ∧ DataW.trod enc Try.prog w base spare held n e cs' = some y) := by
  rcases open_slice ht h with ⟨rfl, _⟩ | ⟨a, len, cap, m, n, D, Pl, rfl, hb, hl, hm, hmm, _, hx⟩
  · exact ⟨none, 0, 0, rfl, by omega, fun h0 => absurd h0 (by omega)⟩
  · refine ⟨some a, len, cap, rfl, by omega, fun h0 => ?_⟩
    have hlm : len ≤ m := by rw [hmm]; split <;> omega
    rw [hc] at hx
    obtain ⟨b, off, spot⟩ := a
    obtain ⟨cs0, h1, h2⟩ := hx 0 (by omega)
    obtain ⟨_, hlen, hcell⟩ := World.cells?_some h1
    have hc0 := hcell 0 hp
    rw [List.getElem?_eq_getElem (by omega)] at hc0
    have hspot : spot = none := by simpa [Addr.add] using World.cell?_spot hc0
    subst hspot
    have hlt := World.block_lt_of_cell? w _ hc0
    have hadd : ∀ p q : Nat, ((⟨b, off, none⟩ : Addr).add p).add q = ⟨b, off + p + q, none⟩ := fun p q => by rw [add_add, ← Go.WideShapes.add_plain]; simp [Go.WideShapes.add_plain, Nat.add_assoc]
    refine ⟨b, off, rfl, ?_, fun i hi => ?_⟩
    · rw [hadd] at hlt; exact hlt
    · obtain ⟨cs', h3, h4⟩ := hx i (by omega)
      obtain ⟨_, hlen', hcell'⟩ := World.cells?_some h3
      exact ⟨cs', n, _, hlen', fun o ho => by rw [← hadd]; exact hcell' o ho, h4⟩
theorem getD_range {α : Type} {f : Nat → α} {d : α} {n i : Nat} (h : i < n) : ((List.range n).map f).getD i d = f i := by
  rw [List.getD_eq_getElem?_getD, List.getElem?_map, List.getElem?_range h]; rfl
theorem ints_read {fuel : Nat} {cs : List Value} {x : DataW H × List MemPlace} (h : DataW.trod enc Try.prog w base spare held fuel 36 cs = some x) : ∃ A n c zs, cs = [.slice A n c] ∧ Ints w w.heap.size A n zs ∧ n ≤ 9223372036854775807 ∧ ∀ z ∈ zs, WfI z := by
  obtain ⟨A, n, c, rfl, hm, hr⟩ := slice_read Try.underlying36 (by kernel_rfl) (by decide : 0 < 1) h
  rcases Nat.eq_zero_or_pos n with rfl | h0
  · exact ⟨A, 0, c, [], rfl, ⟨rfl, fun h => absurd h (by omega)⟩, by omega, fun z hz => by cases hz⟩
  · obtain ⟨b, off, rfl, hb, hx⟩ := hr h0
    obtain ⟨f, hf⟩ := choose_lt (α := Int) (p := fun i z => w.cell? ⟨b, off + i, none⟩ = some (.int .i64 z) ∧ WfI z) (fun i hi => by
      obtain ⟨cs', m, y, hl, hc, ht⟩ := hx i hi
      obtain ⟨z, rfl, _, hwz⟩ := DataW.trod_int Try.underlying3 ht
      exact ⟨z, by have := hc 0 (by decide); simpa using this, hwz⟩)
    refine ⟨_, n, c, (List.range n).map f, rfl, ⟨by simp, fun _ => ⟨b, off, rfl, hb, fun j hj => by rw [getD_range hj]; exact (hf j hj).1⟩⟩, by unfold maxLen at hm; omega, fun z hz => ?_⟩
    obtain ⟨i, hi, rfl⟩ := List.mem_map.1 hz
    exact (hf i (List.mem_range.1 hi)).2
theorem trod_struct5 {t : TypeId} {f0 f1 f2 f3 f4 : Field} {fuel : Nat} {cs : List Value} {x : DataW H × List MemPlace} (ht : Try.prog.underlying t = some (.struct #[f0, f1, f2, f3, f4])) (h : DataW.trod enc Try.prog w base spare held fuel t cs = some x) :
    ∃ y0 y1 y2 y3 y4 n, DataW.trod enc Try.prog w base spare held n f0.type ((cs.drop f0.offset).take (Try.prog.cellsOf f0.type)) = some y0 ∧
      DataW.trod enc Try.prog w base spare held n f1.type ((cs.drop f1.offset).take (Try.prog.cellsOf f1.type)) = some y1 ∧ DataW.trod enc Try.prog w base spare held n f2.type ((cs.drop f2.offset).take (Try.prog.cellsOf f2.type)) = some y2 ∧
      DataW.trod enc Try.prog w base spare held n f3.type ((cs.drop f3.offset).take (Try.prog.cellsOf f3.type)) = some y3 ∧ DataW.trod enc Try.prog w base spare held n f4.type ((cs.drop f4.offset).take (Try.prog.cellsOf f4.type)) = some y4 := by
  obtain ⟨xs, n, _, rfl, hl, hlen, hf⟩ := DataW.trod_struct ht h
  match xs, hlen with
  | [y0, y1, y2, y3, y4], _ => exact ⟨y0, y1, y2, y3, y4, n, by simpa using hf 0 f0 rfl, by simpa using hf 1 f1 rfl, by simpa using hf 2 f2 rfl, by simpa using hf 3 f3 rfl, by simpa using hf 4 f4 rfl⟩
theorem deeds_read {fuel : Nat} {cs : List Value} {x : DataW H × List MemPlace} (h : DataW.trod enc Try.prog w base spare held fuel 30 cs = some x) : ∃ A n c ds, cs = [.slice A n c] ∧ DeedsAt w w.heap.size A n ds ∧ n ≤ 9223372036854775807 := by
  obtain ⟨A, n, c, rfl, hm, hr⟩ := slice_read Try.underlying30 (by kernel_rfl) (by decide : 0 < 5) h
  rcases Nat.eq_zero_or_pos n with rfl | h0
  · exact ⟨A, 0, c, [], rfl, ⟨rfl, fun h => absurd h (by omega)⟩, by omega⟩
  · obtain ⟨b, off, rfl, hb, hx⟩ := hr h0
    obtain ⟨f, hf⟩ := choose_lt (α := Deed) (p := fun i z => DeedIn w w.heap.size b (off + i * 5) z) (fun i hi => by
      obtain ⟨cs', m, y, hl, hc, ht⟩ := hx i hi
      match cs', hl with
      | [c0, c1, c2, c3, c4], _ =>
        obtain ⟨y0, y1, y2, y3, y4, m', t0, t1, t2, t3, t4⟩ := trod_struct5 Try.underlying38 ht
        obtain ⟨z0, e0, _, g0⟩ := DataW.trod_int Try.underlying3 t0
        obtain ⟨z1, e1, _, g1⟩ := DataW.trod_string Try.underlying9 t1
        obtain ⟨z2, e2, _, g2⟩ := DataW.trod_int Try.underlying3 t2
        obtain ⟨z3, e3, _, g3⟩ := DataW.trod_int Try.underlying3 t3
        obtain ⟨A', n', c', is, e4, hI, hn', hwz⟩ := ints_read t4
        have hk : Try.prog.cellsOf 3 = 1 := by kernel_rfl
        have hk2 : Try.prog.cellsOf 36 = 1 := by kernel_rfl
        have hk3 : Try.prog.cellsOf 9 = 1 := by kernel_rfl
        simp only [hk, hk2, hk3, List.drop_zero, List.drop_succ_cons, List.take_succ_cons, List.take_zero, List.cons.injEq, and_true] at e0 e1 e2 e3 e4
        subst e0 e1 e2 e3 e4
        exact ⟨⟨z0, z1, z2, z3, is⟩, by have := hc 0 (by decide); simpa using this, by have := hc 1 (by decide); simpa using this, by have := hc 2 (by decide); simpa using this, by have := hc 3 (by decide); simpa using this, ⟨g1, g0, g2, g3, hwz⟩, A', n', c', by have := hc 4 (by decide); simpa using this, hI, hn'⟩)
    exact ⟨_, n, c, (List.range n).map f, rfl, ⟨by simp, fun _ => ⟨b, off, rfl, hb, fun j hj => by rw [getD_range hj]; exact hf j hj⟩⟩, by unfold maxLen at hm; omega⟩
/-- Deeds that came in read. -/
theorem open_deeds {r : Reach} {b0 : Nat} {v : Value} {d : DataW H} {p : List MemPlace} (hv : Value.okWide Try.prog w r b0 30 v) (h : DataW.Trod enc Try.prog w base spare held 30 v d p) : ∃ A n c ds, v = .slice A n c ∧ DeedsAt w w.heap.size A n ds ∧ n ≤ 9223372036854775807 := by
  obtain ⟨A0, n0, c0, rfl⟩ := okWide_slice Try.underlying30 hv
  obtain ⟨fuel, hf⟩ := h
  obtain ⟨A, n, c, ds, e, hd⟩ := deeds_read hf
  simp [Value.cells] at e
  obtain ⟨rfl, rfl, rfl⟩ := e
  exact ⟨_, _, _, ds, rfl, hd⟩
end
/-- The heap behind k deeds. -/
def runL (N : Nat) (ds : List Deed) (k : Nat) (L : Hp) : Hp := (ds.take k).foldl (doH N) L
theorem runL_succ {N : Nat} {ds : List Deed} {k : Nat} (h : k < ds.length) (L : Hp) : runL N ds (k + 1) L = doH N (runL N ds k L) (ds.getD k deed0) := by
  unfold runL
  rw [List.take_succ_eq_append_getElem h, List.foldl_append, List.getD_eq_getElem?_getD, List.getElem?_eq_getElem h]; rfl
/-- A deed of both. -/
theorem does_two {w wr : World} {s e hb N B rb : Nat} {L : Hp} (h : Two w s e hb N B rb L L wr) (d : Deed) {A : Option Addr} {m c : Nat} (hw : d.s.size ≤ maxLen ∧ WfI d.k ∧ WfI d.a ∧ WfI d.b ∧ ∀ z ∈ d.ws, WfI z) (hz : Ints wr wr.heap.size A m d.ws) (hm : m ≤ 9223372036854775807) :
    Calls Try.prog 16 #[.pointer (some ⟨hb, 0, none⟩), .pointer (some ⟨rb, 0, none⟩), .agg #[.int .i64 d.k, .string d.s, .int .i64 d.a, .int .i64 d.b, .slice A m c]] wr fun ee w' => ee = .returned (.bool true) ∧ Two w s e hb N B rb (doH N L d) (doH N L d) w' :=
  (does_any d hw.1 hw.2.1 hw.2.2.1 hw.2.2.2.1 A m c hz hm hw.2.2.2.2 h.heap h.ref h.leq).mono fun _ _ ⟨he, t⟩ => ⟨he, t.heap, t.ref, h.below.trans t.below, t.leq⟩
end Go.Proofs.Ytcbehllfljjngaa
