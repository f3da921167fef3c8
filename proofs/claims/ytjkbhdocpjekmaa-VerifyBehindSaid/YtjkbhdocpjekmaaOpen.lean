/- A code that came in, as the row hands it: it reads. -/
import Derived.Test.YtjkbhdocpjekmaaWalkF
import Derived.Lib.SmallJoins
import Derived.Deep.Slices
import Derived.Deep.Strs
import Derived.ProofKit
namespace Go.Proofs.Ytjkbhdocpjekmaa
open Go.RowKit Go.Deep Go.Joins
set_option linter.unusedVariables false

section
variable {H : Type} {enc : TypeId × Value → H} {w : World} {base : Nat} {spare : Nat → Bool} {held : Bool}
theorem slice_read {t e : TypeId} {size fuel : Nat} {cs : List Value} {x : DataW H × List MemPlace} (ht : Try.prog.underlying t = some (.slice e)) (hc : Try.prog.cellsOf e = size) (hp : 0 < size) (h : DataW.trod enc Try.prog w base spare held fuel t cs = some x) :
    ∃ A len cap, cs = [.slice A len cap] ∧ len ≤ maxLen ∧ (0 < len → ∃ b off, A = some ⟨b, off, none⟩ ∧ b < w.heap.size ∧
      ∀ i, i < len → ∃ cs' n y, cs'.length = size ∧ (∀ o, o < size → w.cell? ⟨b, off + i * size + o, none⟩ = cs'[o]?) ∧ DataW.trod enc Try.prog w base spare held n e cs' = some y) := by
  rcases open_slice ht h with ⟨rfl, _⟩ | ⟨a, len, cap, m, n, D, Pl, rfl, hb, hl, hm, hmm, _, hx⟩
  · exact ⟨none, 0, 0, rfl, by omega, fun h0 => absurd h0 (by omega)⟩
  · refine ⟨some a, len, cap, rfl, by omega, fun h0 => ?_⟩
    have hlm : len ≤ m := by rw [hmm]; split <;> omega
    rw [hc] at hx
    obtain ⟨b, off, spot⟩ := a
    obtain ⟨cs0, h1, h2⟩ := hx 0 (by omega)
    obtain ⟨_, hlen, hcell⟩ := World.cells?_some h1
    have hc0 := hcell 0 hp
    rw [List.getElem?_eq_getElem (by omega)] at hc0
    have hspot : spot = none := by simpa [Addr.add] using World.cell?_spot hc0
    subst hspot
    have hlt := World.block_lt_of_cell? w _ hc0
    have hadd : ∀ p q : Nat, ((⟨b, off, none⟩ : Addr).add p).add q = ⟨b, off + p + q, none⟩ := fun p q => by rw [add_add, ← Go.WideShapes.add_plain]; simp [Go.WideShapes.add_plain, Nat.add_assoc]
    refine ⟨b, off, rfl, ?_, fun i hi => ?_⟩
    · rw [hadd] at hlt; exact hlt
    · obtain ⟨cs', h3, h4⟩ := hx i (by omega)
      obtain ⟨_, hlen', hcell'⟩ := World.cells?_some h3
      exact ⟨cs', n, _, hlen', fun o ho => by rw [← hadd]; exact hcell' o ho, h4⟩
theorem getD_range {α : Type} {f : Nat → α} {d : α} {n i : Nat} (h : i < n) : ((List.range n).map f).getD i d = f i := by
  rw [List.getD_eq_getElem?_getD, List.getElem?_map, List.getElem?_range h]; rfl
theorem ints_read {fuel : Nat} {cs : List Value} {x : DataW H × List MemPlace} (h : DataW.trod enc Try.prog w base spare held fuel 23 cs = some x) : ∃ A n c zs, cs = [.slice A n c] ∧ Ints w w.heap.size A n zs ∧ n ≤ 9223372036854775807 := by
  obtain ⟨A, n, c, rfl, hm, hr⟩ := slice_read Try.underlying23 (by kernel_rfl) (by decide : 0 < 1) h
  rcases Nat.eq_zero_or_pos n with rfl | h0
  · exact ⟨A, 0, c, [], rfl, ⟨rfl, fun h => absurd h (by omega)⟩, by omega⟩
  · obtain ⟨b, off, rfl, hb, hx⟩ := hr h0
    obtain ⟨f, hf⟩ := choose_lt (α := Int) (p := fun i z => w.cell? ⟨b, off + i, none⟩ = some (.int .i64 z)) (fun i hi => by
      obtain ⟨cs', m, y, hl, hc, ht⟩ := hx i hi
      obtain ⟨z, rfl, _, _⟩ := DataW.trod_int Try.underlying3 ht
      exact ⟨z, by have := hc 0 (by decide); simpa using this⟩)
    exact ⟨_, n, c, (List.range n).map f, rfl, ⟨by simp, fun _ => ⟨b, off, rfl, hb, fun j hj => by rw [getD_range hj]; exact hf j hj⟩⟩, by unfold maxLen at hm; omega⟩
theorem strs_read {fuel : Nat} {cs : List Value} {x : DataW H × List MemPlace} (h : DataW.trod enc Try.prog w base spare held fuel 24 cs = some x) : ∃ A n c ss, cs = [.slice A n c] ∧ StrsAt w w.heap.size A n ss ∧ n ≤ 9223372036854775807 := by
  obtain ⟨A, n, c, rfl, hm, hr⟩ := slice_read Try.underlying24 (by kernel_rfl) (by decide : 0 < 1) h
  rcases Nat.eq_zero_or_pos n with rfl | h0
  · exact ⟨A, 0, c, [], rfl, ⟨rfl, fun h => absurd h (by omega)⟩, by omega⟩
  · obtain ⟨b, off, rfl, hb, hx⟩ := hr h0
    obtain ⟨f, hf⟩ := choose_lt (α := ByteArray) (p := fun i z => w.cell? ⟨b, off + i, none⟩ = some (.string z)) (fun i hi => by
      obtain ⟨cs', m, y, hl, hc, ht⟩ := hx i hi
      obtain ⟨z, rfl, _, _⟩ := DataW.trod_string Try.underlying9 ht
      exact ⟨z, by have := hc 0 (by decide); simpa using this⟩)
    exact ⟨_, n, c, (List.range n).map f, rfl, ⟨by simp, fun _ => ⟨b, off, rfl, hb, fun j hj => by rw [getD_range hj]; exact hf j hj⟩⟩, by unfold maxLen at hm; omega⟩
instance : Inhabited Ins := ⟨ins0⟩
instance : Inhabited Bdy := ⟨bdy0⟩
theorem ins_read {fuel : Nat} {cs : List Value} {x : DataW H × List MemPlace} (h : DataW.trod enc Try.prog w base spare held fuel 38 cs = some x) : ∃ A n c is, cs = [.slice A n c] ∧ InsAt w w.heap.size A n is ∧ n ≤ 9223372036854775807 := by
  obtain ⟨A, n, c, rfl, hm, hr⟩ := slice_read Try.underlying38 (by kernel_rfl) (by decide : 0 < 3) h
  rcases Nat.eq_zero_or_pos n with rfl | h0
  · exact ⟨A, 0, c, [], rfl, ⟨rfl, fun h => absurd h (by omega)⟩, by omega⟩
  · obtain ⟨b, off, rfl, hb, hx⟩ := hr h0
    obtain ⟨f, hf⟩ := choose_lt (α := Ins) (p := fun i z => w.cell? ⟨b, off + i * 3, none⟩ = some (.int .i64 z.op) ∧ w.cell? ⟨b, off + i * 3 + 1, none⟩ = some (.int .i64 z.a) ∧ w.cell? ⟨b, off + i * 3 + 2, none⟩ = some (.int .i64 z.b)) (fun i hi => by
      obtain ⟨cs', m, y, hl, hc, ht⟩ := hx i hi
      match cs', hl with
      | [c0, c1, c2], _ =>
        obtain ⟨y0, y1, y2, m', _, _, t0, t1, t2⟩ := trod_struct3 Try.underlying36 ht
        obtain ⟨z0, e0, _, _⟩ := DataW.trod_int Try.underlying3 t0
        obtain ⟨z1, e1, _, _⟩ := DataW.trod_int Try.underlying3 t1
        obtain ⟨z2, e2, _, _⟩ := DataW.trod_int Try.underlying3 t2
        have hk : Try.prog.cellsOf 3 = 1 := by kernel_rfl
        simp only [hk, List.drop_zero, List.drop_succ_cons, List.take_succ_cons, List.take_zero, List.cons.injEq, and_true] at e0 e1 e2
        subst e0 e1 e2
        exact ⟨⟨z0, z1, z2⟩, by have := hc 0 (by decide); simpa using this, by have := hc 1 (by decide); simpa using this, by have := hc 2 (by decide); simpa using this⟩)
    exact ⟨_, n, c, (List.range n).map f, rfl, ⟨by simp, fun _ => ⟨b, off, rfl, hb, fun j hj => by rw [getD_range hj]; exact hf j hj⟩⟩, by unfold maxLen at hm; omega⟩
theorem bdys_read {fuel : Nat} {cs : List Value} {x : DataW H × List MemPlace} (h : DataW.trod enc Try.prog w base spare held fuel 22 cs = some x) : ∃ A n c bs, cs = [.slice A n c] ∧ BdysAt w w.heap.size A n bs ∧ n ≤ 9223372036854775807 := by
  obtain ⟨A, n, c, rfl, hm, hr⟩ := slice_read Try.underlying22 (by kernel_rfl) (by decide : 0 < 4) h
  rcases Nat.eq_zero_or_pos n with rfl | h0
  · exact ⟨A, 0, c, [], rfl, ⟨rfl, fun h => absurd h (by omega)⟩, by omega⟩
  · obtain ⟨b, off, rfl, hb, hx⟩ := hr h0
    obtain ⟨f, hf⟩ := choose_lt (α := Bdy) (p := fun i z => w.cell? ⟨b, off + i * 4, none⟩ = some (.int .i64 z.kept) ∧ w.cell? ⟨b, off + i * 4 + 1, none⟩ = some (.int .i64 z.locals) ∧ w.cell? ⟨b, off + i * 4 + 2, none⟩ = some (.int .i64 z.stack) ∧
        ∃ A' n' c', w.cell? ⟨b, off + i * 4 + 3, none⟩ = some (.slice A' n' c') ∧ InsAt w w.heap.size A' n' z.code ∧ n' ≤ 9223372036854775807) (fun i hi => by
      obtain ⟨cs', m, y, hl, hc, ht⟩ := hx i hi
      match cs', hl with
      | [c0, c1, c2, c3], _ =>
        obtain ⟨y0, y1, y2, y3, m', _, _, t0, t1, t2, t3⟩ := trod_struct4 Try.underlying40 ht
        obtain ⟨z0, e0, _, _⟩ := DataW.trod_int Try.underlying3 t0
        obtain ⟨z1, e1, _, _⟩ := DataW.trod_int Try.underlying3 t1
        obtain ⟨z2, e2, _, _⟩ := DataW.trod_int Try.underlying3 t2
        obtain ⟨A', n', c', is, e3, hI, hn'⟩ := ins_read t3
        have hk : Try.prog.cellsOf 3 = 1 := by kernel_rfl
        have hk2 : Try.prog.cellsOf 38 = 1 := by kernel_rfl
        simp only [hk, hk2, List.drop_zero, List.drop_succ_cons, List.take_succ_cons, List.take_zero, List.cons.injEq, and_true] at e0 e1 e2 e3
        subst e0 e1 e2 e3
        exact ⟨⟨z0, z1, z2, is⟩, by have := hc 0 (by decide); simpa using this, by have := hc 1 (by decide); simpa using this, by have := hc 2 (by decide); simpa using this, A', n', c', by have := hc 3 (by decide); simpa using this, hI, hn'⟩)
    exact ⟨_, n, c, (List.range n).map f, rfl, ⟨by simp, fun _ => ⟨b, off, rfl, hb, fun j hj => by rw [getD_range hj]; exact hf j hj⟩⟩, by unfold maxLen at hm; omega⟩
set_option maxRecDepth 100000 in
/-- A code that came in reads. -/
theorem open_cod {r : Reach} {b0 : Nat} {v : Value} {d : DataW H} {p : List MemPlace} (hv : Value.okWide Try.prog w r b0 26 v) (h : DataW.Trod enc Try.prog w base spare held 26 v d p) : ∃ c, CodAt w w.heap.size v c := by
  obtain ⟨v0, v1, v2, v3, y0, y1, y2, y3, n, rfl, _, _, t0, t1, t2, t3⟩ := open_agg4 Try.underlying26 (by kernel_rfl) (by kernel_rfl) hv h
  obtain ⟨FA, fn, fc, fs, e0, h0, hf⟩ := bdys_read t0
  obtain ⟨IA, inn, ic, is, e1, h1, hi⟩ := ints_read t1
  obtain ⟨TA, tn, tc, ts, e2, h2, ht⟩ := strs_read t2
  obtain ⟨z, e3, _, _⟩ := DataW.trod_int Try.underlying3 t3
  simp only [List.cons.injEq, and_true] at e0 e1 e2 e3
  subst e0 e1 e2 e3
  exact ⟨⟨fs, is, ts, z⟩, FA, fn, fc, IA, inn, ic, TA, tn, tc, rfl, h0, h1, h2, hf, hi, ht⟩
end
end Go.Proofs.Ytjkbhdocpjekmaa
