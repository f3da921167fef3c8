/- The walks of layer 13: numbers behind bytes, by the program. -/
import Derived.Test.YtffpkmoaahkfmaaWalkF
import Derived.Deep.AppendLies
import Derived.Laws.BytesArg
import Derived.ArgAppend
import Derived.Lib.SmallJoins
namespace Go.Proofs.Ytffpkmoaahkfmaa
open Go.RowKit
set_option linter.unusedVariables false

theorem Try.info5 : (Try.prog.info? 5).map (fun i => (i.zero, i.size, i.bytes)) = some (some (.int .u8 0), 1, 1) := by kernel_rfl
def u8v (c : UInt8) : Value := .int .u8 (c.toNat : Int)
/-- Blocks of other things than bytes stay. -/
def KeepT (w w' : World) : Prop := ∀ (g : Nat) (cs : Array Value) (t : TypeId) (fr : Nat × Nat), t ≠ 5 → w.heap[g]? = some (Obj.cells cs t fr) → w'.heap[g]? = some (Obj.cells cs t fr)
theorem KeepT.refl (w : World) : KeepT w w := fun _ _ _ _ _ h => h
theorem KeepT.trans {a b c : World} (h : KeepT a b) (k : KeepT b c) : KeepT a c := fun g cs t fr ht hg => k g cs t fr ht (h g cs t fr ht hg)
theorem KeepT.alloc {a b : World} (h : KeepT a b) (o : Obj) : KeepT a (b.alloc o) := fun g cs t fr ht hg => by
  have h1 := h g cs t fr ht hg
  have hl : g < b.heap.size := by
    rcases Nat.lt_or_ge g b.heap.size with h2 | h2
    · exact h2
    · rw [Array.getElem?_eq_none h2] at h1; cases h1
  exact (Below.heap_alloc b o g hl).trans h1
theorem KeepT.whole {w w' : World} (h : KeepT w w') {g : Nat} {t : TypeId} {cs : Array Value} (hw : Whole w g t cs) (ht : t ≠ 5) : Whole w' g t cs := h g cs t (0, 0) ht hw
theorem KeepT.grown {w wa w' : World} {base n : Nat} {v : Value} {xs : List Value} (h : KeepT w wa) (hown : wa.ownsRow base 5 1 v n xs) (hg : wa.grownBy w' v.ownBlock) : KeepT w w' := fun g cs t fr ht hgc => by
  have h1 := h g cs t fr ht hgc
  have hl : g < wa.heap.size := by
    rcases Nat.lt_or_ge g wa.heap.size with h2 | h2
    · exact h2
    · rw [Array.getElem?_eq_none h2] at h1; cases h1
  refine (hg.block g hl ?_).trans h1
  intro hh
  rcases hown.2 with ⟨rfl, _⟩ | ⟨g2, cap, cur, rfl, _, hh2, _⟩
  · cases hh
  · have : g = g2 := by simpa [Value.ownBlock] using hh
    subst this
    rw [h1] at hh2
    simp only [Option.some.injEq, Obj.cells.injEq] at hh2
    exact ht hh2.2.1
/-- Bytes that are owned, or a literal of them that is full. -/
def Own2 (f : Bool) (w : World) (base : Nat) (L : List UInt8) (v : Value) : Prop :=
  w.ownsRow base 5 1 v L.length (L.map u8v) ∨ f = false ∧ ∃ (g : Nat) (fr : Nat × Nat), v = .slice (some ⟨g, 0, none⟩) L.length L.length ∧ base ≤ g ∧ g < w.heap.size ∧ w.heap[g]? = some (Obj.cells (L.map u8v).toArray 5 fr)
theorem app_u8 {ops : Array Oper} {rest : List Oper} {o : Oper} {a : Act} {Q : Exit → Act → World → Prop} {w0 w1 wr : World} {base : Nat} {v : Value} {L : List UInt8} {m : Nat} {news : List Value} {f : Bool} (hgd : o.guard = none) (s x : Operand)
    (ho : o.op = .call { callee := .builtin .append, args := #[s, x], argTypes := #[28, 28] }) (hs : a.eval s = v) (hown : Own2 f wr base L v) (hw : Below base w0 wr) (hk : KeepT w1 wr) (hb : base ≤ wr.heap.size)
    (hx : a.eval x = .slice (some ⟨wr.heap.size, 0, none⟩) m m) (hm : news.length = m) (h1 : ∀ u ∈ news, u.oneCell' = true) (hm0 : 0 < m) (hn : L.length + m ≤ 1000000000)
    (h : ∀ v' w', w'.ownsRow base 5 1 v' (L.length + m) (L.map u8v ++ news) → Below base w0 w' → KeepT w1 w' → base ≤ w'.heap.size → wpList Try.prog ops Q rest (a.put o.dst v') w') :
    wpList Try.prog ops Q (o :: rest) a (wr.alloc (.cells news.toArray 5)) := by
  obtain ⟨i0, hi, hz0, hz1, hz2⟩ := info_parts Try.info5
  have hc : ∀ j u, news[j]? = some u → (wr.alloc (.cells news.toArray 5)).cell? ((⟨wr.heap.size, 0, none⟩ : Addr).add j) = some u := by
    intro j u hj
    have := (Whole.made wr 5 news.toArray).cell j
    have e : (⟨wr.heap.size, 0, none⟩ : Addr).add j = ⟨wr.heap.size, j, none⟩ := by unfold Addr.add; split <;> simp_all
    rw [e, this]; simpa using hj
  rcases hown with hown | ⟨_, g, fr, rfl, hg, hgl, hh⟩
  · refine wpList_append_own _ hgd s x 28 ho base 5 i0 (.int .u8 0) 1 1 Try.underlying28 hi hz0 hz1 hz2 rfl (by decide) v L.length _ hs (hown.alloc _) ⟨wr.heap.size, 0, none⟩ m m news hx (by omega) hc h1 ?_ ?_ ?_ ?_
    · unfold maxLen; omega
    · omega
    · simp; omega
    · intro v' w1' hown' hgrow _
      refine h v' w1' hown' ((hw.alloc hb _).grown hgrow (by simp; omega) (fun k hk => (hown.lt k hk).1)) ((hk.alloc _).grown (hown.alloc _) hgrow) ?_
      have := hgrow.size; simp at this; omega
  · have hh2 : (wr.alloc (.cells news.toArray 5)).heap[g]? = some (Obj.cells (L.map u8v).toArray 5 fr) := (Below.heap_alloc wr _ g hgl).trans hh
    refine wpList_append_grows _ hgd s x 28 ho 5 i0 (.int .u8 0) 1 1 Try.underlying28 hi hz0 hz1 hz2 rfl (by decide) (some ⟨g, 0, none⟩) L.length L.length (L.map u8v) hs (by intro hh; cases hh) (by simp) ?_ ⟨wr.heap.size, 0, none⟩ m m news hx (by omega) hc h1 (by omega) ?_ ?_ ?_
    · intro b hb' j u hj
      cases hb'
      have e : (⟨g, 0, none⟩ : Addr).add j = ⟨g, j, none⟩ := by unfold Addr.add; split <;> simp_all
      rw [e]
      have := cell_of_row (wr.alloc (.cells news.toArray 5)) g j _ 5 fr hh2
      rw [this]; simpa using hj
    · unfold maxLen; omega
    · omega
    · intro v' w1' hown' hgrow
      have hle : base ≤ (wr.alloc (.cells news.toArray 5)).heap.size := by simp; omega
      refine h v' w1' (Joins.ownsRow_le hown' hle) ((hw.alloc hb _).grown hgrow hle (fun k hk => by cases hk)) (fun g cs t fr ht hgc => (hgrow.block g ?_ (by simp)).trans ((hk.alloc _) g cs t fr ht hgc)) ?_
      · have := (hk.alloc (.cells news.toArray 5)) g cs t fr ht hgc
        rcases Nat.lt_or_ge g (wr.alloc (.cells news.toArray 5)).heap.size with h2 | h2
        · exact h2
        · rw [Array.getElem?_eq_none h2] at this; cases this
      · have := hgrow.size; omega
/-- A slice of integers reads as a list, also while bytes grow. -/
def Reads (w : World) (base : Nat) (A : Option Addr) (m : Nat) (zs : List Int) : Prop :=
  zs.length = m ∧ (0 < m → ∃ b off, A = some ⟨b, off, none⟩ ∧ (b < base ∨ ∃ (cs : Array Value) (fr : Nat × Nat), w.heap[b]? = some (Obj.cells cs 3 fr)) ∧ ∀ j, j < m → w.cell? ⟨b, off + j, none⟩ = some (.int .i64 (zs.getD j 0)))
theorem Reads.keep {w w' : World} {base : Nat} {A : Option Addr} {m : Nat} {zs : List Int} (h : Reads w base A m zs) (hb : Below base w w') (hk : KeepT w w') : Reads w' base A m zs :=
  ⟨h.1, fun hm => by
    obtain ⟨b, off, e, hor, hc⟩ := h.2 hm
    refine ⟨b, off, e, ?_, fun j hj => ?_⟩
    · rcases hor with h1 | ⟨cs, fr, h1⟩
      · exact .inl h1
      · exact .inr ⟨cs, fr, hk b cs 3 fr (by decide) h1⟩
    · rcases hor with h1 | ⟨cs, fr, h1⟩
      · exact (hb.cell (p := ⟨b, off + j, none⟩) h1).trans (hc j hj)
      · rw [← hc j hj]
        unfold World.cell?
        rw [hk b cs 3 fr (by decide) h1, h1]⟩
theorem Reads.at_ {w : World} {base : Nat} {A : Option Addr} {m k : Nat} {zs : List Int} (h : Reads w base A m zs) (hk : k < m) :
    ∃ b off, A = some ⟨b, off, none⟩ ∧ w.cell? ⟨b, off + k, none⟩ = some (.int .i64 (zs.getD k 0)) := by
  obtain ⟨b, off, e, _, hc⟩ := h.2 (by omega)
  exact ⟨b, off, e, hc k hk⟩
/-- A number's byte. -/
def byt (x : Int) (k : Nat) : UInt8 := UInt8.ofNat ((x / 256 ^ k) % 256).toNat
def byts (x : Int) (n : Nat) : List UInt8 := (List.range n).map (byt x)
def putB (width : Nat) (zs : List Int) : List UInt8 := zs.flatMap fun x => byts x width
theorem byts_len (x : Int) (n : Nat) : (byts x n).length = n := by simp [byts]
theorem byts_succ (x : Int) (n : Nat) : byts x (n + 1) = byts x n ++ [byt x n] := by
  unfold byts; rw [List.range_succ, List.map_append]; rfl
theorem putB_len (width : Nat) : ∀ zs : List Int, (putB width zs).length = width * zs.length
  | [] => by simp [putB]
  | x :: zs => by
    have := putB_len width zs
    unfold putB at this ⊢
    rw [List.flatMap_cons, List.length_append, byts_len, this, List.length_cons, Nat.mul_succ, Nat.add_comm]
theorem putB_take (width : Nat) (zs : List Int) (k : Nat) (h : k < zs.length) : putB width (zs.take (k + 1)) = putB width (zs.take k) ++ byts (zs.getD k 0) width := by
  rw [List.take_add_one, List.getElem?_eq_getElem h, Option.toList_some]
  unfold putB
  rw [List.flatMap_append, List.flatMap_cons, List.flatMap_nil, List.append_nil, List.getD_eq_getElem?_getD, List.getElem?_eq_getElem h]; rfl
theorem u8v_byt (x : Int) (k : Nat) : u8v (byt x k) = .int .u8 (x / 2 ^ (8 * k) % 256) := by
  unfold u8v byt
  rw [show (2 : Int) ^ (8 * k) = 256 ^ k from by rw [Int.pow_mul]; rfl]
  generalize x / 256 ^ k = y
  congr 1
  rw [UInt8.toNat_ofNat']
  omega
/-- Bytes that are owned, on the way. -/
def Grow (f : Bool) (w : World) (base : Nat) (L : List UInt8) (v : Value) (wr : World) : Prop :=
  Own2 f wr base L v ∧ Below base w wr ∧ KeepT w wr ∧ base ≤ wr.heap.size
theorem grow_next {f : Bool} {w wr : World} {base : Nat} {L L' : List UInt8} {v : Value} {x : Int} {j : Nat} (hL : L' = L ++ [byt x j]) (ho : wr.ownsRow base 5 1 v (L.length + 1) (L.map u8v ++ [.int .u8 (x / 2 ^ (8 * j) % 256)])) (hb : Below base w wr) (hk : KeepT w wr) (hs : base ≤ wr.heap.size) :
    Grow f w base L' v wr := by
  subst hL
  refine ⟨.inl ?_, hb, hk, hs⟩
  rw [List.length_append, List.map_append, List.map_cons, List.map_nil, u8v_byt]; exact ho
theorem flag_eq {f : Bool} {width k j : Nat} (h : j = width) : (f || decide (0 < width ∧ 0 < k) || decide (0 < j)) = (f || decide (0 < width ∧ 0 < k + 1)) := by
  subst h
  rw [Bool.eq_iff_iff]
  simp only [Bool.or_eq_true, decide_eq_true_eq]
  constructor
  · rintro ((h | h) | h)
    · exact .inl h
    · exact .inr ⟨h.1, by omega⟩
    · exact .inr ⟨h, by omega⟩
  · rintro (h | h)
    · exact .inl (.inl h)
    · exact .inr h.1
set_option maxHeartbeats 2000000 in
theorem put_any (f : Bool) (w : World) (base : Nat) (bs : List UInt8) (v : Value) (width : Nat) (A : Option Addr) (m c : Nat) (zs : List Int) (hv : Grow f w base bs v w) (hz : Reads w base A m zs) (h8 : width ≤ 8) (hm : m ≤ 1000) (hl : bs.length ≤ 100000000) :
    Calls Try.prog 22 #[v, .int .i64 (width : Int), .slice A m c] w fun e w' => ∃ v', e = .returned v' ∧ Grow (f || decide (0 < width ∧ 0 < m)) w base (bs ++ putB width zs) v' w' := by
  have HZ := Lib.hid hz
  have HW : Hid (∀ k, k ≤ m → (putB width (zs.take k)).length ≤ 8000) := fun k hk => by
    rw [putB_len, List.length_take]
    have := Nat.mul_le_mul h8 (Nat.min_le_left k zs.length)
    omega
  clear hz
  go_enter Try.func22, Try.ntmps22
  go_wp2
  go_loopw [0, 12] (fun u i wr => ∃ k : Nat, i = .int .i64 (k : Int) ∧ k ≤ m ∧ Grow (f || decide (0 < width ∧ 0 < k)) w base (bs ++ putB width (zs.take k)) u wr) (fun _ i _ => m - (intOf i).toNat)
  case atStart => exact ⟨0, rfl, by omega, by simpa [putB] using hv⟩
  case round =>
    obtain ⟨k, rfl, hk, hg⟩ := hrel
    by_cases hlt : k < m
    · obtain ⟨b, off, e1, c1⟩ := (HZ.out.keep hg.2.1 hg.2.2.1).at_ hlt
      subst e1
      have HT := Lib.hid (putB_take width zs k (by rw [HZ.out.1]; exact hlt))
      have hlen := HW.out k hk
      generalize zs.getD k 0 = x at *
      generalize putB width (zs.take k) = P at *
      have HG := Lib.hid hg
      clear hg
      go_wp2
      go_loopw [0, 17] (fun u i wr => ∃ j : Nat, i = .int .i64 (j : Int) ∧ j ≤ width ∧ Grow (f || decide (0 < width ∧ 0 < k) || decide (0 < j)) w base (bs ++ P ++ byts x j) u wr) (fun _ i _ => width - (intOf i).toNat)
      case atStart => exact ⟨0, rfl, by omega, by simpa [byts] using HG.out⟩
      case round =>
        obtain ⟨j, rfl, hj, ⟨hown, hb, hkt, hsz⟩⟩ := hrel
        have hll : (bs ++ P ++ byts x j).length ≤ 100008008 := by rw [List.length_append, List.length_append, byts_len]; omega
        have HBS : Hid (bs ++ P ++ byts x (j + 1) = bs ++ P ++ byts x j ++ [byt x j]) := by show _ = _; rw [byts_succ, List.append_assoc (bs ++ P)]
        have HLJ : Hid (j = width → bs ++ P ++ byts x j = bs ++ putB width (zs.take (k + 1))) := fun e => by rw [HT.out, e, List.append_assoc]
        generalize bs ++ P ++ byts x j = L at *
        by_cases hlt2 : j < width
        · go_wp2_with (at_builtin; go_must (refine app_u8 rfl _ _ rfl rfl hown hb hkt hsz rfl rfl (by intro u hu; simp at hu; subst hu; rfl) (by omega) (by omega) ?_); intro v' w' hown' hb' hkt' hsz')
          exact ⟨⟨j + 1, by go_num, by omega, grow_next HBS.out hown' hb' hkt' hsz'⟩, by simp [intOf]; omega⟩
        · have e := HLJ.out (by omega)
          have hgn : Grow _ w base L _ wr := ⟨hown, hb, hkt, hsz⟩
          rw [e, show (f || decide (0 < width ∧ 0 < k) || decide (0 < j)) = (f || decide (0 < width ∧ 0 < k + 1)) from flag_eq (by omega)] at hgn
          have HGN := Lib.hid hgn
          clear hgn hown e
          go_wp2
          exact ⟨⟨k + 1, by go_num, by omega, HGN.out⟩, by simp [intOf]; omega⟩
    · have e : zs.take k = zs := List.take_of_length_le (by rw [HZ.out.1]; omega)
      rw [e, show k = m from by omega] at hg
      have HG := Lib.hid hg
      clear hg e
      go_wp2
      go_ret
      exact ⟨_, rfl, HG.out⟩
end Go.Proofs.Ytffpkmoaahkfmaa
