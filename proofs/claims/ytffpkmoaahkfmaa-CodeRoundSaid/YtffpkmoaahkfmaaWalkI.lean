/- The walks of layer 13: a code's bytes, by the program. -/
import Derived.Test.YtffpkmoaahkfmaaWalkH
namespace Go.Proofs.Ytffpkmoaahkfmaa
open Go.RowKit
set_option linter.unusedVariables false

def encI (i : Ins) : List UInt8 := putB 1 [i.op] ++ putB 2 [i.a, i.b]
def encF (b : Bdy) : List UInt8 := putB 1 [b.kept, b.locals, b.stack] ++ putB 2 [(b.code.length : Int)] ++ b.code.flatMap encI
def encT (s : ByteArray) : List UInt8 := putB 1 [(s.size : Int)] ++ s.data.toList
def encC (c : Cod) : List UInt8 :=
  [83, 77, 49] ++ putB 1 [c.lets, (c.ints.length : Int)] ++ putB 8 c.ints ++ putB 1 [(c.texts.length : Int)] ++ c.texts.flatMap encT ++ putB 1 [(c.funs.length : Int)] ++ c.funs.flatMap encF
set_option maxRecDepth 100000 in
set_option maxHeartbeats 4000000 in
theorem encode_bad (w : World) (v : Value) (c : Cod) (hc : CodAt w w.heap.size v c) (ho : codOK c = false) :
    Calls Try.prog 10 #[v] w fun e w' => e = .returned (.tuple #[.slice none 0 0, .int .i64 1]) ∧ Below w.heap.size w w' := by
  obtain ⟨FA, fn, fc, IA, inn, ic, TA, tn, tc, rfl, h1, h2, h3, hf, hi, ht⟩ := hc.form
  have HC := Lib.hid hc
  clear hc h1 h2 h3
  have HB : Hid (Below w.heap.size w (w.alloc (.cells #[.slice FA fn fc, .slice IA inn ic, .slice TA tn tc, .int .i64 c.lets] 26))) := (Below.refl _ _).alloc (Nat.le_refl _) _
  have HO := Lib.hid ho
  clear ho
  go_enter Try.func10, Try.ntmps10
  go_wp2_with (go_at_call 13; refine (may_any _ _ c ((HC.out.below HB.out).more HB.out.size)).mono ?_; rintro e w' ⟨rfl, hb⟩; rw [HO.out])
  go_ret2
  exact ⟨rfl, HB.out.trans (hb.mono HB.out.size)⟩
theorem Grow.start {f : Bool} {w wr : World} {base : Nat} {L : List UInt8} {v : Value} (h : Grow f w base L v wr) : Grow f wr base L v wr := ⟨h.1, Below.refl _ _, KeepT.refl _, h.2.2.2⟩
theorem Own2.alloc {f : Bool} {w : World} {base : Nat} {L : List UInt8} {v : Value} (h : Own2 f w base L v) (o : Obj) : Own2 f (w.alloc o) base L v := by
  rcases h with h | ⟨hf, g, fr, e, hg, hl, hh⟩
  · exact .inl (h.alloc _)
  · exact .inr ⟨hf, g, fr, e, hg, by simp; omega, (Below.heap_alloc w o g hl).trans hh⟩
theorem Grow.alloc {f : Bool} {w wr : World} {base : Nat} {L : List UInt8} {v : Value} (h : Grow f w base L v wr) (o : Obj) : Grow f w base L v (wr.alloc o) :=
  ⟨h.1.alloc _, h.2.1.alloc h.2.2.2 _, h.2.2.1.alloc _, by have := h.2.2.2; simp; omega⟩
theorem Grow.then_ {f f' : Bool} {w wr w' : World} {base : Nat} {L L' : List UInt8} {v v' : Value} (h : Grow f w base L v wr) (k : Grow f' wr base L' v' w') : Grow f' w base L' v' w' :=
  ⟨k.1, h.2.1.trans k.2.1, h.2.2.1.trans k.2.2.1, k.2.2.2⟩
theorem Grow.own {w wr : World} {base : Nat} {L : List UInt8} {v : Value} (h : Grow true w base L v wr) : wr.ownsRow base 5 1 v L.length (L.map u8v) := by
  rcases h.1 with h1 | ⟨hf, _⟩
  · exact h1
  · cases hf
theorem Grow.form {w wr : World} {base : Nat} {L : List UInt8} {v : Value} (h : Grow true w base L v wr) : ∃ A c, v = .slice A L.length c := by
  rcases h.own.2 with ⟨rfl, hx⟩ | ⟨g, cap, cur, rfl, _⟩
  · exact ⟨none, 0, by rw [hx]⟩
  · exact ⟨_, _, rfl⟩
theorem reads_lit (wr : World) (base : Nat) (zs : List Int) (m : Nat) (hm : zs.length = m) : Reads (wr.alloc (.cells (zs.map (Value.int .i64)).toArray 3)) base (some ⟨wr.heap.size, 0, none⟩) m zs :=
  ⟨hm, fun _ => ⟨wr.heap.size, 0, rfl, .inr ⟨_, _, Whole.made wr 3 _⟩, fun j hj => by
    rw [Nat.zero_add]
    have := (Whole.made wr 3 (zs.map (Value.int .i64)).toArray).cell j
    rw [this, List.getElem?_toArray, List.getElem?_map, List.getElem?_eq_getElem (by omega), List.getD_eq_getElem?_getD, List.getElem?_eq_getElem (by omega)]; rfl⟩⟩
theorem put_lit {f : Bool} {w wr : World} {base : Nat} {L : List UInt8} {v : Value} (hg : Grow f w base L v wr) (width : Nat) (zs : List Int) (m : Nat) (hm : zs.length = m) (g : Nat) (hgs : wr.heap.size = g) (h8 : width ≤ 8) (h1 : m ≤ 1000) (hl : L.length ≤ 100000000) (hw : 0 < width) (hm0 : 0 < m) :
    Calls Try.prog 22 #[v, .int .i64 (width : Int), .slice (some ⟨g, 0, none⟩) m m] (wr.alloc (.cells (zs.map (Value.int .i64)).toArray 3)) fun e w' => ∃ v', e = .returned v' ∧ Grow true w base (L ++ putB width zs) v' w' := by
  subst hgs
  refine (put_any f _ base L v width _ m m zs (hg.alloc _).start (reads_lit wr base zs m hm) h8 h1 hl).mono ?_
  rintro e w' ⟨v', rfl, hg'⟩
  rw [decide_eq_true (And.intro hw hm0), Bool.or_true] at hg'
  exact ⟨v', rfl, (hg.alloc _).then_ hg'⟩
theorem put_arg {w wr : World} {base B : Nat} {L : List UInt8} {v : Value} (hg : Grow true w base L v wr) (width : Nat) {A : Option Addr} {m c : Nat} {zs : List Int} (hz : Ints w B A m zs) (hB : B ≤ base) (h8 : width ≤ 8) (h1 : m ≤ 1000) (hl : L.length ≤ 100000000) :
    Calls Try.prog 22 #[v, .int .i64 (width : Int), .slice A m c] wr fun e w' => ∃ v', e = .returned v' ∧ Grow true w base (L ++ putB width zs) v' w' := by
  refine (put_any true _ base L v width A m c zs hg.start ?_ h8 h1 hl).mono ?_
  · exact ⟨hz.1, fun h0 => by
      obtain ⟨b, off, e, hlt, hc⟩ := hz.2 h0
      exact ⟨b, off, e, .inl (by omega), fun j hj => (hg.2.1.cell (p := ⟨b, off + j, none⟩) (by show b < base; omega)).trans (hc j hj)⟩⟩
  · rintro e w' ⟨v', rfl, hg'⟩
    exact ⟨v', rfl, hg.then_ hg'⟩
end Go.Proofs.Ytffpkmoaahkfmaa
