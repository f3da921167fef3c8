/- The walks of layer 13: whether a code may be, by the program: functions. -/
import Derived.Test.YtjkbhdocpjekmaaWalkC
namespace Go.Proofs.Ytjkbhdocpjekmaa
open Go.RowKit
set_option linter.unusedVariables false

theorem idx_all {α : Type} (l : List α) (d : α) (f : α → Bool) {r : Int} (h : IdxPost (fun j => !(f (l.getD j d))) l.length r) : decide (0 ≤ r) = !(l.all f) := by
  rcases h with ⟨rfl, h⟩ | ⟨h0, j, hj, h⟩
  · have : l.all f = true := by
      rw [List.all_eq_true]; intro x hx
      obtain ⟨j, hj, e⟩ := List.getElem_of_mem hx
      have h1 := h j hj
      dsimp only at h1
      rw [List.getD_eq_getElem?_getD, List.getElem?_eq_getElem hj, Option.getD_some, e] at h1
      simpa using h1
    rw [this]; rfl
  · have : l.all f = false := by
      rw [Bool.eq_false_iff]; intro hh; rw [List.all_eq_true] at hh
      have h1 := hh _ (List.getElem_mem hj)
      dsimp only at h
      rw [List.getD_eq_getElem?_getD, List.getElem?_eq_getElem hj, Option.getD_some, h1] at h
      cases h
    rw [this]; simp [h0]
theorem contains_ins (w : World) (A : Option Addr) (n c : Nat) (is : List Ins) (hz : InsAt w w.heap.size A n is) (hn : n ≤ 9223372036854775807) :
    Calls Try.prog 33 #[.slice A n c, .func (.func 34) #[] #[]] w fun e w' => e = .returned (.bool (!(is.all Ins.ok))) ∧ Below w.heap.size w w' := by
  have HZ := Lib.hid hz
  clear hz
  go_enter Try.func33, Try.ntmps33
  go_wp2_with fail
  refine (index_ins w A n c is HZ.out hn).mono ?_
  rintro e w' ⟨r, rfl, hr, hb⟩
  rw [← HZ.out.1] at hr
  have H2 := Lib.hid (idx_all is ins0 Ins.ok hr)
  clear hr
  go_wp2
  go_ret
  exact ⟨ret_b H2.out, hb⟩
structure Bdy where
  kept : Int
  locals : Int
  stack : Int
  code : List Ins
def bdyOK (b : Bdy) : Bool := inF b.kept 0 59 && inF b.locals 0 60 && inF b.stack 1 60 && inF (b.code.length : Int) 1 400 && b.code.all Ins.ok
set_option maxHeartbeats 1000000 in
theorem wrong_any (b : Bdy) (w : World) (A : Option Addr) (n c : Nat) (hz : InsAt w w.heap.size A n b.code) (hn : n ≤ 9223372036854775807) :
    Calls Try.prog 24 #[.agg #[.int .i64 b.kept, .int .i64 b.locals, .int .i64 b.stack, .slice A n c]] w fun e w' => e = .returned (.bool (!(bdyOK b))) ∧ Below w.heap.size w w' := by
  have HL := Lib.hid hz.1
  have HZ : Hid (InsAt (w.alloc (.cells #[.int .i64 b.kept, .int .i64 b.locals, .int .i64 b.stack, .slice A n c] 40)) (w.alloc (.cells #[.int .i64 b.kept, .int .i64 b.locals, .int .i64 b.stack, .slice A n c] 40)).heap.size A n b.code) :=
    (hz.below ((Below.refl _ _).alloc (Nat.le_refl _) _)).more (by simp)
  have HB : Hid (Below w.heap.size w (w.alloc (.cells #[.int .i64 b.kept, .int .i64 b.locals, .int .i64 b.stack, .slice A n c] 40))) := (Below.refl _ _).alloc (Nat.le_refl _) _
  clear hz
  have HF : Hid (bdyOK b = (inF b.kept 0 59 && inF b.locals 0 60 && inF b.stack 1 60 && inF (n : Int) 1 400 && b.code.all Ins.ok)) := by
    show bdyOK b = _; unfold bdyOK; rw [HL.out]
  obtain ⟨k, l, s, is⟩ := b
  dsimp only at *
  generalize ho : is.all Ins.ok = ok at *
  have HO := Lib.hid ho
  clear ho
  go_enter Try.func24, Try.ntmps24
  go_wp2_with (first
    | (go_at_call 22; refine (in_any' _ _ _ _).mono ?_; rintro e w' ⟨rfl, rfl⟩)
    | (go_at_call 33; refine (contains_ins _ A n c is HZ.out hn).mono ?_; rintro e w' ⟨rfl, hb⟩; rw [HO.out]))
  all_goals (go_ret; refine ⟨ret_b (by rw [HF.out]; simp [*]), ?_⟩; first | exact HB.out | exact HB.out.trans (hb.mono HB.out.size))
end Go.Proofs.Ytjkbhdocpjekmaa
