/- The walks of layer 13: whether a code may be, by the program. -/
import Derived.Test.YtjkbhdocpjekmaaWalkB
namespace Go.Proofs.Ytjkbhdocpjekmaa
open Go.RowKit
set_option linter.unusedVariables false

structure Ins where
  op : Int
  a : Int
  b : Int
def Ins.val (i : Ins) : Value := .agg #[.int .i64 i.op, .int .i64 i.a, .int .i64 i.b]
def Ins.ok (i : Ins) : Bool := insOK i.op i.a i.b
def ins0 : Ins := ⟨0, 0, 0⟩
/-- A slice of instructions reads as a list; it lies below block B. -/
def InsAt (w : World) (B : Nat) (A : Option Addr) (n : Nat) (is : List Ins) : Prop :=
  is.length = n ∧ (0 < n → ∃ b off, A = some ⟨b, off, none⟩ ∧ b < B ∧ ∀ j, j < n → w.cell? ⟨b, off + j * 3, none⟩ = some (.int .i64 (is.getD j ins0).op) ∧ w.cell? ⟨b, off + j * 3 + 1, none⟩ = some (.int .i64 (is.getD j ins0).a) ∧ w.cell? ⟨b, off + j * 3 + 2, none⟩ = some (.int .i64 (is.getD j ins0).b))
theorem InsAt.below {w w' : World} {B : Nat} {A : Option Addr} {n : Nat} {is : List Ins} (h : InsAt w B A n is) (hb : Below B w w') : InsAt w' B A n is :=
  ⟨h.1, fun hn => by
    obtain ⟨b, off, e, hlt, hc⟩ := h.2 hn
    exact ⟨b, off, e, hlt, fun j hj => ⟨(hb.cell (p := ⟨b, _, none⟩) hlt).trans (hc j hj).1, (hb.cell (p := ⟨b, _, none⟩) hlt).trans (hc j hj).2.1, (hb.cell (p := ⟨b, _, none⟩) hlt).trans (hc j hj).2.2⟩⟩⟩
theorem InsAt.more {w : World} {B B' : Nat} {A : Option Addr} {n : Nat} {is : List Ins} (h : InsAt w B A n is) (hb : B ≤ B') : InsAt w B' A n is :=
  ⟨h.1, fun hn => by
    obtain ⟨b, off, e, hlt, hc⟩ := h.2 hn
    exact ⟨b, off, e, by omega, hc⟩⟩
theorem InsAt.at_ {w : World} {B : Nat} {A : Option Addr} {n k : Nat} {is : List Ins} (h : InsAt w B A n is) (hk : k < n) :
    ∃ b off, A = some ⟨b, off, none⟩ ∧ b < B ∧ w.cell? ⟨b, off + k * 3, none⟩ = some (.int .i64 (is.getD k ins0).op) ∧ w.cell? ⟨b, off + k * 3 + 1, none⟩ = some (.int .i64 (is.getD k ins0).a) ∧ w.cell? ⟨b, off + k * 3 + 2, none⟩ = some (.int .i64 (is.getD k ins0).b) := by
  obtain ⟨b, off, e, hlt, hc⟩ := h.2 (by omega)
  exact ⟨b, off, e, hlt, hc k hk⟩
/-- The first that is so; none: -1. -/
def IdxPost (p : Nat → Bool) (n : Nat) (r : Int) : Prop := (r = -1 ∧ ∀ j, j < n → p j = false) ∨ (0 ≤ r ∧ ∃ j, j < n ∧ p j = true)
set_option maxHeartbeats 1000000 in
theorem index_ins (w : World) (A : Option Addr) (n c : Nat) (is : List Ins) (hz : InsAt w w.heap.size A n is) (hn : n ≤ 9223372036854775807) :
    Calls Try.prog 48 #[.slice A n c, .func (.func 34) #[] #[]] w fun e w' => ∃ r, e = .returned (.int .i64 r) ∧ IdxPost (fun j => !(is.getD j ins0).ok) n r ∧ Below w.heap.size w w' := by
  have HZ := Lib.hid hz
  clear hz
  go_enter Try.func48, Try.ntmps48
  go_wp2
  go_loopw [5, 8] (fun _ i wr => ∃ k : Nat, i = .int .i64 (k : Int) ∧ k ≤ n ∧ (∀ j, j < k → (is.getD j ins0).ok = true) ∧ Below w.heap.size w wr) (fun _ i _ => n - (intOf i).toNat)
  case atStart => exact ⟨0, rfl, by omega, fun j hj => absurd hj (by omega), Below.refl _ _⟩
  case round =>
    obtain ⟨k, rfl, hk, hp, hw⟩ := hrel
    have HP := Lib.hid hp
    clear hp
    by_cases hlt : k < n
    · obtain ⟨b, off, e1, _, c1, c2, c3⟩ := (HZ.out.below hw).at_ hlt
      subst e1
      generalize hq : is.getD k ins0 = q at *
      obtain ⟨op, a, b2⟩ := q
      have HQ := Lib.hid hq
      clear hq
      dsimp only at c1 c2 c3
      rcases ho : insOK op a b2 with _ | _
      · have H2 : Hid (IdxPost (fun j => !(is.getD j ins0).ok) n (k : Int)) := .inr ⟨by omega, k, hlt, by show (!(is.getD k ins0).ok) = true; rw [HQ.out]; show (!(insOK op a b2)) = true; rw [ho]; rfl⟩
        go_wp2_with (go_at_call 34; refine (odd_any _ _ _ _).mono ?_; rintro e w' ⟨rfl, hb⟩; rw [ho])
        go_ret
        exact ⟨_, rfl, H2.out, hw.trans (hb.mono hw.size)⟩
      · have H2 : Hid (∀ j, j < k + 1 → (is.getD j ins0).ok = true) := fun j hj => by
          rcases Nat.lt_or_ge j k with h | h
          · exact HP.out j h
          · rw [show j = k from by omega, HQ.out]; exact ho
        go_wp2_with (go_at_call 34; refine (odd_any _ _ _ _).mono ?_; rintro e w' ⟨rfl, hb⟩; rw [ho])
        exact ⟨⟨k + 1, by go_num, by omega, H2.out, hw.trans (hb.mono hw.size)⟩, by simp [intOf]; omega⟩
    · have H2 : Hid (IdxPost (fun j => !(is.getD j ins0).ok) n (-1)) := .inl ⟨rfl, fun j hj => by show (!(is.getD j ins0).ok) = false; rw [HP.out j (by omega)]; rfl⟩
      go_wp2
      go_ret
      exact ⟨_, rfl, H2.out, hw⟩
end Go.Proofs.Ytjkbhdocpjekmaa
