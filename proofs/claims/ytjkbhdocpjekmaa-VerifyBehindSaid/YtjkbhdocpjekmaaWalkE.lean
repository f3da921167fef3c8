/- The walks of layer 13: whether a code may be, by the program: the searches over functions, integers and texts. -/
import Derived.Test.YtjkbhdocpjekmaaWalkD
namespace Go.Proofs.Ytjkbhdocpjekmaa
open Go.RowKit
set_option linter.unusedVariables false

def bdy0 : Bdy := ⟨0, 0, 0, []⟩
/-- A slice of functions reads as a list; it and what they hold lie below block B. -/
def BdysAt (w : World) (B : Nat) (A : Option Addr) (n : Nat) (bs : List Bdy) : Prop :=
  bs.length = n ∧ (0 < n → ∃ b off, A = some ⟨b, off, none⟩ ∧ b < B ∧ ∀ j, j < n → w.cell? ⟨b, off + j * 4, none⟩ = some (.int .i64 (bs.getD j bdy0).kept) ∧ w.cell? ⟨b, off + j * 4 + 1, none⟩ = some (.int .i64 (bs.getD j bdy0).locals) ∧ w.cell? ⟨b, off + j * 4 + 2, none⟩ = some (.int .i64 (bs.getD j bdy0).stack) ∧
    ∃ A' n' c', w.cell? ⟨b, off + j * 4 + 3, none⟩ = some (.slice A' n' c') ∧ InsAt w B A' n' (bs.getD j bdy0).code ∧ n' ≤ 9223372036854775807)
theorem BdysAt.below {w w' : World} {B : Nat} {A : Option Addr} {n : Nat} {bs : List Bdy} (h : BdysAt w B A n bs) (hb : Below B w w') : BdysAt w' B A n bs :=
  ⟨h.1, fun hn => by
    obtain ⟨b, off, e, hlt, hc⟩ := h.2 hn
    refine ⟨b, off, e, hlt, fun j hj => ?_⟩
    obtain ⟨h1, h2, h3, A', n', c', h4, h5, h6⟩ := hc j hj
    exact ⟨(hb.cell (p := ⟨b, _, none⟩) hlt).trans h1, (hb.cell (p := ⟨b, _, none⟩) hlt).trans h2, (hb.cell (p := ⟨b, _, none⟩) hlt).trans h3, A', n', c', (hb.cell (p := ⟨b, _, none⟩) hlt).trans h4, h5.below hb, h6⟩⟩
theorem BdysAt.more {w : World} {B B' : Nat} {A : Option Addr} {n : Nat} {bs : List Bdy} (h : BdysAt w B A n bs) (hb : B ≤ B') : BdysAt w B' A n bs :=
  ⟨h.1, fun hn => by
    obtain ⟨b, off, e, hlt, hc⟩ := h.2 hn
    refine ⟨b, off, e, by omega, fun j hj => ?_⟩
    obtain ⟨h1, h2, h3, A', n', c', h4, h5, h6⟩ := hc j hj
    exact ⟨h1, h2, h3, A', n', c', h4, h5.more hb, h6⟩⟩
theorem BdysAt.at_ {w : World} {B : Nat} {A : Option Addr} {n k : Nat} {bs : List Bdy} (h : BdysAt w B A n bs) (hk : k < n) :
    ∃ b off, A = some ⟨b, off, none⟩ ∧ b < B ∧ w.cell? ⟨b, off + k * 4, none⟩ = some (.int .i64 (bs.getD k bdy0).kept) ∧ w.cell? ⟨b, off + k * 4 + 1, none⟩ = some (.int .i64 (bs.getD k bdy0).locals) ∧ w.cell? ⟨b, off + k * 4 + 2, none⟩ = some (.int .i64 (bs.getD k bdy0).stack) ∧
    ∃ A' n' c', w.cell? ⟨b, off + k * 4 + 3, none⟩ = some (.slice A' n' c') ∧ InsAt w B A' n' (bs.getD k bdy0).code ∧ n' ≤ 9223372036854775807 := by
  obtain ⟨b, off, e, hlt, hc⟩ := h.2 (by omega)
  exact ⟨b, off, e, hlt, hc k hk⟩
/-- A slice of texts reads as a list; it lies below block B. -/
def StrsAt (w : World) (B : Nat) (A : Option Addr) (n : Nat) (ss : List ByteArray) : Prop :=
  ss.length = n ∧ (0 < n → ∃ b off, A = some ⟨b, off, none⟩ ∧ b < B ∧ ∀ j, j < n → w.cell? ⟨b, off + j, none⟩ = some (.string (ss.getD j ByteArray.empty)))
theorem StrsAt.below {w w' : World} {B : Nat} {A : Option Addr} {n : Nat} {ss : List ByteArray} (h : StrsAt w B A n ss) (hb : Below B w w') : StrsAt w' B A n ss :=
  ⟨h.1, fun hn => by
    obtain ⟨b, off, e, hlt, hc⟩ := h.2 hn
    exact ⟨b, off, e, hlt, fun j hj => (hb.cell (p := ⟨b, off + j, none⟩) hlt).trans (hc j hj)⟩⟩
theorem StrsAt.more {w : World} {B B' : Nat} {A : Option Addr} {n : Nat} {ss : List ByteArray} (h : StrsAt w B A n ss) (hb : B ≤ B') : StrsAt w B' A n ss :=
  ⟨h.1, fun hn => by
    obtain ⟨b, off, e, hlt, hc⟩ := h.2 hn
    exact ⟨b, off, e, by omega, hc⟩⟩
theorem StrsAt.at_ {w : World} {B : Nat} {A : Option Addr} {n k : Nat} {ss : List ByteArray} (h : StrsAt w B A n ss) (hk : k < n) :
    ∃ b off, A = some ⟨b, off, none⟩ ∧ b < B ∧ w.cell? ⟨b, off + k, none⟩ = some (.string (ss.getD k ByteArray.empty)) := by
  obtain ⟨b, off, e, hlt, hc⟩ := h.2 (by omega)
  exact ⟨b, off, e, hlt, hc k hk⟩
def intOK (n : Int) : Bool := inF n (-4611686018427387904) 4611686018427387903
def txtOK (s : ByteArray) : Bool := decide (s.size ≤ 60)
theorem bigint_any (n : Int) (w : World) : Calls Try.prog 26 #[.int .i64 n] w fun e w' => e = .returned (.bool (!(intOK n))) ∧ w = w' := by
  go_enter Try.func26, Try.ntmps26
  go_wp2_with (go_at_call 22; refine (in_any' _ _ _ _).mono ?_; rintro e w' ⟨rfl, rfl⟩)
  go_ret
  exact ⟨rfl, rfl⟩
theorem bigtxt_any (s : ByteArray) (w : World) : Calls Try.prog 28 #[.string s] w fun e w' => e = .returned (.bool (!(txtOK s))) ∧ w = w' := by
  go_enter Try.func28, Try.ntmps28
  go_wp2
  go_ret
  exact ⟨ret_b (by unfold txtOK; rw [Bool.eq_iff_iff]; simp; omega), rfl⟩

set_option maxHeartbeats 1000000 in
theorem index_int (w : World) (A : Option Addr) (n c : Nat) (is : List Int) (hz : Ints w w.heap.size A n is) (hn : n ≤ 9223372036854775807) :
    Calls Try.prog 35 #[.slice A n c, .func (.func 26) #[] #[]] w fun e w' => ∃ r, e = .returned (.int .i64 r) ∧ IdxPost (fun j => !(intOK (is.getD j 0))) n r ∧ Below w.heap.size w w' := by
  have HZ := Lib.hid hz
  clear hz
  go_enter Try.func35, Try.ntmps35
  go_wp2
  go_loopw [5, 8] (fun _ i wr => ∃ k : Nat, i = .int .i64 (k : Int) ∧ k ≤ n ∧ (∀ j, j < k → intOK (is.getD j 0) = true) ∧ Below w.heap.size w wr) (fun _ i _ => n - (intOf i).toNat)
  case atStart => exact ⟨0, rfl, by omega, fun j hj => absurd hj (by omega), Below.refl _ _⟩
  case round =>
    obtain ⟨k, rfl, hk, hp, hw⟩ := hrel
    have HP := Lib.hid hp
    clear hp
    by_cases hlt : k < n
    · obtain ⟨b, off, e1, _, c1⟩ := (HZ.out.below hw).at_ hlt
      subst e1
      generalize hq : is.getD k 0 = q at *
      have HQ := Lib.hid hq
      clear hq
      rcases ho : intOK q with _ | _
      · have H2 : Hid (IdxPost (fun j => !(intOK (is.getD j 0))) n (k : Int)) := .inr ⟨by omega, k, hlt, by show (!(intOK (is.getD k 0))) = true; rw [HQ.out]; show (!(intOK q)) = true; rw [ho]; rfl⟩
        have hb := Below.refl wr.heap.size wr
        go_wp2_with (go_at_call 26; refine (bigint_any _ _).mono ?_; rintro e w' ⟨rfl, rfl⟩; rw [ho])
        go_ret
        exact ⟨_, rfl, H2.out, hw.trans (hb.mono hw.size)⟩
      · have H2 : Hid (∀ j, j < k + 1 → intOK (is.getD j 0) = true) := fun j hj => by
          rcases Nat.lt_or_ge j k with h | h
          · exact HP.out j h
          · rw [show j = k from by omega, HQ.out]; exact ho
        have hb := Below.refl wr.heap.size wr
        go_wp2_with (go_at_call 26; refine (bigint_any _ _).mono ?_; rintro e w' ⟨rfl, rfl⟩; rw [ho])
        exact ⟨⟨k + 1, by go_num, by omega, H2.out, hw.trans (hb.mono hw.size)⟩, by simp [intOf]; omega⟩
    · have H2 : Hid (IdxPost (fun j => !(intOK (is.getD j 0))) n (-1)) := .inl ⟨rfl, fun j hj => by show (!(intOK (is.getD j 0))) = false; rw [HP.out j (by omega)]; rfl⟩
      go_wp2
      go_ret
      exact ⟨_, rfl, H2.out, hw⟩
theorem contains_int (w : World) (A : Option Addr) (n c : Nat) (is : List Int) (hz : Ints w w.heap.size A n is) (hn : n ≤ 9223372036854775807) :
    Calls Try.prog 25 #[.slice A n c, .func (.func 26) #[] #[]] w fun e w' => e = .returned (.bool (!(is.all intOK))) ∧ Below w.heap.size w w' := by
  have HZ := Lib.hid hz
  clear hz
  go_enter Try.func25, Try.ntmps25
  go_wp2_with fail
  refine (index_int w A n c is HZ.out hn).mono ?_
  rintro e w' ⟨r, rfl, hr, hb⟩
  rw [← HZ.out.1] at hr
  have H2 := Lib.hid (idx_all is 0 intOK hr)
  clear hr
  go_wp2
  go_ret
  exact ⟨ret_b H2.out, hb⟩

set_option maxHeartbeats 1000000 in
theorem index_txt (w : World) (A : Option Addr) (n c : Nat) (is : List ByteArray) (hz : StrsAt w w.heap.size A n is) (hn : n ≤ 9223372036854775807) :
    Calls Try.prog 36 #[.slice A n c, .func (.func 28) #[] #[]] w fun e w' => ∃ r, e = .returned (.int .i64 r) ∧ IdxPost (fun j => !(txtOK (is.getD j ByteArray.empty))) n r ∧ Below w.heap.size w w' := by
  have HZ := Lib.hid hz
  clear hz
  go_enter Try.func36, Try.ntmps36
  go_wp2
  go_loopw [5, 8] (fun _ i wr => ∃ k : Nat, i = .int .i64 (k : Int) ∧ k ≤ n ∧ (∀ j, j < k → txtOK (is.getD j ByteArray.empty) = true) ∧ Below w.heap.size w wr) (fun _ i _ => n - (intOf i).toNat)
  case atStart => exact ⟨0, rfl, by omega, fun j hj => absurd hj (by omega), Below.refl _ _⟩
  case round =>
    obtain ⟨k, rfl, hk, hp, hw⟩ := hrel
    have HP := Lib.hid hp
    clear hp
    by_cases hlt : k < n
    · obtain ⟨b, off, e1, _, c1⟩ := (HZ.out.below hw).at_ hlt
      subst e1
      generalize hq : is.getD k ByteArray.empty = q at *
      have HQ := Lib.hid hq
      clear hq
      rcases ho : txtOK q with _ | _
      · have H2 : Hid (IdxPost (fun j => !(txtOK (is.getD j ByteArray.empty))) n (k : Int)) := .inr ⟨by omega, k, hlt, by show (!(txtOK (is.getD k ByteArray.empty))) = true; rw [HQ.out]; show (!(txtOK q)) = true; rw [ho]; rfl⟩
        have hb := Below.refl wr.heap.size wr
        go_wp2_with (go_at_call 28; refine (bigtxt_any _ _).mono ?_; rintro e w' ⟨rfl, rfl⟩; rw [ho])
        go_ret
        exact ⟨_, rfl, H2.out, hw.trans (hb.mono hw.size)⟩
      · have H2 : Hid (∀ j, j < k + 1 → txtOK (is.getD j ByteArray.empty) = true) := fun j hj => by
          rcases Nat.lt_or_ge j k with h | h
          · exact HP.out j h
          · rw [show j = k from by omega, HQ.out]; exact ho
        have hb := Below.refl wr.heap.size wr
        go_wp2_with (go_at_call 28; refine (bigtxt_any _ _).mono ?_; rintro e w' ⟨rfl, rfl⟩; rw [ho])
        exact ⟨⟨k + 1, by go_num, by omega, H2.out, hw.trans (hb.mono hw.size)⟩, by simp [intOf]; omega⟩
    · have H2 : Hid (IdxPost (fun j => !(txtOK (is.getD j ByteArray.empty))) n (-1)) := .inl ⟨rfl, fun j hj => by show (!(txtOK (is.getD j ByteArray.empty))) = false; rw [HP.out j (by omega)]; rfl⟩
      go_wp2
      go_ret
      exact ⟨_, rfl, H2.out, hw⟩
theorem contains_txt (w : World) (A : Option Addr) (n c : Nat) (is : List ByteArray) (hz : StrsAt w w.heap.size A n is) (hn : n ≤ 9223372036854775807) :
    Calls Try.prog 27 #[.slice A n c, .func (.func 28) #[] #[]] w fun e w' => e = .returned (.bool (!(is.all txtOK))) ∧ Below w.heap.size w w' := by
  have HZ := Lib.hid hz
  clear hz
  go_enter Try.func27, Try.ntmps27
  go_wp2_with fail
  refine (index_txt w A n c is HZ.out hn).mono ?_
  rintro e w' ⟨r, rfl, hr, hb⟩
  rw [← HZ.out.1] at hr
  have H2 := Lib.hid (idx_all is ByteArray.empty txtOK hr)
  clear hr
  go_wp2
  go_ret
  exact ⟨ret_b H2.out, hb⟩

set_option maxHeartbeats 1000000 in
theorem index_bdy (w : World) (A : Option Addr) (n c : Nat) (is : List Bdy) (hz : BdysAt w w.heap.size A n is) (hn : n ≤ 9223372036854775807) :
    Calls Try.prog 32 #[.slice A n c, .func (.func 24) #[] #[]] w fun e w' => ∃ r, e = .returned (.int .i64 r) ∧ IdxPost (fun j => !(bdyOK (is.getD j bdy0))) n r ∧ Below w.heap.size w w' := by
  have HZ := Lib.hid hz
  clear hz
  go_enter Try.func32, Try.ntmps32
  go_wp2
  go_loopw [5, 8] (fun _ i wr => ∃ k : Nat, i = .int .i64 (k : Int) ∧ k ≤ n ∧ (∀ j, j < k → bdyOK (is.getD j bdy0) = true) ∧ Below w.heap.size w wr) (fun _ i _ => n - (intOf i).toNat)
  case atStart => exact ⟨0, rfl, by omega, fun j hj => absurd hj (by omega), Below.refl _ _⟩
  case round =>
    obtain ⟨k, rfl, hk, hp, hw⟩ := hrel
    have HP := Lib.hid hp
    clear hp
    by_cases hlt : k < n
    · obtain ⟨b, off, e1, _, c1, c2, c3, A2, n2, cp2, c4, hI, hn2⟩ := (HZ.out.below hw).at_ hlt
      subst e1
      generalize hq : is.getD k bdy0 = q at *
      have HQ := Lib.hid hq
      clear hq
      have HI := Lib.hid (hI.more hw.size)
      clear hI
      rcases ho : bdyOK q with _ | _
      · have H2 : Hid (IdxPost (fun j => !(bdyOK (is.getD j bdy0))) n (k : Int)) := .inr ⟨by omega, k, hlt, by show (!(bdyOK (is.getD k bdy0))) = true; rw [HQ.out]; show (!(bdyOK q)) = true; rw [ho]; rfl⟩

        go_wp2_with (go_at_call 24; refine (wrong_any q wr A2 n2 cp2 HI.out hn2).mono ?_; rintro e w' ⟨rfl, hb⟩; rw [ho])
        go_ret
        exact ⟨_, rfl, H2.out, hw.trans (hb.mono hw.size)⟩
      · have H2 : Hid (∀ j, j < k + 1 → bdyOK (is.getD j bdy0) = true) := fun j hj => by
          rcases Nat.lt_or_ge j k with h | h
          · exact HP.out j h
          · rw [show j = k from by omega, HQ.out]; exact ho

        go_wp2_with (go_at_call 24; refine (wrong_any q wr A2 n2 cp2 HI.out hn2).mono ?_; rintro e w' ⟨rfl, hb⟩; rw [ho])
        exact ⟨⟨k + 1, by go_num, by omega, H2.out, hw.trans (hb.mono hw.size)⟩, by simp [intOf]; omega⟩
    · have H2 : Hid (IdxPost (fun j => !(bdyOK (is.getD j bdy0))) n (-1)) := .inl ⟨rfl, fun j hj => by show (!(bdyOK (is.getD j bdy0))) = false; rw [HP.out j (by omega)]; rfl⟩
      go_wp2
      go_ret
      exact ⟨_, rfl, H2.out, hw⟩
theorem contains_bdy (w : World) (A : Option Addr) (n c : Nat) (is : List Bdy) (hz : BdysAt w w.heap.size A n is) (hn : n ≤ 9223372036854775807) :
    Calls Try.prog 23 #[.slice A n c, .func (.func 24) #[] #[]] w fun e w' => e = .returned (.bool (!(is.all bdyOK))) ∧ Below w.heap.size w w' := by
  have HZ := Lib.hid hz
  clear hz
  go_enter Try.func23, Try.ntmps23
  go_wp2_with fail
  refine (index_bdy w A n c is HZ.out hn).mono ?_
  rintro e w' ⟨r, rfl, hr, hb⟩
  rw [← HZ.out.1] at hr
  have H2 := Lib.hid (idx_all is bdy0 bdyOK hr)
  clear hr
  go_wp2
  go_ret
  exact ⟨ret_b H2.out, hb⟩
end Go.Proofs.Ytjkbhdocpjekmaa
