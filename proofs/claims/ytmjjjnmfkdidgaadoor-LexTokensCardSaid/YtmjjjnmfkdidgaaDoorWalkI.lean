/- The walks of layer 4: what stands between tokens. -/
import Derived.Test.YtmjjjnmfkdidgaaDoorWalkH
namespace Go.Proofs.YtmjjjnmfkdidgaaDoor
open Go.RowKit
set_option linter.unusedVariables false
attribute [local go_sem ↓] Go.wp_at_zero Go.wp_at_succ

theorem ib_tw : ∀ (l : List UInt8), (Lib.indexByte l 10 = -1 ∧ (l.takeWhile (· ≠ 10)).length = l.length) ∨ (Lib.indexByte l 10 = ((l.takeWhile (· ≠ 10)).length : Int))
  | [] => .inl ⟨rfl, rfl⟩
  | b :: l => by
    unfold Lib.indexByte
    by_cases h : b = 10
    · subst h; right; simp
    · have h1 : (b == 10) = false := beq_eq_false_iff_ne.2 h
      rw [h1, if_neg (by decide), List.takeWhile_cons, if_pos (decide_eq_true h)]
      rcases ib_tw l with ⟨h2, h3⟩ | h2
      · left; rw [h2, if_pos (by decide)]; exact ⟨rfl, by rw [List.length_cons, List.length_cons, h3]⟩
      · right
        have h4 : (Lib.indexByte l 10 == -1) = false := beq_eq_false_iff_ne.2 (by omega)
        rw [h4, if_neg (by decide), h2]; simp
/-- How many bytes stand between here and the next token. -/
def gapL (l : List UInt8) : Nat := gapF l.length l
/-- How many bytes to the line's end. -/
def remN (s : ByteArray) (k : Nat) : Nat := ((s.data.toList.drop k).takeWhile (· ≠ 10)).length
theorem remN_le (s : ByteArray) (k : Nat) (h : k ≤ s.size) : k + remN s k ≤ s.size := by
  have h1 := (List.takeWhile_sublist (· ≠ (10 : UInt8)) (l := s.data.toList.drop k)).length_le
  rw [List.length_drop, size_list] at h1
  unfold remN; omega
theorem remN_pos (s : ByteArray) (k : Nat) (h : k < s.size) (h3 : s[k] = 35) : 0 < remN s k := by
  have h1 := get_list s k h
  unfold remN
  cases hd : s.data.toList.drop k with
  | nil => have := congrArg List.length hd; rw [List.length_drop, size_list] at this; simp at this; omega
  | cons c l =>
    have h2 : c = 35 := by
      have := List.getElem?_drop (xs := s.data.toList) (i := k) (j := 0)
      rw [hd, Nat.add_zero, h1, h3] at this
      simpa using this
    subst h2
    rw [List.takeWhile_cons, if_pos (by decide)]; simp
theorem drop_cons (s : ByteArray) (k : Nat) (h : k < s.size) : s.data.toList.drop k = s[k] :: s.data.toList.drop (k + 1) := by
  have hl : k < s.data.toList.length := by rw [size_list]; exact h
  rw [List.drop_eq_getElem_cons hl]
  congr 1
theorem gap_end (s : ByteArray) (k f : Nat) (h : s.size ≤ k) : gapF f (s.data.toList.drop k) = 0 := by
  rw [List.drop_eq_nil_of_le (by rw [size_list]; exact h)]
  cases f <;> rfl
theorem gap_blank (s : ByteArray) (k f : Nat) (h : k < s.size) (hb : s[k] = 32 ∨ s[k] = 9 ∨ s[k] = 10) : gapF (f + 1) (s.data.toList.drop k) = 1 + gapF f (s.data.toList.drop (k + 1)) := by
  rw [drop_cons s k h]; show (if _ then _ else _) = _; rw [if_pos hb]
theorem gap_rem (s : ByteArray) (k f : Nat) (h : k < s.size) (hb : s[k] = 35) : gapF (f + 1) (s.data.toList.drop k) = remN s k + gapF f (s.data.toList.drop (k + remN s k)) := by
  have e := drop_cons s k h
  rw [e]; show (if _ then _ else if _ then _ else _) = _
  rw [if_neg (by rw [hb]; decide), if_pos hb, ← e, List.drop_drop]; rfl
theorem gap_other (s : ByteArray) (k f : Nat) (h : k < s.size) (hb : ¬ (s[k] = 32 ∨ s[k] = 9 ∨ s[k] = 10)) (h5 : s[k] ≠ 35) : gapF (f + 1) (s.data.toList.drop k) = 0 := by
  rw [drop_cons s k h]; show (if _ then _ else if _ then _ else _) = _; rw [if_neg hb, if_neg h5]
theorem u8_eq (c d : UInt8) (h : c = d) : ((c.toNat : Int) == (d.toNat : Int)) = true := by rw [h]; exact beq_self_eq_true _
theorem u8_ne (c d : UInt8) (h : c ≠ d) : ((c.toNat : Int) == (d.toNat : Int)) = false := beq_eq_false_iff_ne.2 fun e => h (UInt8.toNat_inj.1 (by omega))
set_option maxRecDepth 100000 in
set_option maxHeartbeats 4000000 in
theorem skip_any (w : World) (R : Nat) (s : ByteArray) (i : Nat) (hR : RdAt w R s i) (hi : i ≤ s.size) (hs : s.size ≤ 10000) :
    Calls Tryd.prog 22 #[.pointer (some ⟨R, 0, none⟩)] w fun e w' => e = .returned (.tuple #[]) ∧ RdAt w' R s (i + gapL (s.data.toList.drop i)) ∧ But R w.heap.size w w' := by
  have HR : Hid (Whole w R 40 #[.string s, .int .i64 (i : Int)]) := hR
  clear hR
  have r1 : w.cell? ⟨R, 1, none⟩ = some (.int .i64 (i : Int)) := HR.out.cell 1
  have HG : Hid (gapL (s.data.toList.drop i) = gapF (s.size - i) (s.data.toList.drop i)) := by show _ = _; unfold gapL; rw [List.length_drop, size_list]
  generalize gapL (s.data.toList.drop i) = g at *
  go_enter Tryd.func22, Tryd.ntmps22
  go_wp2_with fail
  go_step3
  go_wp2_with fail
  go_step3
  go_wp2_with fail
  go_loopg [12] (s.size - i) (fun gk f wr => ∃ k ff : Nat, i ≤ k ∧ k + gk = s.size ∧ gk ≤ ff ∧ gapF (s.size - i) (s.data.toList.drop i) = (k - i) + gapF ff (s.data.toList.drop k) ∧ Whole wr R 40 #[.string s, .int .i64 (k : Int)] ∧ But R w.heap.size w wr)
  case atStart => exact ⟨i, s.size - i, Nat.le_refl _, by omega, Nat.le_refl _, by rw [Nat.sub_self, Nat.zero_add], HR.out, But.refl _ _ _⟩
  case round =>
    obtain ⟨k, ff, hik, hkg, hff, hp, hx, hbw⟩ := hrel
    have HP := Lib.hid hp
    have HX := Lib.hid hx
    have HB := Lib.hid hbw
    clear hp hx hbw r1
    have q0 : wr.cell? ⟨R, 0, none⟩ = some (.string s) := HX.out.cell 0
    have q1 : wr.cell? ⟨R, 1, none⟩ = some (.int .i64 (k : Int)) := HX.out.cell 1
    have q2 := HX.out.free 1
    by_cases hlt : k < s.size
    · have d1 : decide ((k : Int) < (s.size : Int)) = true := decide_eq_true (by omega)
      have d1n : decide (k < s.size) = true := decide_eq_true hlt
      have i1 : (0 : Int) ≤ (k : Int) := by omega
      have i2 : (k : Int) < (s.size : Int) := by omega
      have i3 : (k : Int) ≤ (s.size : Int) := by omega
      obtain ⟨f1, rfl⟩ : ∃ f1, ff = f1 + 1 := ⟨ff - 1, by omega⟩
      by_cases h32 : s[k] = 32
      · have hb : s[k] = 32 ∨ s[k] = 9 ∨ s[k] = 10 := .inl h32
        have HP2 : Hid (gapF (s.size - i) (s.data.toList.drop i) = (k + 1 - i) + gapF f1 (s.data.toList.drop (k + 1))) := by
          show _ = _
          rw [HP.out, gap_blank s k f1 hlt hb]; omega
        clear hb
        have t32 : ((s[k].toNat : Int) == 32) = true := u8_eq s[k] 32 h32
        clear HP
        go_wp2_with fail
        go_quiet (fail)
        generalize nq = n1 at *
        clear nq
        go_wp2_with fail
        go_quiet (fail)
        have HX2 : Hid (Whole ((wr.drewN (n1 + nq)).setCell ⟨R, 1, none⟩ (.int .i64 ((k : Int) + 1))) R 40 #[.string s, .int .i64 ((k + 1 : Nat) : Int)]) := Whole.put (w := wr.drewN (n1 + nq)) HX.out 1 (.int .i64 ((k : Int) + 1))
        have HB2 : Hid (But R w.heap.size w ((wr.drewN (n1 + nq)).setCell ⟨R, 1, none⟩ (.int .i64 ((k : Int) + 1)))) := (HB.out.trans (.of_below (below_drewN (Below.refl _ _) (n1 + nq)))).set 1 _
        go_wp2_with fail
        go_roundg (gk - 1)
        case measure => omega
        case rel => exact ⟨k + 1, f1, by omega, by omega, by omega, HP2.out, HX2.out, HB2.out⟩
      by_cases h9 : s[k] = 9
      · have hb : s[k] = 32 ∨ s[k] = 9 ∨ s[k] = 10 := .inr (.inl h9)
        have HP2 : Hid (gapF (s.size - i) (s.data.toList.drop i) = (k + 1 - i) + gapF f1 (s.data.toList.drop (k + 1))) := by
          show _ = _
          rw [HP.out, gap_blank s k f1 hlt hb]; omega
        clear hb
        have t32 : ((s[k].toNat : Int) == 32) = false := u8_ne s[k] 32 h32
        have t9 : ((s[k].toNat : Int) == 9) = true := u8_eq s[k] 9 h9
        clear HP
        go_wp2_with fail
        go_quiet (fail)
        generalize nq = n1 at *
        clear nq
        go_wp2_with fail
        go_quiet (fail)
        have HX2 : Hid (Whole ((wr.drewN (n1 + nq)).setCell ⟨R, 1, none⟩ (.int .i64 ((k : Int) + 1))) R 40 #[.string s, .int .i64 ((k + 1 : Nat) : Int)]) := Whole.put (w := wr.drewN (n1 + nq)) HX.out 1 (.int .i64 ((k : Int) + 1))
        have HB2 : Hid (But R w.heap.size w ((wr.drewN (n1 + nq)).setCell ⟨R, 1, none⟩ (.int .i64 ((k : Int) + 1)))) := (HB.out.trans (.of_below (below_drewN (Below.refl _ _) (n1 + nq)))).set 1 _
        go_wp2_with fail
        go_roundg (gk - 1)
        case measure => omega
        case rel => exact ⟨k + 1, f1, by omega, by omega, by omega, HP2.out, HX2.out, HB2.out⟩
      by_cases h10 : s[k] = 10
      · have hb : s[k] = 32 ∨ s[k] = 9 ∨ s[k] = 10 := .inr (.inr h10)
        have HP2 : Hid (gapF (s.size - i) (s.data.toList.drop i) = (k + 1 - i) + gapF f1 (s.data.toList.drop (k + 1))) := by
          show _ = _
          rw [HP.out, gap_blank s k f1 hlt hb]; omega
        clear hb
        have t32 : ((s[k].toNat : Int) == 32) = false := u8_ne s[k] 32 h32
        have t9 : ((s[k].toNat : Int) == 9) = false := u8_ne s[k] 9 h9
        have t10 : ((s[k].toNat : Int) == 10) = true := u8_eq s[k] 10 h10
        clear HP
        go_wp2_with fail
        go_quiet (fail)
        generalize nq = n1 at *
        clear nq
        go_wp2_with fail
        go_quiet (fail)
        have HX2 : Hid (Whole ((wr.drewN (n1 + nq)).setCell ⟨R, 1, none⟩ (.int .i64 ((k : Int) + 1))) R 40 #[.string s, .int .i64 ((k + 1 : Nat) : Int)]) := Whole.put (w := wr.drewN (n1 + nq)) HX.out 1 (.int .i64 ((k : Int) + 1))
        have HB2 : Hid (But R w.heap.size w ((wr.drewN (n1 + nq)).setCell ⟨R, 1, none⟩ (.int .i64 ((k : Int) + 1)))) := (HB.out.trans (.of_below (below_drewN (Below.refl _ _) (n1 + nq)))).set 1 _
        go_wp2_with fail
        go_roundg (gk - 1)
        case measure => omega
        case rel => exact ⟨k + 1, f1, by omega, by omega, by omega, HP2.out, HX2.out, HB2.out⟩
      by_cases h35 : s[k] = 35
      · have hrl := remN_le s k (by omega)
        have hrp := remN_pos s k hlt h35
        have HP2 : Hid (gapF (s.size - i) (s.data.toList.drop i) = (k + remN s k - i) + gapF f1 (s.data.toList.drop (k + remN s k))) := by
          show _ = _
          rw [HP.out, gap_rem s k f1 hlt h35]; omega
        have t32 : ((s[k].toNat : Int) == 32) = false := u8_ne s[k] 32 h32
        have t9 : ((s[k].toNat : Int) == 9) = false := u8_ne s[k] 9 h9
        have t10 : ((s[k].toNat : Int) == 10) = false := u8_ne s[k] 10 h10
        have t35 : ((s[k].toNat : Int) == 35) = true := u8_eq s[k] 35 h35
        clear HP
        have hib := ib_tw (s.data.toList.drop k)
        have hdl : (s.extract k s.size).data.toList = s.data.toList.drop k := S.rest_data s k
        have CI : Hid (∀ wx : World, Calls Tryd.prog 30 #[.string (s.extract k s.size), .int .u8 10] wx fun e w' => e = .returned (.int .i64 (Lib.indexByte (s.data.toList.drop k) 10)) ∧ w' = wx) := fun wx => by
          have h := Tryd.strings_IndexByte (s.extract k s.size) 10 wx
          rw [hdl] at h
          exact h
        have hrem : (List.takeWhile (fun x => decide (x ≠ 10)) (List.drop k s.data.toList)).length = remN s k := rfl
        rw [hrem, List.length_drop, size_list] at hib
        clear hdl hrem h32 h9 h10 h35
        generalize remN s k = rn at *
        generalize Lib.indexByte (s.data.toList.drop k) 10 = ib at *
        rcases hib with ⟨rfl, hsz⟩ | rfl
        · have j1 : (0 : Int) ≤ (k : Int) + ((s.size : Int) - (k : Int)) := by omega
          go_wp2_with fail
          go_quiet (fail)
          generalize nq = n1 at *
          clear nq
          go_wp2_with fail
          go_quiet (fail)
          generalize nq = n2 at *
          clear nq
          go_wp2_with fail
          go_quiet ((exact (CI.out _).mono (fun _ _ h => ⟨h.1, _, h.2⟩)))
          generalize nq = n3 at *
          clear nq
          go_wp2_with fail
          go_quiet (fail)
          have HX2 : Hid (Whole ((wr.drewN (n1 + n2 + n3 + nq)).setCell ⟨R, 1, none⟩ (.int .i64 ((k : Int) + ((s.size : Int) - (k : Int))))) R 40 #[.string s, .int .i64 ((k + rn : Nat) : Int)]) := by
            rw [show ((k + rn : Nat) : Int) = (k : Int) + ((s.size : Int) - (k : Int)) by omega]
            exact Whole.put (w := wr.drewN (n1 + n2 + n3 + nq)) HX.out 1 (.int .i64 ((k : Int) + ((s.size : Int) - (k : Int))))
          have HB2 : Hid (But R w.heap.size w ((wr.drewN (n1 + n2 + n3 + nq)).setCell ⟨R, 1, none⟩ (.int .i64 ((k : Int) + ((s.size : Int) - (k : Int)))))) := (HB.out.trans (.of_below (below_drewN (Below.refl _ _) (n1 + n2 + n3 + nq)))).set 1 _
          go_wp2_with fail
          go_roundg (gk - rn)
          case measure => omega
          case rel => exact ⟨k + rn, f1, by omega, by omega, by omega, HP2.out, HX2.out, HB2.out⟩
        · have hn0 : decide ((rn : Int) < 0) = false := decide_eq_false (by omega)
          go_wp2_with fail
          go_quiet (fail)
          generalize nq = n1 at *
          clear nq
          go_wp2_with fail
          go_quiet (fail)
          generalize nq = n2 at *
          clear nq
          go_wp2_with fail
          go_quiet ((exact (CI.out _).mono (fun _ _ h => ⟨h.1, _, h.2⟩)))
          have HX2 : Hid (Whole ((wr.drewN (n1 + n2 + nq)).setCell ⟨R, 1, none⟩ (.int .i64 ((k : Int) + (rn : Int)))) R 40 #[.string s, .int .i64 ((k + rn : Nat) : Int)]) := Whole.put (w := wr.drewN (n1 + n2 + nq)) HX.out 1 (.int .i64 ((k : Int) + (rn : Int)))
          have HB2 : Hid (But R w.heap.size w ((wr.drewN (n1 + n2 + nq)).setCell ⟨R, 1, none⟩ (.int .i64 ((k : Int) + (rn : Int))))) := (HB.out.trans (.of_below (below_drewN (Below.refl _ _) (n1 + n2 + nq)))).set 1 _
          go_wp2_with fail
          go_roundg (gk - rn)
          case measure => omega
          case rel => exact ⟨k + rn, f1, by omega, by omega, by omega, HP2.out, HX2.out, HB2.out⟩
      · have HE : Hid (k = i + g) := by
          show _ = _
          rw [HG.out, HP.out, gap_other s k f1 hlt (by rintro (h | h | h); exact h32 h; exact h9 h; exact h10 h) h35]; omega
        have t32 : ((s[k].toNat : Int) == 32) = false := u8_ne s[k] 32 h32
        have t9 : ((s[k].toNat : Int) == 9) = false := u8_ne s[k] 9 h9
        have t10 : ((s[k].toNat : Int) == 10) = false := u8_ne s[k] 10 h10
        have t35 : ((s[k].toNat : Int) == 35) = false := u8_ne s[k] 35 h35
        clear HP HG
        go_wp2_with fail
        go_quiet (fail)
        go_wp2_with fail
        go_quiet (fail)
        go_wp2_with fail
        rw [Exit.noGoto_normal]
        go_end0
        exact ⟨rfl, by rw [← HE.out]; exact HX.out, HB.out.trans (.of_below (below_drewN (Below.refl _ _) _))⟩
    · have d1 : decide ((k : Int) < (s.size : Int)) = false := decide_eq_false (by omega)
      have d1n : decide (k < s.size) = false := decide_eq_false hlt
      have HE : Hid (k = i + g) := by
        show _ = _
        rw [HG.out, HP.out, gap_end s k ff (by omega)]; omega
      clear HP HG
      go_wp2_with fail
      go_quiet (fail)
      go_wp2_with fail
      rw [Exit.noGoto_normal]
      go_end0
      exact ⟨rfl, by rw [← HE.out]; exact HX.out, HB.out.trans (.of_below (below_drewN (Below.refl _ _) _))⟩
end Go.Proofs.YtmjjjnmfkdidgaaDoor
