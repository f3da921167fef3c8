/- The walks of layer 13: the next byte, the next two, by the document. -/
import Derived.Test.YtffpkmoaahkfmaaDec
import Derived.Deep.QuietTactic
import Derived.BigQuiet
namespace Go.Proofs.Ytffpkmoaahkfmaa
open Go.RowKit
set_option linter.unusedVariables false

/-- The document's reader at block R: all bytes, the place, whether it was too short; s: what is left. -/
structure RrAt (R B : Nat) (A : Option Addr) (n c : Nat) (l : List UInt8) (s : St) (w : World) : Prop where
  ex : ∃ i, Whole w R 60 #[.slice A n c, .int .i64 (i : Nat), .bool s.2] ∧ BytesAt w B A n l ∧ i ≤ n ∧ s.1 = l.drop i ∧ n ≤ c ∧ c ≤ maxLen
  hR : B ≤ R
theorem Only.drewN {R S : Nat} {w w' : World} (h : Only R S w w') (n : Nat) : Only R S w (w'.drewN n) := ⟨h.os, h.tape, h.output, h.size, h.block⟩
theorem nx1_cons {l : List UInt8} {i : Nat} {sh : Bool} (h : i < l.length) : nx 1 (l.drop i, sh) = (l.drop (i + 1), sh) ∧ nv 1 (l.drop i, sh) = ((l.getD i 0).toNat : Int) := by
  have hl : ¬ (l.drop i).length < 1 := by rw [List.length_drop]; omega
  unfold nx rdL rdS nv rdV
  dsimp only
  rw [if_neg hl, if_neg hl, if_neg hl]
  have e : l.drop i = l[i] :: l.drop (i + 1) := List.drop_eq_getElem_cons h
  have hc := (l[i]).toNat_lt
  refine ⟨by rw [List.drop_drop, Nat.add_comm], ?_⟩
  rw [e, List.take_succ_cons, List.take_zero]
  show wrap64 ((l[i].toNat : Int) + 256 * 0) = _
  rw [List.getD_eq_getElem?_getD, List.getElem?_eq_getElem h, Option.getD_some]
  unfold wrap64; omega
theorem nx1_nil {s : St} (h : s.1 = []) : nx 1 s = ([], true) ∧ nv 1 s = 0 := by
  unfold nx rdL rdS nv rdV
  rw [h]; exact ⟨rfl, rfl⟩
theorem bytes_only {w w' : World} {B R n : Nat} {A : Option Addr} {l : List UInt8} (h : BytesAt w B A n l) (ho : Only R R w w') (hR : B ≤ R) : BytesAt w' B A n l :=
  ⟨h.1, fun h0 => by
    obtain ⟨b, off, e, hlt, hc⟩ := h.2 h0
    exact ⟨b, off, e, hlt, fun j hj => ((ho.below hR hR).cell (p := ⟨b, off + j, none⟩) hlt).trans (hc j hj)⟩⟩
set_option maxHeartbeats 1000000 in
theorem one_any (R B : Nat) (A : Option Addr) (n c : Nat) (l : List UInt8) (s : St) (w : World) (h : RrAt R B A n c l s w) :
    Calls Try.prog 34 #[.pointer (some ⟨R, 0, none⟩)] w fun e w' => e = .returned (.int .i64 (nv 1 s)) ∧ RrAt R B A n c l (nx 1 s) w' ∧ Only R R w w' := by
  obtain ⟨i, hw, hb, hi, hs, hn, hc⟩ := h.ex
  have HR := Lib.hid h.hR
  have c0 : w.cell? ⟨R, 0, none⟩ = some (.slice A n c) := hw.cell 0
  have c1 : w.cell? ⟨R, 1, none⟩ = some (.int .i64 (i : Nat)) := hw.cell 1
  have c2 : w.cell? ⟨R, 2, none⟩ = some (.bool s.2) := hw.cell 2
  have f1 := hw.free 1
  have f2 := hw.free 2
  have HW := Lib.hid hw
  have HB := Lib.hid hb
  have HL := Lib.hid hb.1
  have HS := Lib.hid hs
  have HC := Lib.hid hc
  have hcm : c ≤ 9223372036854775807 := by unfold maxLen at hc; exact hc
  clear h hw hb hs hc
  obtain ⟨l0, sh⟩ := s
  dsimp only at *
  by_cases hlt : i < n
  · obtain ⟨b, off, rfl, hbl, hcell⟩ := HB.out.2 (by omega)
    have hx := hcell i hlt
    have hge : decide ((n : Int) ≤ (i : Int)) = false := by rw [decide_eq_false_iff_not]; omega
    have HN := Lib.hid (nx1_cons (l := l) (i := i) (sh := sh) (by rw [HL.out]; exact hlt))
    have HXB := Lib.hid (l.getD i 0).toNat_lt
    generalize (l.getD i 0).toNat = x at *
    clear hcell
    have hne : b ≠ R := by have := HR.out; omega
    go_enter Try.func34, Try.ntmps34
    go_wp2_with fail
    go_quiet (fail)
    go_wp2_with fail
    have HZ : Hid (Whole ((w.drewN nq).setCell ⟨R, 1, none⟩ (.int .i64 ((i : Int) + 1))) R 60 #[.slice (some ⟨b, off, none⟩) n c, .int .i64 ((i : Int) + 1), .bool sh]) := Whole.put (w := w.drewN nq) HW.out 1 _
    have HO : Hid (Only R R w ((w.drewN nq).setCell ⟨R, 1, none⟩ (.int .i64 ((i : Int) + 1)))) := ((Only.refl R R w).drewN nq).trans (Only.put R R _ (.inl rfl) _)
    have hxz : ((w.drewN nq).setCell ⟨R, 1, none⟩ (.int .i64 ((i : Int) + 1))).cell? ⟨b, off + i, none⟩ = some (.int .u8 (x : Int)) := cell_far (w := w.drewN nq) hx hne
    generalize (w.drewN nq).setCell ⟨R, 1, none⟩ (.int .i64 ((i : Int) + 1)) = wz at *
    clear c0 c1 c2 f1 f2 hx
    have g0 : wz.cell? ⟨R, 0, none⟩ = some (.slice (some ⟨b, off, none⟩) n c) := HZ.out.cell 0
    have g1 : wz.cell? ⟨R, 1, none⟩ = some (.int .i64 ((i : Int) + 1)) := HZ.out.cell 1
    have s1 : IntKind.i64.wrap ((i : Int) + 1 - 1) = (i : Int) := by rw [wrap_eq]; unfold wrap64; omega
    have s2 : (0 : Int) ≤ (i : Int) := by omega
    have s3 : (i : Int) < (n : Int) := by omega
    go_quiet (fail)
    clear s1
    go_wp2_with fail
    go_ret
    refine ⟨ret_i ?_, ⟨⟨i + 1, ?_, ?_, by omega, ?_, hn, HC.out⟩, HR.out⟩, HO.out.drewN _⟩
    · rw [HS.out, HN.out.2]; unfold wrap64; have := HXB.out; omega
    · rw [HS.out, HN.out.1]; exact HZ.out
    · exact bytes_only HB.out (HO.out.drewN _) HR.out
    · rw [HS.out, HN.out.1]
  · have hin : i = n := by omega
    have hge : decide ((n : Int) ≤ (i : Int)) = true := by rw [decide_eq_true_eq]; omega
    have HE : Hid (l.drop i = []) := List.drop_eq_nil_of_le (by rw [HL.out]; omega)
    go_enter Try.func34, Try.ntmps34
    go_wp2_with fail
    go_quiet (fail)
    go_wp2_with fail
    go_ret
    have HN := nx1_nil (s := (l0, sh)) (by show l0 = []; rw [HS.out]; exact HE.out)
    refine ⟨ret_i (by rw [HN.2]), ⟨⟨i, ?_, ?_, by omega, ?_, hn, HC.out⟩, HR.out⟩, ((Only.refl R R w).drewN _).trans (Only.put R R _ (.inl rfl) _)⟩
    · rw [HN.1]; exact Whole.put (w := w.drewN _) HW.out 2 _
    · exact bytes_only HB.out (((Only.refl R R w).drewN _).trans (Only.put R R _ (.inl rfl) _)) HR.out
    · rw [HN.1]; exact HE.out.symm
theorem nx_two (s : St) : nx 1 (nx 1 s) = nx 2 s := by
  obtain ⟨l, sh⟩ := s
  unfold nx rdL rdS
  dsimp only
  match l with
  | [] => rfl
  | [a] => rfl
  | a :: b :: l => have h : ¬ (l.length + 1 + 1 < 2) := by omega
                   simp [h]
theorem pair_any (R B : Nat) (A : Option Addr) (n c : Nat) (l : List UInt8) (s : St) (w : World) (h : RrAt R B A n c l s w) :
    Calls Try.prog 35 #[.pointer (some ⟨R, 0, none⟩)] w fun e w' => e = .returned (.int .i64 (nv 1 s + 256 * nv 1 (nx 1 s))) ∧ RrAt R B A n c l (nx 2 s) w' ∧ Only R R w w' := by
  have HH := Lib.hid h
  have h1 := nv1_bd s
  have h2 := nv1_bd (nx 1 s)
  clear h
  go_enter Try.func35, Try.ntmps35
  go_wp2_with fail
  refine (one_any R B A n c l s w HH.out).mono ?_
  rintro e w1 ⟨rfl, hr1, ho1⟩
  have H1 := Lib.hid hr1
  have O1 := Lib.hid ho1
  clear hr1 ho1
  go_wp2_with fail
  refine (one_any R B A n c l (nx 1 s) w1 H1.out).mono ?_
  rintro e w2 ⟨rfl, hr2, ho2⟩
  rw [nx_two] at hr2
  have H2 := Lib.hid hr2
  have O2 := Lib.hid (O1.out.trans ho2)
  clear hr2 ho2
  go_wp2_with fail
  go_ret
  exact ⟨rfl, H2.out, O2.out⟩
end Go.Proofs.Ytffpkmoaahkfmaa
