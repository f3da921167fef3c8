/- The law LexTokens: its walk. -/
import Derived.Test.YtmjjjnmfkdidgaaDoorWalkQ
import Derived.Test.YtmjjjnmfkdidgaaDoorLa
namespace Go.Proofs.YtmjjjnmfkdidgaaDoor
open Go.RowKit
set_option linter.unusedVariables false
attribute [local go_sem ↓] Go.wp_at_zero Go.wp_at_succ

set_option maxRecDepth 100000 in
set_option maxHeartbeats 4000000 in
theorem same_any (w : World) (A B : Option Addr) (ts : List Tok) (c d : Nat) (hA : TokRow w A ts) (hB : TokRow w B ts) (hl : ts.length ≤ 100000) :
    Calls Tryd.prog 13 #[.slice A ts.length c, .slice B ts.length d] w fun e w' => e = .returned (.bool true) ∧ Below w.heap.size w w' := by
  have HA := Lib.hid hA
  have HB := Lib.hid hB
  clear hA hB
  go_enter Tryd.func13, Tryd.ntmps13
  go_wp2_with fail
  go_loopg [5] ts.length (fun gk ks wr => ∃ k : Nat, ks = .int .i64 (k : Int) ∧ k + gk = ts.length ∧ TokRow wr A ts ∧ TokRow wr B ts ∧ Below w.heap.size w wr)
  case atStart => exact ⟨0, rfl, by omega, HA.out, HB.out, Below.refl _ _⟩
  case round =>
    obtain ⟨k, rfl, hkg, ha, hb, hw⟩ := hrel
    clear HA HB
    have HA := Lib.hid ha
    have HB := Lib.hid hb
    have HW := Lib.hid hw
    clear ha hb hw
    by_cases hlt : k < ts.length
    · have d1 : decide ((k : Int) < (ts.length : Int)) = true := decide_eq_true (by omega)
      have d1n : decide (k < ts.length) = true := decide_eq_true hlt
      have i1 : (0 : Int) ≤ (k : Int) := by omega
      have i2 : (k : Int) < (ts.length : Int) := by omega
      obtain ⟨u, hu⟩ : ∃ u, ts[k]? = some u := ⟨_, List.getElem?_eq_getElem hlt⟩
      obtain ⟨g, rfl, x0, x1, x2, x3⟩ := HA.out.at_ hu
      obtain ⟨g2, rfl, y0, y1, y2, y3⟩ := HB.out.at_ hu
      clear hu
      go_wp2_with fail
      go_quiet (fail)
      go_wp2_with fail
      go_roundg (gk - 1)
      case measure => omega
      case rel => exact ⟨k + 1, rfl, by omega, HA.out, HB.out, below_drewN HW.out _⟩
    · have d1 : decide ((k : Int) < (ts.length : Int)) = false := decide_eq_false (by omega)
      have d1n : decide (k < ts.length) = false := decide_eq_false hlt
      go_wp2_with fail
      go_ret
      exact ⟨rfl, HW.out⟩
set_option maxRecDepth 100000 in
set_option maxHeartbeats 4000000 in
theorem lexTokens_walk (s : ByteArray) (w : World) (m : Int) (hm : w.cell? ⟨0, 0, none⟩ = some (.int .i64 m)) (hs : s.size ≤ maxLen) : Calls Tryd.prog 3 #[.string s] w fun e w' => e = .returned (.bool true) ∧ Below w.heap.size w w' := by
  have HM : Hid (w.cell? ⟨0, 0, none⟩ = some (.int .i64 m)) := hm
  have HS := Lib.hid hs
  have HP := Lib.hid (heap_pos hm)
  have HF := Lib.hid (fewB_size s)
  have HQ := Lib.hid (few_short s)
  clear hm hs
  go_enter Tryd.func3, Tryd.ntmps3
  go_wp2_with fail
  refine (few_any s w HS.out).mono ?_
  rintro e w' ⟨rfl, rfl⟩
  generalize fewB s = t at *
  rcases htf : tokensF t.data.toList with ⟨ts, p, er⟩
  have hlen : ts.length ≤ 100000 := by
    by_cases he : er = 0
    · subst he
      have h := (of_tokensF htf).len
      rw [size_list] at h
      have := HF.out; omega
    · rw [tokensF_bad htf he]; simp
  have HT := Lib.hid htf
  clear htf
  go_wp2_with fail
  refine (toks_any w t m ts p er HT.out (by have := HF.out; omega) HM.out HQ.out).mono ?_
  rintro e w1 ⟨A, c, rfl, h1, hc, b1, m1⟩
  have H1 := Lib.hid h1
  have B1 := Lib.hid b1
  have M1 := Lib.hid m1
  clear h1 hc b1 m1
  go_wp2_with fail
  refine (rtokens_any w1 t (by have := HF.out; omega) HQ.out).mono ?_
  rintro e w2 ⟨v, rfl, h2, b2⟩
  rw [HT.out] at h2 ⊢
  obtain ⟨A2, c2, rfl, h3, _, _⟩ := toks_row h2
  have H2 := Lib.hid h3
  have H1' := Lib.hid (H1.out.below b2)
  have B2 := Lib.hid (B1.out.trans (b2.mono B1.out.size))
  have M2 := Lib.hid ((b2.cell (p := ⟨0, 0, none⟩) (heap_pos M1.out)).trans M1.out)
  clear h2 h3 b2 H1 B1 M1 HT
  dsimp only
  go_wp2_with fail
  refine (same_any w2 A A2 ts c c2 H1'.out H2.out hlen).mono ?_
  rintro e w3 ⟨rfl, b3⟩
  have B3 := Lib.hid (B2.out.trans (b3.mono B2.out.size))
  have M3 := Lib.hid ((b3.cell (p := ⟨0, 0, none⟩) (heap_pos M2.out)).trans M2.out)
  clear b3 H1' H2 B2 M2
  go_wp2_with fail
  refine (lives_any w3 m M3.out).mono ?_
  rintro e w4 ⟨rfl, b4⟩
  go_wp2_with fail
  go_ret
  exact ⟨rfl, B3.out.trans (b4.mono B3.out.size)⟩
end Go.Proofs.YtmjjjnmfkdidgaaDoor
