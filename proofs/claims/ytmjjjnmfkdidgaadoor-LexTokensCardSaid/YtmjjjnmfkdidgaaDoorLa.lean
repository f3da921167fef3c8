/- The laws LexKeys and LexPlaces: their walks. -/
import Derived.Test.YtmjjjnmfkdidgaaDoorRead
import Derived.Test.YtmjjjnmfkdidgaaDoorPlainD
import Derived.Test.YtmjjjnmfkdidgaaDoorWalkM
namespace Go.Proofs.YtmjjjnmfkdidgaaDoor
open Go.RowKit
set_option linter.unusedVariables false
attribute [local go_sem ↓] Go.wp_at_zero Go.wp_at_succ

theorem heap_pos {w : World} {m : Int} (hm : w.cell? ⟨0, 0, none⟩ = some (.int .i64 m)) : 0 < w.heap.size := by
  rcases Nat.eq_zero_or_pos w.heap.size with h | h
  · have h2 : w.heap[0]? = none := Array.getElem?_eq_none (by omega)
    simp [World.cell?, h2] at hm
  · exact h
theorem few_short (s : ByteArray) : ShortQ (fewB s).data.toList := shortQ _ (by rw [size_list]; have := fewB_size s; omega)
set_option maxRecDepth 100000 in
set_option maxHeartbeats 4000000 in
theorem lexKeys_walk (s : ByteArray) (w : World) (m : Int) (hm : w.cell? ⟨0, 0, none⟩ = some (.int .i64 m)) (hs : s.size ≤ maxLen) : Calls Tryd.prog 4 #[.string s] w fun e w' => e = .returned (.bool true) ∧ Below w.heap.size w w' := by
  have HM : Hid (w.cell? ⟨0, 0, none⟩ = some (.int .i64 m)) := hm
  have HS := Lib.hid hs
  have HP := Lib.hid (heap_pos hm)
  have HF := Lib.hid (fewB_size s)
  clear hm hs
  go_enter Tryd.func4, Tryd.ntmps4
  go_wp2_with fail
  refine (few_any s w HS.out).mono ?_
  rintro e w' ⟨rfl, rfl⟩
  generalize fewB s = t at *
  go_wp2_with fail
  refine (key_any t m w (by have := HF.out; omega) HM.out).mono ?_
  rintro e w' ⟨rfl, rfl⟩
  go_wp2_with fail
  refine (rkey_any t w).mono ?_
  rintro e w1 ⟨rfl, h1⟩
  have m1 := (h1.cell (p := ⟨0, 0, none⟩) HP.out).trans HM.out
  have H1 := Lib.hid h1
  have M1 := Lib.hid m1
  clear h1 m1
  generalize keyB t.data.toList = b at *
  cases b
  all_goals
    go_wp2_with fail
    refine (lives_any w1 m M1.out).mono ?_
    rintro e w2 ⟨rfl, h2⟩
    go_wp2_with fail
    go_ret
    exact ⟨rfl, H1.out.trans (h2.mono H1.out.size)⟩
set_option maxRecDepth 100000 in
set_option maxHeartbeats 4000000 in
theorem lexPlaces_walk (s : ByteArray) (w : World) (m : Int) (hm : w.cell? ⟨0, 0, none⟩ = some (.int .i64 m)) (hs : s.size ≤ maxLen) : Calls Tryd.prog 6 #[.string s] w fun e w' => e = .returned (.bool true) ∧ Below w.heap.size w w' := by
  have HM : Hid (w.cell? ⟨0, 0, none⟩ = some (.int .i64 m)) := hm
  have HS := Lib.hid hs
  have HP := Lib.hid (heap_pos hm)
  have HF := Lib.hid (fewB_size s)
  have HQ := Lib.hid (few_short s)
  clear hm hs
  go_enter Tryd.func6, Tryd.ntmps6
  go_wp2_with fail
  refine (few_any s w HS.out).mono ?_
  rintro e w' ⟨rfl, rfl⟩
  generalize fewB s = t at *
  rcases htf : tokensF t.data.toList with ⟨ts, p, er⟩
  have HT := Lib.hid htf
  clear htf
  go_wp2_with fail
  refine (toks_any w t m ts p er HT.out (by have := HF.out; omega) HM.out HQ.out).mono ?_
  rintro e w1 ⟨A, c, rfl, h1, hc, b1, m1⟩
  have H1 := Lib.hid h1
  have B1 := Lib.hid b1
  have M1 := Lib.hid m1
  clear h1 hc b1 m1
  by_cases he : er = 0
  · subst he
    have hk := of_tokensF HT.out
    have hne := hk.ne
    have hlen : 0 < ts.length := List.length_pos_iff.2 hne
    have hpl := hk.places
    have hll := hk.len
    rw [size_list] at hll
    have hll2 : (ts.length : Int) ≤ 301 := by have := HF.out; omega
    rw [Nat.zero_add, size_list] at hpl
    have HL := Lib.hid hpl
    have l0 : ((ts.length : Int) == 0) = false := beq_eq_false_iff_ne.2 (by omega)
    clear hk hne hpl HT hll
    go_wp2_with fail
    go_loopg [6] ts.length (fun gk ks wr => ∃ k : Nat, ks = .int .i64 (k : Int) ∧ k + gk = ts.length ∧ TokRow wr A ts ∧ Below w.heap.size w wr ∧ wr.cell? ⟨0, 0, none⟩ = some (.int .i64 m))
    case atStart => exact ⟨0, rfl, by omega, H1.out, B1.out, M1.out⟩
    case round =>
      obtain ⟨k, rfl, hkg, hr, hb, hm⟩ := hrel
      have HR := Lib.hid hr
      have HB := Lib.hid hb
      have HC := Lib.hid hm
      clear hr hb hm H1 B1 M1
      by_cases hlt : k < ts.length
      · obtain ⟨u, hu⟩ : ∃ u, ts[k]? = some u := ⟨_, List.getElem?_eq_getElem hlt⟩
        obtain ⟨p1, p2, p3, p4⟩ := HL.out k u hu
        obtain ⟨g, rfl, x0, x1, x2, x3⟩ := HR.out.at_ hu
        have d1 : decide ((k : Int) < (ts.length : Int)) = true := decide_eq_true (by omega)
        have d1n : decide (k < ts.length) = true := decide_eq_true hlt
        clear x1 x2
        have hprev : ∀ j, k = j + 1 → ∃ v : Tok, wr.cell? ⟨g, j * 4 + 3, none⟩ = some (.int .i64 (v.at_ : Int)) ∧ v.at_ < u.at_ := fun j hj => by
          subst hj
          obtain ⟨v, hv⟩ : ∃ v, ts[j]? = some v := ⟨_, List.getElem?_eq_getElem (by omega)⟩
          obtain ⟨g', e', _, _, _, y3⟩ := HR.out.at_ hv
          simp only [Option.some.injEq, Addr.mk.injEq] at e'
          obtain ⟨rfl, _⟩ := e'
          exact ⟨v, y3, (HL.out j v hv).2.2.2 u hu⟩
        clear hu p3 p4
        rcases Nat.eq_zero_or_pos k with hz | hz
        · subst hz
          clear hprev
          have e1 : (0 : Int) < (ts.length : Int) := by omega
          have e2 : decide ((0 : Int) < (ts.length : Int)) = true := decide_eq_true e1
          by_cases hl : 0 + 1 = ts.length
          · have q1 : ((0 : Int) == (ts.length : Int) - 1) = true := beq_iff_eq.2 (by omega)
            have q2 : (u.kind == 0) = true := beq_iff_eq.2 (p1.2 hl)
            have q3 : ((u.at_ : Int) == (t.size : Int)) = true := beq_iff_eq.2 (by rw [p2.2 hl])
            clear p1 p2
            go_wp2_with fail
            go_quiet (fail)
            go_wp2_with fail
            go_roundg (gk - 1)
            case measure => omega
            case rel => exact ⟨1, rfl, by omega, HR.out, below_drewN HB.out _, HC.out⟩
          · have q1 : ((0 : Int) == (ts.length : Int) - 1) = false := beq_eq_false_iff_ne.2 (by omega)
            have q2 : (u.kind == 0) = false := beq_eq_false_iff_ne.2 (fun h => hl (p1.1 h))
            have q3 : ((u.at_ : Int) == (t.size : Int)) = false := beq_eq_false_iff_ne.2 (fun h => hl (p2.1 (by omega)))
            clear p1 p2
            go_wp2_with fail
            go_quiet (fail)
            go_wp2_with fail
            go_roundg (gk - 1)
            case measure => omega
            case rel => exact ⟨1, rfl, by omega, HR.out, below_drewN HB.out _, HC.out⟩
        · obtain ⟨j, hj⟩ : ∃ j, k = j + 1 := ⟨k - 1, by omega⟩
          obtain ⟨v, y3, hv⟩ := hprev j hj
          have hk1 : (k : Int) - 1 = (j : Int) := by omega
          have HJ := Lib.hid hj
          have e1 : (k : Int) < (ts.length : Int) := by omega
          have e0 : (0 : Int) ≤ (j : Int) := by omega
          have e4 : (0 : Int) ≤ (k : Int) := by omega
          have e3 : (j : Int) < (ts.length : Int) := by omega
          have i1 : (0 : Int) < (k : Int) := by omega
          have i2 : decide ((0 : Int) < (k : Int)) = true := decide_eq_true i1
          have q4 : decide ((u.at_ : Int) ≤ (v.at_ : Int)) = false := decide_eq_false (by omega)
          have q4n : decide (u.at_ ≤ v.at_) = false := decide_eq_false (by omega)
          have i2n : decide (0 < k) = true := decide_eq_true hz
          clear hprev hj
          by_cases hl : k + 1 = ts.length
          · have q1 : ((k : Int) == (ts.length : Int) - 1) = true := beq_iff_eq.2 (by omega)
            have q2 : (u.kind == 0) = true := beq_iff_eq.2 (p1.2 hl)
            have q3 : ((u.at_ : Int) == (t.size : Int)) = true := beq_iff_eq.2 (by rw [p2.2 hl])
            clear p1 p2
            go_wp2_with fail
            go_quiet (fail)
            go_wp2_with fail
            go_roundg (gk - 1)
            case measure => omega
            case rel => exact ⟨k + 1, rfl, by omega, HR.out, below_drewN HB.out _, HC.out⟩
          · have q1 : ((k : Int) == (ts.length : Int) - 1) = false := beq_eq_false_iff_ne.2 (by omega)
            have q2 : (u.kind == 0) = false := beq_eq_false_iff_ne.2 (fun h => hl (p1.1 h))
            have q3 : ((u.at_ : Int) == (t.size : Int)) = false := beq_eq_false_iff_ne.2 (fun h => hl (p2.1 (by omega)))
            clear p1 p2
            go_wp2_with fail
            go_quiet (fail)
            go_wp2_with fail
            go_roundg (gk - 1)
            case measure => omega
            case rel => exact ⟨k + 1, rfl, by omega, HR.out, below_drewN HB.out _, HC.out⟩
      · have d1 : decide ((k : Int) < (ts.length : Int)) = false := decide_eq_false (by omega)
        have d1n : decide (k < ts.length) = false := decide_eq_false hlt
        go_wp2_with fail
        refine (lives_any wr m HC.out).mono ?_
        rintro e w2 ⟨rfl, h2⟩
        go_wp2_with fail
        go_ret
        exact ⟨rfl, HB.out.trans (h2.mono HB.out.size)⟩
  · have hts := tokensF_bad HT.out he
    subst hts
    have q1 : (er != 0) = true := bne_iff_ne.2 he
    go_wp2_with fail
    refine (lives_any w1 m M1.out).mono ?_
    rintro e w2 ⟨rfl, h2⟩
    go_wp2_with fail
    go_ret
    exact ⟨rfl, B1.out.trans (h2.mono B1.out.size)⟩
end Go.Proofs.YtmjjjnmfkdidgaaDoor
