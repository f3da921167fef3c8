/- Plain facts of the law PrimsKeep. -/
import Derived.Test.YtcbehllfljjngaaJPlain
import Derived.Test.YtcbehllfljjngaaKState
import Derived.Test.YtcbehllfljjngaaRMem
import Derived.Test.YtcbehllfljjngaaPWalkD
import Derived.Test.YtcbehllfljjngaaPWalkE
namespace Go.Proofs.Ytcbehllfljjngaa
open Go.RowKit
set_option linter.unusedVariables false

def TextIn (H : Hp) (l : List UInt8) (r e : Int) (H' : Hp) : Prop := textR 200 H l = r ∧ textE 200 H l = e ∧ textH 200 H l = H'
theorem topN0 : topN [] = 1 := rfl
theorem textIn_in {H : Hp} {l : List UInt8} (h : l.length ≤ 60) (hr : topN H ≤ 100) : TextIn H l (2 * (topN H : Nat)) 0 (H ++ [⟨201, packF l⟩]) := by
  obtain ⟨h1, h2, h3⟩ := text_in (N := 200) (H := H) h (by omega)
  exact ⟨h2, h3, h1⟩
theorem may_of {H : Hp} {z : Int} {bk : Blk} (h : blkF H z = some bk) : mayF H z = true := by unfold mayF; rw [h]; simp
theorem may_odd {H : Hp} {z : Int} (h : z % 2 = 1) : mayF H z = true := by unfold mayF; simp [h]
theorem blkF_odd {H : Hp} {z : Int} (h : z % 2 = 1) : blkF H z = none := by unfold blkF; rw [if_neg (by omega)]
theorem topN_snocT (H : Hp) (l : List UInt8) : topN (H ++ [⟨201, packF l⟩]) = topN H + ((l.length + 6) / 7 + 2) := topN_text H l
/-- Two texts and a closure that keeps them. -/
theorem keep_made (s t : List UInt8) (f : Nat) (hs : s.length ≤ 60) (ht : t.length ≤ 60) (hf : f < 1000) : ∃ (a b c l : Int) (H1 H2 H3 H4 : Hp), TextIn [] s a 0 H1 ∧ TextIn H1 [108, 111, 115, 116] l 0 H2 ∧ TextIn H2 t b 0 H3 ∧
    (closeR 200 H3 f [b, a, 9] = c ∧ closeE 200 H3 f [b, a, 9] = 0 ∧ closeH 200 H3 f [b, a, 9] = H4) ∧ WfI a ∧ WfI b ∧ KIn H4 c (2 * f + 1) b a (packF t) (packF s) := by
  have e1 := topN_text [] s
  have t1 := textIn_in (H := []) hs (by rw [topN0]; omega)
  have a1 := blkF_new [] ⟨201, packF s⟩
  rw [topN0] at e1 t1 a1
  generalize ([] ++ [⟨201, packF s⟩] : Hp) = H1 at *
  have e2 := topN_text H1 [108, 111, 115, 116]
  have t2 := textIn_in (H := H1) (l := [108, 111, 115, 116]) (by decide) (by omega)
  have a2 := blkF_old ⟨201, packF [108, 111, 115, 116]⟩ a1
  generalize (H1 ++ [⟨201, packF [108, 111, 115, 116]⟩] : Hp) = H2 at *
  have hl : ([108, 111, 115, 116] : List UInt8).length = 4 := rfl
  rw [hl] at e2
  have e3 := topN_text H2 t
  have t3 := textIn_in (H := H2) ht (by omega)
  have a3 := blkF_old ⟨201, packF t⟩ a2
  have b3 := blkF_new H2 ⟨201, packF t⟩
  generalize (H2 ++ [⟨201, packF t⟩] : Hp) = H3 at *
  have hok : closeOk f = true := by unfold closeOk; simp; omega
  have hmk : mkOk 200 H3 200 [2 * (f : Int) + 1, 2 * (topN H2 : Nat), 2 * ((1 : Nat) : Int), 9] = true := by
    unfold mkOk
    simp only [List.all_cons, List.all_nil, may_of a3, may_of b3, may_odd (H := H3) (show (9 : Int) % 2 = 1 from rfl), may_odd (H := H3) (show (2 * (f : Int) + 1) % 2 = 1 from by omega)]
    rfl
  obtain ⟨m1, m2, m3⟩ := mk_good hmk (by show topN H3 + 4 ≤ 200; omega)
  have c4 := blkF_new H3 ⟨200, [2 * (f : Int) + 1, 2 * (topN H2 : Nat), 2 * ((1 : Nat) : Int), 9]⟩
  have a4 := blkF_old ⟨200, [2 * (f : Int) + 1, 2 * (topN H2 : Nat), 2 * ((1 : Nat) : Int), 9]⟩ a3
  have b4 := blkF_old ⟨200, [2 * (f : Int) + 1, 2 * (topN H2 : Nat), 2 * ((1 : Nat) : Int), 9]⟩ b3
  refine ⟨_, _, _, _, H1, H2, H3, _, t1, t2, t3, ⟨(if_pos hok).trans m2, (if_pos hok).trans m3, (if_pos hok).trans m1⟩, wf_i64.2 ⟨by omega, by omega⟩, wf_i64.2 ⟨by omega, by omega⟩, c4, b4, a4, blkF_odd (by omega), blkF_odd rfl, by omega, by omega, by omega, ⟨wf_i64.2 ⟨by omega, by omega⟩, wf_i64.2 ⟨by omega, by omega⟩, wf_i64.2 ⟨by omega, by omega⟩, wf_i64.2 ⟨by omega, by omega⟩⟩, by rw [packF_len]; omega, by rw [packF_len]; omega⟩
/-- What the new half tells. -/
theorem keep_told (s t : List UInt8) (f : Nat) (b a : Int) (hs : s.length ≤ 60) (ht : t.length ≤ 60) (hf : f < 1000) : ∃ x : Int, WfI x ∧ openF (kT (2 * f + 1) b a (packF t) (packF s) 4) 2 = ((f : Int), [12, x, 9], 0) ∧ strF (kT (2 * f + 1) b a (packF t) (packF s) 4) 12 = (t, 0) ∧ strF (kT (2 * f + 1) b a (packF t) (packF s) 4) x = (s, 0) := by
  have hb2 : blkF (kT (2 * f + 1) b a (packF t) (packF s) 4) 2 = some ⟨200, [2 * (f : Int) + 1, 12, 2 * ((7 + (packF t).length : Nat) : Int), 9]⟩ := rfl
  have hb12 : blkF (kT (2 * f + 1) b a (packF t) (packF s) 4) 12 = some ⟨201, packF t⟩ := rfl
  have hbx : blkF (kT (2 * f + 1) b a (packF t) (packF s) 4) (2 * ((7 + (packF t).length : Nat) : Int)) = some ⟨201, packF s⟩ := by
    have := blkAt_posn (H := kT (2 * f + 1) b a (packF t) (packF s) 4) (i := 2) (by show 2 < 3; decide)
    have e : posn (kT (2 * f + 1) b a (packF t) (packF s) 4) 2 = 7 + (packF t).length := by unfold posn kT sumSz Blk.sz; simp; omega
    rw [e] at this
    unfold blkF
    rw [if_pos ⟨by omega, by omega⟩, show (2 * ((7 + (packF t).length : Nat) : Int)) / 2 = (7 + (packF t).length : Nat) from by omega]
    exact this
  refine ⟨2 * ((7 + (packF t).length : Nat) : Int), wf_i64.2 ⟨by omega, by rw [packF_len]; omega⟩, ?_, strF_of ht hb12, strF_of hs hbx⟩
  generalize kT (2 * f + 1) b a (packF t) (packF s) 4 = T at *
  have h1 : tagF T 2 = 200 := by unfold tagF; rw [hb2]; rfl
  have h2 : fieldsF T 2 = [2 * (f : Int) + 1, 12, 2 * ((7 + (packF t).length : Nat) : Int), 9] := by unfold fieldsF; rw [hb2]
  have hok : openOk T 2 = true := by
    unfold openOk
    rw [h1, h2]
    simp
    omega
  unfold openF
  rw [if_pos hok, h2]
  simp
  omega
end Go.Proofs.Ytcbehllfljjngaa
