/- Plain facts of the law PrimsJoin. -/
import Derived.Test.YtcbehllfljjngaaJPlain
namespace Go.Proofs.Ytcbehllfljjngaa
open Go.RowKit
set_option linter.unusedVariables false

/-- What a text's making answers. -/
def TextIs (H : Hp) (l : List UInt8) (r e : Int) (H' : Hp) : Prop := textR 400 H l = r ∧ textE 400 H l = e ∧ textH 400 H l = H'
def JoinIs (H : Hp) (a b r e : Int) (H' : Hp) : Prop := joinR 400 H a b = r ∧ joinE 400 H a b = e ∧ joinH 400 H a b = H'
theorem topN_nil : topN [] = 1 := rfl
theorem wf_small {z : Int} (h1 : 0 ≤ z) (h2 : z ≤ 1000000) : WfI z := wf_i64.2 ⟨by omega, by omega⟩
theorem textIs_in {H : Hp} {l : List UInt8} (h : l.length ≤ 60) (hr : topN H ≤ 200) : TextIs H l (2 * (topN H : Nat)) 0 (H ++ [⟨201, packF l⟩]) := by
  obtain ⟨h1, h2, h3⟩ := text_in (N := 400) (H := H) h (by omega)
  exact ⟨h2, h3, h1⟩
theorem textIs_far {H : Hp} {l : List UInt8} (h : 60 < l.length) : TextIs H l 0 12 H := by
  obtain ⟨h1, h2, h3⟩ := text_far (N := 400) (H := H) h
  exact ⟨h2, h1, h3⟩
theorem strF_new (H : Hp) {l : List UInt8} (h : l.length ≤ 60) : strF (H ++ [⟨201, packF l⟩]) (2 * (topN H : Nat)) = (l, 0) := strF_of h (blkF_new H _)
theorem blkF_newS (H : Hp) (l : List UInt8) : blkF (H ++ [⟨201, packF l⟩]) (2 * (topN H : Nat)) = some ⟨201, packF l⟩ := blkF_new H _
/-- Both texts are short. -/
theorem join_short (s t : List UInt8) (hs : s.length ≤ 60) (ht : t.length ≤ 60) : ∃ (a b : Int) (H1 H2 : Hp), WfI a ∧ WfI b ∧ TextIs [] s a 0 H1 ∧ TextIs H1 t b 0 H2 ∧
    (60 < s.length + t.length → JoinIs H2 a b 0 12 H2 ∧ strF H2 a = (s, 0) ∧ strF H2 b = (t, 0)) ∧
    (s.length + t.length ≤ 60 → ∃ (c : Int) (H3 : Hp), WfI c ∧ JoinIs H2 a b c 0 H3 ∧ strF H3 a = (s, 0) ∧ strF H3 b = (t, 0) ∧ strF H3 c = (s ++ t, 0)) := by
  have e1 := topN_text [] s
  have e2 := topN_text ([] ++ [⟨201, packF s⟩]) t
  rw [topN_nil] at e1
  have a1 := blkF_newS [] s
  have a2 := blkF_old ⟨201, packF t⟩ a1
  have b2 := blkF_newS ([] ++ [⟨201, packF s⟩]) t
  have t1 := textIs_in (H := []) hs (by rw [topN_nil]; omega)
  have t2 := textIs_in (H := [] ++ [⟨201, packF s⟩]) ht (by omega)
  have t3 := fun h3 => textIs_in (H := ([] ++ [⟨201, packF s⟩]) ++ [⟨201, packF t⟩]) (l := s ++ t) (by rw [List.length_append]; exact h3) (by omega)
  have c3 := blkF_newS (([] ++ [⟨201, packF s⟩]) ++ [⟨201, packF t⟩]) (s ++ t)
  have a3 := blkF_old ⟨201, packF (s ++ t)⟩ a2
  have b3 := blkF_old ⟨201, packF (s ++ t)⟩ b2
  generalize hH1 : ([] ++ [⟨201, packF s⟩] : Hp) = H1 at *
  generalize hH2 : (H1 ++ [⟨201, packF t⟩] : Hp) = H2 at *
  rw [topN_nil] at *
  obtain ⟨j1, j2, j3⟩ := joinX_ok (N := 400) (strF_of hs a2) (strF_of ht b2)
  refine ⟨_, _, H1, H2, wf_small (by omega) (by omega), wf_small (by omega) (by omega), t1, t2, fun h => ?_, fun h => ?_⟩
  · obtain ⟨f1, f2, f3⟩ := textIs_far (H := H2) (l := s ++ t) (by rw [List.length_append]; exact h)
    exact ⟨⟨j2.trans f1, j1.trans f2, j3.trans f3⟩, strF_of hs a2, strF_of ht b2⟩
  · obtain ⟨f1, f2, f3⟩ := t3 h
    exact ⟨_, _, wf_small (by omega) (by omega), ⟨j2.trans f1, j1.trans f2, j3.trans f3⟩, strF_of hs a3, strF_of ht b3, strF_of (by rw [List.length_append]; exact h) c3⟩
/-- One text is too long. -/
theorem join_long (s t : List UInt8) (h : 60 < s.length ∨ 60 < t.length) : ∃ (a b : Int) (H1 H2 : Hp), WfI a ∧ WfI b ∧ TextIs [] s a (if 60 < s.length then 12 else 0) H1 ∧ TextIs H1 t b (if 60 < t.length then 12 else 0) H2 ∧ JoinIs H2 a b 0 4 H2 := by
  have hbad : ∀ {H : Hp} {a b : Int}, a = 0 ∨ b = 0 → JoinIs H a b 0 4 H := fun {H a b} h0 => by
    obtain ⟨h1, h2, h3⟩ := joinX_bad (N := 400) (H := H) (a := a) (b := b) (by
      rcases h0 with rfl | rfl
      · left; rw [strF_none (blkF_zero H)]; decide
      · right; rw [strF_none (blkF_zero H)]; decide)
    exact ⟨h2, h1, h3⟩
  by_cases h1 : 60 < s.length
  · rw [if_pos h1]
    by_cases h2 : 60 < t.length
    · rw [if_pos h2]
      exact ⟨0, 0, [], [], wf_small (by omega) (by omega), wf_small (by omega) (by omega), textIs_far h1, textIs_far h2, hbad (.inl rfl)⟩
    · rw [if_neg h2]
      exact ⟨0, _, [], _, wf_small (by omega) (by omega), wf_small (by rw [topN_nil]; omega) (by rw [topN_nil]; omega), textIs_far h1, textIs_in (by omega) (by rw [topN_nil]; omega), hbad (.inl rfl)⟩
  · rw [if_neg h1, if_pos (h.resolve_left h1)]
    exact ⟨_, 0, _, _, wf_small (by rw [topN_nil]; omega) (by rw [topN_nil]; omega), wf_small (by omega) (by omega), textIs_in (by omega) (by rw [topN_nil]; omega), textIs_far (h.resolve_left h1), hbad (.inr rfl)⟩
section
variable {w : World} {s e hb : Nat} {H H' : Hp}
theorem text_to (h : HeapAt w s e hb 400 H) (t : ByteArray) (ht : t.size ≤ maxLen) {r er : Int} (hi : TextIs H t.data.toList r er H') :
    Calls Try.prog 23 #[.pointer (some ⟨hb, 0, none⟩), .string t] w fun ee w' => ee = .returned (.tuple #[.int .i64 r, .int .i64 er]) ∧ HeapAt w' s e hb 400 H' ∧ Mid s e w w' := by
  have := text_any h t ht
  unfold TextPost at this
  rw [hi.1, hi.2.1, hi.2.2] at this
  exact this
theorem join_to (h : HeapAt w s e hb 400 H) {a b : Int} (ha : WfI a) (hb' : WfI b) {r er : Int} (hi : JoinIs H a b r er H') :
    Calls Try.prog 24 #[.pointer (some ⟨hb, 0, none⟩), .int .i64 a, .int .i64 b] w fun ee w' => ee = .returned (.tuple #[.int .i64 r, .int .i64 er]) ∧ HeapAt w' s e hb 400 H' ∧ Mid s e w w' := by
  have := join_any h a b ha hb'
  unfold JoinPost at this
  rw [hi.1, hi.2.1, hi.2.2] at this
  exact this
end
end Go.Proofs.Ytcbehllfljjngaa
