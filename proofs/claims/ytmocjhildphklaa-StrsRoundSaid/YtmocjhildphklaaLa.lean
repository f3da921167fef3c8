/- Walks of the laws of layer 3: StrsPacks, StrsQuotes, StrsJoins. -/
import Derived.Test.YtmocjhildphklaaWalkJ
import Derived.OpenShut
namespace Go.Proofs.Ytmocjhildphklaa
open Go.RowKit Go.Maps
set_option linter.unusedVariables false

theorem few_max (s : ByteArray) : (fewS s).size ≤ maxLen := by have := few_size s; unfold maxLen; omega
set_option maxHeartbeats 1000000 in
theorem strsPacks_walk (s : ByteArray) (w : World) (hs : s.size ≤ maxLen) :
    Calls Try.prog 3 #[.string s] w fun e w' => e = .returned (.bool true) ∧ Below w.heap.size w w' := by
  have hf := few_max s
  have HF := Lib.hid hf; have HS := Lib.hid hs; clear hf hs
  go_enter Try.func3, Try.ntmps3
  go_wp2_with fail
  refine (few_any s w HS.out).mono ?_
  rintro e w' ⟨rfl, rfl⟩
  generalize fewS s = t at *
  go_wp2_with fail
  refine (pack_any t w HF.out).mono ?_
  rintro e w1 ⟨A, n, c, zs, er, rfl, hI, hn, hb1, hor⟩
  have HO := Lib.hid hor; have HI := Lib.hid hI; clear hor hI
  go_wp2_with fail
  refine (rpack_any t w1 HF.out).mono ?_
  rintro e w2 ⟨A2, n2, c2, zs2, er2, rfl, hI2, hn2, hb2, hor2⟩
  have heq : zs = zs2 ∧ er = er2 := by
    rcases HO.out with ⟨_, rfl, rfl⟩ | ⟨h1, rfl, rfl⟩ <;> rcases hor2 with ⟨h2, rfl, rfl⟩ | ⟨h2, rfl, rfl⟩
    · exact ⟨rfl, rfl⟩
    · omega
    · omega
    · exact ⟨rfl, rfl⟩
  obtain ⟨rfl, rfl⟩ := heq
  have hI1 := (HI.out.below hb2).more hb2.size
  have HI2 := Lib.hid hI2; have HI1 := Lib.hid hI1
  have hw2 := hb1.trans (hb2.mono hb1.size)
  clear hor2 hI2 hI1 HO HI hb1 hb2
  go_wp2_with fail
  refine (same_any w2 w2.heap.size A A2 n n2 c c2 zs zs HI1.out HI2.out (by omega) (by omega)).mono ?_
  rintro e w3 ⟨rfl, hb3⟩
  have hw3 := hw2.trans (hb3.mono hw2.size)
  rw [show (zs == zs) = true from beq_self_eq_true _]
  clear hw2 hb3
  go_wp2_with (go_at_call 16; refine (lives_any _).mono ?_; rintro e w4 ⟨rfl, hb4⟩)
  go_ret
  exact ⟨rfl, hw3.trans (hb4.mono hw3.size)⟩
set_option maxHeartbeats 1000000 in
theorem strsQuotes_walk (s : ByteArray) (w : World) (hs : s.size ≤ maxLen) :
    Calls Try.prog 4 #[.string s] w fun e w' => e = .returned (.bool true) ∧ Below w.heap.size w w' := by
  have HF := Lib.hid (few_size s); have HS := Lib.hid hs; clear hs
  go_enter Try.func4, Try.ntmps4
  go_wp2_with fail
  refine (few_any s w HS.out).mono ?_
  rintro e w' ⟨rfl, rfl⟩
  generalize fewS s = t at *
  go_wp2_with fail
  refine (quote_any t w HF.out).mono ?_
  rintro e w1 ⟨rfl, hb1⟩
  go_wp2_with fail
  refine (rquote_any t w1 HF.out).mono ?_
  rintro e w2 ⟨rfl, hb2⟩
  have hw2 := hb1.trans (hb2.mono hb1.size)
  clear hb1 hb2
  go_wp2_with (go_at_call 16; refine (lives_any _).mono ?_; rintro e w4 ⟨rfl, hb4⟩)
  go_ret
  exact ⟨rfl, hw2.trans (hb4.mono hw2.size)⟩
set_option maxHeartbeats 400000 in
theorem join_in (a b : ByteArray) (w : World) (h : a.size + b.size ≤ 60) :
    Calls Try.prog 21 #[.string a, .string b] w fun e w' => e = .returned (.tuple #[.string (a ++ b), .int .i64 0]) ∧ w = w' := by
  have h1 : (a.size : Int) ≤ 60 := by omega
  have h2 : (b.size : Int) ≤ 60 - a.size := by omega
  go_enter Try.func21, Try.ntmps21
  go_wp2
  go_ret2
  exact ⟨rfl, rfl⟩
set_option maxHeartbeats 400000 in
theorem join_out (a b : ByteArray) (w : World) (ha : a.size ≤ 150) (hb : b.size ≤ 150) (h : 60 < a.size + b.size) :
    Calls Try.prog 21 #[.string a, .string b] w fun e w' => e = .returned (.tuple #[.string ⟨#[]⟩, .int .i64 12]) ∧ w = w' := by
  rcases (by omega : 60 < (a.size : Int) ∨ ((a.size : Int) ≤ 60 ∧ 60 - (a.size : Int) < b.size)) with h1 | ⟨h1, h2⟩
  · go_enter Try.func21, Try.ntmps21
    go_wp2
    go_ret2
    exact ⟨rfl, rfl⟩
  · go_enter Try.func21, Try.ntmps21
    go_wp2
    go_ret2
    exact ⟨rfl, rfl⟩
set_option maxHeartbeats 1000000 in
theorem strsJoins_walk (s t : ByteArray) (w : World) (hs : s.size ≤ maxLen) (ht : t.size ≤ maxLen) :
    Calls Try.prog 9 #[.string s, .string t] w fun e w' => e = .returned (.bool true) ∧ Below w.heap.size w w' := by
  have h1 := few_size s
  have h2 := few_size t
  have HS := Lib.hid hs; have HT := Lib.hid ht; clear hs ht
  by_cases h : (fewS s).size + (fewS t).size ≤ 60
  · have h' : ((fewS s).size : Int) + (fewS t).size ≤ 60 := by omega
    go_enter Try.func9, Try.ntmps9
    go_wp2_with fail
    refine (few_any s w HS.out).mono ?_
    rintro e w' ⟨rfl, rfl⟩
    go_wp2_with fail
    refine (few_any t w HT.out).mono ?_
    rintro e w' ⟨rfl, rfl⟩
    generalize fewS s = a at *
    generalize fewS t = b at *
    go_wp2_with fail
    refine (join_in a b w h).mono ?_
    rintro e w' ⟨rfl, rfl⟩
    go_wp2_with (go_at_call 16; refine (lives_any _).mono ?_; rintro e w4 ⟨rfl, hb4⟩)
    go_ret
    exact ⟨rfl, hb4⟩
  · have h' : 60 < ((fewS s).size : Int) + (fewS t).size := by omega
    go_enter Try.func9, Try.ntmps9
    go_wp2_with fail
    refine (few_any s w HS.out).mono ?_
    rintro e w' ⟨rfl, rfl⟩
    go_wp2_with fail
    refine (few_any t w HT.out).mono ?_
    rintro e w' ⟨rfl, rfl⟩
    generalize fewS s = a at *
    generalize fewS t = b at *
    go_wp2_with fail
    refine (join_out a b w h1 h2 (by omega)).mono ?_
    rintro e w' ⟨rfl, rfl⟩
    go_wp2_with (go_at_call 16; refine (lives_any _).mono ?_; rintro e w4 ⟨rfl, hb4⟩)
    go_ret
    exact ⟨rfl, hb4⟩
end Go.Proofs.Ytmocjhildphklaa
