/- Walks of the laws of layer 3: StrsReads, StrsBack. -/
import Derived.Test.YtmocjhildphklaaLa
import Derived.Test.YtmocjhildphklaaWalkF
import Derived.Test.YtmocjhildphklaaWalkK
import Derived.Test.YtmocjhildphklaaPlainE
namespace Go.Proofs.Ytmocjhildphklaa
open Go.RowKit Go.Maps
set_option linter.unusedVariables false

set_option maxHeartbeats 1000000 in
theorem strsReads_walk (s : ByteArray) (w : World) (hs : s.size ≤ maxLen) :
    Calls Try.prog 5 #[.string s] w fun e w' => e = .returned (.bool true) ∧ Below w.heap.size w w' := by
  have HF : Hid ((fewS s).size ≤ 1000) := by show _ ≤ _; have := few_size s; omega
  have HS := Lib.hid hs; clear hs
  go_enter Try.func5, Try.ntmps5
  go_wp2_with fail
  refine (few_any s w HS.out).mono ?_
  rintro e w' ⟨rfl, rfl⟩
  generalize fewS s = t at *
  go_wp2_with fail
  refine (unquote_any t w HF.out).mono ?_
  rintro e w1 ⟨rfl, hb1⟩
  go_wp2_with fail
  refine (runquote_any t w1 HF.out).mono ?_
  rintro e w2 ⟨rfl, hb2⟩
  have hw2 := hb1.trans (hb2.mono hb1.size)
  clear hb1 hb2
  generalize (⟨(unqF t.data.toList).1.toArray⟩ : ByteArray) = x
  generalize ((unqF t.data.toList).2.1 : Int) = y
  generalize (unqF t.data.toList).2.2 = z
  go_wp2_with (go_at_call 16; refine (lives_any _).mono ?_; rintro e w4 ⟨rfl, hb4⟩)
  go_ret
  exact ⟨rfl, hw2.trans (hb4.mono hw2.size)⟩



set_option maxHeartbeats 1000000 in
theorem back_long (s rest : ByteArray) (w : World) (hs : s.size ≤ maxLen) (hr : rest.size ≤ maxLen) (h60 : 60 < (s.size : Int)) (ht : (s.extract 0 60).size ≤ 60) :
    Calls Try.prog 6 #[.string s, .string rest] w fun e w' => e = .returned (.bool true) ∧ Below w.heap.size w w' := by
  obtain ⟨q, hq⟩ : ∃ q : ByteArray, q = ⟨(quoF (s.extract 0 60).data.toList).toArray⟩ := ⟨_, rfl⟩
  have hql : q.size ≤ 242 := by
    rw [hq]
    show (quoF (s.extract 0 60).data.toList).length ≤ 242
    have := quoP_len (s.extract 0 60).data.toList
    rw [size_data] at this
    unfold quoF
    rw [List.length_append, List.length_singleton]; omega
  have hu := unqF_quo (s.extract 0 60).data.toList (fewS rest).data.toList (by rw [size_data]; exact ht)
  have hqd : q.data.toList = quoF (s.extract 0 60).data.toList := by rw [hq]
  have hqs : (quoF (s.extract 0 60).data.toList).length = q.size := by rw [← hqd, size_data]
  rw [hqs, ← hqd, ← app_data] at hu
  have hfr := few_size rest
  have hbig : Hid ((q ++ fewS rest).size ≤ 1000) := by show _ ≤ _; rw [ByteArray.size_append]; omega
  have HF := Lib.hid (show (s.extract 0 60).size ≤ 150 by omega); have HR := Lib.hid hr; have HU := Lib.hid hu; have HQ := Lib.hid hq
  unfold maxLen at hs
  clear hr hu hq hqd hqs
  go_enter Try.func6, Try.ntmps6
  go_wp2_with fail
  refine (quote_any _ w HF.out).mono ?_
  rintro e w1 ⟨rfl, hb1⟩
  rw [← HQ.out]
  go_wp2_with fail
  refine (few_any rest w1 HR.out).mono ?_
  rintro e w' ⟨rfl, rfl⟩
  generalize fewS rest = r at *
  go_wp2_with fail
  refine (unquote_any (q ++ r) w1 hbig.out).mono ?_
  rintro e w2 ⟨rfl, hb2⟩
  have e : (⟨((s.extract 0 60).data.toList, q.size, (0 : Int)).1.toArray⟩ : ByteArray) = s.extract 0 60 := (str_ext _ _ rfl).symm
  rw [HU.out, e]
  clear e
  have hw2 := hb1.trans (hb2.mono hb1.size)
  clear hb1 hb2
  go_wp2_with (go_at_call 16; refine (lives_any _).mono ?_; rintro e w4 ⟨rfl, hb4⟩)
  go_ret
  exact ⟨rfl, hw2.trans (hb4.mono hw2.size)⟩

set_option maxHeartbeats 1000000 in
theorem back_short (s rest : ByteArray) (w : World) (hs : s.size ≤ maxLen) (hr : rest.size ≤ maxLen) (h60 : ¬ 60 < (s.size : Int)) (ht : (s).size ≤ 60) :
    Calls Try.prog 6 #[.string s, .string rest] w fun e w' => e = .returned (.bool true) ∧ Below w.heap.size w w' := by
  obtain ⟨q, hq⟩ : ∃ q : ByteArray, q = ⟨(quoF (s).data.toList).toArray⟩ := ⟨_, rfl⟩
  have hql : q.size ≤ 242 := by
    rw [hq]
    show (quoF (s).data.toList).length ≤ 242
    have := quoP_len (s).data.toList
    rw [size_data] at this
    unfold quoF
    rw [List.length_append, List.length_singleton]; omega
  have hu := unqF_quo (s).data.toList (fewS rest).data.toList (by rw [size_data]; exact ht)
  have hqd : q.data.toList = quoF (s).data.toList := by rw [hq]
  have hqs : (quoF (s).data.toList).length = q.size := by rw [← hqd, size_data]
  rw [hqs, ← hqd, ← app_data] at hu
  have hfr := few_size rest
  have hbig : Hid ((q ++ fewS rest).size ≤ 1000) := by show _ ≤ _; rw [ByteArray.size_append]; omega
  have HF := Lib.hid (show (s).size ≤ 150 by omega); have HR := Lib.hid hr; have HU := Lib.hid hu; have HQ := Lib.hid hq
  unfold maxLen at hs
  clear hr hu hq hqd hqs
  go_enter Try.func6, Try.ntmps6
  go_wp2_with fail
  refine (quote_any _ w HF.out).mono ?_
  rintro e w1 ⟨rfl, hb1⟩
  rw [← HQ.out]
  go_wp2_with fail
  refine (few_any rest w1 HR.out).mono ?_
  rintro e w' ⟨rfl, rfl⟩
  generalize fewS rest = r at *
  go_wp2_with fail
  refine (unquote_any (q ++ r) w1 hbig.out).mono ?_
  rintro e w2 ⟨rfl, hb2⟩
  have e : (⟨((s).data.toList, q.size, (0 : Int)).1.toArray⟩ : ByteArray) = s := (str_ext _ _ rfl).symm
  rw [HU.out, e]
  clear e
  have hw2 := hb1.trans (hb2.mono hb1.size)
  clear hb1 hb2
  go_wp2_with (go_at_call 16; refine (lives_any _).mono ?_; rintro e w4 ⟨rfl, hb4⟩)
  go_ret
  exact ⟨rfl, hw2.trans (hb4.mono hw2.size)⟩

theorem strsBack_walk (s rest : ByteArray) (w : World) (hs : s.size ≤ maxLen) (hr : rest.size ≤ maxLen) :
    Calls Try.prog 6 #[.string s, .string rest] w fun e w' => e = .returned (.bool true) ∧ Below w.heap.size w w' := by
  by_cases h : 60 < s.size
  · exact back_long s rest w hs hr (by omega) (by simp; omega)
  · exact back_short s rest w hs hr (by omega) (by omega)
end Go.Proofs.Ytmocjhildphklaa
