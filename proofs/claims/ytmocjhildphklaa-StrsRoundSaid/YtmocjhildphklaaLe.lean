/- Walks of the laws of layer 3: StrsRound. -/
import Derived.Test.YtmocjhildphklaaLd
namespace Go.Proofs.Ytmocjhildphklaa
open Go.RowKit Go.Maps
set_option linter.unusedVariables false

set_option maxHeartbeats 1000000 in
theorem strsRound_walk (s t : ByteArray) (w : World) (hs : s.size ≤ maxLen) (ht : t.size ≤ maxLen) :
    Calls Try.prog 11 #[.string s, .string t] w fun e w' => e = .returned (.bool true) ∧ Below w.heap.size w w' := by
  have HFS := Lib.hid (few_max s); have HFT := Lib.hid (few_max t)
  have HS := Lib.hid hs; have HT := Lib.hid ht; clear hs ht
  go_enter Try.func11, Try.ntmps11
  go_wp2_with fail
  refine (few_any s w HS.out).mono ?_
  rintro e w' ⟨rfl, rfl⟩
  go_wp2_with fail
  refine (few_any t w HT.out).mono ?_
  rintro e w' ⟨rfl, rfl⟩
  generalize fewS s = a at *
  generalize fewS t = b at *
  by_cases ha : a.size ≤ 60
  · go_wp2_with fail
    refine (pack_str a w ha).mono ?_
    rintro e w1 ⟨A1, n1, c1, rfl, hn1, hI1, hb1⟩
    have HI1 := Lib.hid hI1
    clear hI1
    by_cases hb : b.size ≤ 60
    · go_wp2_with fail
      refine (pack_str b w1 hb).mono ?_
      rintro e w2 ⟨A2, n2, c2, rfl, hn2, hI2, hb2⟩
      have HI2 := Lib.hid hI2
      have HJ1 := Lib.hid ((HI1.out.below hb2).more hb2.size)
      have hw2 := hb1.trans (hb2.mono hb1.size)
      clear hI2 hb1 hb2 HI1
      go_wp2_with fail
      refine (unpack_any w2 w2.heap.size A1 n1 c1 _ HJ1.out (Nat.le_refl _) hn1).mono ?_
      rintro e w3 ⟨rfl, hb3⟩
      rw [unpF_pack _ (by rw [size_data]; exact ha), str_own]
      have HK1 := Lib.hid ((HJ1.out.below hb3).more hb3.size)
      have HK2 := Lib.hid ((HI2.out.below hb3).more hb3.size)
      have hw3 := hw2.trans (hb3.mono hw2.size)
      clear hw2 hb3 HJ1 HI2
      by_cases hab : a = b
      · subst hab
        go_wp2_with fail
        refine (same_any w3 w3.heap.size A1 A2 n1 n2 c1 c2 _ _ HK1.out HK2.out (by omega) (by omega)).mono ?_
        rintro e w4 ⟨rfl, hb4⟩
        have hw4 := hw3.trans (hb4.mono hw3.size)
        rw [show (packF a.data.toList == packF a.data.toList) = true from beq_self_eq_true _]
        clear hw3 hb4
        go_wp2_with (go_at_call 16; refine (lives_any _).mono ?_; rintro e w5 ⟨rfl, hb5⟩)
        go_ret
        exact ⟨rfl, hw4.trans (hb5.mono hw4.size)⟩
      · have tab : (a.toList == b.toList) = false := by
          rw [beq_eq_false_iff_ne]; intro h; exact hab (by rw [ByteArray.toList_eq, ByteArray.toList_eq] at h; rw [← str_own a, h, str_own b])
        go_wp2_with fail
        refine (same_any w3 w3.heap.size A1 A2 n1 n2 c1 c2 _ _ HK1.out HK2.out (by omega) (by omega)).mono ?_
        rintro e w4 ⟨rfl, hb4⟩
        have hw4 := hw3.trans (hb4.mono hw3.size)
        rw [show (packF a.data.toList == packF b.data.toList) = false from by
          rw [beq_eq_false_iff_ne]; intro h; exact hab (by have := packF_inj h; rw [← str_own a, this, str_own b])]
        clear hw3 hb4
        go_wp2_with (go_at_call 16; refine (lives_any _).mono ?_; rintro e w5 ⟨rfl, hb5⟩)
        go_ret
        exact ⟨rfl, hw4.trans (hb5.mono hw4.size)⟩
    · go_wp2_with fail
      refine (pack_out b w1 (by omega) HFT.out).mono ?_
      rintro e w2 ⟨rfl, rfl⟩
      go_wp2_with fail
      refine (unpack_any w1 w1.heap.size A1 n1 c1 _ HI1.out (Nat.le_refl _) hn1).mono ?_
      rintro e w3 ⟨rfl, hb3⟩
      rw [unpF_pack _ (by rw [size_data]; exact ha), str_own]
      have hw3 := hb1.trans (hb3.mono hb1.size)
      clear hb1 hb3 HI1
      go_wp2_with (go_at_call 16; refine (lives_any _).mono ?_; rintro e w5 ⟨rfl, hb5⟩)
      go_ret
      exact ⟨rfl, hw3.trans (hb5.mono hw3.size)⟩
  · go_wp2_with fail
    refine (pack_out a w (by omega) HFS.out).mono ?_
    rintro e w1 ⟨rfl, rfl⟩
    by_cases hb : b.size ≤ 60
    · go_wp2_with fail
      refine (pack_str b w hb).mono ?_
      rintro e w2 ⟨A2, n2, c2, rfl, hn2, hI2, hb2⟩
      clear hI2
      go_wp2_with (go_at_call 16; refine (lives_any _).mono ?_; rintro e w5 ⟨rfl, hb5⟩)
      go_ret
      exact ⟨rfl, hb2.trans (hb5.mono hb2.size)⟩
    · go_wp2_with fail
      refine (pack_out b w (by omega) HFT.out).mono ?_
      rintro e w2 ⟨rfl, rfl⟩
      go_wp2_with (go_at_call 16; refine (lives_any _).mono ?_; rintro e w5 ⟨rfl, hb5⟩)
      go_ret
      exact ⟨rfl, hb5⟩
end Go.Proofs.Ytmocjhildphklaa
