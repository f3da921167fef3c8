/- Walks of the laws of layer 3: StrsLengths, StrsPlain. -/
import Derived.Test.YtmocjhildphklaaLa
import Derived.Test.YtmocjhildphklaaPlainE
import Derived.Test.YtmocjhildphklaaWalkF
namespace Go.Proofs.Ytmocjhildphklaa
open Go.RowKit Go.Maps
set_option linter.unusedVariables false

theorem packF_zero (l : List UInt8) : (packF l).getD 0 0 = (l.length : Int) := rfl
theorem packF_bound (l : List UInt8) (hl : l.length ≤ 60) (k : Nat) (hk : k < (l.length + 6) / 7 + 1) : 0 ≤ (packF l).getD k 0 ∧ (packF l).getD k 0 < 72057594037927936 := by
  cases k with
  | zero => rw [packF_zero]; omega
  | succ k =>
    unfold packF nums
    rw [List.getD_cons_succ, List.getD_eq_getElem?_getD, List.getElem?_map, List.getElem?_range (by omega)]
    show 0 ≤ ((leV ((l.drop (7 * k)).take 7) : Nat) : Int) ∧ ((leV ((l.drop (7 * k)).take 7) : Nat) : Int) < _
    have := leV_small (l.drop (7 * k)) 7 (Nat.le_refl _)
    have e : (2 : Nat) ^ (8 * 7) = 72057594037927936 := by decide
    omega

set_option maxHeartbeats 2000000 in
theorem lens_long (s t : ByteArray) (w : World) (hs : s.size ≤ maxLen) (h60 : 60 < (s.size : Int)) (hd : s.extract 0 60 = t) (ht : (t).size ≤ 60) :
    Calls Try.prog 7 #[.string s] w fun e w' => e = .returned (.bool true) ∧ Below w.heap.size w w' := by
  have HT := Lib.hid ht
  unfold maxLen at hs
  go_enter Try.func7, Try.ntmps7
  go_wp2_with fail
  refine (pack_in _ w HT.out).mono ?_
  rintro e w1 ⟨v, rfl, hown, hb1⟩
  obtain ⟨A, c, hv, hI⟩ := Ints.of_own hown
  rw [hv]
  clear hown hv
  have hb := fun k hk => packF_bound (t).data.toList (by rw [size_data]; exact ht) k hk
  rw [size_data] at hb
  have hz := packF_zero (t).data.toList
  rw [size_data] at hz
  obtain ⟨b, off, e, _, hc⟩ := hI.2 (by omega)
  subst e
  obtain ⟨N, hN⟩ : ∃ N, N = ((t).size + 6) / 7 + 1 := ⟨_, rfl⟩
  rw [← hN] at hb hc ⊢
  have hn1 : ((N : Int) != 1 + (((t).size : Int) + 6) / 7) = false := by
    have : (N : Int) = 1 + (((t).size : Int) + 6) / 7 := by omega
    rw [this]; simp
  have hN1 : 1 ≤ N := by omega
  have hN2 : N ≤ 100 := by omega
  have hc0 := hc 0 hN1
  rw [hz, Nat.add_zero] at hc0
  have HB := Lib.hid hb; have HC := Lib.hid hc
  clear hb hc hz hI hN
  generalize packF (t).data.toList = zs at *
  go_wp2_with fail
  go_loop [5] (fun i => ∃ k : Nat, k ≤ N ∧ i = .int .i64 k) (fun i => N - (intOf i).toNat)
  case atStart => exact ⟨0, by omega, rfl⟩
  case round =>
    obtain ⟨k, hk, rfl⟩ := hrel
    by_cases hlt : k < N
    · obtain ⟨x0, x1⟩ := HB.out k hlt
      have hck := HC.out k hlt
      generalize zs.getD k 0 = x at *
      clear hc0
      go_wp2_with fail
      go_round
      case rel => exact ⟨k + 1, by omega, by go_num⟩
      case measure => simp [intOf]; omega
    · have hge : (N : Int) ≤ k := by omega
      clear hc0
      go_wp2_with (go_at_call 16; refine (lives_any _).mono ?_; rintro e w4 ⟨rfl, hb4⟩)
      go_ret
      exact ⟨rfl, hb1.trans (hb4.mono hb1.size)⟩

set_option maxHeartbeats 2000000 in
theorem lens_short (s : ByteArray) (w : World) (hs : s.size ≤ maxLen) (h60 : ¬ 60 < (s.size : Int)) (ht : (s).size ≤ 60) :
    Calls Try.prog 7 #[.string s] w fun e w' => e = .returned (.bool true) ∧ Below w.heap.size w w' := by
  have HT := Lib.hid ht
  unfold maxLen at hs
  go_enter Try.func7, Try.ntmps7
  go_wp2_with fail
  refine (pack_in _ w HT.out).mono ?_
  rintro e w1 ⟨v, rfl, hown, hb1⟩
  obtain ⟨A, c, hv, hI⟩ := Ints.of_own hown
  rw [hv]
  clear hown hv
  have hb := fun k hk => packF_bound (s).data.toList (by rw [size_data]; exact ht) k hk
  rw [size_data] at hb
  have hz := packF_zero (s).data.toList
  rw [size_data] at hz
  obtain ⟨b, off, e, _, hc⟩ := hI.2 (by omega)
  subst e
  obtain ⟨N, hN⟩ : ∃ N, N = ((s).size + 6) / 7 + 1 := ⟨_, rfl⟩
  rw [← hN] at hb hc ⊢
  have hn1 : ((N : Int) != 1 + (((s).size : Int) + 6) / 7) = false := by
    have : (N : Int) = 1 + (((s).size : Int) + 6) / 7 := by omega
    rw [this]; simp
  have hN1 : 1 ≤ N := by omega
  have hN2 : N ≤ 100 := by omega
  have hc0 := hc 0 hN1
  rw [hz, Nat.add_zero] at hc0
  have HB := Lib.hid hb; have HC := Lib.hid hc
  clear hb hc hz hI hN
  generalize packF (s).data.toList = zs at *
  go_wp2_with fail
  go_loop [5] (fun i => ∃ k : Nat, k ≤ N ∧ i = .int .i64 k) (fun i => N - (intOf i).toNat)
  case atStart => exact ⟨0, by omega, rfl⟩
  case round =>
    obtain ⟨k, hk, rfl⟩ := hrel
    by_cases hlt : k < N
    · obtain ⟨x0, x1⟩ := HB.out k hlt
      have hck := HC.out k hlt
      generalize zs.getD k 0 = x at *
      clear hc0
      go_wp2_with fail
      go_round
      case rel => exact ⟨k + 1, by omega, by go_num⟩
      case measure => simp [intOf]; omega
    · have hge : (N : Int) ≤ k := by omega
      clear hc0
      go_wp2_with (go_at_call 16; refine (lives_any _).mono ?_; rintro e w4 ⟨rfl, hb4⟩)
      go_ret
      exact ⟨rfl, hb1.trans (hb4.mono hb1.size)⟩

theorem strsLengths_walk (s : ByteArray) (w : World) (hs : s.size ≤ maxLen) :
    Calls Try.prog 7 #[.string s] w fun e w' => e = .returned (.bool true) ∧ Below w.heap.size w w' := by
  by_cases h : 60 < s.size
  · exact lens_long s _ w hs (by omega) rfl (by simp; omega)
  · exact lens_short s w hs (by omega) (by omega)

theorem scan_pre {a r : List UInt8} {b d : Bool} (h : scan (a ++ r) b = some d) : ∃ c, scan a b = some c ∧ scan r c = some d := by
  rw [scan_app] at h
  cases hc : scan a b with
  | none => rw [hc] at h; cases h
  | some c => rw [hc] at h; exact ⟨c, rfl, h⟩
theorem scan_head {c : UInt8} {r : List UInt8} {b d : Bool} (h : scan (c :: r) b = some d) : 32 ≤ c.toNat ∧ c.toNat ≤ 126 ∧ (c = 34 → b = true) ∧ scan r (c == 92 && !b) = some d := by
  rw [scan] at h
  split at h
  · cases h
  · rename_i hn
    refine ⟨by omega, by omega, fun h34 => ?_, h⟩
    cases b with
    | true => rfl
    | false => exact absurd (.inr (.inr ⟨h34, rfl⟩)) hn
set_option maxRecDepth 100000 in
set_option maxHeartbeats 4000000 in
theorem strsPlain_walk (s : ByteArray) (w : World) (hs : s.size ≤ maxLen) :
    Calls Try.prog 8 #[.string s] w fun e w' => e = .returned (.bool true) ∧ Below w.heap.size w w' := by
  have HF := Lib.hid (few_size s); have HS := Lib.hid hs; clear hs
  go_enter Try.func8, Try.ntmps8
  go_wp2_with fail
  refine (few_any s w HS.out).mono ?_
  rintro e w' ⟨rfl, rfl⟩
  generalize fewS s = t at *
  go_wp2_with fail
  refine (quote_any t w HF.out).mono ?_
  rintro e w1 ⟨rfl, hb1⟩
  obtain ⟨q, hq⟩ : ∃ q : ByteArray, q = ⟨(quoF t.data.toList).toArray⟩ := ⟨_, rfl⟩
  rw [← hq]
  have hqd : q.data.toList = 34 :: (t.data.toList.flatMap quo1 ++ [34]) := by rw [hq]; rfl
  obtain ⟨m, hm⟩ : ∃ m, m = (t.data.toList.flatMap quo1).length := ⟨_, rfl⟩
  have hqs : q.size = m + 2 := by rw [← size_data, hqd, hm]; simp
  have hlo : t.size ≤ m := by have := quo_low t.data.toList; rw [size_data] at this; omega
  have hhi : m ≤ 4 * t.size := by
    have := quoP_len t.data.toList
    rw [size_data] at this
    unfold quoP at this
    rw [List.length_cons] at this; omega
  have ht := HF.out
  have g0 : q.data.toList[0]? = some 34 := by rw [hqd]; rfl
  have g1 : q.data.toList[m + 1]? = some 34 := by
    rw [hqd, List.getElem?_cons_succ, List.getElem?_append_right (by omega), hm, Nat.sub_self]; rfl
  have gi : ∀ i, i < m → q.data.toList[i + 1]? = (t.data.toList.flatMap quo1)[i]? := by
    intro i hi
    rw [hqd, List.getElem?_cons_succ, List.getElem?_append_left (by omega)]
  have hp0 : 0 < q.size := by omega
  have hp1 : m + 1 < q.size := by omega
  rw [data_get q 0 hp0] at g0
  rw [data_get q (m + 1) hp1] at g1
  injection g0 with g0
  injection g1 with g1
  have hsc := scan_quo t.data.toList
  have q0 : (((q[0]'hp0).toNat : Int) != 34) = false := by rw [g0]; rfl
  have q1 : (((q[m + 1]'hp1).toNat : Int) != 34) = false := by rw [g1]; rfl
  have z1 : decide ((q.size : Int) < 2) = false := by rw [decide_eq_false_iff_not]; omega
  have z2 : decide ((q.size : Int) < (t.size : Int) + 2) = false := by rw [decide_eq_false_iff_not]; omega
  have z3 : decide (4 * (t.size : Int) + 2 < (q.size : Int)) = false := by rw [decide_eq_false_iff_not]; omega
  have z5 : (q.size : Int) ≤ 602 := by omega
  have z4 : (q.size : Int) - 1 = ((m + 1 : Nat) : Int) := by omega
  have GI := Lib.hid gi; have SC := Lib.hid hsc; have HM := Lib.hid hm
  have HQS := Lib.hid hqs
  clear gi hsc hm hqd hq g0 g1 hqs
  generalize t.data.toList.flatMap quo1 = L at *
  go_wp2_with fail
  go_loop [4, 5] (fun bk i => ∃ (k j : Nat) (b : Bool), Hid (j = k + 1) ∧ j ≤ m + 1 ∧ k ≤ m ∧ i = .int .i64 (j : Int) ∧ bk = .bool b ∧ scan (L.take k) false = some b) (fun _ i => m + 2 - (intOf i).toNat)
  case atStart => exact ⟨0, 1, false, rfl, by omega, by omega, rfl, rfl, rfl⟩
  case round =>
    obtain ⟨k, j, b, HJ, hjm, hk, rfl, rfl, hsk⟩ := hrel
    have hjk := HJ.out
    have hqs := HQS.out
    have hj1 : 1 ≤ j := by omega
    have HK := Lib.hid hsk; clear hsk
    by_cases hlt : k < m
    · have hkq : j < q.size := by omega
      have hlen : k < L.length := by have := HM.out; omega
      obtain ⟨c, hcq⟩ : ∃ c, c = q[j] := ⟨_, rfl⟩
      have hLc : L[k]? = some c := by rw [← GI.out k hlt, ← hjk, data_get q j hkq, hcq]
      have hsplit : L = L.take k ++ c :: L.drop (k + 1) := by
        conv => lhs; rw [← List.take_append_drop k L]
        rw [List.drop_eq_getElem_cons hlen]
        rw [List.getElem?_eq_getElem hlen] at hLc
        injection hLc with hLc
        rw [hLc]
      have hS := SC.out
      rw [hsplit] at hS
      obtain ⟨b2, hb2, hrest⟩ := scan_pre hS
      have hbb : b = b2 := by have h1 := HK.out; rw [hb2] at h1; injection h1 with h1; exact h1.symm
      subst hbb
      obtain ⟨c1, c2, c3, _⟩ := scan_head hrest
      have hnext : scan (L.take (k + 1)) false = some (c == 92 && !b) := by
        rw [List.take_add_one, hLc, Option.toList_some, scan_app, hb2]
        show scan [c] b = _
        rw [scan, if_neg (by rintro (h | h | ⟨h, h'⟩); omega; omega; rw [c3 h] at h'; cases h')]; rfl
      have HN := Lib.hid hnext
      have d1 : 32 ≤ ((q[j]'hkq).toNat : Int) := by rw [← hcq]; omega
      have d2 : ((q[j]'hkq).toNat : Int) ≤ 126 := by rw [← hcq]; omega
      have hi : (j : Int) < ((m + 1 : Nat) : Int) := by omega
      have hq' : (j : Int) < (q.size : Int) := by omega
      by_cases e92 : c = 92
      · have t92 : (((q[j]'hkq).toNat : Int) == 92) = true := by rw [← hcq, e92]; rfl
        have t34 : (((q[j]'hkq).toNat : Int) == 34) = false := by rw [← hcq, e92]; rfl
        clear hcq hLc hsplit hS hb2 hrest c3 hnext hjk hqs q0 q1
        subst e92
        cases b
        all_goals
          go_wp2_with fail
          go_round
          case rel => exact ⟨k + 1, j + 1, _, by have := HJ.out; show j + 1 = k + 1 + 1; omega, by omega, by omega, by go_num, rfl, HN.out⟩
          case measure => simp [intOf]; omega
      · have t92 : (((q[j]'hkq).toNat : Int) == 92) = false := by rw [← hcq]; exact nq_u8 e92
        have hcb : (c == 92) = false := beq_eq_false_iff_ne.2 e92
        rw [hcb] at HN
        by_cases e34 : c = 34
        · have t34 : (((q[j]'hkq).toNat : Int) == 34) = true := by rw [← hcq, e34]; rfl
          have hbt := c3 e34
          clear hcq hLc hsplit hS hb2 hrest c3 hnext hjk hqs e92 e34 hcb q0 q1
          subst hbt
          go_wp2_with fail
          go_round
          case rel => exact ⟨k + 1, j + 1, _, by have := HJ.out; show j + 1 = k + 1 + 1; omega, by omega, by omega, by go_num, rfl, HN.out⟩
          case measure => simp [intOf]; omega
        · have t34 : (((q[j]'hkq).toNat : Int) == 34) = false := by rw [← hcq]; exact nq_u8 e34
          clear hcq hLc hsplit hS hb2 hrest c3 hnext hjk hqs e92 e34 hcb q0 q1
          go_wp2_with fail
          go_round
          case rel => exact ⟨k + 1, j + 1, _, by have := HJ.out; show j + 1 = k + 1 + 1; omega, by omega, by omega, by go_num, rfl, HN.out⟩
          case measure => simp [intOf]; omega
    · have e : k = m := by omega
      subst e
      have hge : ¬ (j : Int) < ((k + 1 : Nat) : Int) := by omega
      have hbf : b = false := by
        have h1 := HK.out
        rw [List.take_of_length_le (by have := HM.out; omega), SC.out] at h1
        injection h1 with h1; exact h1.symm
      subst hbf
      clear q0 q1 hjk hqs
      go_wp2_with (go_at_call 16; refine (lives_any _).mono ?_; rintro e w4 ⟨rfl, hb4⟩)
      go_ret
      exact ⟨rfl, hb1.trans (hb4.mono hb1.size)⟩
end Go.Proofs.Ytmocjhildphklaa
