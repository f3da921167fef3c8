/- Walks of the laws of layer 3: StrsUnpacks, StrsRound. -/
import Derived.Test.YtmocjhildphklaaWalkN
import Derived.Test.YtmocjhildphklaaLa
namespace Go.Proofs.Ytmocjhildphklaa
open Go.RowKit Go.Maps
set_option linter.unusedVariables false

/-- What a slice of integers handed in reads as, up to its capacity. -/
def IsRow (k : IntKind) (W : World) (a : Option Addr) (len cap : Nat) (zs : List Int) : Prop :=
  (a = none ∧ len = 0 ∧ cap = 0 ∧ zs = []) ∨ ∃ x, a = some x ∧ len ≤ cap ∧ cap ≤ maxLen ∧ zs.length = cap ∧ (∀ i, i < zs.length → W.cell? (x.add i) = some (.int k (zs.getD i 0))) ∧ ∀ n ∈ zs, (Lit.int k n).wf = true
theorem isRow_len {k : IntKind} {W : World} {a : Option Addr} {len cap : Nat} {zs : List Int} (h : IsRow k W a len cap zs) : len ≤ cap ∧ cap ≤ maxLen := by
  rcases h with ⟨_, rfl, rfl, _⟩ | ⟨_, _, h1, h2, _⟩
  · exact ⟨Nat.le_refl _, by unfold maxLen; omega⟩
  · exact ⟨h1, h2⟩
theorem isRow_ints {W : World} {a : Option Addr} {len cap : Nat} {zs : List Int} (h : IsRow .i64 W a len cap zs) (m : Nat) (hm : m ≤ len) :
    Ints W W.heap.size a m (zs.take m) ∧ ∀ j, (zs.take m).getD j 0 < 9223372036854775808 := by
  rcases h with ⟨rfl, rfl, rfl, rfl⟩ | ⟨x, rfl, h1, h2, hl, hc, hw⟩
  · obtain rfl : m = 0 := by omega
    exact ⟨⟨rfl, fun h => absurd h (by omega)⟩, fun j => by simp⟩
  · refine ⟨⟨by rw [List.length_take]; omega, fun h0 => ?_⟩, fun j => ?_⟩
    · obtain ⟨b, off, sp⟩ := x
      have hc0 := hc 0 (by omega)
      have hlt : b < W.heap.size := by
        rcases Nat.lt_or_ge b W.heap.size with h | h
        · exact h
        · unfold World.cell? Addr.add at hc0; rw [if_pos rfl] at hc0; simp [Array.getElem?_eq_none h] at hc0
      have hsp : sp = none := by
        cases sp with
        | none => rfl
        | some y =>
          unfold World.cell? Addr.add at hc0; rw [if_pos rfl] at hc0
          dsimp only at hc0
          split at hc0 <;> simp at hc0
      subst hsp
      refine ⟨b, off, rfl, hlt, fun j hj => ?_⟩
      have := hc j (by omega)
      have e : (⟨b, off, none⟩ : Addr).add j = ⟨b, off + j, none⟩ := by unfold Addr.add; split <;> simp_all
      rw [e] at this
      rw [this, List.getD_eq_getElem?_getD, List.getD_eq_getElem?_getD, List.getElem?_take, if_pos hj]
    · by_cases hj : j < m
      · have hm' : zs.getD j 0 ∈ zs := by
          rw [List.getD_eq_getElem?_getD, List.getElem?_eq_getElem (by omega)]; exact List.getElem_mem _
        have hwf := hw _ hm'
        rw [List.getD_eq_getElem?_getD, List.getElem?_take, if_pos hj, ← List.getD_eq_getElem?_getD]
        simp only [Lit.wf, IntKind.min, IntKind.max, IntKind.signed, IntKind.bits, Bool.and_eq_true, decide_eq_true_eq, if_true] at hwf
        have := hwf.2
        omega
      · rw [List.getD_eq_getElem?_getD, List.getElem?_eq_none (by rw [List.length_take]; omega)]; simp
theorem unpF_pack (l : List UInt8) (h : l.length ≤ 60) : unpF (packF l) = .returned (.tuple #[.string ⟨l.toArray⟩, .int .i64 0]) := by
  have hd : hdN (packF l) = l.length := by unfold hdN packF; rw [List.getD_cons_zero]; omega
  obtain ⟨_, hu⟩ := unp_pack l h
  have := unpF_yes (zs := packF l) (by rw [hd]; exact h) (by rw [hd, hu])
  rw [hd, hu] at this; exact this
theorem str_own (s : ByteArray) : (⟨s.data.toList.toArray⟩ : ByteArray) = s := by cases s; simp
theorem pack_str (s : ByteArray) (w : World) (h : s.size ≤ 60) :
    Calls Try.prog 13 #[.string s] w fun e w' => ∃ A n c, e = .returned (.tuple #[.slice A n c, .int .i64 0]) ∧ n ≤ 1000 ∧ Ints w' w'.heap.size A n (packF s.data.toList) ∧ Below w.heap.size w w' := by
  have := pack_list s.data.toList w (by rw [size_data]; exact h)
  rw [str_own] at this; exact this

set_option maxHeartbeats 1000000 in
theorem strsUnpacks_walk (A : Option Addr) (len cap : Nat) (zs : List Int) (w : World) (hz : IsRow .i64 w A len cap zs) :
    Calls Try.prog 10 #[.slice A len cap] w fun e w' => e = .returned (.bool true) ∧ Below w.heap.size w w' := by
  obtain ⟨hlc, hcm⟩ := isRow_len hz
  have HC := Lib.hid hcm
  unfold maxLen at hcm
  by_cases h15 : 15 < len
  · obtain ⟨hI, hR⟩ := isRow_ints hz 15 (by omega)
    have HI := Lib.hid hI; have HR := Lib.hid hR
    obtain ⟨b, off, ea, _⟩ := hI.2 (by omega)
    subst ea
    clear hz hI hR
    go_enter Try.func10, Try.ntmps10
    go_wp2_with fail
    refine (unpack_any w w.heap.size _ 15 cap (zs.take 15) HI.out (Nat.le_refl _) (by omega)).mono ?_
    rintro e w1 ⟨rfl, hb1⟩
    have HI1 := Lib.hid ((HI.out.below hb1).more hb1.size)
    by_cases hg : hdN (zs.take 15) ≤ 60 ∧ packF (unpB (zs.take 15) (hdN (zs.take 15))) = zs.take 15
    · have HU := Lib.hid (unpF_yes hg.1 hg.2)
      have HG := Lib.hid hg.2
      have hl60 : (unpB (zs.take 15) (hdN (zs.take 15))).length ≤ 60 := by rw [unpB_len]; exact hg.1
      clear hg
      generalize zs.take 15 = ys at *
      generalize unpB ys (hdN ys) = l at *
      rw [HU.out]
      go_wp2_with fail
      refine (runpack_any w1 w1.heap.size _ 15 cap ys HI1.out (Nat.le_refl _) (by omega) HR.out).mono ?_
      rintro e w2 ⟨rfl, hb2⟩
      rw [HU.out]
      have HI2 := Lib.hid ((HI1.out.below hb2).more hb2.size)
      have hw2 := hb1.trans (hb2.mono hb1.size)
      clear hb1 hb2 HI HI1
      go_wp2_with fail
      refine (pack_list l w2 hl60).mono ?_
      rintro e w3 ⟨A3, n3, c3, rfl, hn3, hI3, hb3⟩
      have HI3 := Lib.hid hI3
      have HI4 := Lib.hid ((HI2.out.below hb3).more hb3.size)
      have hw3 := hw2.trans (hb3.mono hw2.size)
      clear hw2 hb3 hI3 HI2
      go_wp2_with fail
      refine (same_any w3 w3.heap.size A3 _ n3 15 c3 cap _ ys HI3.out HI4.out (by omega) (by omega)).mono ?_
      rintro e w4 ⟨rfl, hb4⟩
      have hw4 := hw3.trans (hb4.mono hw3.size)
      rw [show (packF l == ys) = true from beq_iff_eq.mpr HG.out]
      clear hw3 hb4
      go_wp2_with (go_at_call 16; refine (lives_any _).mono ?_; rintro e w5 ⟨rfl, hb5⟩)
      go_ret
      exact ⟨rfl, hw4.trans (hb5.mono hw4.size)⟩
    · have HU : Hid (unpF (zs.take 15) = unpE) := by show _ = _; unfold unpF; rw [if_neg hg]
      clear hg
      generalize zs.take 15 = ys at *
      rw [HU.out]
      unfold unpE
      go_wp2_with fail
      refine (runpack_any w1 w1.heap.size _ 15 cap ys HI1.out (Nat.le_refl _) (by omega) HR.out).mono ?_
      rintro e w2 ⟨rfl, hb2⟩
      rw [HU.out]
      unfold unpE
      have hw2 := hb1.trans (hb2.mono hb1.size)
      clear hb1 hb2 HI HI1
      go_wp2_with (go_at_call 16; refine (lives_any _).mono ?_; rintro e w5 ⟨rfl, hb5⟩)
      go_ret
      exact ⟨rfl, hw2.trans (hb5.mono hw2.size)⟩
  · obtain ⟨hI, hR⟩ := isRow_ints hz len (Nat.le_refl _)
    have HI := Lib.hid hI; have HR := Lib.hid hR
    clear hz hI hR
    go_enter Try.func10, Try.ntmps10
    go_wp2_with fail
    refine (unpack_any w w.heap.size A len cap (zs.take len) HI.out (Nat.le_refl _) (by omega)).mono ?_
    rintro e w1 ⟨rfl, hb1⟩
    have HI1 := Lib.hid ((HI.out.below hb1).more hb1.size)
    by_cases hg : hdN (zs.take len) ≤ 60 ∧ packF (unpB (zs.take len) (hdN (zs.take len))) = zs.take len
    · have HU := Lib.hid (unpF_yes hg.1 hg.2)
      have HG := Lib.hid hg.2
      have hl60 : (unpB (zs.take len) (hdN (zs.take len))).length ≤ 60 := by rw [unpB_len]; exact hg.1
      clear hg
      generalize zs.take len = ys at *
      generalize unpB ys (hdN ys) = l at *
      rw [HU.out]
      go_wp2_with fail
      refine (runpack_any w1 w1.heap.size A len cap ys HI1.out (Nat.le_refl _) (by omega) HR.out).mono ?_
      rintro e w2 ⟨rfl, hb2⟩
      rw [HU.out]
      have HI2 := Lib.hid ((HI1.out.below hb2).more hb2.size)
      have hw2 := hb1.trans (hb2.mono hb1.size)
      clear hb1 hb2 HI HI1
      go_wp2_with fail
      refine (pack_list l w2 hl60).mono ?_
      rintro e w3 ⟨A3, n3, c3, rfl, hn3, hI3, hb3⟩
      have HI3 := Lib.hid hI3
      have HI4 := Lib.hid ((HI2.out.below hb3).more hb3.size)
      have hw3 := hw2.trans (hb3.mono hw2.size)
      clear hw2 hb3 hI3 HI2
      go_wp2_with fail
      refine (same_any w3 w3.heap.size A3 A n3 len c3 cap _ ys HI3.out HI4.out (by omega) (by omega)).mono ?_
      rintro e w4 ⟨rfl, hb4⟩
      have hw4 := hw3.trans (hb4.mono hw3.size)
      rw [show (packF l == ys) = true from beq_iff_eq.mpr HG.out]
      clear hw3 hb4
      go_wp2_with (go_at_call 16; refine (lives_any _).mono ?_; rintro e w5 ⟨rfl, hb5⟩)
      go_ret
      exact ⟨rfl, hw4.trans (hb5.mono hw4.size)⟩
    · have HU : Hid (unpF (zs.take len) = unpE) := by show _ = _; unfold unpF; rw [if_neg hg]
      clear hg
      generalize zs.take len = ys at *
      rw [HU.out]
      unfold unpE
      go_wp2_with fail
      refine (runpack_any w1 w1.heap.size A len cap ys HI1.out (Nat.le_refl _) (by omega) HR.out).mono ?_
      rintro e w2 ⟨rfl, hb2⟩
      rw [HU.out]
      unfold unpE
      have hw2 := hb1.trans (hb2.mono hb1.size)
      clear hb1 hb2 HI HI1
      go_wp2_with (go_at_call 16; refine (lives_any _).mono ?_; rintro e w5 ⟨rfl, hb5⟩)
      go_ret
      exact ⟨rfl, hw2.trans (hb5.mono hw2.size)⟩
end Go.Proofs.Ytmocjhildphklaa
