/- The law LexLong: its walk. -/
import Derived.Test.YtmjjjnmfkdidgaaDoorLa
namespace Go.Proofs.YtmjjjnmfkdidgaaDoor
open Go.RowKit
set_option linter.unusedVariables false
attribute [local go_sem ↓] Go.wp_at_zero Go.wp_at_succ

theorem longToks : ∀ (n i : Nat), ∃ ts, Toks (List.replicate n 40) i ts ∧ ts.length = n + 1
  | 0, i => ⟨_, .fin _ i rfl, rfl⟩
  | n + 1, i => by
    have hg : gapL (List.replicate (n + 1) 40) = 0 := by
      rw [List.replicate_succ]; exact gapL_other _ _ (by decide) (by decide)
    have ht : tokF ((List.replicate (n + 1) 40).drop (gapL (List.replicate (n + 1) 40))) = ⟨5, [40], 0, 1, 0⟩ := by
      rw [hg, List.drop_zero, List.replicate_succ, tok_sign 40 _ rfl (by decide) rfl (by decide), if_neg]
      unfold arrB; cases n <;> simp [List.replicate_succ]
    obtain ⟨ts, h1, h2⟩ := longToks n (i + 1)
    refine ⟨_, .one _ i ts 5 [40] 0 1 ht (by decide) ?_, by rw [List.length_cons, h2]⟩
    rw [hg]
    exact h1
theorem long_ok (n : Nat) (h : n ≤ 2000) : ∃ ts, tokensF (List.replicate n 40) = (ts, 0, 0) ∧ ts.length = n + 1 := by
  obtain ⟨ts, h1, h2⟩ := longToks n 0
  exact ⟨ts, tokensF_of h1 (by rw [List.length_replicate]; exact h), h2⟩
theorem long_no (n : Nat) (h : 2000 < n) : tokensF (List.replicate n 40) = ([], 0, 12) := by
  unfold tokensF; rw [if_pos (by rw [List.length_replicate]; exact h)]
theorem long_q (n : Nat) : ShortQ (List.replicate n 40) := fun j h => by
  rw [List.drop_replicate] at h
  rcases hn : n - j with _ | k
  · rw [hn] at h; cases h
  · rw [hn, List.replicate_succ] at h
    simp at h
theorem rep_snoc (k : Nat) : (List.replicate k (40 : UInt8)).map S.u8v ++ [.int .u8 40] = (List.replicate (k + 1) (40 : UInt8)).map S.u8v := by
  rw [List.replicate_succ', List.map_append]; rfl
theorem wf_i64 {n : Int} (h : (Lit.int .i64 n).wf = true) : -9223372036854775808 ≤ n ∧ n ≤ 9223372036854775807 := by
  simpa [Lit.wf, IntKind.min, IntKind.max, IntKind.signed, IntKind.bits] using h
set_option maxRecDepth 100000 in
set_option maxHeartbeats 4000000 in
theorem lexLong_walk (n : Int) (w : World) (m : Int) (hm : w.cell? ⟨0, 0, none⟩ = some (.int .i64 m)) (hn : (Lit.int .i64 n).wf = true) : Calls Tryd.prog 7 #[.int .i64 n] w fun e w' => e = .returned (.bool true) ∧ Below w.heap.size w w' := by
  have HM : Hid (w.cell? ⟨0, 0, none⟩ = some (.int .i64 m)) := hm
  have HP := Lib.hid (heap_pos hm)
  obtain ⟨n0, n1⟩ := wf_i64 hn
  clear hm hn
  obtain ⟨v, hv⟩ : ∃ v, v = if n < 0 then -(n + 1) else n := ⟨_, rfl⟩
  have hv0 : 0 ≤ v ∧ v ≤ 9223372036854775807 := by rw [hv]; split <;> omega
  obtain ⟨hv0, hv1⟩ := hv0
  obtain ⟨N, hN⟩ : ∃ N : Nat, (N : Int) = v % 2101 := ⟨(v % 2101).toNat, by omega⟩
  have hNb : N ≤ 2100 := by omega
  have r1 : v.tmod 2101 = (N : Int) := by rw [Int.tmod_eq_emod_of_nonneg hv0]; exact hN.symm
  have r2 : v % 2101 = (N : Int) := hN.symm
  clear hN
  by_cases h : n < 0
  all_goals
    first
    | (have d0 : decide (n < 0) = true := decide_eq_true h
       rw [if_pos h] at hv)
    | (have d0 : decide (n < 0) = false := decide_eq_false h
       rw [if_neg h] at hv)
    subst hv
    go_enter Tryd.func7, Tryd.ntmps7
    go_wp2_with fail
    go_loopg [3, 4] N (fun gk bs ks wr => ∃ k : Nat, ks = .int .i64 (k : Int) ∧ k + gk = N ∧ wr.ownsRow w.heap.size 5 1 bs k ((List.replicate k (40 : UInt8)).map S.u8v) ∧ Below w.heap.size w wr)
    case atStart => exact ⟨0, rfl, by omega, World.ownsRow_nil _ _ _ _, Below.refl _ _⟩
    case round =>
      obtain ⟨k, rfl, hkg, hown, hw⟩ := hrel
      by_cases hlt : k < N
      · have d1 : decide ((k : Int) < (N : Int)) = true := decide_eq_true (by omega)
        have d1n : decide (k < N) = true := decide_eq_true hlt
        obtain ⟨A, cp, hvv⟩ := S.own_val hown
        rw [hvv] at hown ⊢
        clear hvv
        go_wp2_with (at_builtin; go_must (refine S.app_u8 rfl _ _ rfl rfl hown hw hw.size rfl rfl (by intro u hu; simp at hu; subst hu; rfl) (by omega) ?_); intro v' w' hown' hw' _)
        go_roundg (gk - 1)
        case measure => omega
        case rel => exact ⟨k + 1, rfl, by omega, by rw [← rep_snoc]; exact hown', hw'⟩
      · have d1 : decide ((k : Int) < (N : Int)) = false := decide_eq_false (by omega)
        have d1n : decide (k < N) = false := decide_eq_false hlt
        obtain rfl : k = N := by omega
        have hcv := S.conv_own hown rfl
        have hmr := Lib.hid ((hw.cell (p := ⟨0, 0, none⟩) HP.out).trans HM.out)
        have HW := Lib.hid hw
        clear hw hown
        by_cases hbig : 2000 < k
        · have d2 : decide ((2000 : Int) < (k : Int)) = true := decide_eq_true (by omega)
          go_wp2_with fail
          refine (toks_any wr _ m [] 0 12 (long_no k hbig) (by show (List.replicate k (40 : UInt8)).toArray.size ≤ _; simp; omega) hmr.out (long_q k)).mono ?_
          rintro e w1 ⟨A, c, rfl, h1, hc, b1, m1⟩
          have B1 := Lib.hid (HW.out.trans (b1.mono HW.out.size))
          have M1 := Lib.hid m1
          clear h1 hc b1 m1 hcv
          go_wp2_with fail
          refine (lives_any w1 m M1.out).mono ?_
          rintro e w2 ⟨rfl, h2⟩
          go_wp2_with fail
          go_ret
          exact ⟨rfl, B1.out.trans (h2.mono B1.out.size)⟩
        · have d2 : decide ((2000 : Int) < (k : Int)) = false := decide_eq_false (by omega)
          obtain ⟨ts, hts, htl⟩ := long_ok k (by omega)
          have q1 : ((ts.length : Int) == (k : Int) + 1) = true := beq_iff_eq.2 (by omega)
          have HL := Lib.hid htl
          clear htl
          go_wp2_with fail
          refine (toks_any wr _ m ts 0 0 hts (by show (List.replicate k (40 : UInt8)).toArray.size ≤ _; simp; omega) hmr.out (long_q k)).mono ?_
          rintro e w1 ⟨A, c, rfl, h1, hc, b1, m1⟩
          have B1 := Lib.hid (HW.out.trans (b1.mono HW.out.size))
          have M1 := Lib.hid m1
          clear h1 hc b1 m1 hcv
          go_wp2_with fail
          refine (lives_any w1 m M1.out).mono ?_
          rintro e w2 ⟨rfl, h2⟩
          go_wp2_with fail
          go_ret
          exact ⟨rfl, B1.out.trans (h2.mono B1.out.size)⟩
end Go.Proofs.YtmjjjnmfkdidgaaDoor
