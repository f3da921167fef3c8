/- Plain laws of layer 13: the program and the document read the same code. -/
import Derived.Test.YtffpkmoaahkfmaaRDec
import Derived.Test.YtffpkmoaahkfmaaPlainC
namespace Go.Proofs.Ytffpkmoaahkfmaa
open Go.RowKit
set_option linter.unusedVariables false

theorem nx_form (wd : Nat) (s : St) : nx wd s = if s.1.length < wd then ([], true) else (s.1.drop wd, s.2) := by
  unfold nx rdL rdS; split <;> rfl
theorem nxs_form (s : St) : ∀ k, 0 < k → nxs k s = if s.1.length < k then ([], true) else (s.1.drop k, s.2)
  | 1, _ => nx_form 1 s
  | k + 2, _ => by
    show nx 1 (nxs (k + 1) s) = _
    rw [nxs_form s (k + 1) (by omega), nx_form]
    by_cases h1 : s.1.length < k + 1
    · rw [if_pos h1, if_pos (show (([], true) : St).1.length < 1 by decide), if_pos (show s.1.length < k + 2 by omega)]
    · rw [if_neg h1]
      dsimp only
      rw [List.length_drop]
      by_cases h2 : s.1.length < k + 2
      · rw [if_pos (by omega), if_pos h2]
      · rw [if_neg (by omega), if_neg h2, List.drop_drop]
theorem nxs8 (s : St) : nxs 8 s = nx 8 s := by rw [nxs_form s 8 (by decide), nx_form]
theorem nv1_at {s : St} {k : Nat} (h : k < s.1.length) : nv 1 (nxs k s) = ((s.1.getD k 0).toNat : Int) := by
  obtain ⟨l, sh⟩ := s
  dsimp only at h ⊢
  rcases Nat.eq_zero_or_pos k with rfl | h0
  · have := (nx1_cons (l := l) (i := 0) (sh := sh) h).2
    simpa [nxs, iter] using this
  · rw [nxs_form _ k h0, if_neg (by show ¬ l.length < k; omega)]
    exact (nx1_cons (l := l) (i := k) (sh := sh) h).2
theorem hv_eq {s : St} : ∀ k, k ≤ s.1.length → hv k s = leU (s.1.take k)
  | 0, _ => by simp [hv, leU]
  | k + 1, h => by
    rw [take_snoc' (by omega), leU_snoc, List.length_take, show min k s.1.length = k from by omega]
    unfold hv
    rw [hv_eq k (by omega), nv1_at (by omega)]
theorem v8_eq {s : St} (h : 8 ≤ s.1.length) : v8 s = nv 8 s := by
  have hn : nv 8 s = wrap64 (leU (s.1.take 8)) := by unfold nv rdV; rw [if_neg (by omega)]
  rw [hn, take_snoc' (k := 7) (by omega), leU_snoc, List.length_take, show min 7 s.1.length = 7 from by omega]
  unfold v8 hTop
  rw [hv_eq 7 (by omega), nv1_at (by omega)]
  have hb := leU_bd (s.1.take 7)
  rw [List.length_take, show min 7 s.1.length = 7 from by omega] at hb
  have hc := (s.1.getD 7 0).toNat_lt
  generalize leU (s.1.take 7) = a at *
  generalize (s.1.getD 7 0).toNat = b at *
  have : (256 : Int) ^ 7 = 72057594037927936 := rfl
  rw [this] at *
  unfold wrap64
  split <;> omega
theorem pv_eq {s : St} (h : 2 ≤ s.1.length) : pv s = nv 2 s := by
  have hn : nv 2 s = wrap64 (leU (s.1.take 2)) := by unfold nv rdV; rw [if_neg (by omega)]
  have h0 := nv1_at (s := s) (k := 0) (by omega)
  have h1 := nv1_at (s := s) (k := 1) (by omega)
  have e2 : leU (s.1.take 2) = ((s.1.getD 0 0).toNat : Int) + 256 * ((s.1.getD 1 0).toNat : Int) := by
    rw [take_snoc' (k := 1) (by omega), take_snoc' (k := 0) (by omega)]
    simp [leU]
  have hc0 := (s.1.getD 0 0).toNat_lt
  have hc1 := (s.1.getD 1 0).toNat_lt
  unfold pv
  change nv 1 (nxs 0 s) + 256 * nv 1 (nxs 1 s) = _
  rw [h0, h1, hn, e2]
  unfold wrap64; omega
structure Sim {α : Type} (f g : List α × St → List α × St) : Prop where
  st : ∀ a b s, (f (a, s)).2 = (g (b, s)).2
  eq : ∀ a s, (g (a, s)).2.2 = false → f (a, s) = g (a, s)
  mono : ∀ p, p.2.2 = true → (g p).2.2 = true
theorem Sim.iter_st {α : Type} {f g : List α × St → List α × St} (h : Sim f g) : ∀ (n : Nat) (a b : List α) (s : St), (iter f n (a, s)).2 = (iter g n (b, s)).2
  | 0, _, _, _ => rfl
  | n + 1, a, b, s => by
    have ih := h.iter_st n a b s
    show (f (iter f n (a, s))).2 = (g (iter g n (b, s))).2
    rcases hp : iter f n (a, s) with ⟨x, t⟩
    rcases hq : iter g n (b, s) with ⟨y, u⟩
    rw [hp, hq] at ih
    dsimp only at ih
    subst ih
    exact h.st x y t
theorem Sim.iter_eq {α : Type} {f g : List α × St → List α × St} (h : Sim f g) : ∀ (n : Nat) (a : List α) (s : St), (iter g n (a, s)).2.2 = false → iter f n (a, s) = iter g n (a, s)
  | 0, _, _, _ => rfl
  | n + 1, a, s, hf => by
    change (g (iter g n (a, s))).2.2 = false at hf
    have h1 : (iter g n (a, s)).2.2 = false := by
      rcases hq : (iter g n (a, s)).2.2 with _ | _
      · rfl
      · rw [h.mono _ hq] at hf; cases hf
    show f (iter f n (a, s)) = g (iter g n (a, s))
    rw [h.iter_eq n a s h1]
    rcases hq : iter g n (a, s) with ⟨y, u⟩
    rw [hq] at hf
    exact h.eq y u hf
theorem simInt : Sim hInt gInt := ⟨fun a b s => nxs8 s, fun a s h => by
  obtain ⟨_, hl, _, _⟩ := nx_false (wd := 8) h
  show (a ++ [v8 s], nxs 8 s) = (a ++ [nv 8 s], nx 8 s)
  rw [v8_eq hl, nxs8], gInt_true⟩
theorem simIns : Sim hIns gIns := ⟨fun a b s => by
  unfold hIns gIns
  dsimp only
  split <;> rfl, fun a s h => by
  unfold hIns gIns at *
  dsimp only at *
  split at h
  · rename_i hs; rw [hs] at h; cases h
  · rename_i hs
    rw [if_neg hs, if_neg hs]
    obtain ⟨h1, hl2, e2, _⟩ := nx_false (wd := 2) h
    obtain ⟨h3, hl1, e1, _⟩ := nx_false (wd := 2) h1
    rw [pv_eq hl1, pv_eq hl2], gIns_true⟩
theorem sim_code (s : St) : (hCode s).2 = (gCode s).2 ∧ ((gCode s).2.2 = false → hCode s = gCode s) := by
  rcases hq : (nx 2 s).2 with _ | _
  · have hl := (nx_false (wd := 2) hq).2.1
    have hc : (pv s).toNat = cnt 2 s := by unfold cnt; rw [pv_eq hl]
    unfold hCode gCode
    rw [hc]
    exact ⟨simIns.iter_st _ _ _ _, fun h => simIns.iter_eq _ _ _ h⟩
  · have h1 : hCode s = ([], nx 2 s) := hIns_short (p := ([], nx 2 s)) hq _
    have h2 : gCode s = ([], nx 2 s) := gIns_short (p := ([], nx 2 s)) hq _
    rw [h1, h2]; exact ⟨rfl, fun _ => rfl⟩
theorem simBdy : Sim hBdy gBdy := ⟨fun a b s => (sim_code (s3 s)).1, fun a s h => by
  have h1 : (gCode (s3 s)).2.2 = false := h
  have e := (sim_code (s3 s)).2 h1
  show (a ++ [(⟨_, _, _, (hCode (s3 s)).1⟩ : Bdy)], (hCode (s3 s)).2) = (a ++ [(⟨_, _, _, (gCode (s3 s)).1⟩ : Bdy)], (gCode (s3 s)).2)
  rw [e], gBdy_true⟩
/-- Both read the same, where nothing was too short; and agree on whether it was. -/
theorem hCod_eq (l : List UInt8) (hm : l.take 3 = magL) : (hCod l).2 = (gCod l).2 ∧ ((gCod l).2.2 = false → hCod l = gCod l) := by
  have hl : 3 ≤ l.length := by
    have := congrArg List.length hm
    rw [List.length_take] at this; simp [magL] at this; omega
  have hs : st0 l = (l.drop 3, false) := by
    unfold st0 rest0 short0
    rw [show min 3 l.length = 3 from by omega, hm, decide_eq_false (by omega)]; rfl
  unfold hCod gCod
  dsimp only
  rw [hs]
  generalize (nx 1 ((l.drop 3, false) : St)) = s1
  generalize nv 1 ((l.drop 3, false) : St) = lets
  have e1 : (hInts s1).2 = (gInts s1).2 := simInt.iter_st _ _ _ _
  rw [e1]
  have e2 : (hBdys (gTexts (gInts s1).2).2).2 = (gBdys (gTexts (gInts s1).2).2).2 := simBdy.iter_st _ _ _ _
  refine ⟨e2, fun h => ?_⟩
  have f1 : hBdys (gTexts (gInts s1).2).2 = gBdys (gTexts (gInts s1).2).2 := simBdy.iter_eq _ _ _ h
  have g1 : (gTexts (gInts s1).2).2.2 = false := by
    rcases hq : (gTexts (gInts s1).2).2.2 with _ | _
    · rfl
    · rw [gBdys_true hq] at h; cases h
  have g2 : (gInts s1).2.2 = false := by
    rcases hq : (gInts s1).2.2 with _ | _
    · rfl
    · rw [gTexts_true hq] at g1; cases g1
  have f2 : hInts s1 = gInts s1 := simInt.iter_eq _ _ _ g2
  rw [f1, f2]
end Go.Proofs.Ytffpkmoaahkfmaa
