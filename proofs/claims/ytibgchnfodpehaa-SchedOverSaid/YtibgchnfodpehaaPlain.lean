/- Plain facts of tables: what is picked, who is woken, who is over. -/
import Derived.Test.YtibgchnfodpehaaWalkQ
namespace Go.Proofs.Ytibgchnfodpehaa
open Go.RowKit
set_option linter.unusedVariables false

def cntP (P : Nat → Bool) (j : Nat) : Nat := ((List.range j).filter P).length
theorem cntP_succ (P : Nat → Bool) (j : Nat) : cntP P (j + 1) = cntP P j + if P j = true then 1 else 0 := by
  unfold cntP
  rw [List.range_succ, List.filter_append, List.length_append]
  cases h : P j <;> simp [h]
theorem cntP_le (P : Nat → Bool) (j : Nat) : cntP P j ≤ j := by
  unfold cntP
  exact Nat.le_trans (List.length_filter_le _ _) (by simp)
theorem cntP_one {P : Nat → Bool} {j0 q : Nat} (h0 : j0 < q) (h : ∀ j, j < q → (P j = true ↔ j = j0)) : cntP P q = 1 := by
  have hz : ∀ m, m ≤ q → cntP P m = if j0 < m then 1 else 0 := by
    intro m
    induction m with
    | zero => intro _; rfl
    | succ m ih =>
      intro hm
      rw [cntP_succ, ih (by omega)]
      by_cases hp : P m = true
      · have := (h m (by omega)).1 hp
        rw [if_pos hp, if_neg (by omega), if_pos (by omega)]
      · have : m ≠ j0 := fun e => hp ((h m (by omega)).2 e)
        rw [if_neg hp]
        by_cases h1 : j0 < m
        · rw [if_pos h1, if_pos (by omega)]
        · rw [if_neg h1, if_neg (by omega)]
  rw [hz q (Nat.le_refl _), if_pos h0]
theorem idxL_inj (P : Thr → Bool) (L : Tb) (m i j : Nat) (hi : i < (idxL P L m).length) (hj : j < (idxL P L m).length) (h : (idxL P L m).getD i 0 = (idxL P L m).getD j 0) : i = j := by
  have hp : (idxL P L m).Pairwise (· < ·) := by
    unfold idxL
    rw [List.pairwise_map]
    exact (List.Pairwise.filter _ List.pairwise_lt_range).imp (fun hab => by omega)
  rw [List.pairwise_iff_getElem] at hp
  simp only [List.getD_eq_getElem?_getD, List.getElem?_eq_getElem hi, List.getElem?_eq_getElem hj, Option.getD_some] at h
  rcases Nat.lt_trichotomy i j with h1 | h1 | h1
  · have := hp i j hi hj h1; omega
  · exact h1
  · have := hp j i hj hi h1; omega
def fairP (L : Tb) (K i j : Nat) : Bool := decide (pickN L ((K : Int) + j) = (readyL L).getD i 0)
theorem fair_one (L : Tb) (K i : Nat) (hi : i < (readyL L).length) : cntP (fairP L K i) (readyL L).length = 1 := by
  have h0 : 0 < (readyL L).length := by omega
  have key : ∀ j, fairP L K i j = true ↔ (K + j) % (readyL L).length = i := by
    intro j
    unfold fairP pickN pickK
    rw [if_neg (by omega), if_neg (by omega), decide_eq_true_eq]
    have e : (((K : Int) + j) % ((readyL L).length : Nat)).toNat = (K + j) % (readyL L).length := by
      rw [show ((K : Int) + j) = ((K + j : Nat) : Int) from by omega, ← Int.natCast_emod, Int.toNat_natCast]
    rw [e]
    have hlt := Nat.mod_lt (K + j) h0
    constructor
    · intro h; exact idxL_inj _ _ _ _ _ hlt hi h
    · intro h; rw [h]
  generalize (readyL L).length = q at *
  refine cntP_one (j0 := (i + q - K % q) % q) (Nat.mod_lt _ h0) fun j hj => ?_
  rw [key j]
  have h1 := Nat.mod_lt K h0
  have e1 : (K + j) % q = (K % q + j) % q := by rw [Nat.mod_add_mod]
  rw [e1]
  generalize K % q = x at *
  have e2 : (x + j) % q = if x + j < q then x + j else x + j - q := by
    by_cases h : x + j < q
    · rw [if_pos h, Nat.mod_eq_of_lt h]
    · rw [if_neg h, Nat.mod_eq_sub_mod (by omega), Nat.mod_eq_of_lt (by omega)]
  have e3 : (i + q - x) % q = if i < x then i + q - x else i - x := by
    by_cases h : i < x
    · rw [if_pos h, Nat.mod_eq_of_lt (by omega)]
    · rw [if_neg h, show i + q - x = (i - x) + q from by omega, Nat.add_mod_right, Nat.mod_eq_of_lt (by omega)]
  rw [e2, e3]
  split <;> split <;> omega
theorem setAll_other (n : Nat) : ∀ (zs : List Int) (L : Tb), (∀ z ∈ zs, z.toNat ≠ n) → (setAll zs L)[n]? = L[n]? := by
  intro zs
  induction zs with
  | nil => intro L _; rfl
  | cons z zs ih =>
    intro L h
    have := ih (L.set z.toNat thr0) (fun y hy => h y (List.mem_cons_of_mem _ hy))
    rw [show setAll (z :: zs) L = setAll zs (L.set z.toNat thr0) from rfl, this, List.getElem?_set, if_neg (h z (List.mem_cons_self ..))]
/-- A thread that is none of those. -/
theorem idxL_not {P : Thr → Bool} {L : Tb} {n m : Nat} {x : Thr} (hx : L[n]? = some x) (hp : P x = false) : ∀ z ∈ idxL P L m, z.toNat ≠ n := fun z hz e => by
  obtain ⟨j, rfl, _, hj⟩ := idxL_mem hz
  obtain rfl : j = n := by omega
  rw [List.getD_eq_getElem?_getD, hx] at hj
  simp only [Option.getD_some] at hj
  rw [hp] at hj; cases hj
theorem idxL_ne {P : Thr → Bool} {L : Tb} {n m k : Nat} {x : Thr} (hx : L[n]? = some x) (hp : P x = false) (hk : k < (idxL P L m).length) : (idxL P L m).getD k 0 ≠ (n : Int) := fun e => by
  have h1 := idxL_not (m := m) hx hp _ (getD_mem (d := 0) hk)
  rw [e] at h1; simp at h1
theorem wakeL_keep {L : Tb} {n : Nat} {x : Thr} {v : Int} (hx : L[n]? = some x) (hp : wokeP v x = false) : (wakeL L v)[n]? = some x := by
  unfold wakeL wakeZ
  rw [setAll_other n _ _ (idxL_not hx hp), hx]
theorem isF_at {L : Tb} {n : Nat} {x : Thr} {k : Kd} (hx : L[n]? = some x) : isF L n k = decide (x.k = k) := by
  have hl : n < L.length := by
    rcases Nat.lt_or_ge n L.length with h | h
    · exact h
    · rw [List.getElem?_eq_none h] at hx; cases hx
  unfold isF
  rw [decide_eq_true (by omega), decide_eq_true (by omega), Int.toNat_natCast, List.getD_eq_getElem?_getD, hx]
  rfl
/-- One that waits for nothing. -/
def sleep : Thr := ⟨.waits, []⟩
def gone : Thr := ⟨.over, []⟩
theorem set_keep {L : Tb} {n m : Nat} {x y : Thr} (hx : L[n]? = some x) (h : m ≠ n) : (L.set m y)[n]? = some x := by
  rw [List.getElem?_set, if_neg h, hx]
def OverAt (L : Tb) (n : Nat) : Prop := ∃ vs, L[n]? = some ⟨.over, vs⟩
theorem wait_keep {L : Tb} {n : Nat} {x : Thr} {m : Int} {vs : List Int} (hx : L[n]? = some x) (hk : x.k ≠ .ready) : (waitL L m vs)[n]? = some x := by
  unfold waitL
  split
  · rename_i h
    refine set_keep hx (fun e => ?_)
    have hr := isF_range h
    obtain rfl : m = (n : Int) := by omega
    rw [isF_at hx, decide_eq_true_eq] at h
    exact hk h
  · exact hx
theorem over_wait {L : Tb} {n : Nat} (h : OverAt L n) (m : Int) (vs : List Int) : OverAt (waitL L m vs) n := by
  obtain ⟨us, hx⟩ := h
  exact ⟨us, wait_keep hx (by simp)⟩
theorem over_wake {L : Tb} {n : Nat} (h : OverAt L n) (v : Int) : OverAt (wakeL L v) n := by
  obtain ⟨us, hx⟩ := h
  exact ⟨us, wakeL_keep hx rfl⟩
theorem over_add {L : Tb} {n : Nat} (h : OverAt L n) : OverAt (addL L) n := by
  obtain ⟨us, hx⟩ := h
  unfold addL
  split
  · exact ⟨us, hx⟩
  · refine ⟨us, ?_⟩
    rw [List.getElem?_append_left, hx]
    rcases Nat.lt_or_ge n L.length with h | h
    · exact h
    · rw [List.getElem?_eq_none h] at hx; cases hx
theorem over_end {L : Tb} {n : Nat} (h : OverAt L n) (m : Int) : OverAt (endL L m) n := by
  obtain ⟨us, hx⟩ := h
  unfold endL
  split
  · rename_i hb
    refine ⟨us, set_keep hx (fun e => ?_)⟩
    have hr : 0 ≤ m := by
      unfold endB at hb
      rcases Bool.or_eq_true _ _ ▸ hb with h | h
      · exact (isF_range h).1
      · exact (isF_range h).1
    obtain rfl : m = (n : Int) := by omega
    unfold endB at hb
    rw [isF_at hx, isF_at hx] at hb
    simp at hb
  · exact ⟨us, hx⟩
theorem over_do {L : Tb} {n : Nat} (h : OverAt L n) (d : Deed) : OverAt (doL L d) n := by
  unfold doL
  split
  · exact over_add h
  split
  · exact over_wait h _ _
  split
  · exact over_wake h _
  split
  · exact over_end h _
  exact h
theorem over_ends {L : Tb} {n : Nat} (hn : n < L.length) : OverAt (endL L n) n := by
  have hx : L[n]? = some L[n] := List.getElem?_eq_getElem hn
  unfold endL
  split
  · exact ⟨[], by rw [Int.toNat_natCast, List.getElem?_set, if_pos rfl, if_pos hn]⟩
  · rename_i hb
    unfold endB at hb
    rw [isF_at hx, isF_at hx] at hb
    generalize L[n] = x at *
    obtain ⟨k, vs⟩ := x
    cases k
    · simp at hb
    · simp at hb
    · exact ⟨vs, hx⟩
theorem over_facts {L : Tb} {n : Nat} (h : OverAt L n) : endE L n = 1 ∧ waitE L n = 1 ∧ endL L n = L ∧ waitL L n [] = L ∧ (∀ v k, k < (wakeZ L v).length → (wakeZ L v).getD k 0 ≠ n) ∧ (∀ k, k < (readyL L).length → (readyL L).getD k 0 ≠ n) := by
  obtain ⟨us, hx⟩ := h
  unfold endE waitE endL waitL endB
  rw [isF_at hx, isF_at hx]
  exact ⟨rfl, rfl, rfl, rfl, fun v k hk => idxL_ne hx rfl hk, fun k hk => idxL_ne hx rfl hk⟩
theorem endL_len (L : Tb) (n : Int) : (endL L n).length = L.length := by unfold endL; split <;> simp
/-- One that waits for nothing: it does not change. -/
theorem sleep_facts {L : Tb} {n : Nat} (hx : L[n]? = some sleep) : (∀ v, (wakeL L v)[n]? = some sleep) ∧ waitE L n = 1 ∧ (∀ vs, waitL L n vs = L) ∧ (∀ k, k < (readyL L).length → (readyL L).getD k 0 ≠ n) ∧ statusF L ≠ 1 := by
  refine ⟨fun v => wakeL_keep hx (by simp [wokeP, sleep, hasF]), ?_, fun vs => ?_, fun k hk => idxL_ne hx rfl hk, ?_⟩
  · unfold waitE; rw [isF_at hx]; rfl
  · unfold waitL; rw [isF_at hx]; rfl
  · have hl : n < L.length := by
      rcases Nat.lt_or_ge n L.length with h | h
      · exact h
      · rw [List.getElem?_eq_none h] at hx; cases hx
    have : anyWaits L = true := anyWaits_true hl (by rw [List.getD_eq_getElem?_getD, hx]; rfl)
    unfold statusF
    rw [this]
    split
    · decide
    · decide
theorem sleep_new {L : Tb} (h : L.length ≠ 8) : (waitL (addL L) (L.length : Nat) [])[L.length]? = some sleep ∧ waitE (addL L) (L.length : Nat) = 0 := by
  have e : addL L = L ++ [thr0] := by unfold addL; rw [if_neg h]
  have hx : (addL L)[L.length]? = some thr0 := by rw [e, List.getElem?_append_right (Nat.le_refl _)]; simp
  have hb : isF (addL L) (L.length : Nat) .ready = true := by rw [isF_at hx]; rfl
  unfold waitL waitE
  rw [hb]
  exact ⟨by rw [if_pos rfl, Int.toNat_natCast, List.getElem?_set, if_pos rfl, if_pos (by rw [e]; simp)]; rfl, rfl⟩
end Go.Proofs.Ytibgchnfodpehaa
