/- The laws of layer 13: so many functions, constants, texts and instructions may be, and no more. -/
import Derived.Test.YtffpkmoaahkfmaaLd
namespace Go.Proofs.Ytffpkmoaahkfmaa
open Go.RowKit
set_option linter.unusedVariables false
attribute [local go_sem ↓] Go.wp_at_zero Go.wp_at_succ

theorem size_any (n : Int) (m : Nat) (w : World) (h0 : -9223372036854775808 ≤ n) (h1 : n ≤ 9223372036854775807) (hm : m ≤ 1000) :
    Calls Try.prog 18 #[.int .i64 n, .int .i64 (m : Int)] w fun e w' => ∃ r : Nat, e = .returned (.int .i64 (r : Int)) ∧ r ≤ m ∧ w = w' := by
  by_cases hn : n < 0
  · have t1 : decide (n < 0) = true := by simp [hn]
    have t2 : 0 ≤ -(n + 1) := by omega
    go_enter Try.func18, Try.ntmps18
    go_wp2
    go_ret
    exact ⟨(-(n + 1) % ((m : Int) + 1)).toNat, ret_i (by rw [Int.toNat_of_nonneg (Int.emod_nonneg _ (by omega))]; first | rfl | (rw [← Int.neg_tmod, Int.tmod_eq_emod_of_nonneg t2])), by have := Int.emod_lt_of_pos (-(n + 1)) (show (0 : Int) < (m : Int) + 1 by omega); omega, rfl⟩
  · have t1 : decide (n < 0) = false := by simp [hn]
    have t2 : 0 ≤ n := by omega
    go_enter Try.func18, Try.ntmps18
    go_wp2
    go_ret
    exact ⟨(n % ((m : Int) + 1)).toNat, ret_i (by rw [Int.toNat_of_nonneg (Int.emod_nonneg _ (by omega))]), by have := Int.emod_lt_of_pos n (show (0 : Int) < (m : Int) + 1 by omega); omega, rfl⟩
theorem bdys_at {w : World} {base : Nat} {fv : Value} {bs : List Bdy} {vs : List Value} (hf : w.ownsRow base 40 4 fv bs.length (bdyCells bs vs)) (hl : vs.length = bs.length)
    (hcs : ∀ k, k < bs.length → ∃ b2, w.ownsRow b2 42 3 (vs.getD k nilV) (bs.getD k bdy0).code.length (insCells (bs.getD k bdy0).code)) (h4 : ∀ b ∈ bs, b.code.length ≤ 9223372036854775807) :
    ∃ A c, fv = .slice A bs.length c ∧ BdysAt w w.heap.size A bs.length bs := by
  obtain ⟨FA, fc, rfl, hA, hc, _⟩ := own_form hf
  refine ⟨FA, fc, rfl, rfl, fun h0 => ?_⟩
  obtain ⟨g, c', e', hb, hlt, _⟩ := own_cell hf (k := 0) (by omega)
  simp only [Value.slice.injEq] at e'
  obtain ⟨rfl, _, rfl⟩ := e'
  refine ⟨g, 0, rfl, hlt, fun j hj => ?_⟩
  have hg := bdyCells_get bs vs j hl hj
  have hx : ∀ o, o < 4 → w.cell? ⟨g, j * 4 + o, none⟩ = (bdyCells bs vs)[j * 4 + o]? := fun o ho => by
    obtain ⟨g', c', e', _, _, hcell, _⟩ := own_cell hf (k := j * 4 + o) (by omega)
    simp only [Value.slice.injEq, Option.some.injEq, Addr.mk.injEq] at e'
    rw [e'.1.1]; exact hcell
  obtain ⟨b2, hown⟩ := hcs j hj
  obtain ⟨A', cc, ee, hI2, _⟩ := insAt_own hown
  rw [Nat.zero_add]
  refine ⟨(hx 0 (by omega)).trans hg.1, (hx 1 (by omega)).trans hg.2.1, (hx 2 (by omega)).trans hg.2.2.1, A', _, cc, ?_, hI2, ?_⟩
  · rw [hx 3 (by omega), hg.2.2.2, ee]
  · exact h4 _ (by rw [List.getD_eq_getElem?_getD, List.getElem?_eq_getElem hj]; exact List.getElem_mem hj)
def szI (k : Nat) : List Int := (List.range k).map (fun i : Nat => (i : Int))
def szC (n : Nat) : List Ins := List.replicate n ⟨9, 0, 0⟩
def szB (n : Nat) : Bdy := ⟨0, 0, 1, szC n⟩
def szF (f n : Nat) : List Bdy := List.replicate f (szB n)
def szT (t : Nat) : List ByteArray := List.replicate t ByteArray.empty
def szD (f k t n : Nat) : Cod := ⟨szF f n, szI k, szT t, 0⟩
theorem szI_succ (k : Nat) : szI (k + 1) = szI k ++ [(k : Int)] := by unfold szI; rw [List.range_succ, List.map_append]; rfl
theorem szC_succ (n : Nat) : szC (n + 1) = szC n ++ [⟨9, 0, 0⟩] := by unfold szC; rw [List.replicate_succ']
theorem szT_succ (n : Nat) : szT (n + 1) = szT n ++ [ByteArray.empty] := by unfold szT; rw [List.replicate_succ']
theorem szF_succ (f n : Nat) : szF (f + 1) n = szF f n ++ [szB n] := by unfold szF; rw [List.replicate_succ']
theorem szC_ok (n : Nat) : (szC n).all Ins.ok = true := by
  rw [List.all_eq_true]; intro i hi; rw [List.eq_of_mem_replicate hi]; decide
theorem szD_ok (f k t n : Nat) (hk : k ≤ 130) : codOK (szD f k t n) = decide (1 ≤ f ∧ f ≤ 120 ∧ k ≤ 120 ∧ t ≤ 120 ∧ 1 ≤ n ∧ n ≤ 400) := by
  have hi : (szI k).all intOK = true := by
    rw [List.all_eq_true]; intro x hx
    obtain ⟨i, hi, rfl⟩ := List.mem_map.1 hx
    have := List.mem_range.1 hi
    unfold intOK; rw [inF_iff]; omega
  have ht : (szT t).all txtOK = true := by
    rw [List.all_eq_true]; intro x hx; rw [List.eq_of_mem_replicate hx]; decide
  have hb : bdyOK (szB n) = decide (1 ≤ n ∧ n ≤ 400) := by
    unfold bdyOK szB
    dsimp only
    rw [szC_ok, Bool.eq_iff_iff]
    simp only [Bool.and_eq_true, inF_iff, decide_eq_true_eq, Bool.and_true]
    unfold szC
    rw [List.length_replicate]; omega
  have hf : f ≥ 1 → (szF f n).all bdyOK = decide (1 ≤ n ∧ n ≤ 400) := fun hf => by
    rw [← hb]
    unfold szF
    obtain ⟨m, rfl⟩ : ∃ m, f = m + 1 := ⟨f - 1, by omega⟩
    rcases hq : bdyOK (szB n) with _ | _
    · rw [List.replicate_succ, List.all_cons, hq]; rfl
    · rw [List.all_eq_true]; intro x hx; rw [List.eq_of_mem_replicate hx]; exact hq
  rw [Bool.eq_iff_iff, decide_eq_true_eq]
  unfold codOK szD
  dsimp only
  rw [hi, ht]
  simp only [Bool.and_eq_true, inF_iff, decide_eq_true_eq, Bool.and_true]
  have h1 : (szF f n).length = f := by unfold szF; simp
  have h2 : (szI k).length = k := by unfold szI; simp
  have h3 : (szT t).length = t := by unfold szT; simp
  rw [h1, h2, h3]
  constructor
  · rintro ⟨⟨⟨⟨a, b⟩, d⟩, e⟩, g⟩
    rw [hf (by omega), decide_eq_true_eq] at g
    omega
  · rintro ⟨a, b, d, e, g1, g2⟩
    refine ⟨⟨⟨⟨by omega, d⟩, e⟩, by omega⟩, ?_⟩
    rw [hf (by omega), decide_eq_true_eq]; omega
end Go.Proofs.Ytffpkmoaahkfmaa
