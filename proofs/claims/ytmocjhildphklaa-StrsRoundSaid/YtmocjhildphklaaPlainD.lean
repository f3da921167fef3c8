/- Plain: a text that is written, read. -/
import Derived.Test.YtmocjhildphklaaPlainC
namespace Go.Proofs.Ytmocjhildphklaa
open Go.RowKit
set_option linter.unusedVariables false

def unq : Nat → List UInt8 → List UInt8 → Nat → List UInt8 × Nat × Int
  | 0, _, _, _ => ([], 0, 11)
  | f + 1, rest, acc, k => match rest with
    | [] => ([], 0, 11)
    | c :: r =>
      if c = 10 then ([], 0, 11)
      else if c = 34 then (if 60 < acc.length then ([], 0, 12) else (acc, k + 1, 0))
      else if c = 92 then (if (escF r).2.2 = 0 then unq f (r.drop (escF r).2.1) (acc ++ [(escF r).1]) (k + 1 + (escF r).2.1) else ([], 0, (escF r).2.2))
      else if plainB c then unq f r (acc ++ [c]) (k + 1) else ([], 0, 10)
def unqF (l : List UInt8) : List UInt8 × Nat × Int := match l with
  | c :: r => if c = 34 then unq (r.length + 1) r [] 1 else ([], 0, 14)
  | [] => ([], 0, 14)
theorem escX_len (l : List UInt8) (h : (escX l).2.2 = 0) : (escX l).2.1 = 3 ∧ 2 ≤ l.length := by
  cases l with
  | nil => simp [escX] at h
  | cons x r =>
    rw [escX] at h ⊢
    cases hv : hexV x with
    | none => rw [hv] at h; simp at h
    | some p =>
      rw [hv] at h
      cases r with
      | nil => simp at h
      | cons y t =>
        dsimp only at h ⊢
        cases hw : hexV y with
        | none => rw [hw] at h; simp at h
        | some q => simp
theorem escF_len (l : List UInt8) (h : (escF l).2.2 = 0) : 1 ≤ (escF l).2.1 ∧ (escF l).2.1 ≤ l.length ∧ (escF l).2.1 ≤ 3 := by
  cases l with
  | nil => simp [escF] at h
  | cons a r =>
    rw [escF] at h ⊢
    split
    · simp
    · split
      · simp
      · split
        · simp
        · split
          · rename_i h1 h2 h3 h4
            rw [if_neg h1, if_neg h2, if_neg h3, if_pos h4] at h
            obtain ⟨e1, e2⟩ := escX_len r h
            rw [e1]; simp; omega
          · rename_i h1 h2 h3 h4
            rw [if_neg h1, if_neg h2, if_neg h3, if_neg h4] at h
            simp at h
theorem escF_cases (l : List UInt8) : (escF l).2.2 = 0 ∨ ((escF l).2.2 = 11 ∨ (escF l).2.2 = 10) := by
  cases l with
  | nil => simp [escF]
  | cons a r =>
    rw [escF]
    split
    · simp
    · split
      · simp
      · split
        · simp
        · split
          · cases r with
            | nil => simp [escX]
            | cons x t =>
              rw [escX]
              cases hexV x with
              | none => simp
              | some p =>
                cases t with
                | nil => simp
                | cons y u => dsimp only; cases hexV y <;> simp
          · simp
/-- Where a reading stands. -/
structure UnqAt (l : List UInt8) (k f : Nat) (acc : List UInt8) : Prop where
  fuel : l.length < k + f
  le : k ≤ l.length
  few : acc.length ≤ k
  all : unqF l = unq f (l.drop k) acc k
theorem unq_start {c : UInt8} {r : List UInt8} (h : c = 34) : UnqAt (c :: r) 1 (r.length + 1) [] :=
  ⟨by simp, by simp, by simp, by rw [unqF, if_pos h]; rfl⟩
theorem unq_end {l : List UInt8} {k f : Nat} {acc : List UInt8} (h : UnqAt l k f acc) (hk : ¬ k < l.length) : unqF l = ([], 0, 11) := by
  rw [h.all, List.drop_eq_nil_of_le (by omega)]
  have := h.fuel; have := h.le
  cases f with
  | zero => rfl
  | succ f => rfl
theorem UnqAt.step {l : List UInt8} {k f : Nat} {acc : List UInt8} (h : UnqAt l k f acc) {c : UInt8} (hc : l[k]? = some c) : ∃ g, f = g + 1 ∧ k < l.length ∧ unqF l = (if c = 10 then ([], 0, 11)
      else if c = 34 then (if 60 < acc.length then ([], 0, 12) else (acc, k + 1, 0))
      else if c = 92 then (if (escF (l.drop (k + 1))).2.2 = 0 then unq g ((l.drop (k + 1)).drop (escF (l.drop (k + 1))).2.1) (acc ++ [(escF (l.drop (k + 1))).1]) (k + 1 + (escF (l.drop (k + 1))).2.1) else ([], 0, (escF (l.drop (k + 1))).2.2))
      else if plainB c then unq g (l.drop (k + 1)) (acc ++ [c]) (k + 1) else ([], 0, 10)) := by
  have hk : k < l.length := by
    rcases Nat.lt_or_ge k l.length with hk | hk
    · exact hk
    · rw [List.getElem?_eq_none hk] at hc; cases hc
  have hf := h.fuel
  obtain ⟨g, rfl⟩ : ∃ g, f = g + 1 := ⟨f - 1, by omega⟩
  have hd : l.drop k = c :: l.drop (k + 1) := by
    rw [List.getElem?_eq_getElem hk] at hc
    injection hc with hc
    rw [List.drop_eq_getElem_cons hk, hc]
  refine ⟨g, rfl, hk, ?_⟩
  rw [h.all, hd, unq]
theorem UnqAt.open_ {l : List UInt8} {k f : Nat} {acc : List UInt8} (h : UnqAt l k f acc) (hc : l[k]? = some 10) : unqF l = ([], 0, 11) := by
  obtain ⟨g, _, _, e⟩ := h.step hc; rw [e]; simp
theorem UnqAt.long {l : List UInt8} {k f : Nat} {acc : List UInt8} (h : UnqAt l k f acc) (hc : l[k]? = some 34) (ha : 60 < acc.length) : unqF l = ([], 0, 12) := by
  obtain ⟨g, _, _, e⟩ := h.step hc; rw [e]; simp; omega
theorem UnqAt.done {l : List UInt8} {k f : Nat} {acc : List UInt8} (h : UnqAt l k f acc) (hc : l[k]? = some 34) (ha : ¬ 60 < acc.length) : unqF l = (acc, k + 1, 0) := by
  obtain ⟨g, _, _, e⟩ := h.step hc; rw [e]; simp; omega
theorem UnqAt.esc_no {l : List UInt8} {k f : Nat} {acc : List UInt8} (h : UnqAt l k f acc) (hc : l[k]? = some 92) (he : (escF (l.drop (k + 1))).2.2 ≠ 0) : unqF l = ([], 0, (escF (l.drop (k + 1))).2.2) := by
  obtain ⟨g, _, _, e⟩ := h.step hc; rw [e]; simp [he]
theorem UnqAt.esc_ok {l : List UInt8} {k f : Nat} {acc : List UInt8} (h : UnqAt l k f acc) (hc : l[k]? = some 92) (he : (escF (l.drop (k + 1))).2.2 = 0) :
    ∃ g, UnqAt l (k + 1 + (escF (l.drop (k + 1))).2.1) g (acc ++ [(escF (l.drop (k + 1))).1]) := by
  obtain ⟨g, hg, hk, e⟩ := h.step hc
  obtain ⟨n1, n2, n3⟩ := escF_len _ he
  rw [List.length_drop] at n2
  have := h.fuel; have := h.few
  refine ⟨g, by omega, by omega, by simp; omega, ?_⟩
  rw [e, List.drop_drop]; simp [he]
theorem UnqAt.bad {l : List UInt8} {k f : Nat} {acc : List UInt8} (h : UnqAt l k f acc) {c : UInt8} (hc : l[k]? = some c) (h1 : c ≠ 10) (h2 : c ≠ 34) (h3 : c ≠ 92) (hp : plainB c = false) : unqF l = ([], 0, 10) := by
  obtain ⟨g, _, _, e⟩ := h.step hc; rw [e]; simp [h1, h2, h3, hp]
theorem UnqAt.next {l : List UInt8} {k f : Nat} {acc : List UInt8} (h : UnqAt l k f acc) {c : UInt8} (hc : l[k]? = some c) (h1 : c ≠ 10) (hp : plainB c = true) : ∃ g, UnqAt l (k + 1) g (acc ++ [c]) := by
  obtain ⟨g, hg, hk, e⟩ := h.step hc
  have h2 : c ≠ 34 := by rintro rfl; revert hp; decide
  have h3 : c ≠ 92 := by rintro rfl; revert hp; decide
  have := h.fuel; have := h.few
  refine ⟨g, by omega, by omega, by simp; omega, ?_⟩
  rw [e]; simp [h1, h2, h3, hp]
end Go.Proofs.Ytmocjhildphklaa
