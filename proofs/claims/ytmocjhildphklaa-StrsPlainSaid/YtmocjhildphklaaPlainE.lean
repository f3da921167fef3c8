/- Plain: what is written is read, and has only plain bytes. -/
import Derived.Test.YtmocjhildphklaaPlainD
namespace Go.Proofs.Ytmocjhildphklaa
open Go.RowKit
set_option linter.unusedVariables false

theorem hex_back (i : Nat) (h : i < 16) : hexV (hexL.getD i 0) = some i := (hexV_get _ i h).1 rfl
theorem esc_hex (c : UInt8) (r : List UInt8) : escF (120 :: hexL.getD (c.toNat / 16) 0 :: hexL.getD (c.toNat % 16) 0 :: r) = (c, 3, 0) := by
  have hc := c.toNat_lt
  rw [escF, if_neg (by decide), if_neg (by decide), if_neg (by decide), if_pos rfl, escX, hex_back _ (by omega)]
  dsimp only
  rw [hex_back _ (by omega)]
  dsimp only
  rw [show 16 * (c.toNat / 16) + c.toNat % 16 = c.toNat from by omega]
  simp
theorem plain_not (c : UInt8) (h : plainB c = true) : c ≠ 10 ∧ c ≠ 34 ∧ c ≠ 92 := by
  refine ⟨?_, ?_, ?_⟩ <;> (rintro rfl; revert h; decide)
theorem unq_quo : ∀ (l : List UInt8) (f : Nat) (acc : List UInt8) (k : Nat) (rest : List UInt8), l.length < f → acc.length + l.length ≤ 60 →
    unq f (l.flatMap quo1 ++ 34 :: rest) acc k = (acc ++ l, k + (l.flatMap quo1).length + 1, 0)
  | [], f, acc, k, rest, hf, ha => by
    obtain ⟨g, rfl⟩ : ∃ g, f = g + 1 := ⟨f - 1, by simp at hf; omega⟩
    rw [List.flatMap_nil, List.nil_append, unq]
    simp at ha ⊢
    omega
  | c :: l, f, acc, k, rest, hf, ha => by
    obtain ⟨g, rfl⟩ : ∃ g, f = g + 1 := ⟨f - 1, by simp at hf; omega⟩
    have ih := fun m => unq_quo l g (acc ++ [c]) m rest (by simp at hf; omega) (by simp at ha ⊢; omega)
    rw [List.flatMap_cons, List.append_assoc]
    rcases hp : plainB c with _ | _
    · by_cases h10 : c = 10
      · have hq : quo1 c = [92, 110] := by unfold quo1; rw [hp, if_neg (by decide), if_pos h10]
        rw [hq]
        show unq (g + 1) (92 :: 110 :: (l.flatMap quo1 ++ 34 :: rest)) acc k = _
        have he : escF (110 :: (l.flatMap quo1 ++ 34 :: rest)) = (10, 1, 0) := by rw [escF, if_pos rfl]
        rw [unq, if_neg (by decide), if_neg (by decide), if_pos rfl, he]
        dsimp only
        rw [if_pos rfl, List.drop_one, List.tail_cons, ← h10, ih]
        simp; omega
      · by_cases h34 : c = 34 ∨ c = 92
        · have hq : quo1 c = [92, c] := by unfold quo1; rw [hp, if_neg (by decide), if_neg h10, if_pos h34]
          rw [hq]
          show unq (g + 1) (92 :: c :: (l.flatMap quo1 ++ 34 :: rest)) acc k = _
          have he : escF (c :: (l.flatMap quo1 ++ 34 :: rest)) = (c, 1, 0) := by
            rcases h34 with rfl | rfl
            · rw [escF, if_neg (by decide), if_pos rfl]
            · rw [escF, if_neg (by decide), if_neg (by decide), if_pos rfl]
          rw [unq, if_neg (by decide), if_neg (by decide), if_pos rfl, he]
          dsimp only
          rw [if_pos rfl, List.drop_one, List.tail_cons, ih]
          simp; omega
        · have hq : quo1 c = [92, 120, hexL.getD (c.toNat / 16) 0, hexL.getD (c.toNat % 16) 0] := by unfold quo1; rw [hp, if_neg (by decide), if_neg h10, if_neg h34]
          rw [hq]
          show unq (g + 1) (92 :: 120 :: hexL.getD (c.toNat / 16) 0 :: hexL.getD (c.toNat % 16) 0 :: (l.flatMap quo1 ++ 34 :: rest)) acc k = _
          rw [unq, if_neg (by decide), if_neg (by decide), if_pos rfl, esc_hex]
          dsimp only
          rw [if_pos rfl]
          show unq g (l.flatMap quo1 ++ 34 :: rest) _ _ = _
          rw [ih]
          simp; omega
    · have hq : quo1 c = [c] := by unfold quo1; rw [hp]; rfl
      obtain ⟨n1, n2, n3⟩ := plain_not c hp
      rw [hq]
      show unq (g + 1) (c :: (l.flatMap quo1 ++ 34 :: rest)) acc k = _
      rw [unq, if_neg n1, if_neg n2, if_neg n3, if_pos hp, ih]
      simp; omega
theorem quo_low : ∀ l : List UInt8, l.length ≤ (l.flatMap quo1).length
  | [] => by simp
  | c :: l => by
    have h1 : 1 ≤ (quo1 c).length := by unfold quo1; split <;> (try split) <;> (try split) <;> simp
    have := quo_low l
    rw [List.flatMap_cons, List.length_append, List.length_cons]; omega
theorem unqF_quo (l rest : List UInt8) (h : l.length ≤ 60) : unqF (quoF l ++ rest) = (l, (quoF l).length, 0) := by
  have hlen := quo_low l
  unfold quoF quoP
  rw [List.append_assoc, List.cons_append, unqF, if_pos rfl]
  show unq _ (l.flatMap quo1 ++ (34 :: rest)) [] 1 = _
  rw [unq_quo l _ [] 1 rest (by rw [List.length_append]; omega) (by simpa using h)]
  simp; omega
/-- Is a text written right, byte by byte? Behind it: was the last byte a backslash that counts? -/
def scan : List UInt8 → Bool → Option Bool
  | [], b => some b
  | c :: r, b => if c.toNat < 32 ∨ 126 < c.toNat ∨ (c = 34 ∧ b = false) then none else scan r (c == 92 && !b)
theorem scan_app : ∀ (a r : List UInt8) (b : Bool), scan (a ++ r) b = (scan a b).bind (scan r)
  | [], r, b => rfl
  | c :: a, r, b => by
    rw [List.cons_append, scan, scan]
    split
    · rfl
    · exact scan_app a r _
theorem hexL_ok (i : Nat) (h : i < 16) : 32 ≤ (hexL.getD i 0).toNat ∧ (hexL.getD i 0).toNat ≤ 126 ∧ hexL.getD i 0 ≠ 34 ∧ hexL.getD i 0 ≠ 92 := by
  rcases (by omega : i = 0 ∨ i = 1 ∨ i = 2 ∨ i = 3 ∨ i = 4 ∨ i = 5 ∨ i = 6 ∨ i = 7 ∨ i = 8 ∨ i = 9 ∨ i = 10 ∨ i = 11 ∨ i = 12 ∨ i = 13 ∨ i = 14 ∨ i = 15) with rfl | rfl | rfl | rfl | rfl | rfl | rfl | rfl | rfl | rfl | rfl | rfl | rfl | rfl | rfl | rfl <;> decide
theorem scan_one {c : UInt8} {r : List UInt8} {b : Bool} (h1 : 32 ≤ c.toNat) (h2 : c.toNat ≤ 126) (h3 : c ≠ 34 ∨ b = true) : scan (c :: r) b = scan r (c == 92 && !b) := by
  rw [scan, if_neg (by rintro (h | h | ⟨h, h'⟩); omega; omega; rcases h3 with h3 | h3; exact h3 h; rw [h'] at h3; cases h3)]
theorem scan_quo1 (c : UInt8) : scan (quo1 c) false = some false := by
  unfold quo1
  split
  · rename_i hp
    obtain ⟨n1, n2, n3⟩ := plain_not c hp
    unfold plainB at hp
    simp only [Bool.and_eq_true, decide_eq_true_eq] at hp
    rw [scan_one (by omega) (by omega) (.inl n2), scan, beq_eq_false_iff_ne.2 n3]; rfl
  · split
    · decide
    · split
      · rename_i h
        rcases h with rfl | rfl <;> decide
      · obtain ⟨a1, a2, a3, a4⟩ := hexL_ok (c.toNat / 16) (by have := c.toNat_lt; omega)
        obtain ⟨b1, b2, b3, b4⟩ := hexL_ok (c.toNat % 16) (by omega)
        rw [scan_one (by decide) (by decide) (.inl (by decide)), scan_one (by decide) (by decide) (.inl (by decide)), scan_one a1 a2 (.inl a3), scan_one b1 b2 (.inl b3), scan, beq_eq_false_iff_ne.2 b4]; rfl
theorem scan_quo : ∀ l : List UInt8, scan (l.flatMap quo1) false = some false
  | [] => rfl
  | c :: l => by rw [List.flatMap_cons, scan_app, scan_quo1]; exact scan_quo l
end Go.Proofs.Ytmocjhildphklaa
