/- Plain: numbers as a text. -/
import Derived.Test.YtcbehllfljjngaaSPlain
namespace Go.Proofs.Ytcbehllfljjngaa
open Go.RowKit
set_option linter.unusedVariables false

/-- A number's byte. -/
def byt (x : Int) (k : Nat) : UInt8 := UInt8.ofNat ((x / 256 ^ k) % 256).toNat
/-- The bytes of numbers, n of them. -/
def unpB (zs : List Int) (n : Nat) : List UInt8 := (List.range n).map fun i => byt (zs.getD (1 + i / 7) 0) (i % 7)
theorem unpB_len (zs : List Int) (n : Nat) : (unpB zs n).length = n := by simp [unpB]
theorem unpB_succ (zs : List Int) (n : Nat) : unpB zs (n + 1) = unpB zs n ++ [byt (zs.getD (1 + n / 7) 0) (n % 7)] := by
  unfold unpB; rw [List.range_succ, List.map_append]; rfl
theorem byt_nat (X k : Nat) : byt (X : Int) k = UInt8.ofNat (X / 256 ^ k % 256) := by
  unfold byt
  have e : ((X : Int) / 256 ^ k) % 256 = ((X / 256 ^ k % 256 : Nat) : Int) := by
    rw [Int.natCast_emod, Int.natCast_ediv, Int.natCast_pow]; rfl
  rw [e, Int.toNat_natCast]
theorem leV_nat (X : Nat) : ∀ m, leV ((List.range m).map fun k => byt (X : Int) k) = X % 256 ^ m
  | 0 => by simp [leV, Nat.mod_one]
  | m + 1 => by
    rw [List.range_succ, List.map_append, List.map_cons, List.map_nil, leV_snoc, leV_nat X m, List.length_map, List.length_range, byt_nat, UInt8.toNat_ofNat', show X / 256 ^ m % 256 % 2 ^ 8 = X / 256 ^ m % 256 from by omega, Nat.mod_pow_succ, Nat.mul_comm (256 ^ m)]
theorem chunk (zs : List Int) (n i : Nat) : ((unpB zs n).drop (7 * i)).take 7 = (List.range (min 7 (n - 7 * i))).map fun k => byt (zs.getD (1 + i) 0) k := by
  apply List.ext_getElem?
  intro j
  rw [List.getElem?_take, List.getElem?_map]
  by_cases hj : j < min 7 (n - 7 * i)
  · rw [if_pos (by omega), List.getElem?_drop, List.getElem?_range hj]
    unfold unpB
    rw [List.getElem?_map, List.getElem?_range (by omega)]
    dsimp only [Option.map]
    rw [show (7 * i + j) / 7 = i from by omega, show (7 * i + j) % 7 = j from by omega]
  · rw [List.getElem?_eq_none (by rw [List.length_range]; omega : (List.range (min 7 (n - 7 * i))).length ≤ j)]
    split
    · rw [List.getElem?_drop, List.getElem?_eq_none (by rw [unpB_len]; omega)]; rfl
    · rfl
/-- The numbers fit. -/
def Head (zs : List Int) (n : Nat) : Prop := zs.getD 0 0 = (n : Int) ∧ n ≤ 60 ∧ zs.length = (n + 6) / 7 + 1
def okNum (zs : List Int) (n i : Nat) : Prop := 0 ≤ zs.getD (1 + i) 0 ∧ zs.getD (1 + i) 0 < 256 ^ (min 7 (n - 7 * i))
theorem packF_get (l : List UInt8) (i : Nat) (h : i < (l.length + 6) / 7) : (packF l).getD (1 + i) 0 = (leV ((l.drop (7 * i)).take 7) : Int) := by
  unfold packF nums
  rw [Nat.add_comm 1 i, List.getD_cons_succ, List.getD_eq_getElem?_getD, List.getElem?_map, List.getElem?_range h]; rfl
theorem pow_cast (m : Nat) : ((256 ^ m : Nat) : Int) = 256 ^ m := by rw [Int.natCast_pow]; rfl
theorem pack_back {zs : List Int} {n : Nat} (h : Head zs n) : packF (unpB zs n) = zs ↔ ∀ i, i < (n + 6) / 7 → okNum zs n i := by
  constructor
  · intro he i hi
    have h1 := packF_get (unpB zs n) i (by rw [unpB_len]; exact hi)
    rw [he, chunk] at h1
    have h2 := leV_lt ((List.range (min 7 (n - 7 * i))).map fun k => byt (zs.getD (1 + i) 0) k)
    rw [List.length_map, List.length_range] at h2
    unfold okNum
    rw [← pow_cast]
    omega
  · intro hall
    apply List.ext_getElem?
    intro j
    by_cases hj : j < (n + 6) / 7 + 1
    · have l1 : j < (packF (unpB zs n)).length := by rw [packF_len, unpB_len]; exact hj
      have l2 : j < zs.length := by rw [h.2.2]; exact hj
      have e : (packF (unpB zs n)).getD j 0 = zs.getD j 0 := by
        cases j with
        | zero => rw [h.1]; unfold packF; rw [List.getD_cons_zero, unpB_len]
        | succ i =>
          have hi : i < (n + 6) / 7 := by omega
          obtain ⟨o1, o2⟩ := hall i hi
          rw [Nat.add_comm i 1, packF_get _ i (by rw [unpB_len]; exact hi), chunk]
          obtain ⟨X, hX⟩ := Int.eq_ofNat_of_zero_le o1
          rw [hX] at o2 ⊢
          rw [← pow_cast] at o2
          rw [leV_nat, Nat.mod_eq_of_lt (by omega)]
      rw [List.getD_eq_getElem?_getD, List.getD_eq_getElem?_getD, List.getElem?_eq_getElem l1, List.getElem?_eq_getElem l2] at e
      rw [List.getElem?_eq_getElem l1, List.getElem?_eq_getElem l2]
      exact congrArg some e
    · rw [List.getElem?_eq_none (by rw [packF_len, unpB_len]; omega), List.getElem?_eq_none (by rw [h.2.2]; omega)]
theorem packF_inj {a b : List UInt8} (h : packF a = packF b) : a = b := by
  have hl : a.length = b.length := by
    have := congrArg (fun l => l.getD 0 0) h
    simp [packF] at this; omega
  have key : ∀ (x y : List UInt8), x.length = y.length → leV x = leV y → x = y := by
    intro x
    induction x with
    | nil => intro y hy _; cases y with
      | nil => rfl
      | cons _ _ => simp at hy
    | cons c x ih =>
      intro y hy hv
      cases y with
      | nil => simp at hy
      | cons d y =>
        rw [leV, leV] at hv
        have hc := c.toNat_lt; have hd := d.toNat_lt
        have e1 : c.toNat = d.toNat := by omega
        rw [UInt8.toNat.inj e1, ih y (by simpa using hy) (by omega)]
  apply List.ext_getElem?
  intro j
  by_cases hj : j < a.length
  · have g1 := packF_get a (j / 7) (by omega)
    have g2 := packF_get b (j / 7) (by omega)
    rw [h, g2] at g1
    have e := key _ _ (by simp only [List.length_take, List.length_drop]; omega) (by omega : leV ((a.drop (7 * (j / 7))).take 7) = leV ((b.drop (7 * (j / 7))).take 7))
    have e2 := congrArg (fun l => l[j % 7]?) e
    simp only [List.getElem?_take, List.getElem?_drop] at e2
    rw [if_pos (by omega), if_pos (by omega), show 7 * (j / 7) + j % 7 = j from by omega] at e2
    exact e2
  · rw [List.getElem?_eq_none (by omega), List.getElem?_eq_none (by omega)]
theorem unp_pack (l : List UInt8) (h : l.length ≤ 60) : Head (packF l) l.length ∧ unpB (packF l) l.length = l := by
  have hh : Head (packF l) l.length := ⟨rfl, h, packF_len l⟩
  have hb := (pack_back hh).2 (fun i hi => by
    unfold okNum
    rw [packF_get l i hi]
    have h1 := leV_lt ((l.drop (7 * i)).take 7)
    rw [List.length_take, List.length_drop] at h1
    rw [← pow_cast]
    omega)
  exact ⟨hh, packF_inj hb⟩
end Go.Proofs.Ytcbehllfljjngaa
