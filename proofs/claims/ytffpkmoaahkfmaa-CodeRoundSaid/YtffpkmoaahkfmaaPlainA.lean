/- Plain laws of layer 13: what is encoded is decoded, and what is decoded has just these bytes. -/
import Derived.Test.YtffpkmoaahkfmaaDec
import Derived.Test.YtffpkmoaahkfmaaWalkJ
namespace Go.Proofs.Ytffpkmoaahkfmaa
open Go.RowKit
set_option linter.unusedVariables false

theorem nx_true (wd : Nat) {s : St} (h : s.2 = true) : (nx wd s).2 = true := by
  unfold nx rdS; dsimp only; split
  · rfl
  · exact h
theorem nx_false {wd : Nat} {s : St} (h : (nx wd s).2 = false) : s.2 = false ∧ wd ≤ s.1.length ∧ nx wd s = (s.1.drop wd, false) ∧ nv wd s = wrap64 (leU (s.1.take wd)) := by
  unfold nx rdS rdL nv rdV at *
  dsimp only at *
  split at h
  · cases h
  · rename_i hl; rw [if_neg hl, if_neg hl, if_neg hl]; exact ⟨h, by omega, by rw [h], rfl⟩
theorem leU_byts (x : Int) : ∀ n : Nat, leU (byts x n) = x % 256 ^ n
  | 0 => by simp [byts, leU, Int.emod_one]
  | n + 1 => by
    rw [byts_succ, leU_snoc, byts_len, leU_byts x n]
    have hb : ((byt x n).toNat : Int) = x / 256 ^ n % 256 := by
      unfold byt; rw [UInt8.toNat_ofNat']
      have h0 : 0 ≤ x / 256 ^ n % 256 := by omega
      have h1 : x / 256 ^ n % 256 < 256 := by omega
      omega
    rw [hb, Int.pow_succ]
    have hp : (0 : Int) < 256 ^ n := Int.pow_pos (by decide)
    have h2 := Int.emod_add_mul_ediv x (256 ^ n * 256)
    have h3 := Int.emod_add_mul_ediv x (256 ^ n)
    have h4 := Int.emod_add_mul_ediv (x / 256 ^ n) 256
    rw [Int.ediv_ediv_of_nonneg (Int.le_of_lt hp)] at h4
    generalize x / (256 ^ n * 256) = a at *
    generalize x / 256 ^ n % 256 = b at *
    generalize x / 256 ^ n = c at *
    generalize x % (256 ^ n * 256) = d at *
    generalize x % 256 ^ n = e at *
    generalize (256 : Int) ^ n = p at *
    have : p * c = p * b + p * (256 * a) := by rw [← h4, Int.mul_add]
    have h5 : p * (256 * a) = p * 256 * a := by rw [Int.mul_assoc]
    have h6 : b * p = p * b := Int.mul_comm _ _
    omega
theorem byts_of_leU : ∀ l : List UInt8, ∀ n, l.length = n → ∀ x : Int, x % 256 ^ n = leU l → byts x n = l := by
  intro l n hn x hx
  have key : ∀ (l : List UInt8) (x : Int), x % 256 ^ l.length = leU l → ∀ k, k < l.length → byt x k = l.getD k 0 := by
    intro l
    induction l with
    | nil => intro x _ k hk; exact absurd hk (by simp)
    | cons c l ih =>
      intro x hx k hk
      have hp : (0 : Int) < 256 ^ l.length := Int.pow_pos (by decide)
      rw [List.length_cons, Int.pow_succ] at hx
      unfold leU at hx
      have hc := c.toNat_lt
      have h1 : x % 256 = (c.toNat : Int) := by
        have := Int.emod_emod_of_dvd x (show (256 : Int) ∣ 256 ^ l.length * 256 from ⟨256 ^ l.length, Int.mul_comm _ _⟩)
        rw [hx] at this; omega
      have h2 : x / 256 % 256 ^ l.length = leU l := by
        have h3 := Int.emod_add_mul_ediv x (256 ^ l.length * 256)
        rw [hx] at h3
        have h4 : x / 256 = leU l + 256 ^ l.length * (x / (256 ^ l.length * 256)) := by
          generalize x / (256 ^ l.length * 256) = a at *
          have : 256 ^ l.length * 256 * a = 256 * (256 ^ l.length * a) := by rw [Int.mul_comm (256 ^ l.length) 256, Int.mul_assoc]
          rw [this] at h3
          generalize 256 ^ l.length * a = b at *
          omega
        have hb := leU_bd l
        rw [h4, Int.add_mul_emod_self_left, Int.emod_eq_of_lt hb.1 hb.2]
      cases k with
      | zero =>
        show byt x 0 = c
        unfold byt; rw [Int.pow_zero, Int.ediv_one, h1]; simp
      | succ k =>
        have := ih (x / 256) h2 k (by simpa using hk)
        show byt x (k + 1) = l.getD k 0
        rw [← this]
        unfold byt
        rw [Int.pow_succ, Int.mul_comm, ← Int.ediv_ediv_of_nonneg (by decide)]
  apply List.ext_getElem
  · rw [byts_len, hn]
  · intro i h1 h2
    have := key l x (by rw [hn]; exact hx) i h2
    rw [List.getD_eq_getElem?_getD, List.getElem?_eq_getElem h2, Option.getD_some] at this
    rw [← this]
    have h3 : (byts x n)[i]? = some (byt x i) := by
      have hi : i < n := by omega
      unfold byts; rw [List.getElem?_map, List.getElem?_range hi]; rfl
    rw [List.getElem?_eq_getElem h1] at h3
    exact Option.some.inj h3
end Go.Proofs.Ytffpkmoaahkfmaa
