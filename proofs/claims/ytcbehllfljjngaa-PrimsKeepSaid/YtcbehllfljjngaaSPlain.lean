/- Plain: a text as numbers of seven bytes each. -/
import Derived.WalkKit
import Derived.Laws.BitsAllLaws
namespace Go.Proofs.Ytcbehllfljjngaa
open Go.RowKit
set_option linter.unusedVariables false

/-- Bytes as a number, the lowest one first. -/
def leV : List UInt8 → Nat
  | [] => 0
  | c :: t => c.toNat + 256 * leV t
theorem leV_snoc : ∀ (t : List UInt8) (c : UInt8), leV (t ++ [c]) = leV t + c.toNat * 256 ^ t.length
  | [], c => by simp [leV]
  | d :: t, c => by
    rw [List.cons_append, leV, leV, leV_snoc t c, List.length_cons, Nat.pow_succ, Nat.mul_add, ← Nat.mul_assoc, ← Nat.mul_assoc, Nat.mul_comm 256 c.toNat]
    rw [Nat.mul_assoc c.toNat 256, Nat.mul_assoc c.toNat, Nat.mul_comm 256 (256 ^ t.length)]
    omega
theorem leV_lt : ∀ t : List UInt8, leV t < 256 ^ t.length
  | [] => by simp [leV]
  | c :: t => by
    have := leV_lt t
    have hc := c.toNat_lt
    rw [leV, List.length_cons, Nat.pow_succ]
    omega
theorem pow_256 (k : Nat) : (256 : Nat) ^ k = 2 ^ (8 * k) := by rw [Nat.pow_mul]
/-- The numbers behind the length. -/
def nums (l : List UInt8) (j : Nat) : List Int := (List.range j).map fun i => (leV ((l.drop (7 * i)).take 7) : Int)
def packF (l : List UInt8) : List Int := (l.length : Int) :: nums l ((l.length + 6) / 7)
theorem nums_succ (l : List UInt8) (j : Nat) : nums l (j + 1) = nums l j ++ [(leV ((l.drop (7 * j)).take 7) : Int)] := by
  unfold nums; rw [List.range_succ, List.map_append]; rfl
theorem nums_len (l : List UInt8) (j : Nat) : (nums l j).length = j := by simp [nums]
theorem packF_len (l : List UInt8) : (packF l).length = (l.length + 6) / 7 + 1 := by simp [packF, nums_len]
theorem or_num (N c k : Nat) (hN : N < 2 ^ (8 * k)) (hc : c < 256) (hk : k < 7) :
    bits .or .i64 (N : Int) (wrap64 (wrap64 (c : Int) * 2 ^ (8 * k))) = ((N + c * 2 ^ (8 * k) : Nat) : Int) := by
  have h56 : (2 : Nat) ^ (8 * k) ≤ 2 ^ 48 := Nat.pow_le_pow_right (by decide) (by omega)
  have h56' : (2 : Nat) ^ 48 = 281474976710656 := by decide
  have e0 : wrap64 (c : Int) = c := by unfold wrap64; omega
  have hcp : c * 2 ^ (8 * k) ≤ 255 * 281474976710656 := Nat.mul_le_mul (by omega) (by omega)
  have e1 : (c : Int) * 2 ^ (8 * k) = ((c * 2 ^ (8 * k) : Nat) : Int) := by rw [Int.natCast_mul, Int.natCast_pow]; rfl
  have e2 : wrap64 ((c * 2 ^ (8 * k) : Nat) : Int) = ((c * 2 ^ (8 * k) : Nat) : Int) := by unfold wrap64; omega
  rw [e0, e1, e2]
  have h : bits .or .i64 (N : Int) ((c * 2 ^ (8 * k) : Nat) : Int) = IntKind.i64.wrap ((BitVec.ofInt 64 (N : Int) ||| BitVec.ofInt 64 ((c * 2 ^ (8 * k) : Nat) : Int)).toNat : Int) := rfl
  rw [h, BitVec.toNat_or, BitVec.toNat_ofInt, BitVec.toNat_ofInt]
  have m1 : ((N : Int) % (2 ^ 64 : Nat)).toNat = N := by omega
  have m2 : (((c * 2 ^ (8 * k) : Nat) : Int) % (2 ^ 64 : Nat)).toNat = c * 2 ^ (8 * k) := by omega
  rw [m1, m2, Nat.or_comm, nat_join (8 * k) _ N (by rw [Nat.mul_mod_left]) hN, Nat.add_comm]
  unfold IntKind.wrap
  simp [IntKind.bits, IntKind.signed]
  omega
theorem data_get (d : ByteArray) (k : Nat) (h : k < d.size) : d.data.toList[k]? = some d[k] := by
  rw [Array.getElem?_toList, Array.getElem?_eq_getElem (by simpa using h)]; rfl
theorem size_data (d : ByteArray) : d.data.toList.length = d.size := by simp
/-- A byte more of the number under way. -/
theorem leV_step (s : ByteArray) (p k : Nat) (h : p + k < s.size) :
    leV ((s.data.toList.drop p).take (k + 1)) = leV ((s.data.toList.drop p).take k) + s[p + k].toNat * 2 ^ (8 * k) := by
  have hg : (s.data.toList.drop p)[k]? = some s[p + k] := by rw [List.getElem?_drop, data_get s (p + k) h]
  have hl : ((s.data.toList.drop p).take k).length = k := by rw [List.length_take, List.length_drop, size_data]; omega
  rw [List.take_add_one, hg, Option.toList_some, leV_snoc, hl, pow_256]
theorem leV_small (l : List UInt8) (k : Nat) (hk : k ≤ 7) : leV (l.take k) < 2 ^ (8 * k) := by
  have h1 := leV_lt (l.take k)
  have h2 : (256 : Nat) ^ (l.take k).length ≤ 256 ^ k := Nat.pow_le_pow_right (by decide) (by rw [List.length_take]; omega)
  rw [← pow_256]; omega
end Go.Proofs.Ytcbehllfljjngaa
