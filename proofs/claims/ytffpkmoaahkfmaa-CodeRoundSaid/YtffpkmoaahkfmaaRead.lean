/- The walks of layer 13: the next number of bytes, by the program. -/
import Derived.Test.YtffpkmoaahkfmaaOwn
import Derived.Laws.BitsAll
import Derived.Lib.EndianBits
namespace Go.Proofs.Ytffpkmoaahkfmaa
open Go.RowKit
set_option linter.unusedVariables false

/-- Bytes that are read: a slice of them reads as a list, its block below B. -/
def BytesAt (w : World) (B : Nat) (A : Option Addr) (n : Nat) (l : List UInt8) : Prop :=
  l.length = n ∧ (0 < n → ∃ b off, A = some ⟨b, off, none⟩ ∧ b < B ∧ ∀ j, j < n → w.cell? ⟨b, off + j, none⟩ = some (.int .u8 ((l.getD j 0).toNat : Int)))
def RestAt (w : World) (B : Nat) (v : Value) (l : List UInt8) : Prop := ∃ A n c, v = .slice A n c ∧ n ≤ c ∧ c ≤ maxLen ∧ BytesAt w B A n l
theorem RestAt.below {w w' : World} {B : Nat} {v : Value} {l : List UInt8} (h : RestAt w B v l) (hb : Below B w w') : RestAt w' B v l := by
  obtain ⟨A, n, c, e, h1, h2, h3, h4⟩ := h
  refine ⟨A, n, c, e, h1, h2, h3, fun hn => ?_⟩
  obtain ⟨b, off, e2, hlt, hc⟩ := h4 hn
  exact ⟨b, off, e2, hlt, fun j hj => (hb.cell (p := ⟨b, off + j, none⟩) hlt).trans (hc j hj)⟩
theorem RestAt.nil (w : World) (B : Nat) : RestAt w B (.slice none 0 0) [] := ⟨none, 0, 0, rfl, Nat.le_refl _, Nat.zero_le _, rfl, fun h => absurd h (by omega)⟩
/-- A number of bytes, the lowest first; as an integer. -/
def leU : List UInt8 → Int
  | [] => 0
  | c :: l => (c.toNat : Int) + 256 * leU l
theorem leU_bd : ∀ l : List UInt8, 0 ≤ leU l ∧ leU l < 256 ^ l.length
  | [] => by simp [leU]
  | c :: l => by
    have h := leU_bd l
    have hc := c.toNat_lt
    rw [List.length_cons, Int.pow_succ]
    unfold leU
    generalize (256 : Int) ^ l.length = p at *
    omega
theorem leU_snoc : ∀ (l : List UInt8) (c : UInt8), leU (l ++ [c]) = leU l + (c.toNat : Int) * 256 ^ l.length
  | [], c => by simp [leU]
  | d :: l, c => by
    have h := leU_snoc l c
    simp only [List.cons_append, leU, h, List.length_cons, Int.pow_succ]
    rw [Int.mul_add, Int.add_assoc]
    congr 2
    rw [Int.mul_comm (256 ^ l.length) 256, Int.mul_left_comm]
theorem pow_256 (k : Nat) : (256 : Int) ^ k = 2 ^ (8 * k) := by rw [Int.pow_mul]; rfl
theorem wrap_eq (z : Int) : IntKind.i64.wrap z = wrap64 z := by simp [IntKind.wrap, IntKind.bits, IntKind.signed, wrap64]; omega
theorem ofInt_nat {z : Int} {m : Nat} (h : z % 18446744073709551616 = (m : Int)) : (BitVec.ofInt 64 z).toNat = m := by
  rw [BitVec.toNat_ofInt, show ((2 ^ 64 : Nat) : Int) = 18446744073709551616 from rfl, h]; rfl
theorem wrap_mod (z : Int) : wrap64 z % 18446744073709551616 = z % 18446744073709551616 := by unfold wrap64; omega
theorem or_nat {n p b k : Nat} (hq : 2 ^ (8 * k) = p) (hn : n < p) : n ||| b * p = n + b * p := by
  subst hq
  rw [Nat.or_comm, Nat.mul_comm b, ← Nat.two_pow_add_eq_or_of_lt hn b]; omega
theorem or_any {x y : Int} {n q : Nat} (hx : x % 18446744073709551616 = (n : Int)) (hy : y % 18446744073709551616 = (q : Int)) (h : n ||| q = n + q) : bits .or .i64 x y = wrap64 ((n : Int) + (q : Int)) := by
  show IntKind.i64.wrap ((BitVec.ofInt 64 x ||| BitVec.ofInt 64 y).toNat : Int) = _
  rw [BitVec.toNat_or, ofInt_nat hx, ofInt_nat hy, h]
  rw [show ((n + q : Nat) : Int) = (n : Int) + (q : Int) from by omega]; exact wrap_eq _
theorem or_i64 {n b : Int} {k : Nat} (h0 : 0 ≤ n) (h1 : n < 256 ^ k) (h2 : 0 ≤ b) (h3 : b < 256) (hk : k ≤ 7) : bits .or .i64 n (wrap64 (b * 2 ^ (8 * k))) = wrap64 (n + b * 256 ^ k) := by
  rw [pow_256] at h1 ⊢
  obtain ⟨n', rfl⟩ := Int.eq_ofNat_of_zero_le h0
  obtain ⟨b', rfl⟩ := Int.eq_ofNat_of_zero_le h2
  have hp : (2 : Int) ^ (8 * k) = ((2 ^ (8 * k) : Nat) : Int) := by simp
  rw [hp] at h1 ⊢
  have hpk : 2 ^ (8 * k) ≤ 72057594037927936 := Nat.le_trans (Nat.pow_le_pow_right (by decide) (by omega : 8 * k ≤ 56)) (by decide)
  obtain ⟨p, hq⟩ : ∃ p, p = 2 ^ (8 * k) := ⟨_, rfl⟩
  rw [← hq] at h1 hpk ⊢
  have hn : n' < p := by omega
  have hb : b' ≤ 255 := by omega
  have hbp : b' * p ≤ 255 * p := Nat.mul_le_mul_right _ hb
  have e0 : ((b' : Int) * (p : Int)) = ((b' * p : Nat) : Int) := by simp
  have ho := or_nat (b := b') hq.symm hn
  rw [e0]
  clear e0 hp hq h0 h2 h3 hk
  generalize b' * p = q at *
  have h5 : (n' : Int) % 18446744073709551616 = (n' : Int) := by omega
  have h6 : wrap64 (q : Int) % 18446744073709551616 = (q : Int) := by rw [wrap_mod]; omega
  exact or_any h5 h6 ho
/-- Only blocks R and S may part. -/
structure Only (R S : Nat) (w w' : World) : Prop where
  os : w'.os = w.os
  tape : w'.tape = w.tape
  output : w'.output = w.output
  size : w'.heap.size = w.heap.size
  block : ∀ g, g ≠ R → g ≠ S → w'.heap[g]? = w.heap[g]?
theorem Only.refl (R S : Nat) (w : World) : Only R S w w := ⟨rfl, rfl, rfl, rfl, fun _ _ _ => rfl⟩
theorem Only.trans {R S : Nat} {a b c : World} (h : Only R S a b) (k : Only R S b c) : Only R S a c :=
  ⟨k.os.trans h.os, k.tape.trans h.tape, k.output.trans h.output, k.size.trans h.size, fun g h1 h2 => (k.block g h1 h2).trans (h.block g h1 h2)⟩
theorem Only.put (R S : Nat) (w : World) {p : Addr} (hp : p.block = R ∨ p.block = S) (u : Value) : Only R S w (w.setCell p u) :=
  ⟨rfl, rfl, rfl, by simp [World.setCell], fun g h1 h2 => Below.heap_setCell w p u g (by rcases hp with h | h <;> omega)⟩
theorem Only.below {R S B : Nat} {w w' : World} (h : Only R S w w') (hR : B ≤ R) (hS : B ≤ S) : Below B w w' := ⟨h.os, h.tape, h.output, by rw [h.size]; exact Nat.le_refl _, fun k hk => h.block k (by omega) (by omega)⟩
theorem Only.whole {R S g : Nat} {t : TypeId} {cs : Array Value} {w w' : World} (h : Only R S w w') (hw : Whole w g t cs) (h1 : g ≠ R) (h2 : g ≠ S) : Whole w' g t cs := (h.block g h1 h2).trans hw
theorem Only.own {R S base e size n : Nat} {v : Value} {xs : List Value} {w w' : World} (h : Only R S w w') (ho : w.ownsRow base e size v n xs) (hR : R < base) (hS : S < base) : w'.ownsRow base e size v n xs :=
  own_of_block ho fun g hg => by have := (ho.lt g hg).1; exact h.block g (by omega) (by omega)
/-- What is left to be read, and whether it was too short. -/
structure RdAt (R S B : Nat) (l : List UInt8) (sh : Bool) (w : World) : Prop where
  short : Whole w S 4 #[.bool sh]
  rest : ∃ v, Whole w R 28 #[v] ∧ RestAt w B v l
  ne : R ≠ S
  hR : B ≤ R
  hS : B ≤ S
/-- The next number of a width: its value, what is left, whether it was too short. -/
def rdV (wd : Nat) (l : List UInt8) : Int := if l.length < wd then 0 else wrap64 (leU (l.take wd))
def rdL (wd : Nat) (l : List UInt8) : List UInt8 := if l.length < wd then [] else l.drop wd
def rdS (wd : Nat) (l : List UInt8) (sh : Bool) : Bool := if l.length < wd then true else sh
theorem take_snoc' {l : List UInt8} {k : Nat} (h : k < l.length) : l.take (k + 1) = l.take k ++ [l.getD k 0] := by
  rw [List.take_add_one, List.getElem?_eq_getElem h, Option.toList_some, List.getD_eq_getElem?_getD, List.getElem?_eq_getElem h]; rfl
theorem drop_getD {l : List UInt8} {k j : Nat} : (l.drop k).getD j 0 = l.getD (k + j) 0 := by
  simp [List.getD_eq_getElem?_getD, List.getElem?_drop]
set_option maxHeartbeats 1000000 in
theorem next_short (R S B : Nat) (l : List UInt8) (sh : Bool) (w : World) (wd : Nat) (h : RdAt R S B l sh w) (hl : l.length < wd) (hw : wd ≤ 8) :
    Calls Try.prog 33 #[.int .i64 (wd : Int), .pointer (some ⟨R, 0, none⟩), .pointer (some ⟨S, 0, none⟩)] w fun e w' => e = .returned (.int .i64 0) ∧ RdAt R S B [] true w' ∧ Only R S w w' := by
  obtain ⟨v, hv, A, n, c, rfl, hn, hc, hb⟩ := h.rest
  have HH := Lib.hid h
  have HV := Lib.hid hv
  have c1 : w.cell? ⟨R, 0, none⟩ = some (.slice A n c) := hv.cell 0
  have f1 := hv.free 0
  have c2 : w.cell? ⟨S, 0, none⟩ = some (.bool sh) := h.short.cell 0
  have f2 := h.short.free 0
  have hne := h.ne
  have c1b : (w.setCell ⟨S, 0, none⟩ (.bool true)).cell? ⟨R, 0, none⟩ = some (.slice A n c) := cell_far c1 hne
  have f1b : (w.setCell ⟨S, 0, none⟩ (.bool true)).frozen? ⟨R, 0, none⟩ = false := (hv.far (p := ⟨S, 0, none⟩) hne _).free 0
  have hn2 : n < wd := by rw [← hb.1]; exact hl
  clear h hv hn hc hb hl
  go_enter Try.func33, Try.ntmps33
  go_wp2
  go_ret
  refine ⟨rfl, ⟨?_, ⟨_, (HV.out.far (p := ⟨S, 0, none⟩) hne _).put 0 (.slice none 0 0), RestAt.nil _ _⟩, hne, HH.out.hR, HH.out.hS⟩, (Only.put R S w (.inr rfl) _).trans (Only.put R S _ (.inl rfl) _)⟩
  exact (HH.out.short.put 0 (.bool true)).far (p := ⟨R, 0, none⟩) (Ne.symm hne) _
theorem leU_take {l : List UInt8} {j : Nat} (hj : j < l.length) (h7 : j ≤ 7) : bits .or .i64 (leU (l.take j)) (wrap64 (((l.getD j 0).toNat : Int) * 2 ^ (8 * j))) = wrap64 (leU (l.take (j + 1))) := by
  have hl : (l.take j).length = j := by rw [List.length_take]; omega
  have hb := leU_bd (l.take j)
  rw [hl] at hb
  have hc := (l.getD j 0).toNat_lt
  rw [or_i64 hb.1 hb.2 (by omega) (by omega) h7, take_snoc' hj, leU_snoc, hl]
theorem leU_small {l : List UInt8} {j : Nat} (hj : j ≤ l.length) (h7 : j ≤ 7) : wrap64 (leU (l.take j)) = leU (l.take j) := by
  have hl : (l.take j).length = j := by rw [List.length_take]; omega
  have hb := leU_bd (l.take j)
  rw [hl] at hb
  have hp : (256 : Int) ^ j ≤ 72057594037927936 := by
    rcases (by omega : j = 0 ∨ j = 1 ∨ j = 2 ∨ j = 3 ∨ j = 4 ∨ j = 5 ∨ j = 6 ∨ j = 7) with rfl | rfl | rfl | rfl | rfl | rfl | rfl | rfl <;> decide
  generalize (256 : Int) ^ j = p at *
  unfold wrap64; omega
set_option maxHeartbeats 2000000 in
theorem next_long (R S B : Nat) (l : List UInt8) (sh : Bool) (w : World) (wd : Nat) (h : RdAt R S B l sh w) (hl : wd ≤ l.length) (hw0 : 0 < wd) (hw : wd ≤ 8) :
    Calls Try.prog 33 #[.int .i64 (wd : Int), .pointer (some ⟨R, 0, none⟩), .pointer (some ⟨S, 0, none⟩)] w fun e w' => e = .returned (.int .i64 (wrap64 (leU (l.take wd)))) ∧ RdAt R S B (l.drop wd) sh w' ∧ Only R S w w' := by
  obtain ⟨v, hv, A, n, c, rfl, hn, hc, hb⟩ := h.rest
  have hl1 := hb.1
  obtain ⟨b, off, rfl, hlt, hcell⟩ := hb.2 (by omega)
  have HH := Lib.hid h
  have HV := Lib.hid hv
  have HCE := Lib.hid hcell
  have c1 : w.cell? ⟨R, 0, none⟩ = some (.slice (some ⟨b, off, none⟩) n c) := hv.cell 0
  have f1 := hv.free 0
  have hwn : wd ≤ n := by omega
  have hcm : c ≤ 9223372036854775807 := by unfold maxLen at hc; exact hc
  have HL1 := Lib.hid hl1
  clear h hv hb hcell hl1 hc
  have HEND : Hid (∀ a, (a = off + wd ∨ (a = off ∧ wd = c)) → RestAt (w.setCell ⟨R, 0, none⟩ (.slice (some ⟨b, a, none⟩) (n - wd) (c - wd))) B (.slice (some ⟨b, a, none⟩) (n - wd) (c - wd)) (l.drop wd)) := fun a ha =>
    ⟨_, n - wd, c - wd, rfl, by omega, by unfold maxLen; omega, by rw [List.length_drop, HL1.out], fun h0 => ⟨b, a, rfl, hlt, fun j hj => by
      have ha' : a = off + wd := by omega
      subst ha'
      rw [drop_getD, Nat.add_assoc]
      exact (World.cell?_of_block (Below.heap_setCell w _ _ b (by have := HH.out.hR; show b ≠ R; omega))).trans (HCE.out (wd + j) (by omega))⟩⟩
  clear hlt
  go_enter Try.func33, Try.ntmps33
  go_wp2_with fail
  go_loop [5, 6, 12] (fun x y i => ∃ j : Nat, i = .int .i64 (j : Int) ∧ j ≤ wd ∧ x = .int .i64 (wrap64 (leU (l.take j)))) (fun _ _ i => wd - (intOf i).toNat)
  case atStart => exact ⟨0, rfl, by omega, by simp [leU, wrap64]⟩
  case round =>
    obtain ⟨j, rfl, hj, rfl⟩ := hrel
    by_cases hlt : j < wd
    · have d1 := HCE.out j (by omega)
      have HX := Lib.hid (leU_take (l := l) (j := j) (by omega) (by omega))
      rw [leU_small (l := l) (j := j) (by omega) (by omega)]
      have hcb := (l.getD j 0).toNat_lt
      generalize (l.getD j 0).toNat = cc at *
      generalize leU (l.take j) = q at *
      go_wp2_with fail
      exact ⟨⟨j + 1, by go_num, by omega, by rw [HX.out]⟩, by simp [intOf]; omega⟩
    · obtain rfl : j = wd := by omega
      have hjn : (j : Int) ≤ (n : Int) := by omega
      have hjc : (j : Int) ≤ (c : Int) := by omega
      have hnc : (n : Int) ≤ (c : Int) := by omega
      generalize hq : wrap64 (leU (l.take j)) = q at *
      have HQ := Lib.hid hq
      clear hq
      by_cases hcw : c = j
      · subst hcw
        go_wp2_with fail
        go_ret
        refine ⟨ret_i HQ.out.symm, ⟨HH.out.short.far (p := ⟨R, 0, none⟩) (Ne.symm HH.out.ne) _, ⟨_, HV.out.put 0 _, ⟨_, 0, 0, rfl, Nat.le_refl _, Nat.zero_le _, by rw [List.length_drop, HL1.out]; omega, fun h0 => absurd h0 (by omega)⟩⟩, HH.out.ne, HH.out.hR, HH.out.hS⟩, Only.put R S w (.inl rfl) _⟩
      · go_wp2_with fail
        go_ret
        exact ⟨ret_i HQ.out.symm, ⟨HH.out.short.far (p := ⟨R, 0, none⟩) (Ne.symm HH.out.ne) _, ⟨_, HV.out.put 0 _, HEND.out _ (.inl rfl)⟩, HH.out.ne, HH.out.hR, HH.out.hS⟩, Only.put R S w (.inl rfl) _⟩
theorem next_any (R S B : Nat) (l : List UInt8) (sh : Bool) (w : World) (wd : Nat) (h : RdAt R S B l sh w) (hw0 : 0 < wd) (hw : wd ≤ 8) :
    Calls Try.prog 33 #[.int .i64 (wd : Int), .pointer (some ⟨R, 0, none⟩), .pointer (some ⟨S, 0, none⟩)] w fun e w' => e = .returned (.int .i64 (rdV wd l)) ∧ RdAt R S B (rdL wd l) (rdS wd l sh) w' ∧ Only R S w w' := by
  unfold rdV rdL rdS
  by_cases hl : l.length < wd
  · rw [if_pos hl, if_pos hl, if_pos hl]; exact next_short R S B l sh w wd h hl hw
  · rw [if_neg hl, if_neg hl, if_neg hl]; exact next_long R S B l sh w wd h (by omega) hw0 hw
end Go.Proofs.Ytffpkmoaahkfmaa
