/- Turned from another seat: read_any rshow_any. -/
import Derived.WalkKit
import Derived.Deep.Draws
import Derived.Laws.Rows
import Derived.Laws.BitsAllLaws
import Derived.Laws.BytesArg
import Derived.WalkSpells
import Derived.WalkLawsBesides
import Derived.Lib.Hide
import Derived.Test.YtmjjjnmfkdidgaaDoorProg
namespace Go.Proofs.YtmjjjnmfkdidgaaDoor.I
open Go.RowKit
set_option linter.unusedVariables false

/-- Block g holds just these cells, none of them frozen. -/
def Whole (w : World) (g : Nat) (t : TypeId) (cs : Array Value) : Prop := w.heap[g]? = some (.cells cs t (0, 0))
theorem Whole.lt {w : World} {g : Nat} {t : TypeId} {cs : Array Value} (h : Whole w g t cs) : g < w.heap.size := by
  unfold Whole at h
  rcases Nat.lt_or_ge g w.heap.size with hl | hl
  · exact hl
  · rw [Array.getElem?_eq_none hl] at h; cases h
theorem Whole.cell {w : World} {g : Nat} {t : TypeId} {cs : Array Value} (h : Whole w g t cs) (i : Nat) : w.cell? ⟨g, i, none⟩ = cs[i]? :=
  cell_of_row w g i cs t (0, 0) h
theorem Whole.made (w : World) (t : TypeId) (cs : Array Value) : Whole (w.alloc (.cells cs t)) w.heap.size t cs := heap_alloc_new w _
theorem Whole.alloc {w : World} {g : Nat} {t : TypeId} {cs : Array Value} (h : Whole w g t cs) (o : Obj) : Whole (w.alloc o) g t cs := (Below.heap_alloc w o g h.lt).trans h
theorem Whole.below {B : Nat} {w w' : World} {g : Nat} {t : TypeId} {cs : Array Value} (h : Whole w g t cs) (hb : Below B w w') (hg : g < B) : Whole w' g t cs := (hb.block g hg).trans h
/-- A number wrapped to 63 bits. -/
def cw (n : Int) : Int := (n + 4611686018427387904) % 9223372036854775808 - 4611686018427387904
theorem cw_id (n : Int) (h : -4611686018427387904 ≤ n) (h' : n ≤ 4611686018427387903) : cw n = n := by unfold cw; omega
theorem cw_lo (n : Int) : -4611686018427387904 ≤ cw n := by unfold cw; omega
theorem cw_hi (n : Int) : cw n ≤ 4611686018427387903 := by unfold cw; omega
theorem cw_up' (n : Int) (h : 4611686018427387903 < n) (h' : n ≤ 9223372036854775807) : n - 4611686018427387904 - 4611686018427387904 = cw n := by
  unfold cw; omega
theorem cw_down (n : Int) (h : n < -4611686018427387904) (h' : -9223372036854775808 ≤ n) : n + 4611686018427387904 + 4611686018427387904 = cw n := by
  unfold cw; omega
/-- The digits of a number, with fuel. -/
def dg : Nat → Nat → List UInt8
  | 0, _ => []
  | f + 1, m => if m < 10 then [UInt8.ofNat (48 + m)] else dg f (m / 10) ++ [UInt8.ofNat (48 + m % 10)]
/-- An integer's digits. -/
def shw (n : Int) : List UInt8 := if n < 0 then 45 :: dg 20 n.natAbs else dg 20 n.natAbs
/-- At the head of a round: what is still to be told, and what has been told. -/
structure ShowRel (m0 k m : Nat) (ds : List UInt8) : Prop where
  len : ds.length = k
  small : m < 10 ^ (19 - k)
  more : k = 0 ∨ m ≠ 0
  all : dg 20 m0 = dg (20 - k) m ++ ds
  le : m ≤ 4611686018427387904
theorem ShowRel.lt {m0 k m : Nat} {ds : List UInt8} (h : ShowRel m0 k m ds) : k ≤ 18 := by
  rcases h.more with hk | hm
  · omega
  · have := h.small
    rcases Nat.lt_or_ge k 19 with hk | hk
    · omega
    · rw [show 19 - k = 0 from by omega] at this; omega
theorem digit_val (m : Nat) : (48 + (m : Int) % 10) = ((UInt8.ofNat (48 + m % 10)).toNat : Int) := by
  rw [UInt8.toNat_ofNat']; omega
theorem str_of_digits (ds : List UInt8) : strOfNums (ds.map fun b => (b.toNat : Int)) = ⟨ds.toArray⟩ := by
  unfold strOfNums
  congr 2
  rw [List.map_map]
  conv => rhs; rw [← List.map_id ds]
  apply List.map_congr_left
  intro b _
  simp
def isDig (c : UInt8) : Bool := decide (48 ≤ c.toNat) && decide (c.toNat ≤ 57)
/-- Digits as Show has them. -/
def digsOk (d : List UInt8) (below : Bool) : Bool := !d.isEmpty && !(d.head? == some 48 && (decide (1 < d.length) || below)) && d.all isDig
def valD (d : List UInt8) : Nat := d.foldl (fun n c => 10 * n + (c.toNat - 48)) 0
def readF (d : List UInt8) (below : Bool) : Int × Int :=
  if digsOk d below then
    if 4611686018427387904 < valD d ∨ (valD d = 4611686018427387904 ∧ below = false) then (0, 13)
    else if below then (-(valD d : Int), 0) else ((valD d : Int), 0)
  else (0, 1)
/-- A text is a sign and the rest. -/
def Splits (s d : ByteArray) (below : Bool) : Prop :=
  (below = true ∧ ∃ h : 0 < s.size, s[0] = 45 ∧ s.extract 1 s.size = d) ∨ (below = false ∧ s = d ∧ ∀ h : 0 < s.size, s[0] ≠ 45)
theorem data_get (d : ByteArray) (k : Nat) (h : k < d.size) : d.data.toList[k]? = some d[k] := by
  rw [Array.getElem?_toList, Array.getElem?_eq_getElem (by simpa using h)]; rfl
theorem take_get (d : ByteArray) (k : Nat) (h : k < d.size) : d.data.toList.take (k + 1) = d.data.toList.take k ++ [d[k]] := by
  rw [List.take_add_one, data_get d k h]; rfl
theorem toList_data (d : ByteArray) : d.toList = d.data.toList := ByteArray.toList_eq d
theorem valD_snoc (l : List UInt8) (c : UInt8) : valD (l ++ [c]) = 10 * valD l + (c.toNat - 48) := by simp [valD]
theorem ret_i {k : IntKind} {a b : Int} (h : a = b) : Ending.returned (.int k a) = .returned (.int k b) := by rw [h]
theorem ret_b {a b : Bool} (h : a = b) : Ending.returned (.bool a) = .returned (.bool b) := by rw [h]
set_option maxHeartbeats 400000 in
theorem rwrap_any (n : Int) (w : World) (h1 : -9223372036854775808 ≤ n) (h2 : n ≤ 9223372036854775807) :
    Calls Tryd.prog 21 #[.int .i64 n] w fun e w' => e = .returned (.int .i64 (cw n)) ∧ w = w' := by
  by_cases ha : 4611686018427387903 < n
  · have e := cw_up' n ha h2
    have H := Lib.hid e; clear e
    go_enter Tryd.func21, Tryd.ntmps21
    go_wp2
    go_ret
    exact ⟨ret_i H.out, rfl⟩
  · by_cases hb : n < -4611686018427387904
    · have e := cw_down n hb h1
      have H := Lib.hid e; clear e
      go_enter Tryd.func21, Tryd.ntmps21
      go_wp2
      go_ret
      exact ⟨ret_i H.out, rfl⟩
    · have e := cw_id n (by omega) (by omega)
      have H := Lib.hid e; clear e
      go_enter Tryd.func21, Tryd.ntmps21
      go_wp2
      go_ret
      exact ⟨ret_i H.out.symm, rfl⟩
/-- Is a number an integer of 63 bits? -/
def isI (n : Int) : Bool := decide (-4611686018427387904 ≤ n) && decide (n ≤ 4611686018427387903)
theorem isI_t {n : Int} (h : -4611686018427387904 ≤ n) (h' : n ≤ 4611686018427387903) : isI n = true := by simp [isI, h, h']
theorem isI_f {n : Int} (h : n < -4611686018427387904 ∨ 4611686018427387903 < n) : isI n = false := by
  simp only [isI, Bool.and_eq_false_iff, decide_eq_false_iff_not]; omega
set_option maxHeartbeats 400000 in
theorem is_any (n : Int) (w : World) :
    Calls Tryd.prog 52 #[.int .i64 n] w fun e w' => e = .returned (.bool (isI n)) ∧ w = w' := by
  by_cases h1 : -4611686018427387904 ≤ n <;> by_cases h2 : n ≤ 4611686018427387903
  · have H := Lib.hid (isI_t h1 h2)
    go_enter Tryd.func52, Tryd.ntmps52
    go_wp2
    go_ret
    exact ⟨ret_b H.out.symm, rfl⟩
  · have H := Lib.hid (isI_f (.inr (by omega : 4611686018427387903 < n)))
    go_enter Tryd.func52, Tryd.ntmps52
    go_wp2
    go_ret
    exact ⟨ret_b H.out.symm, rfl⟩
  all_goals
    have H := Lib.hid (isI_f (.inl (by omega : n < -4611686018427387904)))
    go_enter Tryd.func52, Tryd.ntmps52
    go_wp2
    go_ret
    exact ⟨ret_b H.out.symm, rfl⟩
theorem ret2_ii {k l : IntKind} {a b c d : Int} (h : a = b) (h' : c = d) : Ending.returned (.tuple #[.int k a, .int l c]) = .returned (.tuple #[.int k b, .int l d]) := by rw [h, h']
structure RShow (m0 k m : Nat) (ds : List UInt8) : Prop where
  le : m ≤ 4611686018427387904
  small : m < 10 ^ (19 - k)
  kle : k ≤ 19
  all : dg 20 m0 = (if m = 0 then [] else dg (20 - k) m) ++ ds
theorem rshow_start (m0 : Nat) (h : m0 ≤ 4611686018427387904) (h0 : m0 ≠ 0) : RShow m0 0 m0 [] :=
  ⟨h, by have : (10 : Nat) ^ (19 - 0) = 10000000000000000000 := by decide
         omega, by omega, by simp [h0]⟩
theorem rshow_next {m0 k m : Nat} {ds : List UInt8} (h : RShow m0 k m ds) (hm : m ≠ 0) : RShow m0 (k + 1) (m / 10) (UInt8.ofNat (48 + m % 10) :: ds) := by
  have hk : k ≤ 18 := by
    rcases Nat.lt_or_ge k 19 with hk | hk
    · omega
    · have := h.small
      rw [show 19 - k = 0 from by omega] at this; omega
  refine ⟨by have := h.le; omega, ?_, by omega, ?_⟩
  · have := h.small
    rw [show 19 - k = (19 - (k + 1)) + 1 from by omega, Nat.pow_succ] at this
    omega
  · rw [h.all, if_neg hm, show 20 - k = (20 - (k + 1)) + 1 from by omega, dg]
    by_cases h10 : m < 10
    · rw [if_pos h10, if_pos (by omega), show m % 10 = m from by omega]; rfl
    · rw [if_neg h10, if_neg (by omega), List.append_assoc]; rfl
theorem rshow_last {m0 k m : Nat} {ds : List UInt8} (h : RShow m0 k m ds) (hm : m = 0) : dg 20 m0 = ds := by
  rw [h.all, if_pos hm]; rfl
def RShowInv (w : World) (m0 : Nat) (sg : Int) (N s : Value) (wr : World) : Prop :=
  ∃ (k m : Nat) (S : ByteArray), N = .int .i64 (sg * (m : Int)) ∧ s = .string S ∧ RShow m0 k m S.data.toList ∧ S.size = k ∧ Below w.heap.size w wr
theorem conv_one (W : World) (c : UInt8) (v : Int) (h : v = (c.toNat : Int)) (B : Nat) (hB : B = W.heap.size) :
    (convert 34 9 (.slice (some ⟨B, 0, none⟩) 1 1)).run Tryd.prog (W.alloc (.cells #[.int .u8 v] 5)) = .ok (.string ⟨#[c]⟩) (W.alloc (.cells #[.int .u8 v] 5)) := by
  subst hB
  have hc := (Whole.made W 5 #[.int .u8 v]).cell 0
  have := run_convert_bytes_arg (W.alloc (.cells #[.int .u8 v] 5)) 34 5 Tryd.underlying34 Tryd.underlying5 W.heap.size 0 1 1 [v] rfl (fun i hi => by
    obtain rfl : i = 0 := by omega
    exact hc) 9 Tryd.underlying9
  rw [this]
  subst h
  have := str_of_digits [c]
  simp only [List.map_cons, List.map_nil] at this
  rw [this]
theorem str_ext (S : ByteArray) (l : List UInt8) (h : S.data.toList = l) : S = ⟨l.toArray⟩ := by
  subst h; cases S; simp
theorem append_toList (S T : ByteArray) : (S ++ T).data.toList = S.data.toList ++ T.data.toList := by simp
theorem ret_s {a b : ByteArray} (h : a = b) : Ending.returned (.string a) = .returned (.string b) := by rw [h]
set_option maxHeartbeats 1000000 in
theorem rshow_pos (n : Int) (w : World) (h0 : 0 < cw n) (a0 : -9223372036854775808 ≤ n) (a1 : n ≤ 9223372036854775807) :
    Calls Tryd.prog 17 #[.int .i64 n] w fun e w' => e = .returned (.string ⟨(shw (cw n)).toArray⟩) ∧ Below w.heap.size w w' := by
  have h2 := cw_hi n
  have hnb : decide (cw n < 0) = false := by simp; omega
  have hn0 : (cw n == 0) = false := by simp; omega
  go_enter Tryd.func17, Tryd.ntmps17
  go_wp2_with (first | (go_at_call 21; refine (rwrap_any _ _ (by omega) (by omega)).mono ?_; rintro e w' ⟨rfl, rfl⟩) )
  go_loopw [0, 3] (RShowInv w (cw n).natAbs (1)) (fun i _ _ => (intOf i).natAbs)
  case atStart =>
    exact ⟨0, (cw n).natAbs, _, by congr 1; omega, rfl, rshow_start _ (by omega) (by omega), rfl, Below.refl _ _⟩
  case round =>
    obtain ⟨k, m, S, rfl, rfl, hr, hl, hw⟩ := hrel
    have hS : S.size ≤ 19 := by have := hr.kle; omega
    by_cases hz : m = 0
    · rw [show 1 * (m : Int) = 0 from by omega]
      have hfin := rshow_last hr hz
      subst hz
      have H : Hid (shw (cw n) = S.data.toList) := by show shw (cw n) = _; unfold shw; rw [if_neg (by omega), hfin]
      have hz0 : ((0 : Int) != 0) = false := rfl
      clear hfin hr hl
      go_wp2
      go_ret
      exact ⟨ret_s (str_ext _ _ (by rw [H.out])), hw⟩
    · rw [Int.one_mul]
      have hle := hr.le
      have hm1 : 1 ≤ m := by omega
      have hn := rshow_next hr hz
      obtain ⟨c, hc⟩ : ∃ c, UInt8.ofNat (48 + m % 10) = c := ⟨_, rfl⟩
      clear hr
      have hz' : ((m : Int) != 0) = true := by simp; omega
      have gw := hw.alloc (hw.size) (.cells #[.int .u8 (48 + (m : Int) % 10)] 5)
      have hcv := conv_one wr c (48 + (m : Int) % 10) (by rw [← hc, ← digit_val]) _ rfl
      have H := Lib.hid hn; have Hl := Lib.hid hl; have Hc := Lib.hid hc
      clear hn hl hc hz
      go_wp2
      refine ⟨⟨k + 1, m / 10, _, ?_, rfl, ?_, ?_, gw⟩, ?_⟩
      · rw [Int.one_mul]; rfl
      · rw [append_toList]
        have := H.out
        rw [Hc.out] at this
        exact this
      · have := Hl.out
        rw [ByteArray.size_append, this]
        show 1 + k = k + 1
        omega
      · show ((m : Int) / 10).natAbs < (m : Int).natAbs; omega
set_option maxHeartbeats 1000000 in
theorem rshow_neg (n : Int) (w : World) (h0 : cw n < 0) (a0 : -9223372036854775808 ≤ n) (a1 : n ≤ 9223372036854775807) :
    Calls Tryd.prog 17 #[.int .i64 n] w fun e w' => e = .returned (.string ⟨(shw (cw n)).toArray⟩) ∧ Below w.heap.size w w' := by
  have h2 := cw_lo n
  have hnb : decide (cw n < 0) = true := by simp; omega
  have hn0 : (cw n == 0) = false := by simp; omega
  go_enter Tryd.func17, Tryd.ntmps17
  go_wp2_with (first | (go_at_call 21; refine (rwrap_any _ _ (by omega) (by omega)).mono ?_; rintro e w' ⟨rfl, rfl⟩) )
  go_loopw [0, 3] (RShowInv w (cw n).natAbs (-1)) (fun i _ _ => (intOf i).natAbs)
  case atStart =>
    exact ⟨0, (cw n).natAbs, _, by congr 1; omega, rfl, rshow_start _ (by omega) (by omega), rfl, Below.refl _ _⟩
  case round =>
    obtain ⟨k, m, S, rfl, rfl, hr, hl, hw⟩ := hrel
    have hS : S.size ≤ 19 := by have := hr.kle; omega
    by_cases hz : m = 0
    · rw [show -1 * (m : Int) = 0 from by omega]
      have hfin := rshow_last hr hz
      subst hz
      have H : Hid (shw (cw n) = 45 :: S.data.toList) := by show shw (cw n) = _; unfold shw; rw [if_pos (by omega), hfin]
      have hz0 : ((0 : Int) != 0) = false := rfl
      clear hfin hr hl
      go_wp2
      go_ret
      exact ⟨ret_s (str_ext _ _ (by rw [H.out]; rw [append_toList]; rfl)), hw⟩
    · rw [Int.neg_one_mul]
      have hle := hr.le
      have hm1 : 1 ≤ m := by omega
      have hn := rshow_next hr hz
      obtain ⟨c, hc⟩ : ∃ c, UInt8.ofNat (48 + m % 10) = c := ⟨_, rfl⟩
      clear hr
      have hz' : (-(m : Int) != 0) = true := by simp; omega
      have hmod : (-(m : Int)).tmod 10 = -((m : Int) % 10) := by rw [Int.neg_tmod, Int.tmod_eq_emod_of_nonneg (by omega)]
      have hdiv : wrap64 (-(m : Int).tdiv 10) = -((m : Int) / 10) := by rw [Int.tdiv_eq_ediv_of_nonneg (by omega)]; unfold wrap64; omega
      by_cases hp : m % 10 = 0
      · have hp' : (m : Int) % 10 = 0 := by omega
        have gw := hw.alloc (hw.size) (.cells #[.int .u8 (48)] 5)
        have hcv := conv_one wr c (48) (by rw [← hc, ← digit_val]; omega) _ rfl
        have H := Lib.hid hn; have Hl := Lib.hid hl; have Hc := Lib.hid hc
        clear hn hl hc hz
        go_wp2
        refine ⟨⟨k + 1, m / 10, _, ?_, rfl, ?_, ?_, gw⟩, ?_⟩
        · rw [Int.neg_one_mul]; rfl
        · rw [append_toList]
          have := H.out
          rw [Hc.out] at this
          exact this
        · have := Hl.out
          rw [ByteArray.size_append, this]
          show 1 + k = k + 1
          omega
        · show (-((m : Int) / 10)).natAbs < (-(m : Int)).natAbs; omega
      · have hp' : -((m : Int) % 10) < 0 := by omega
        have gw := hw.alloc (hw.size) (.cells #[.int .u8 (48 + (m : Int) % 10)] 5)
        have hcv := conv_one wr c (48 + (m : Int) % 10) (by rw [← hc, ← digit_val]) _ rfl
        have H := Lib.hid hn; have Hl := Lib.hid hl; have Hc := Lib.hid hc
        clear hn hl hc hz
        go_wp2
        refine ⟨⟨k + 1, m / 10, _, ?_, rfl, ?_, ?_, gw⟩, ?_⟩
        · rw [Int.neg_one_mul]; rfl
        · rw [append_toList]
          have := H.out
          rw [Hc.out] at this
          exact this
        · have := Hl.out
          rw [ByteArray.size_append, this]
          show 1 + k = k + 1
          omega
        · show (-((m : Int) / 10)).natAbs < (-(m : Int)).natAbs; omega
set_option maxHeartbeats 400000 in
theorem rshow_zero (n : Int) (w : World) (h0 : cw n = 0) (a0 : -9223372036854775808 ≤ n) (a1 : n ≤ 9223372036854775807) :
    Calls Tryd.prog 17 #[.int .i64 n] w fun e w' => e = .returned (.string ⟨(shw (cw n)).toArray⟩) ∧ Below w.heap.size w w' := by
  have hn0 : (cw n == 0) = true := by simp; omega
  have H : Hid (shw (cw n) = [48]) := by show shw (cw n) = _; rw [h0]; decide
  clear h0
  go_enter Tryd.func17, Tryd.ntmps17
  go_wp2_with (first | (go_at_call 21; refine (rwrap_any _ _ (by omega) (by omega)).mono ?_; rintro e w' ⟨rfl, rfl⟩) )
  go_ret
  exact ⟨by rw [H.out]; rfl, Below.refl _ _⟩
theorem rshow_any (n : Int) (w : World) (a0 : -9223372036854775808 ≤ n) (a1 : n ≤ 9223372036854775807) :
    Calls Tryd.prog 17 #[.int .i64 n] w fun e w' => e = .returned (.string ⟨(shw (cw n)).toArray⟩) ∧ Below w.heap.size w w' := by
  rcases (by omega : 0 < cw n ∨ cw n < 0 ∨ cw n = 0) with h | h | h
  · exact rshow_pos n w h a0 a1
  · exact rshow_neg n w h a0 a1
  · exact rshow_zero n w h a0 a1
theorem isDig_lo {c : UInt8} (h : isDig c = true) : 48 ≤ (c.toNat : Int) := by simp [isDig] at h; omega
theorem isDig_hi {c : UInt8} (h : isDig c = true) : (c.toNat : Int) ≤ 57 := by simp [isDig] at h; omega
theorem isDig_no {c : UInt8} (h : isDig c = false) : (c.toNat : Int) < 48 ∨ 57 < (c.toNat : Int) := by simp [isDig] at h; omega
theorem all_take {d : ByteArray} {k : Nat} (h : k < d.size) (ha : (d.data.toList.take k).all isDig = true) (hc : isDig d[k] = true) : (d.data.toList.take (k + 1)).all isDig = true := by
  rw [take_get d k h, List.all_append, ha]; simp [hc]
theorem all_end {d : ByteArray} {k : Nat} (h : ¬ k < d.size) (ha : (d.data.toList.take k).all isDig = true) : d.data.toList.all isDig = true := by
  rwa [List.take_of_length_le (by simpa using Nat.le_of_not_lt h)] at ha
theorem all_not {d : ByteArray} {k : Nat} (h : k < d.size) (hc : isDig d[k] = false) : d.data.toList.all isDig = false := by
  rw [List.all_eq_false]
  exact ⟨d[k], List.mem_of_getElem? (data_get d k h), by simp [hc]⟩
def PlainPost (d : ByteArray) (below : Bool) (w : World) (e : Ending) (w' : World) : Prop :=
  e = .returned (.tuple #[.string (if digsOk d.data.toList below then d else ⟨#[]⟩), .bool (digsOk d.data.toList below && below), .bool (digsOk d.data.toList below)]) ∧ w = w'
theorem post_no {d : ByteArray} {below : Bool} {w : World} (h : digsOk d.data.toList below = false) : PlainPost d below w (.returned (.tuple #[.string ⟨#[]⟩, .bool false, .bool false])) w := by
  unfold PlainPost; rw [h]; exact ⟨rfl, rfl⟩
theorem post_ok {d : ByteArray} {below : Bool} {w : World} (h : digsOk d.data.toList below = true) : PlainPost d below w (.returned (.tuple #[.string d, .bool below, .bool true])) w := by
  unfold PlainPost; rw [h]; exact ⟨rfl, rfl⟩
theorem head_get (d : ByteArray) (h : 0 < d.size) : d.data.toList.head? = some d[0] := by
  rw [List.head?_eq_getElem?, data_get d 0 h]
theorem ok_of {d : ByteArray} {below : Bool} (h0 : 0 < d.size) (h1 : (d[0] == 48 && (decide (1 < d.size) || below)) = false) : digsOk d.data.toList below = d.data.toList.all isDig := by
  unfold digsOk
  rw [head_get d h0]
  have e : d.data.toList.isEmpty = false := by
    cases h : d.data.toList
    · have := congrArg List.length h; rw [show d.data.toList.length = d.size from by simp] at this; rw [this] at h0; cases h0
    · rfl
  have e2 : (some d[0] == some (48 : UInt8)) = (d[0] == 48) := rfl
  rw [e, e2, show d.data.toList.length = d.size from by simp, h1]; simp
theorem no_of {d : ByteArray} {below : Bool} (h0 : 0 < d.size) (h1 : (d[0] == 48 && (decide (1 < d.size) || below)) = true) : digsOk d.data.toList below = false := by
  unfold digsOk
  rw [head_get d h0]
  have e2 : (some d[0] == some (48 : UInt8)) = (d[0] == 48) := rfl
  rw [e2, show d.data.toList.length = d.size from by simp, h1]; simp
theorem no_empty {d : ByteArray} {below : Bool} (h0 : d.size = 0) : digsOk d.data.toList below = false := by
  have : d.data.toList = [] := List.eq_nil_of_length_eq_zero (by simpa using h0)
  unfold digsOk; rw [this]; rfl
theorem emp_t {d : ByteArray} (h : d.size = 0) : d.toList = [] := by rw [toList_data]; exact List.eq_nil_of_length_eq_zero (by simpa using h)
theorem emp_f {d : ByteArray} (h : 0 < d.size) : d.toList.isEmpty = false := by
  rw [toList_data]
  cases h' : d.data.toList
  · have := congrArg List.length h'; rw [show d.data.toList.length = d.size from by simp] at this; rw [this] at h; cases h
  · rfl
theorem emp_n {d : ByteArray} (h : 0 < d.size) : ¬ d.toList = [] := by
  intro hh; have := emp_f h; rw [hh] at this; cases this
set_option maxHeartbeats 1000000 in
theorem plain_be (s d : ByteArray) (w : World) (hs : s.size ≤ maxLen) (hp : 0 < s.size) (h1 : s[0] = 45) (hd : s.extract 1 s.size = d) (hz : d.size = 0) :
    Calls Tryd.prog 51 #[.string s] w (PlainPost d true w) := by
  unfold maxLen at hs
  have k1 : ((s[0].toNat : Int) == 45) = true := by rw [h1]; rfl
  have ksz : s.size - 1 = d.size := by rw [← hd]; simp
  have ks : d.size ≤ 9223372036854775807 := by omega
  clear h1
  have no := no_empty (below := true) hz
  have ke := emp_t hz
  have HN := Lib.hid no; clear no hz
  go_enter Tryd.func51, Tryd.ntmps51
  go_wp2
  go_ret3
  exact post_no HN.out
set_option maxHeartbeats 1000000 in
theorem plain_b1 (s d : ByteArray) (w : World) (hs : s.size ≤ maxLen) (hp : 0 < s.size) (h1 : s[0] = 45) (hd : s.extract 1 s.size = d) (hz : 0 < d.size) (h2 : d[0] = 48) (h3 : 1 < d.size) :
    Calls Tryd.prog 51 #[.string s] w (PlainPost d true w) := by
  unfold maxLen at hs
  have k1 : ((s[0].toNat : Int) == 45) = true := by rw [h1]; rfl
  have ksz : s.size - 1 = d.size := by rw [← hd]; simp
  have ks : d.size ≤ 9223372036854775807 := by omega
  clear h1
  have kf := emp_f hz
  have kn := emp_n hz
  have k2 : ((d[0].toNat : Int) == 48) = true := by rw [h2]; rfl
  have HN := Lib.hid (no_of (below := true) hz (by rw [h2, decide_eq_true h3]; rfl))
  have k3 : 1 < (d.size : Int) := by omega
  clear h2
  go_enter Tryd.func51, Tryd.ntmps51
  go_wp2
  go_ret3
  exact post_no HN.out
set_option maxHeartbeats 1000000 in
theorem plain_b2 (s d : ByteArray) (w : World) (hs : s.size ≤ maxLen) (hp : 0 < s.size) (h1 : s[0] = 45) (hd : s.extract 1 s.size = d) (hz : 0 < d.size) (h2 : d[0] = 48) (h3 : d.size ≤ 1) :
    Calls Tryd.prog 51 #[.string s] w (PlainPost d true w) := by
  unfold maxLen at hs
  have k1 : ((s[0].toNat : Int) == 45) = true := by rw [h1]; rfl
  have ksz : s.size - 1 = d.size := by rw [← hd]; simp
  have ks : d.size ≤ 9223372036854775807 := by omega
  clear h1
  have kf := emp_f hz
  have kn := emp_n hz
  have k2 : ((d[0].toNat : Int) == 48) = true := by rw [h2]; rfl
  have HN := Lib.hid (no_of (below := true) hz (by rw [h2]; simp))
  have k3 : ¬ 1 < (d.size : Int) := by omega
  clear h2
  go_enter Tryd.func51, Tryd.ntmps51
  go_wp2
  go_ret3
  exact post_no HN.out
set_option maxHeartbeats 1000000 in
theorem plain_b3 (s d : ByteArray) (w : World) (hs : s.size ≤ maxLen) (hp : 0 < s.size) (h1 : s[0] = 45) (hd : s.extract 1 s.size = d) (hz : 0 < d.size) (h2 : d[0] ≠ 48) :
    Calls Tryd.prog 51 #[.string s] w (PlainPost d true w) := by
  unfold maxLen at hs
  have k1 : ((s[0].toNat : Int) == 45) = true := by rw [h1]; rfl
  have ksz : s.size - 1 = d.size := by rw [← hd]; simp
  have ks : d.size ≤ 9223372036854775807 := by omega
  clear h1
  have kf := emp_f hz
  have kn := emp_n hz
  have k2 : ((d[0].toNat : Int) == 48) = false := by
    rw [beq_eq_false_iff_ne]; intro hh
    exact h2 (UInt8.toNat.inj (by rw [show (48 : UInt8).toNat = 48 from rfl]; omega))
  have HN := Lib.hid (ok_of (below := true) hz (by rw [beq_eq_false_iff_ne.2 h2]; rfl))
  clear h2
  go_enter Tryd.func51, Tryd.ntmps51
  go_wp2
  go_loop [35] (fun i => ∃ k : Nat, k ≤ d.size ∧ i = .int .i64 k ∧ (d.data.toList.take k).all isDig = true) (fun i => d.size - (intOf i).toNat)
  case atStart => exact ⟨0, by omega, rfl, rfl⟩
  case round =>
    obtain ⟨k, hk, rfl, ha⟩ := hrel
    have HA := Lib.hid ha; clear ha
    by_cases hlt : k < d.size
    · rcases hc : isDig d[k] with _ | _
      · have HF := Lib.hid (all_not hlt hc)
        rcases isDig_no hc with h4 | h4
        · clear hc
          go_wp2
          go_ret3
          exact post_no (by rw [HN.out, HF.out])
        · have h5 : 48 ≤ (d[k].toNat : Int) := by omega
          clear hc
          go_wp2
          go_ret3
          exact post_no (by rw [HN.out, HF.out])
      · have h4 := isDig_lo hc
        have h5 := isDig_hi hc
        have HF := Lib.hid (all_take hlt HA.out hc)
        clear hc
        go_wp2
        go_round
        case rel => exact ⟨k + 1, by omega, by go_num, HF.out⟩
        case measure => simp [intOf]; omega
    · have HF := Lib.hid (all_end hlt HA.out)
      go_wp2
      go_ret3
      exact post_ok (by rw [HN.out, HF.out])
set_option maxHeartbeats 1000000 in
theorem plain_ce (d : ByteArray) (w : World) (hs : d.size ≤ maxLen) (h1 : ∀ h : 0 < d.size, d[0] ≠ 45) (hz : d.size = 0) :
    Calls Tryd.prog 51 #[.string d] w (PlainPost d false w) := by
  unfold maxLen at hs
  have no := no_empty (below := false) hz
  have ke := emp_t hz
  have kz : ¬ (0 < (d.size : Int)) := by omega
  have HN := Lib.hid no; clear no hz
  go_enter Tryd.func51, Tryd.ntmps51
  go_wp2
  go_ret3
  exact post_no HN.out
set_option maxHeartbeats 1000000 in
theorem plain_c1 (d : ByteArray) (w : World) (hs : d.size ≤ maxLen) (h1 : ∀ h : 0 < d.size, d[0] ≠ 45) (hz : 0 < d.size) (h2 : d[0] = 48) (h3 : 1 < d.size) :
    Calls Tryd.prog 51 #[.string d] w (PlainPost d false w) := by
  unfold maxLen at hs
  have k1 : ((d[0].toNat : Int) == 45) = false := by
    have := h1 hz
    rw [beq_eq_false_iff_ne]; intro hh
    exact this (UInt8.toNat.inj (by rw [show (45 : UInt8).toNat = 45 from rfl]; omega))
  clear h1
  have kf := emp_f hz
  have kn := emp_n hz
  have k2 : ((d[0].toNat : Int) == 48) = true := by rw [h2]; rfl
  have HN := Lib.hid (no_of (below := false) hz (by rw [h2, decide_eq_true h3]; rfl))
  have k3 : 1 < (d.size : Int) := by omega
  clear h2
  go_enter Tryd.func51, Tryd.ntmps51
  go_wp2
  go_ret3
  exact post_no HN.out
set_option maxHeartbeats 1000000 in
theorem plain_c2 (d : ByteArray) (w : World) (hs : d.size ≤ maxLen) (h1 : ∀ h : 0 < d.size, d[0] ≠ 45) (hz : 0 < d.size) (h2 : d[0] = 48) (h3 : d.size ≤ 1) :
    Calls Tryd.prog 51 #[.string d] w (PlainPost d false w) := by
  unfold maxLen at hs
  have k1 : ((d[0].toNat : Int) == 45) = false := by
    have := h1 hz
    rw [beq_eq_false_iff_ne]; intro hh
    exact this (UInt8.toNat.inj (by rw [show (45 : UInt8).toNat = 45 from rfl]; omega))
  clear h1
  have kf := emp_f hz
  have kn := emp_n hz
  have k2 : ((d[0].toNat : Int) == 48) = true := by rw [h2]; rfl
  have HN := Lib.hid (ok_of (below := false) hz (by rw [h2, decide_eq_false (by omega)]; rfl))
  have k3 : ¬ 1 < (d.size : Int) := by omega
  clear h2
  go_enter Tryd.func51, Tryd.ntmps51
  go_wp2
  go_loop [35] (fun i => ∃ k : Nat, k ≤ d.size ∧ i = .int .i64 k ∧ (d.data.toList.take k).all isDig = true) (fun i => d.size - (intOf i).toNat)
  case atStart => exact ⟨0, by omega, rfl, rfl⟩
  case round =>
    obtain ⟨k, hk, rfl, ha⟩ := hrel
    have HA := Lib.hid ha; clear ha
    by_cases hlt : k < d.size
    · rcases hc : isDig d[k] with _ | _
      · have HF := Lib.hid (all_not hlt hc)
        rcases isDig_no hc with h4 | h4
        · clear hc
          go_wp2
          go_ret3
          exact post_no (by rw [HN.out, HF.out])
        · have h5 : 48 ≤ (d[k].toNat : Int) := by omega
          clear hc
          go_wp2
          go_ret3
          exact post_no (by rw [HN.out, HF.out])
      · have h4 := isDig_lo hc
        have h5 := isDig_hi hc
        have HF := Lib.hid (all_take hlt HA.out hc)
        clear hc
        go_wp2
        go_round
        case rel => exact ⟨k + 1, by omega, by go_num, HF.out⟩
        case measure => simp [intOf]; omega
    · have HF := Lib.hid (all_end hlt HA.out)
      go_wp2
      go_ret3
      exact post_ok (by rw [HN.out, HF.out])
set_option maxHeartbeats 1000000 in
theorem plain_c3 (d : ByteArray) (w : World) (hs : d.size ≤ maxLen) (h1 : ∀ h : 0 < d.size, d[0] ≠ 45) (hz : 0 < d.size) (h2 : d[0] ≠ 48) :
    Calls Tryd.prog 51 #[.string d] w (PlainPost d false w) := by
  unfold maxLen at hs
  have k1 : ((d[0].toNat : Int) == 45) = false := by
    have := h1 hz
    rw [beq_eq_false_iff_ne]; intro hh
    exact this (UInt8.toNat.inj (by rw [show (45 : UInt8).toNat = 45 from rfl]; omega))
  clear h1
  have kf := emp_f hz
  have kn := emp_n hz
  have k2 : ((d[0].toNat : Int) == 48) = false := by
    rw [beq_eq_false_iff_ne]; intro hh
    exact h2 (UInt8.toNat.inj (by rw [show (48 : UInt8).toNat = 48 from rfl]; omega))
  have HN := Lib.hid (ok_of (below := false) hz (by rw [beq_eq_false_iff_ne.2 h2]; rfl))
  clear h2
  go_enter Tryd.func51, Tryd.ntmps51
  go_wp2
  go_loop [35] (fun i => ∃ k : Nat, k ≤ d.size ∧ i = .int .i64 k ∧ (d.data.toList.take k).all isDig = true) (fun i => d.size - (intOf i).toNat)
  case atStart => exact ⟨0, by omega, rfl, rfl⟩
  case round =>
    obtain ⟨k, hk, rfl, ha⟩ := hrel
    have HA := Lib.hid ha; clear ha
    by_cases hlt : k < d.size
    · rcases hc : isDig d[k] with _ | _
      · have HF := Lib.hid (all_not hlt hc)
        rcases isDig_no hc with h4 | h4
        · clear hc
          go_wp2
          go_ret3
          exact post_no (by rw [HN.out, HF.out])
        · have h5 : 48 ≤ (d[k].toNat : Int) := by omega
          clear hc
          go_wp2
          go_ret3
          exact post_no (by rw [HN.out, HF.out])
      · have h4 := isDig_lo hc
        have h5 := isDig_hi hc
        have HF := Lib.hid (all_take hlt HA.out hc)
        clear hc
        go_wp2
        go_round
        case rel => exact ⟨k + 1, by omega, by go_num, HF.out⟩
        case measure => simp [intOf]; omega
    · have HF := Lib.hid (all_end hlt HA.out)
      go_wp2
      go_ret3
      exact post_ok (by rw [HN.out, HF.out])
theorem plain_any (s d : ByteArray) (below : Bool) (w : World) (hs : s.size ≤ maxLen) (h : Splits s d below) :
    Calls Tryd.prog 51 #[.string s] w (PlainPost d below w) := by
  rcases h with ⟨rfl, hp, h1, hd⟩ | ⟨rfl, rfl, h1⟩
  · by_cases hz : d.size = 0
    · exact plain_be s d w hs hp h1 hd hz
    · by_cases h2 : d[0] = 48
      · by_cases h3 : 1 < d.size
        · exact plain_b1 s d w hs hp h1 hd (by omega) h2 h3
        · exact plain_b2 s d w hs hp h1 hd (by omega) h2 (by omega)
      · exact plain_b3 s d w hs hp h1 hd (by omega) h2
  · by_cases hz : s.size = 0
    · exact plain_ce s w hs h1 hz
    · by_cases h2 : s[0] = 48
      · by_cases h3 : 1 < s.size
        · exact plain_c1 s w hs h1 (by omega) h2 h3
        · exact plain_c2 s w hs h1 (by omega) h2 (by omega)
      · exact plain_c3 s w hs h1 (by omega) h2
theorem valD_foldl (l : List UInt8) : ∀ n : Nat, n ≤ l.foldl (fun n c => 10 * n + (c.toNat - 48)) n := by
  induction l with
  | nil => intro n; exact Nat.le_refl n
  | cons c l ih => intro n; exact Nat.le_trans (by omega) (ih (10 * n + (c.toNat - 48)))
theorem valD_mono (a b : List UInt8) : valD a ≤ valD (a ++ b) := by
  unfold valD; rw [List.foldl_append]; exact valD_foldl b _
theorem valD_take (d : ByteArray) (k : Nat) : valD (d.data.toList.take k) ≤ valD d.data.toList := by
  have := valD_mono (d.data.toList.take k) (d.data.toList.drop k)
  rwa [List.take_append_drop] at this
theorem valD_step (d : ByteArray) (k : Nat) (h : k < d.size) : valD (d.data.toList.take (k + 1)) = 10 * valD (d.data.toList.take k) + (d[k].toNat - 48) := by
  rw [take_get d k h, valD_snoc]
theorem dig_at {d : ByteArray} (h : d.data.toList.all isDig = true) (k : Nat) (hk : k < d.size) : isDig d[k] = true := by
  rw [List.all_eq_true] at h
  exact h _ (List.mem_of_getElem? (data_get d k hk))
theorem ok_all {d : List UInt8} {b : Bool} (h : digsOk d b = true) : d.all isDig = true := by
  unfold digsOk at h; simp only [Bool.and_eq_true] at h; exact h.2
theorem readF_no {d : List UInt8} {b : Bool} (h : digsOk d b = false) : readF d b = (0, 1) := by unfold readF; rw [h]; rfl
theorem readF_far {d : List UInt8} {b : Bool} (h : digsOk d b = true) (hv : 4611686018427387904 < valD d ∨ (valD d = 4611686018427387904 ∧ b = false)) : readF d b = (0, 13) := by
  unfold readF; rw [h, if_pos rfl, if_pos hv]
theorem readF_neg {d : List UInt8} (h : digsOk d true = true) (hv : valD d ≤ 4611686018427387904) : readF d true = (-(valD d : Int), 0) := by
  unfold readF; rw [h, if_pos rfl, if_neg (by simp; omega)]; rfl
theorem readF_pos {d : List UInt8} (h : digsOk d false = true) (hv : valD d < 4611686018427387904) : readF d false = ((valD d : Int), 0) := by
  unfold readF; rw [h, if_pos rfl, if_neg (by omega)]; rfl
theorem tdiv_down (x : Int) (h0 : 0 ≤ x) (h1 : x ≤ 9) : (-4611686018427387904 + x).tdiv 10 = -((4611686018427387904 - x) / 10) := by
  rw [show -4611686018427387904 + x = -(4611686018427387904 - x) from by omega, Int.neg_tdiv, Int.tdiv_eq_ediv_of_nonneg (by omega)]
set_option maxHeartbeats 1000000 in
theorem read_neg (s d : ByteArray) (w : World) (hs : s.size ≤ maxLen) (hsp : Splits s d true) (hd : d.size ≤ maxLen) (ok : digsOk d.data.toList true = true) :
    Calls Tryd.prog 40 #[.string s] w fun e w' => e = .returned (.tuple #[.int .i64 (readF d.data.toList true).1, .int .i64 (readF d.data.toList true).2]) ∧ w = w' := by
  have hp := plain_any s d true w hs hsp
  unfold PlainPost at hp
  rw [ok] at hp
  simp only [if_true, Bool.true_and] at hp
  have HP := Lib.hid hp; clear hp
  have HK := Lib.hid ok; clear ok
  unfold maxLen at hd
  clear hs hsp
  go_enter Tryd.func40, Tryd.ntmps40
  go_wp2_with fail
  refine HP.out.mono ?_
  rintro e w' ⟨rfl, rfl⟩
  clear HP
  go_wp2_with fail
  go_loop [7, 20] (fun n i => ∃ k : Nat, k ≤ d.size ∧ i = .int .i64 k ∧ n = .int .i64 (-(valD (d.data.toList.take k) : Int)) ∧ valD (d.data.toList.take k) ≤ 4611686018427387904) (fun _ i => d.size - (intOf i).toNat)
  case atStart => exact ⟨0, by omega, rfl, rfl, by simp [valD]⟩
  case round =>
    obtain ⟨k, hk, rfl, rfl, hv⟩ := hrel
    by_cases hlt : k < d.size
    · have hc := dig_at (ok_all HK.out) k hlt
      have c0 := isDig_lo hc
      have c1 := isDig_hi hc
      have hst := Lib.hid (valD_step d k hlt)
      have htk := Lib.hid (valD_take d (k + 1))
      generalize valD (d.data.toList.take k) = V at *
      have hq := tdiv_down ((d[k].toNat : Int) - 48) (by omega) (by omega)
      clear hc
      by_cases hbig : 4611686018427387904 < 10 * V + (d[k].toNat - 48)
      · have ht : decide (-(V : Int) < (-4611686018427387904 + ((d[k].toNat : Int) - 48)).tdiv 10) = true := by rw [decide_eq_true_eq, hq]; omega
        have HF := Lib.hid (readF_far HK.out (.inl (by have := hst.out; have := htk.out; omega)))
        clear hq hbig
        go_wp2_with fail
        go_ret2
        exact ⟨ret2_ii (by rw [HF.out]) (by rw [HF.out]), rfl⟩
      · have ht : decide (-(V : Int) < (-4611686018427387904 + ((d[k].toNat : Int) - 48)).tdiv 10) = false := by rw [decide_eq_false_iff_not, hq]; omega
        have hb10 : (10 * V : Int) ≤ 4611686018427387904 := by omega
        clear hq
        go_wp2_with fail
        go_round
        case rel => exact ⟨k + 1, by omega, by go_num, by rw [hst.out]; congr 1; omega, by rw [hst.out]; omega⟩
        case measure => simp [intOf]; omega
    · have e : k = d.size := by omega
      subst e
      have hall : d.data.toList.take d.size = d.data.toList := List.take_of_length_le (by simp)
      rw [hall] at hv ⊢
      have HF := Lib.hid (readF_neg HK.out hv)
      generalize valD d.data.toList = V at *
      have hi := isI_t (n := -(V : Int)) (by omega) (by omega)
      clear hall
      go_wp2_with (go_at_call 52; refine (is_any _ _).mono ?_; rintro e w' ⟨rfl, rfl⟩)
      go_ret2
      exact ⟨ret2_ii (by rw [HF.out]) (by rw [HF.out]), rfl⟩
set_option maxHeartbeats 1000000 in
theorem read_pos (s d : ByteArray) (w : World) (hs : s.size ≤ maxLen) (hsp : Splits s d false) (hd : d.size ≤ maxLen) (ok : digsOk d.data.toList false = true) :
    Calls Tryd.prog 40 #[.string s] w fun e w' => e = .returned (.tuple #[.int .i64 (readF d.data.toList false).1, .int .i64 (readF d.data.toList false).2]) ∧ w = w' := by
  have hp := plain_any s d false w hs hsp
  unfold PlainPost at hp
  rw [ok] at hp
  simp only [if_true, Bool.true_and] at hp
  have HP := Lib.hid hp; clear hp
  have HK := Lib.hid ok; clear ok
  unfold maxLen at hd
  clear hs hsp
  go_enter Tryd.func40, Tryd.ntmps40
  go_wp2_with fail
  refine HP.out.mono ?_
  rintro e w' ⟨rfl, rfl⟩
  clear HP
  go_wp2_with fail
  go_loop [7, 20] (fun n i => ∃ k : Nat, k ≤ d.size ∧ i = .int .i64 k ∧ n = .int .i64 (-(valD (d.data.toList.take k) : Int)) ∧ valD (d.data.toList.take k) ≤ 4611686018427387904) (fun _ i => d.size - (intOf i).toNat)
  case atStart => exact ⟨0, by omega, rfl, rfl, by simp [valD]⟩
  case round =>
    obtain ⟨k, hk, rfl, rfl, hv⟩ := hrel
    by_cases hlt : k < d.size
    · have hc := dig_at (ok_all HK.out) k hlt
      have c0 := isDig_lo hc
      have c1 := isDig_hi hc
      have hst := Lib.hid (valD_step d k hlt)
      have htk := Lib.hid (valD_take d (k + 1))
      generalize valD (d.data.toList.take k) = V at *
      have hq := tdiv_down ((d[k].toNat : Int) - 48) (by omega) (by omega)
      clear hc
      by_cases hbig : 4611686018427387904 < 10 * V + (d[k].toNat - 48)
      · have ht : decide (-(V : Int) < (-4611686018427387904 + ((d[k].toNat : Int) - 48)).tdiv 10) = true := by rw [decide_eq_true_eq, hq]; omega
        have HF := Lib.hid (readF_far HK.out (.inl (by have := hst.out; have := htk.out; omega)))
        clear hq hbig
        go_wp2_with fail
        go_ret2
        exact ⟨ret2_ii (by rw [HF.out]) (by rw [HF.out]), rfl⟩
      · have ht : decide (-(V : Int) < (-4611686018427387904 + ((d[k].toNat : Int) - 48)).tdiv 10) = false := by rw [decide_eq_false_iff_not, hq]; omega
        have hb10 : (10 * V : Int) ≤ 4611686018427387904 := by omega
        clear hq
        go_wp2_with fail
        go_round
        case rel => exact ⟨k + 1, by omega, by go_num, by rw [hst.out]; congr 1; omega, by rw [hst.out]; omega⟩
        case measure => simp [intOf]; omega
    · have e : k = d.size := by omega
      subst e
      have hall : d.data.toList.take d.size = d.data.toList := List.take_of_length_le (by simp)
      rw [hall] at hv ⊢
      have hnn : wrap64 (- -(valD d.data.toList : Int)) = (valD d.data.toList : Int) := by unfold wrap64; omega
      by_cases hbig : valD d.data.toList = 4611686018427387904
      · have HF := Lib.hid (readF_far HK.out (.inr ⟨hbig, rfl⟩))
        have hi := isI_f (n := (valD d.data.toList : Int)) (by omega)
        have HB := Lib.hid hbig
        clear hall hbig
        generalize valD d.data.toList = V at *
        go_wp2_with (go_at_call 52; refine (is_any _ _).mono ?_; rintro e w' ⟨rfl, rfl⟩)
        go_ret2
        exact ⟨ret2_ii (by rw [HF.out]) (by rw [HF.out]), rfl⟩
      · have HF := Lib.hid (readF_pos HK.out (by omega))
        have hi := isI_t (n := (valD d.data.toList : Int)) (by omega) (by omega)
        clear hall hbig
        generalize valD d.data.toList = V at *
        go_wp2_with (go_at_call 52; refine (is_any _ _).mono ?_; rintro e w' ⟨rfl, rfl⟩)
        go_ret2
        exact ⟨ret2_ii (by rw [HF.out]) (by rw [HF.out]), rfl⟩
set_option maxHeartbeats 1000000 in
theorem read_no (s d : ByteArray) (w : World) (below : Bool) (hs : s.size ≤ maxLen) (hsp : Splits s d below) (ok : digsOk d.data.toList below = false) :
    Calls Tryd.prog 40 #[.string s] w fun e w' => e = .returned (.tuple #[.int .i64 (readF d.data.toList below).1, .int .i64 (readF d.data.toList below).2]) ∧ w = w' := by
  have hp := plain_any s d below w hs hsp
  unfold PlainPost at hp
  rw [ok] at hp
  simp only [Bool.false_and] at hp
  have HP := Lib.hid hp; clear hp
  have HF := Lib.hid (readF_no ok); clear ok
  clear hs hsp
  go_enter Tryd.func40, Tryd.ntmps40
  go_wp2_with fail
  refine HP.out.mono ?_
  rintro e w' ⟨rfl, rfl⟩
  clear HP
  go_wp2_with fail
  go_ret2
  exact ⟨ret2_ii (by rw [HF.out]) (by rw [HF.out]), rfl⟩
theorem splits_size {s d : ByteArray} {b : Bool} (h : Splits s d b) : d.size ≤ s.size := by
  rcases h with ⟨_, hp, _, hd⟩ | ⟨_, rfl, _⟩
  · rw [← hd]; simp
  · exact Nat.le_refl _
theorem read_any (s d : ByteArray) (w : World) (below : Bool) (hs : s.size ≤ maxLen) (hsp : Splits s d below) :
    Calls Tryd.prog 40 #[.string s] w fun e w' => e = .returned (.tuple #[.int .i64 (readF d.data.toList below).1, .int .i64 (readF d.data.toList below).2]) ∧ w = w' := by
  have hd := Nat.le_trans (splits_size hsp) hs
  rcases h : digsOk d.data.toList below with _ | _
  · exact read_no s d w below hs hsp h
  · cases below
    · exact read_pos s d w hs hsp hd h
    · exact read_neg s d w hs hsp hd h
end Go.Proofs.YtmjjjnmfkdidgaaDoor.I
