/- The walks of layer 4: the next token. -/
import Derived.Test.YtmjjjnmfkdidgaaDoorWalkI
namespace Go.Proofs.YtmjjjnmfkdidgaaDoor
open Go.RowKit
set_option linter.unusedVariables false
attribute [local go_sem ↓] Go.wp_at_zero Go.wp_at_succ

def tkV (kd : Int) (tx : ByteArray) (nm : Int) (a : Nat) : Value := .agg #[.int .i64 kd, .string tx, .int .i64 nm, .int .i64 (a : Int)]
/-- What the next token is told to be. -/
def NextAt (R : Nat) (s : ByteArray) (j B : Nat) (r : TokR) (w : World) (e : Ending) (w' : World) : Prop :=
  ∃ kd nm : Int, ∃ tx : ByteArray, ∃ n : Nat, e = .returned (.tuple #[tkV kd tx nm j, .int .i64 r.e]) ∧ RdAt w' R s (j + n) ∧ But R B w w' ∧
    (r.e = 0 → kd = r.kind ∧ tx = ⟨r.text.toArray⟩ ∧ nm = r.num ∧ n = r.n)
/-- What a reader of tokens leaves. -/
def Reads (R T : Nat) (s : ByteArray) (j B : Nat) (r : TokR) (w : World) (e : Ending) (w' : World) : Prop :=
  ∃ kd nm : Int, ∃ tx : ByteArray, ∃ n : Nat, e = .returned (.int .i64 r.e) ∧ RdAt w' R s (j + n) ∧ Two R T B w w' ∧ TkAt w' T kd tx nm j ∧
    (r.e = 0 → kd = r.kind ∧ tx = ⟨r.text.toArray⟩ ∧ nm = r.num ∧ n = r.n)
theorem tok_num (c : UInt8) (r : List UInt8) (h : digB c = true) : tokF (c :: r) = if 4611686018427387903 < valT ((c :: r).takeWhile digB) then ⟨0, [], 0, 0, 13⟩ else ⟨1, [], valT ((c :: r).takeWhile digB), ((c :: r).takeWhile digB).length, 0⟩ := by
  unfold tokF; dsimp only; rw [if_pos h]
theorem tok_text (r : List UInt8) : tokF (34 :: r) = ⟨2, (S.unqF (34 :: r)).1, 0, (S.unqF (34 :: r)).2.1, (S.unqF (34 :: r)).2.2⟩ := by
  unfold tokF; dsimp only; rw [if_neg (by decide), if_pos rfl]
theorem tok_name (c : UInt8) (r : List UInt8) (h1 : digB c = false) (h2 : c ≠ 34) (h : (smaB c || larB c) = true) : tokF (c :: r) = if 16 < ((c :: r).takeWhile innB).length then ⟨0, [], 0, 0, 12⟩
       else ⟨nameK c ((c :: r).takeWhile innB), (c :: r).takeWhile innB, 0, ((c :: r).takeWhile innB).length, 0⟩ := by
  show (if _ then _ else if _ then _ else if _ then _ else _) = _; rw [if_neg (by rw [h1]; decide), if_neg h2, if_pos h]; rfl
theorem tok_sign (c : UInt8) (r : List UInt8) (h1 : digB c = false) (h2 : c ≠ 34) (h3 : (smaB c || larB c) = false) (h : signL.contains c = true) : tokF (c :: r) = if arrB (c :: r) = true then ⟨5, [45, 62], 0, 2, 0⟩ else ⟨5, [c], 0, 1, 0⟩ := by
  show (if _ then _ else if _ then _ else if _ then _ else if _ then _ else if _ then _ else _) = _
  rw [if_neg (by rw [h1]; decide), if_neg h2, if_neg (by rw [h3]; decide), if_pos h]
  have e : (c = 45 ∧ r.head? = some 62) ↔ arrB (c :: r) = true := by
    unfold arrB
    cases r with
    | nil => simp
    | cons d r => simp
  by_cases ha : arrB (c :: r) = true
  · rw [if_pos (e.2 ha), if_pos ha]
  · rw [if_neg (fun h => ha (e.1 h)), if_neg ha]
theorem tok_odd (c : UInt8) (r : List UInt8) (h1 : digB c = false) (h2 : c ≠ 34) (h3 : (smaB c || larB c) = false) (h : signL.contains c = false) : tokF (c :: r) = ⟨0, [], 0, 0, 10⟩ := by
  show (if _ then _ else if _ then _ else if _ then _ else if _ then _ else if _ then _ else _) = _
  rw [if_neg (by rw [h1]; decide), if_neg h2, if_neg (by rw [h3]; decide), if_neg, if_neg (by rw [h]; decide)]
  rintro ⟨rfl, _⟩
  exact absurd h (by decide)
theorem ba_list (t : ByteArray) : t = ⟨t.data.toList.toArray⟩ := ba_ext rfl
theorem gap_le : ∀ (f : Nat) (l : List UInt8), gapF f l ≤ l.length
  | 0, _ => Nat.zero_le _
  | f + 1, [] => Nat.le_refl _
  | f + 1, c :: r => by
    unfold gapF
    dsimp only
    split
    · have := gap_le f r; simp only [List.length_cons]; omega
    split
    · have h1 := gap_le f ((c :: r).drop ((c :: r).takeWhile (· ≠ 10)).length)
      have h2 := (List.takeWhile_sublist (· ≠ (10 : UInt8)) (l := c :: r)).length_le
      rw [List.length_drop] at h1
      omega
    · exact Nat.zero_le _
theorem Two.but {R T B b : Nat} {w w' : World} (h : Two R T B w w') (hT : b ≤ T) (hB : b ≤ B) : But R b w w' := ⟨h.os, h.tape, h.output, h.size, fun g h1 h2 => h.block g (by omega) h2 (by omega)⟩
theorem Two.whole {R T B : Nat} {w w' : World} (h : Two R T B w w') {g : Nat} {t : TypeId} {cs : Array Value} (hw : Whole w g t cs) (hg : g < B) (hn : g ≠ R) (hm : g ≠ T) : Whole w' g t cs := (h.block g hg hn hm).trans hw
section
variable (w : World) (R T : Nat) (s : ByteArray) (j : Nat) (c : UInt8) (hR : RdAt w R s j) (hT : TkAt w T 0 ⟨#[]⟩ 0 j) (hi : j < s.size) (hs : s.size ≤ 10000) (hc : s[j] = c)
include hR hT hi hs hc
theorem reads_num (h : digB c = true) : Calls Tryd.prog 25 #[.pointer (some ⟨R, 0, none⟩), .pointer (some ⟨T, 0, none⟩)] w fun e w' => Reads R T s j w.heap.size (tokF (s.data.toList.drop j)) w e w' := by
  refine (number_any w R T s j 0 0 ⟨#[]⟩ j hR hT (Nat.le_of_lt hi) hs).mono ?_
  rintro e w' ⟨h1, h2, h3⟩
  have he : tokF (s.data.toList.drop j) = if 4611686018427387903 < numAt s j then ⟨0, [], 0, 0, 13⟩ else ⟨1, [], numAt s j, runN digB s j, 0⟩ := by
    have := drop_cons s j hi
    unfold numAt runN
    rw [this, hc]; exact tok_num c _ h
  rw [he]
  rcases h3 with ⟨h3, rfl, h4⟩ | ⟨h3, rfl, h4⟩
  · rw [if_pos h3]; exact ⟨_, _, _, _, rfl, h1, h2, h4, fun h => absurd h (by decide)⟩
  · rw [if_neg (by omega)]; exact ⟨_, _, _, _, rfl, h1, h2, h4, fun _ => ⟨rfl, rfl, rfl, rfl⟩⟩
theorem reads_text (h : c = 34) (hq : s.size - j ≤ 1000) : Calls Tryd.prog 26 #[.pointer (some ⟨R, 0, none⟩), .pointer (some ⟨T, 0, none⟩)] w fun e w' => Reads R T s j w.heap.size (tokF (s.data.toList.drop j)) w e w' := by
  refine (text_any w R T s j 0 0 ⟨#[]⟩ j hR hT (Nat.le_of_lt hi) hs hq).mono ?_
  rintro e w' ⟨rfl, h1, h2, h3⟩
  have he : tokF (s.data.toList.drop j) = ⟨2, (S.unqF (s.data.toList.drop j)).1, 0, (S.unqF (s.data.toList.drop j)).2.1, (S.unqF (s.data.toList.drop j)).2.2⟩ := by
    rw [drop_cons s j hi, hc, h]; exact tok_text _
  rw [he]
  exact ⟨_, _, _, _, rfl, h1, h2, h3, fun _ => ⟨rfl, rfl, rfl, rfl⟩⟩
theorem reads_name (m : Int) (hm : w.cell? ⟨0, 0, none⟩ = some (.int .i64 m)) (hT0 : T ≠ 0) (h0 : digB c = false) (h34 : c ≠ 34) (h : (smaB c || larB c) = true) : Calls Tryd.prog 29 #[.pointer (some ⟨R, 0, none⟩), .pointer (some ⟨T, 0, none⟩)] w fun e w' => Reads R T s j w.heap.size (tokF (s.data.toList.drop j)) w e w' := by
  have hd := drop_cons s j hi
  refine (name_any w R T s j 0 0 ⟨#[]⟩ j m c hR hT (Nat.le_of_lt hi) hs hm hT0 (by rw [hd, hc, List.head?_cons]) (by unfold innB; rw [h]; rfl)).mono ?_
  rintro e w' ⟨h1, h2, h3⟩
  have he : tokF (s.data.toList.drop j) = if 16 < runN innB s j then ⟨0, [], 0, 0, 12⟩ else ⟨nameK c ((s.data.toList.drop j).takeWhile innB), (s.data.toList.drop j).takeWhile innB, 0, runN innB s j, 0⟩ := by
    unfold runN
    rw [hd, hc]; exact tok_name c _ h0 h34 h
  rw [he]
  rcases h3 with ⟨h3, rfl, h4⟩ | ⟨h3, rfl, h4⟩
  · rw [if_pos h3]; exact ⟨_, _, _, _, rfl, h1, h2, h4, fun h => absurd h (by decide)⟩
  · rw [if_neg (by omega)]; exact ⟨_, _, _, _, rfl, h1, h2, h4, fun _ => ⟨rfl, by rw [← run_list], rfl, rfl⟩⟩
theorem reads_sign (h0 : digB c = false) (h34 : c ≠ 34) (h3 : (smaB c || larB c) = false) (h : signL.contains c = true) : Calls Tryd.prog 31 #[.pointer (some ⟨R, 0, none⟩), .pointer (some ⟨T, 0, none⟩)] w fun e w' => Reads R T s j w.heap.size (tokF (s.data.toList.drop j)) w e w' := by
  have hd := drop_cons s j hi
  refine (sign_any w R T s j 0 0 ⟨#[]⟩ j hR hT hi hs).mono ?_
  rintro e w' ⟨rfl, h1, h2, h3'⟩
  have he : tokF (s.data.toList.drop j) = ⟨5, (s.extract j (j + sgnN s j)).data.toList, 0, sgnN s j, 0⟩ := by
    have hx : (s.extract j (j + sgnN s j)).data.toList = (s.data.toList.drop j).take (sgnN s j) := by
      rw [ByteArray.data_extract, Array.toList_extract]; simp [List.take_drop]
    rw [hx]
    unfold sgnN
    rw [hd, hc, tok_sign c _ h0 h34 h3 h]
    split
    · rename_i ha
      unfold arrB at ha
      rw [beq_iff_eq.1 ha]
    · rfl
  rw [he]
  exact ⟨_, _, _, _, rfl, h1, h2, h3', fun _ => ⟨rfl, ba_list _, rfl, rfl⟩⟩
theorem reads_odd (h0 : digB c = false) (h34 : c ≠ 34) (h3 : (smaB c || larB c) = false) (h : signL.contains c = false) : Calls Tryd.prog 23 #[.pointer (some ⟨R, 0, none⟩), .pointer (some ⟨T, 0, none⟩)] w fun e w' => Reads R T s j w.heap.size (tokF (s.data.toList.drop j)) w e w' := by
  have _ := hs
  refine (odd_any _ _ w).mono ?_
  rintro e w' ⟨rfl, rfl⟩
  rw [drop_cons s j hi, hc, tok_odd c _ h0 h34 h3 h]
  exact ⟨_, _, _, 0, rfl, hR, .of_but (But.refl _ _ _), hT, fun h => absurd h (by decide)⟩
end
set_option maxRecDepth 100000 in
set_option maxHeartbeats 4000000 in
theorem next_any (w : World) (R : Nat) (s : ByteArray) (i j : Nat) (m : Int) (hj : j = i + gapL (s.data.toList.drop i)) (hR : RdAt w R s i) (hi : i ≤ s.size) (hs : s.size ≤ 10000)
    (hm : w.cell? ⟨0, 0, none⟩ = some (.int .i64 m)) (hq : (s.data.toList.drop j).head? = some 34 → s.size - j ≤ 1000) :
    Calls Tryd.prog 18 #[.pointer (some ⟨R, 0, none⟩)] w fun e w' => NextAt R s j w.heap.size (tokF (s.data.toList.drop j)) w e w' := by
  obtain ⟨r, hr0⟩ : ∃ r, tokF (s.data.toList.drop j) = r := ⟨_, rfl⟩
  rw [hr0]
  have HR0 := Lib.hid hr0
  clear hr0
  have HR : Hid (RdAt w R s i) := hR
  have CS : Hid (∀ wx, RdAt wx R s i → Calls Tryd.prog 22 #[.pointer (some ⟨R, 0, none⟩)] wx fun e w' => e = .returned (.tuple #[]) ∧ RdAt w' R s j ∧ But R wx.heap.size wx w') := fun wx h => by
    rw [hj]; exact skip_any wx R s i h hi hs
  have hjl : j ≤ s.size := by
    have h := gap_le (s.data.toList.drop i).length (s.data.toList.drop i)
    rw [List.length_drop, size_list] at h
    unfold gapL at hj
    rw [List.length_drop, size_list] at hj
    omega
  have HM : Hid (w.cell? ⟨0, 0, none⟩ = some (.int .i64 m)) := hm
  have HQ := Lib.hid hq
  clear hR hj hm hq
  go_enter Tryd.func18, Tryd.ntmps18
  go_upto_region 3 with (go_at_call 22; refine (CS.out _ (Whole.alloc (show Whole w R 40 _ from HR.out) _)).mono ?_; rintro e w1 ⟨rfl, hr1, hb1⟩; have HR1 := Lib.hid hr1; have HB1 := Lib.hid hb1; clear hr1 hb1; have r1 : w1.cell? ⟨R, 1, none⟩ = some (.int .i64 (j : Int)) := (show Whole w1 R 40 _ from HR1.out).cell 1)
  have HN : Hid (RdAt (w1.alloc (Obj.cells #[.int .i64 0, .string ⟨#[]⟩, .int .i64 0, .int .i64 (j : Int)] 32)) R s j) := Whole.alloc (show Whole w1 R 40 _ from HR1.out) _
  have HT : Hid (TkAt (w1.alloc (Obj.cells #[.int .i64 0, .string ⟨#[]⟩, .int .i64 0, .int .i64 (j : Int)] 32)) w1.heap.size 0 ⟨#[]⟩ 0 j) := Whole.made _ _ _
  have HZ : Hid (Whole (w1.alloc (Obj.cells #[.int .i64 0, .string ⟨#[]⟩, .int .i64 0, .int .i64 (j : Int)] 32)) w.heap.size 32 #[.int .i64 0, .string ⟨#[]⟩, .int .i64 0, .int .i64 0]) := by
    refine Whole.alloc ?_ _
    refine HB1.out.whole (Whole.made w 32 _) (by simp) ?_
    have := (show Whole w R 40 _ from HR.out).lt
    omega
  have HB : Hid (But R w.heap.size w (w1.alloc (Obj.cells #[.int .i64 0, .string ⟨#[]⟩, .int .i64 0, .int .i64 (j : Int)] 32))) := by
    have h := HB1.out.mono (b := w.heap.size) (by simp)
    exact (((But.refl R w.heap.size w).alloc (Nat.le_refl _) _).trans h).alloc (by have := h.size; simp at this; omega) _
  have HS : Hid (R < w.heap.size ∧ w.heap.size < w1.heap.size ∧ R ≠ 0) := by
    refine ⟨(show Whole w R 40 _ from HR.out).lt, by have := HB1.out.size; simp at this; omega, ?_⟩
    rintro rfl
    have := (show Whole w 0 40 _ from HR.out).cell 0
    rw [HM.out] at this
    simp at this
  have HM2 : Hid ((w1.alloc (Obj.cells #[.int .i64 0, .string ⟨#[]⟩, .int .i64 0, .int .i64 (j : Int)] 32)).cell? ⟨0, 0, none⟩ = some (.int .i64 m)) := by
    refine Eq.trans ?_ HM.out
    exact (HB.out.below (b := 1) (by have := HS.out.1; omega) (by have := HS.out.2.2; omega)).cell (p := ⟨0, 0, none⟩) Nat.zero_lt_one
  clear r1 HR1 HB1 CS
  generalize w1.alloc (Obj.cells #[.int .i64 0, .string ⟨#[]⟩, .int .i64 0, .int .i64 (j : Int)] 32) = w2 at *
  generalize w1.heap.size = T at *
  clear w1
  have HL : Hid (w2.heap.size > w.heap.size) := (HZ.out.lt : _ < _)
  have HL : Hid (w2.heap.size > w.heap.size) := (HZ.out.lt : _ < _)
  have HL : Hid (w2.heap.size > w.heap.size) := (HZ.out.lt : _ < _)
  have HL : Hid (w2.heap.size > w.heap.size) := (HZ.out.lt : _ < _)
  have r0 : w2.cell? ⟨R, 0, none⟩ = some (.string s) := (show Whole w2 R 40 _ from HN.out).cell 0
  have r1 : w2.cell? ⟨R, 1, none⟩ = some (.int .i64 (j : Int)) := (show Whole w2 R 40 _ from HN.out).cell 1
  by_cases hlt : j < s.size
  · have d1 : ((j : Int) == (s.size : Int)) = false := beq_eq_false_iff_ne.2 (by omega)
    have d1n : (j == s.size) = false := beq_eq_false_iff_ne.2 (by omega)
    have i1 : (0 : Int) ≤ (j : Int) := by omega
    have i2 : (j : Int) < (s.size : Int) := by omega
    have CD : Hid (∀ wx : World, Calls Tryd.prog 24 #[.int .u8 (s[j].toNat : Int)] wx fun e w' => e = .returned (.bool (digB s[j])) ∧ wx = w') := fun wx => digit_any _ wx
    have CM : Hid (∀ wx : World, Calls Tryd.prog 27 #[.int .u8 (s[j].toNat : Int)] wx fun e w' => e = .returned (.bool (smaB s[j])) ∧ wx = w') := fun wx => small_any _ wx
    have CG : Hid (∀ wx : World, Calls Tryd.prog 28 #[.int .u8 (s[j].toNat : Int)] wx fun e w' => e = .returned (.bool (larB s[j])) ∧ wx = w') := fun wx => large_any _ wx
    have CI : Hid (∀ wx : World, Calls Tryd.prog 30 #[.string ⟨#[61, 60, 43, 45, 42, 47, 37, 94, 59, 124, 40, 41, 44, 95]⟩, .int .u8 (s[j].toNat : Int)] wx fun e w' => ∃ k : Int, e = .returned (.int .i64 k) ∧ decide (0 ≤ k) = signL.contains s[j] ∧ wx = w') := fun wx => (Tryd.strings_IndexByte _ _ wx).mono (fun e w' ⟨h1, h2⟩ => ⟨_, h1, by
      rw [Lib.contains_iff_indexByte]
      congr 2
      show Lib.indexByte signL _ = _
      congr 1
      simp, h2.symm⟩)
    rcases hd : digB s[j] with _ | _
    rotate_left
    · rw [hd] at CD
      have CR : Hid (∀ d, Calls Tryd.prog 25 #[.pointer (some ⟨R, 0, none⟩), .pointer (some ⟨T, 0, none⟩)] (w2.drewN d) fun e w' => Reads R T s j w2.heap.size r (w2.drewN d) e w') := fun d => by
        rw [← HR0.out]
        exact reads_num (w2.drewN d) R T s j _ HN.out HT.out hlt hs rfl hd
      clear hd
      clear HR0 HQ HM HM2 HR
      go_wp2_with fail
      go_quiet (fail)
      generalize nq = n1 at *
      clear nq
      go_wp2_with fail
      go_quiet (fail)
      go_wp2_with (first
        | (go_at_call 24; refine (CD.out _).mono ?_; rintro e w' ⟨rfl, rfl⟩)
        | (go_at_call 27; refine (CM.out _).mono ?_; rintro e w' ⟨rfl, rfl⟩)
        | (go_at_call 28; refine (CG.out _).mono ?_; rintro e w' ⟨rfl, rfl⟩)
        | (go_at_call 30; refine (CI.out _).mono ?_; rintro e w' ⟨ki, rfl, hki, rfl⟩)
        | (go_at_call 25; refine (CR.out _).mono ?_; rintro e w3 ⟨kd, nm, tx, n, rfl, h1, h2, h3, h4⟩
           have H1 := Lib.hid h1
           have H2 := Lib.hid h2
           have H3 := Lib.hid h3
           have H4 := Lib.hid h4
           clear h1 h2 h3 h4 r0 r1
           have HZ3 : Hid (Whole w3 w.heap.size 32 #[.int .i64 0, .string ⟨#[]⟩, .int .i64 0, .int .i64 0]) := H2.out.whole HZ.out HL.out (by have := HS.out.1; omega) (by have := HS.out.2.1; omega)
           have t0 : w3.cell? ⟨T, 0, none⟩ = some (.int .i64 kd) := (show Whole w3 T 32 _ from H3.out).cell 0
           have t1 : w3.cell? ⟨T, 1, none⟩ = some (.string tx) := (show Whole w3 T 32 _ from H3.out).cell 1
           have t2 : w3.cell? ⟨T, 2, none⟩ = some (.int .i64 nm) := (show Whole w3 T 32 _ from H3.out).cell 2
           have t3 : w3.cell? ⟨T, 3, none⟩ = some (.int .i64 (j : Int)) := (show Whole w3 T 32 _ from H3.out).cell 3
           have z0 : w3.cell? ⟨w.heap.size, 0, none⟩ = some (.int .i64 0) := HZ3.out.cell 0
           have z1 : w3.cell? ⟨w.heap.size, 1, none⟩ = some (.string ⟨#[]⟩) := HZ3.out.cell 1
           have z2 : w3.cell? ⟨w.heap.size, 2, none⟩ = some (.int .i64 0) := HZ3.out.cell 2
           have z3 : w3.cell? ⟨w.heap.size, 3, none⟩ = some (.int .i64 0) := HZ3.out.cell 3
           have y0 := HZ3.out.free 0
           have y1 := HZ3.out.free 1
           have y2 := HZ3.out.free 2
           have y3 := HZ3.out.free 3))
      have HF : Hid (RdAt ((((w3.setCell ⟨w.heap.size, 0, none⟩ (.int .i64 kd)).setCell ⟨w.heap.size, 1, none⟩ (.string tx)).setCell ⟨w.heap.size, 2, none⟩ (.int .i64 nm)).setCell ⟨w.heap.size, 3, none⟩ (.int .i64 (j : Int))) R s (j + n)) := by
        have hne : R ≠ w.heap.size := by have := HS.out.1; omega
        exact ((((show Whole w3 R 40 _ from H1.out).far (p := ⟨w.heap.size, 0, none⟩) hne _).far (p := ⟨w.heap.size, 1, none⟩) hne _).far (p := ⟨w.heap.size, 2, none⟩) hne _).far (p := ⟨w.heap.size, 3, none⟩) hne _
      have HG : Hid (But R w.heap.size w ((((w3.setCell ⟨w.heap.size, 0, none⟩ (.int .i64 kd)).setCell ⟨w.heap.size, 1, none⟩ (.string tx)).setCell ⟨w.heap.size, 2, none⟩ (.int .i64 nm)).setCell ⟨w.heap.size, 3, none⟩ (.int .i64 (j : Int)))) := by
        have hb : But R w.heap.size w w3 := (HB.out.trans (.of_below (below_drewN (Below.refl _ _) _))).trans (H2.out.but (by have := HS.out.2.1; omega) (Nat.le_of_lt HL.out))
        exact (((hb.setCell (Nat.le_refl _) _).setCell (Nat.le_refl _) _).setCell (Nat.le_refl _) _).setCell (Nat.le_refl _) _
      have HZF : Hid (Whole ((((w3.setCell ⟨w.heap.size, 0, none⟩ (.int .i64 kd)).setCell ⟨w.heap.size, 1, none⟩ (.string tx)).setCell ⟨w.heap.size, 2, none⟩ (.int .i64 nm)).setCell ⟨w.heap.size, 3, none⟩ (.int .i64 (j : Int))) w.heap.size 32 #[.int .i64 kd, .string tx, .int .i64 nm, .int .i64 (j : Int)]) := (((Whole.put (w := w3) HZ3.out 0 (.int .i64 kd)).put 1 (.string tx)).put 2 (.int .i64 nm)).put 3 (.int .i64 (j : Int))
      generalize (((w3.setCell ⟨w.heap.size, 0, none⟩ (.int .i64 kd)).setCell ⟨w.heap.size, 1, none⟩ (.string tx)).setCell ⟨w.heap.size, 2, none⟩ (.int .i64 nm)).setCell ⟨w.heap.size, 3, none⟩ (.int .i64 (j : Int)) = wf at *
      have g0 := HZF.out.cell 0
      have g1 := HZF.out.cell 1
      have g2 := HZF.out.cell 2
      have g3 := HZF.out.cell 3
      simp only [List.getElem?_toArray, List.getElem?_cons_zero, List.getElem?_cons_succ] at g0 g1 g2 g3
      exact bodyPost_ret (v := .tuple #[tkV kd tx nm j, .int .i64 r.e]) (by simp [results, Tryd.results18, go_sem, tkV, g0, g1, g2, g3]) rfl ⟨kd, nm, tx, n, rfl, HF.out, HG.out, H4.out⟩
    · rw [hd] at CD
      by_cases h34 : s[j] = 34
      · have q34 : ((s[j].toNat : Int) == 34) = true := u8_eq s[j] 34 h34
        have hq2 := HQ.out (by rw [drop_cons s j hlt, h34]; rfl)
        have CR : Hid (∀ d, Calls Tryd.prog 26 #[.pointer (some ⟨R, 0, none⟩), .pointer (some ⟨T, 0, none⟩)] (w2.drewN d) fun e w' => Reads R T s j w2.heap.size r (w2.drewN d) e w') := fun d => by
          rw [← HR0.out]
          exact reads_text (w2.drewN d) R T s j _ HN.out HT.out hlt hs rfl h34 hq2
        clear hd h34 hq2
        clear HR0 HQ HM HM2 HR
        go_wp2_with fail
        go_quiet (fail)
        generalize nq = n1 at *
        clear nq
        go_wp2_with fail
        go_quiet (fail)
        go_wp2_with (first
          | (go_at_call 24; refine (CD.out _).mono ?_; rintro e w' ⟨rfl, rfl⟩)
          | (go_at_call 27; refine (CM.out _).mono ?_; rintro e w' ⟨rfl, rfl⟩)
          | (go_at_call 28; refine (CG.out _).mono ?_; rintro e w' ⟨rfl, rfl⟩)
          | (go_at_call 30; refine (CI.out _).mono ?_; rintro e w' ⟨ki, rfl, hki, rfl⟩)
          | (go_at_call 26; refine (CR.out _).mono ?_; rintro e w3 ⟨kd, nm, tx, n, rfl, h1, h2, h3, h4⟩
             have H1 := Lib.hid h1
             have H2 := Lib.hid h2
             have H3 := Lib.hid h3
             have H4 := Lib.hid h4
             clear h1 h2 h3 h4 r0 r1
             have HZ3 : Hid (Whole w3 w.heap.size 32 #[.int .i64 0, .string ⟨#[]⟩, .int .i64 0, .int .i64 0]) := H2.out.whole HZ.out HL.out (by have := HS.out.1; omega) (by have := HS.out.2.1; omega)
             have t0 : w3.cell? ⟨T, 0, none⟩ = some (.int .i64 kd) := (show Whole w3 T 32 _ from H3.out).cell 0
             have t1 : w3.cell? ⟨T, 1, none⟩ = some (.string tx) := (show Whole w3 T 32 _ from H3.out).cell 1
             have t2 : w3.cell? ⟨T, 2, none⟩ = some (.int .i64 nm) := (show Whole w3 T 32 _ from H3.out).cell 2
             have t3 : w3.cell? ⟨T, 3, none⟩ = some (.int .i64 (j : Int)) := (show Whole w3 T 32 _ from H3.out).cell 3
             have z0 : w3.cell? ⟨w.heap.size, 0, none⟩ = some (.int .i64 0) := HZ3.out.cell 0
             have z1 : w3.cell? ⟨w.heap.size, 1, none⟩ = some (.string ⟨#[]⟩) := HZ3.out.cell 1
             have z2 : w3.cell? ⟨w.heap.size, 2, none⟩ = some (.int .i64 0) := HZ3.out.cell 2
             have z3 : w3.cell? ⟨w.heap.size, 3, none⟩ = some (.int .i64 0) := HZ3.out.cell 3
             have y0 := HZ3.out.free 0
             have y1 := HZ3.out.free 1
             have y2 := HZ3.out.free 2
             have y3 := HZ3.out.free 3))
        have HF : Hid (RdAt ((((w3.setCell ⟨w.heap.size, 0, none⟩ (.int .i64 kd)).setCell ⟨w.heap.size, 1, none⟩ (.string tx)).setCell ⟨w.heap.size, 2, none⟩ (.int .i64 nm)).setCell ⟨w.heap.size, 3, none⟩ (.int .i64 (j : Int))) R s (j + n)) := by
          have hne : R ≠ w.heap.size := by have := HS.out.1; omega
          exact ((((show Whole w3 R 40 _ from H1.out).far (p := ⟨w.heap.size, 0, none⟩) hne _).far (p := ⟨w.heap.size, 1, none⟩) hne _).far (p := ⟨w.heap.size, 2, none⟩) hne _).far (p := ⟨w.heap.size, 3, none⟩) hne _
        have HG : Hid (But R w.heap.size w ((((w3.setCell ⟨w.heap.size, 0, none⟩ (.int .i64 kd)).setCell ⟨w.heap.size, 1, none⟩ (.string tx)).setCell ⟨w.heap.size, 2, none⟩ (.int .i64 nm)).setCell ⟨w.heap.size, 3, none⟩ (.int .i64 (j : Int)))) := by
          have hb : But R w.heap.size w w3 := (HB.out.trans (.of_below (below_drewN (Below.refl _ _) _))).trans (H2.out.but (by have := HS.out.2.1; omega) (Nat.le_of_lt HL.out))
          exact (((hb.setCell (Nat.le_refl _) _).setCell (Nat.le_refl _) _).setCell (Nat.le_refl _) _).setCell (Nat.le_refl _) _
        have HZF : Hid (Whole ((((w3.setCell ⟨w.heap.size, 0, none⟩ (.int .i64 kd)).setCell ⟨w.heap.size, 1, none⟩ (.string tx)).setCell ⟨w.heap.size, 2, none⟩ (.int .i64 nm)).setCell ⟨w.heap.size, 3, none⟩ (.int .i64 (j : Int))) w.heap.size 32 #[.int .i64 kd, .string tx, .int .i64 nm, .int .i64 (j : Int)]) := (((Whole.put (w := w3) HZ3.out 0 (.int .i64 kd)).put 1 (.string tx)).put 2 (.int .i64 nm)).put 3 (.int .i64 (j : Int))
        generalize (((w3.setCell ⟨w.heap.size, 0, none⟩ (.int .i64 kd)).setCell ⟨w.heap.size, 1, none⟩ (.string tx)).setCell ⟨w.heap.size, 2, none⟩ (.int .i64 nm)).setCell ⟨w.heap.size, 3, none⟩ (.int .i64 (j : Int)) = wf at *
        have g0 := HZF.out.cell 0
        have g1 := HZF.out.cell 1
        have g2 := HZF.out.cell 2
        have g3 := HZF.out.cell 3
        simp only [List.getElem?_toArray, List.getElem?_cons_zero, List.getElem?_cons_succ] at g0 g1 g2 g3
        exact bodyPost_ret (v := .tuple #[tkV kd tx nm j, .int .i64 r.e]) (by simp [results, Tryd.results18, go_sem, tkV, g0, g1, g2, g3]) rfl ⟨kd, nm, tx, n, rfl, HF.out, HG.out, H4.out⟩
      · have q34 : ((s[j].toNat : Int) == 34) = false := u8_ne s[j] 34 h34
        rcases hs1 : smaB s[j] with _ | _
        · rw [hs1] at CM
          rcases hl1 : larB s[j] with _ | _
          · rw [hl1] at CG
            rcases hg1 : signL.contains s[j] with _ | _
            · rw [hg1] at CI
              have CR : Hid (∀ d, Calls Tryd.prog 23 #[.pointer (some ⟨R, 0, none⟩), .pointer (some ⟨T, 0, none⟩)] (w2.drewN d) fun e w' => Reads R T s j w2.heap.size r (w2.drewN d) e w') := fun d => by
                rw [← HR0.out]
                exact reads_odd (w2.drewN d) R T s j _ HN.out HT.out hlt hs rfl hd h34 (by rw [hs1, hl1]; rfl) hg1
              clear hd h34 hs1 hl1 hg1
              clear HR0 HQ HM HM2 HR
              go_wp2_with fail
              go_quiet (fail)
              generalize nq = n1 at *
              clear nq
              go_wp2_with fail
              go_quiet (fail)
              go_wp2_with (first
                | (go_at_call 24; refine (CD.out _).mono ?_; rintro e w' ⟨rfl, rfl⟩)
                | (go_at_call 27; refine (CM.out _).mono ?_; rintro e w' ⟨rfl, rfl⟩)
                | (go_at_call 28; refine (CG.out _).mono ?_; rintro e w' ⟨rfl, rfl⟩)
                | (go_at_call 30; refine (CI.out _).mono ?_; rintro e w' ⟨ki, rfl, hki, rfl⟩)
                | (go_at_call 23; refine (CR.out _).mono ?_; rintro e w3 ⟨kd, nm, tx, n, rfl, h1, h2, h3, h4⟩
                   have H1 := Lib.hid h1
                   have H2 := Lib.hid h2
                   have H3 := Lib.hid h3
                   have H4 := Lib.hid h4
                   clear h1 h2 h3 h4 r0 r1
                   have HZ3 : Hid (Whole w3 w.heap.size 32 #[.int .i64 0, .string ⟨#[]⟩, .int .i64 0, .int .i64 0]) := H2.out.whole HZ.out HL.out (by have := HS.out.1; omega) (by have := HS.out.2.1; omega)
                   have t0 : w3.cell? ⟨T, 0, none⟩ = some (.int .i64 kd) := (show Whole w3 T 32 _ from H3.out).cell 0
                   have t1 : w3.cell? ⟨T, 1, none⟩ = some (.string tx) := (show Whole w3 T 32 _ from H3.out).cell 1
                   have t2 : w3.cell? ⟨T, 2, none⟩ = some (.int .i64 nm) := (show Whole w3 T 32 _ from H3.out).cell 2
                   have t3 : w3.cell? ⟨T, 3, none⟩ = some (.int .i64 (j : Int)) := (show Whole w3 T 32 _ from H3.out).cell 3
                   have z0 : w3.cell? ⟨w.heap.size, 0, none⟩ = some (.int .i64 0) := HZ3.out.cell 0
                   have z1 : w3.cell? ⟨w.heap.size, 1, none⟩ = some (.string ⟨#[]⟩) := HZ3.out.cell 1
                   have z2 : w3.cell? ⟨w.heap.size, 2, none⟩ = some (.int .i64 0) := HZ3.out.cell 2
                   have z3 : w3.cell? ⟨w.heap.size, 3, none⟩ = some (.int .i64 0) := HZ3.out.cell 3
                   have y0 := HZ3.out.free 0
                   have y1 := HZ3.out.free 1
                   have y2 := HZ3.out.free 2
                   have y3 := HZ3.out.free 3))
              have HF : Hid (RdAt ((((w3.setCell ⟨w.heap.size, 0, none⟩ (.int .i64 kd)).setCell ⟨w.heap.size, 1, none⟩ (.string tx)).setCell ⟨w.heap.size, 2, none⟩ (.int .i64 nm)).setCell ⟨w.heap.size, 3, none⟩ (.int .i64 (j : Int))) R s (j + n)) := by
                have hne : R ≠ w.heap.size := by have := HS.out.1; omega
                exact ((((show Whole w3 R 40 _ from H1.out).far (p := ⟨w.heap.size, 0, none⟩) hne _).far (p := ⟨w.heap.size, 1, none⟩) hne _).far (p := ⟨w.heap.size, 2, none⟩) hne _).far (p := ⟨w.heap.size, 3, none⟩) hne _
              have HG : Hid (But R w.heap.size w ((((w3.setCell ⟨w.heap.size, 0, none⟩ (.int .i64 kd)).setCell ⟨w.heap.size, 1, none⟩ (.string tx)).setCell ⟨w.heap.size, 2, none⟩ (.int .i64 nm)).setCell ⟨w.heap.size, 3, none⟩ (.int .i64 (j : Int)))) := by
                have hb : But R w.heap.size w w3 := (HB.out.trans (.of_below (below_drewN (Below.refl _ _) _))).trans (H2.out.but (by have := HS.out.2.1; omega) (Nat.le_of_lt HL.out))
                exact (((hb.setCell (Nat.le_refl _) _).setCell (Nat.le_refl _) _).setCell (Nat.le_refl _) _).setCell (Nat.le_refl _) _
              have HZF : Hid (Whole ((((w3.setCell ⟨w.heap.size, 0, none⟩ (.int .i64 kd)).setCell ⟨w.heap.size, 1, none⟩ (.string tx)).setCell ⟨w.heap.size, 2, none⟩ (.int .i64 nm)).setCell ⟨w.heap.size, 3, none⟩ (.int .i64 (j : Int))) w.heap.size 32 #[.int .i64 kd, .string tx, .int .i64 nm, .int .i64 (j : Int)]) := (((Whole.put (w := w3) HZ3.out 0 (.int .i64 kd)).put 1 (.string tx)).put 2 (.int .i64 nm)).put 3 (.int .i64 (j : Int))
              generalize (((w3.setCell ⟨w.heap.size, 0, none⟩ (.int .i64 kd)).setCell ⟨w.heap.size, 1, none⟩ (.string tx)).setCell ⟨w.heap.size, 2, none⟩ (.int .i64 nm)).setCell ⟨w.heap.size, 3, none⟩ (.int .i64 (j : Int)) = wf at *
              have g0 := HZF.out.cell 0
              have g1 := HZF.out.cell 1
              have g2 := HZF.out.cell 2
              have g3 := HZF.out.cell 3
              simp only [List.getElem?_toArray, List.getElem?_cons_zero, List.getElem?_cons_succ] at g0 g1 g2 g3
              exact bodyPost_ret (v := .tuple #[tkV kd tx nm j, .int .i64 r.e]) (by simp [results, Tryd.results18, go_sem, tkV, g0, g1, g2, g3]) rfl ⟨kd, nm, tx, n, rfl, HF.out, HG.out, H4.out⟩
            · rw [hg1] at CI
              have CR : Hid (∀ d, Calls Tryd.prog 31 #[.pointer (some ⟨R, 0, none⟩), .pointer (some ⟨T, 0, none⟩)] (w2.drewN d) fun e w' => Reads R T s j w2.heap.size r (w2.drewN d) e w') := fun d => by
                rw [← HR0.out]
                exact reads_sign (w2.drewN d) R T s j _ HN.out HT.out hlt hs rfl hd h34 (by rw [hs1, hl1]; rfl) hg1
              clear hd h34 hs1 hl1 hg1
              clear HR0 HQ HM HM2 HR
              go_wp2_with fail
              go_quiet (fail)
              generalize nq = n1 at *
              clear nq
              go_wp2_with fail
              go_quiet (fail)
              go_wp2_with (first
                | (go_at_call 24; refine (CD.out _).mono ?_; rintro e w' ⟨rfl, rfl⟩)
                | (go_at_call 27; refine (CM.out _).mono ?_; rintro e w' ⟨rfl, rfl⟩)
                | (go_at_call 28; refine (CG.out _).mono ?_; rintro e w' ⟨rfl, rfl⟩)
                | (go_at_call 30; refine (CI.out _).mono ?_; rintro e w' ⟨ki, rfl, hki, rfl⟩)
                | (go_at_call 31; refine (CR.out _).mono ?_; rintro e w3 ⟨kd, nm, tx, n, rfl, h1, h2, h3, h4⟩
                   have H1 := Lib.hid h1
                   have H2 := Lib.hid h2
                   have H3 := Lib.hid h3
                   have H4 := Lib.hid h4
                   clear h1 h2 h3 h4 r0 r1
                   have HZ3 : Hid (Whole w3 w.heap.size 32 #[.int .i64 0, .string ⟨#[]⟩, .int .i64 0, .int .i64 0]) := H2.out.whole HZ.out HL.out (by have := HS.out.1; omega) (by have := HS.out.2.1; omega)
                   have t0 : w3.cell? ⟨T, 0, none⟩ = some (.int .i64 kd) := (show Whole w3 T 32 _ from H3.out).cell 0
                   have t1 : w3.cell? ⟨T, 1, none⟩ = some (.string tx) := (show Whole w3 T 32 _ from H3.out).cell 1
                   have t2 : w3.cell? ⟨T, 2, none⟩ = some (.int .i64 nm) := (show Whole w3 T 32 _ from H3.out).cell 2
                   have t3 : w3.cell? ⟨T, 3, none⟩ = some (.int .i64 (j : Int)) := (show Whole w3 T 32 _ from H3.out).cell 3
                   have z0 : w3.cell? ⟨w.heap.size, 0, none⟩ = some (.int .i64 0) := HZ3.out.cell 0
                   have z1 : w3.cell? ⟨w.heap.size, 1, none⟩ = some (.string ⟨#[]⟩) := HZ3.out.cell 1
                   have z2 : w3.cell? ⟨w.heap.size, 2, none⟩ = some (.int .i64 0) := HZ3.out.cell 2
                   have z3 : w3.cell? ⟨w.heap.size, 3, none⟩ = some (.int .i64 0) := HZ3.out.cell 3
                   have y0 := HZ3.out.free 0
                   have y1 := HZ3.out.free 1
                   have y2 := HZ3.out.free 2
                   have y3 := HZ3.out.free 3))
              have HF : Hid (RdAt ((((w3.setCell ⟨w.heap.size, 0, none⟩ (.int .i64 kd)).setCell ⟨w.heap.size, 1, none⟩ (.string tx)).setCell ⟨w.heap.size, 2, none⟩ (.int .i64 nm)).setCell ⟨w.heap.size, 3, none⟩ (.int .i64 (j : Int))) R s (j + n)) := by
                have hne : R ≠ w.heap.size := by have := HS.out.1; omega
                exact ((((show Whole w3 R 40 _ from H1.out).far (p := ⟨w.heap.size, 0, none⟩) hne _).far (p := ⟨w.heap.size, 1, none⟩) hne _).far (p := ⟨w.heap.size, 2, none⟩) hne _).far (p := ⟨w.heap.size, 3, none⟩) hne _
              have HG : Hid (But R w.heap.size w ((((w3.setCell ⟨w.heap.size, 0, none⟩ (.int .i64 kd)).setCell ⟨w.heap.size, 1, none⟩ (.string tx)).setCell ⟨w.heap.size, 2, none⟩ (.int .i64 nm)).setCell ⟨w.heap.size, 3, none⟩ (.int .i64 (j : Int)))) := by
                have hb : But R w.heap.size w w3 := (HB.out.trans (.of_below (below_drewN (Below.refl _ _) _))).trans (H2.out.but (by have := HS.out.2.1; omega) (Nat.le_of_lt HL.out))
                exact (((hb.setCell (Nat.le_refl _) _).setCell (Nat.le_refl _) _).setCell (Nat.le_refl _) _).setCell (Nat.le_refl _) _
              have HZF : Hid (Whole ((((w3.setCell ⟨w.heap.size, 0, none⟩ (.int .i64 kd)).setCell ⟨w.heap.size, 1, none⟩ (.string tx)).setCell ⟨w.heap.size, 2, none⟩ (.int .i64 nm)).setCell ⟨w.heap.size, 3, none⟩ (.int .i64 (j : Int))) w.heap.size 32 #[.int .i64 kd, .string tx, .int .i64 nm, .int .i64 (j : Int)]) := (((Whole.put (w := w3) HZ3.out 0 (.int .i64 kd)).put 1 (.string tx)).put 2 (.int .i64 nm)).put 3 (.int .i64 (j : Int))
              generalize (((w3.setCell ⟨w.heap.size, 0, none⟩ (.int .i64 kd)).setCell ⟨w.heap.size, 1, none⟩ (.string tx)).setCell ⟨w.heap.size, 2, none⟩ (.int .i64 nm)).setCell ⟨w.heap.size, 3, none⟩ (.int .i64 (j : Int)) = wf at *
              have g0 := HZF.out.cell 0
              have g1 := HZF.out.cell 1
              have g2 := HZF.out.cell 2
              have g3 := HZF.out.cell 3
              simp only [List.getElem?_toArray, List.getElem?_cons_zero, List.getElem?_cons_succ] at g0 g1 g2 g3
              exact bodyPost_ret (v := .tuple #[tkV kd tx nm j, .int .i64 r.e]) (by simp [results, Tryd.results18, go_sem, tkV, g0, g1, g2, g3]) rfl ⟨kd, nm, tx, n, rfl, HF.out, HG.out, H4.out⟩
          · rw [hl1] at CG
            have CR : Hid (∀ d, Calls Tryd.prog 29 #[.pointer (some ⟨R, 0, none⟩), .pointer (some ⟨T, 0, none⟩)] (w2.drewN d) fun e w' => Reads R T s j w2.heap.size r (w2.drewN d) e w') := fun d => by
              rw [← HR0.out]
              exact reads_name (w2.drewN d) R T s j _ HN.out HT.out hlt hs rfl m HM2.out (by have := HS.out.2.1; omega) hd h34 (by rw [hs1, hl1]; rfl)
            clear hd h34 hs1 hl1
            clear HR0 HQ HM HM2 HR
            go_wp2_with fail
            go_quiet (fail)
            generalize nq = n1 at *
            clear nq
            go_wp2_with fail
            go_quiet (fail)
            go_wp2_with (first
              | (go_at_call 24; refine (CD.out _).mono ?_; rintro e w' ⟨rfl, rfl⟩)
              | (go_at_call 27; refine (CM.out _).mono ?_; rintro e w' ⟨rfl, rfl⟩)
              | (go_at_call 28; refine (CG.out _).mono ?_; rintro e w' ⟨rfl, rfl⟩)
              | (go_at_call 30; refine (CI.out _).mono ?_; rintro e w' ⟨ki, rfl, hki, rfl⟩)
              | (go_at_call 29; refine (CR.out _).mono ?_; rintro e w3 ⟨kd, nm, tx, n, rfl, h1, h2, h3, h4⟩
                 have H1 := Lib.hid h1
                 have H2 := Lib.hid h2
                 have H3 := Lib.hid h3
                 have H4 := Lib.hid h4
                 clear h1 h2 h3 h4 r0 r1
                 have HZ3 : Hid (Whole w3 w.heap.size 32 #[.int .i64 0, .string ⟨#[]⟩, .int .i64 0, .int .i64 0]) := H2.out.whole HZ.out HL.out (by have := HS.out.1; omega) (by have := HS.out.2.1; omega)
                 have t0 : w3.cell? ⟨T, 0, none⟩ = some (.int .i64 kd) := (show Whole w3 T 32 _ from H3.out).cell 0
                 have t1 : w3.cell? ⟨T, 1, none⟩ = some (.string tx) := (show Whole w3 T 32 _ from H3.out).cell 1
                 have t2 : w3.cell? ⟨T, 2, none⟩ = some (.int .i64 nm) := (show Whole w3 T 32 _ from H3.out).cell 2
                 have t3 : w3.cell? ⟨T, 3, none⟩ = some (.int .i64 (j : Int)) := (show Whole w3 T 32 _ from H3.out).cell 3
                 have z0 : w3.cell? ⟨w.heap.size, 0, none⟩ = some (.int .i64 0) := HZ3.out.cell 0
                 have z1 : w3.cell? ⟨w.heap.size, 1, none⟩ = some (.string ⟨#[]⟩) := HZ3.out.cell 1
                 have z2 : w3.cell? ⟨w.heap.size, 2, none⟩ = some (.int .i64 0) := HZ3.out.cell 2
                 have z3 : w3.cell? ⟨w.heap.size, 3, none⟩ = some (.int .i64 0) := HZ3.out.cell 3
                 have y0 := HZ3.out.free 0
                 have y1 := HZ3.out.free 1
                 have y2 := HZ3.out.free 2
                 have y3 := HZ3.out.free 3))
            have HF : Hid (RdAt ((((w3.setCell ⟨w.heap.size, 0, none⟩ (.int .i64 kd)).setCell ⟨w.heap.size, 1, none⟩ (.string tx)).setCell ⟨w.heap.size, 2, none⟩ (.int .i64 nm)).setCell ⟨w.heap.size, 3, none⟩ (.int .i64 (j : Int))) R s (j + n)) := by
              have hne : R ≠ w.heap.size := by have := HS.out.1; omega
              exact ((((show Whole w3 R 40 _ from H1.out).far (p := ⟨w.heap.size, 0, none⟩) hne _).far (p := ⟨w.heap.size, 1, none⟩) hne _).far (p := ⟨w.heap.size, 2, none⟩) hne _).far (p := ⟨w.heap.size, 3, none⟩) hne _
            have HG : Hid (But R w.heap.size w ((((w3.setCell ⟨w.heap.size, 0, none⟩ (.int .i64 kd)).setCell ⟨w.heap.size, 1, none⟩ (.string tx)).setCell ⟨w.heap.size, 2, none⟩ (.int .i64 nm)).setCell ⟨w.heap.size, 3, none⟩ (.int .i64 (j : Int)))) := by
              have hb : But R w.heap.size w w3 := (HB.out.trans (.of_below (below_drewN (Below.refl _ _) _))).trans (H2.out.but (by have := HS.out.2.1; omega) (Nat.le_of_lt HL.out))
              exact (((hb.setCell (Nat.le_refl _) _).setCell (Nat.le_refl _) _).setCell (Nat.le_refl _) _).setCell (Nat.le_refl _) _
            have HZF : Hid (Whole ((((w3.setCell ⟨w.heap.size, 0, none⟩ (.int .i64 kd)).setCell ⟨w.heap.size, 1, none⟩ (.string tx)).setCell ⟨w.heap.size, 2, none⟩ (.int .i64 nm)).setCell ⟨w.heap.size, 3, none⟩ (.int .i64 (j : Int))) w.heap.size 32 #[.int .i64 kd, .string tx, .int .i64 nm, .int .i64 (j : Int)]) := (((Whole.put (w := w3) HZ3.out 0 (.int .i64 kd)).put 1 (.string tx)).put 2 (.int .i64 nm)).put 3 (.int .i64 (j : Int))
            generalize (((w3.setCell ⟨w.heap.size, 0, none⟩ (.int .i64 kd)).setCell ⟨w.heap.size, 1, none⟩ (.string tx)).setCell ⟨w.heap.size, 2, none⟩ (.int .i64 nm)).setCell ⟨w.heap.size, 3, none⟩ (.int .i64 (j : Int)) = wf at *
            have g0 := HZF.out.cell 0
            have g1 := HZF.out.cell 1
            have g2 := HZF.out.cell 2
            have g3 := HZF.out.cell 3
            simp only [List.getElem?_toArray, List.getElem?_cons_zero, List.getElem?_cons_succ] at g0 g1 g2 g3
            exact bodyPost_ret (v := .tuple #[tkV kd tx nm j, .int .i64 r.e]) (by simp [results, Tryd.results18, go_sem, tkV, g0, g1, g2, g3]) rfl ⟨kd, nm, tx, n, rfl, HF.out, HG.out, H4.out⟩
        · rw [hs1] at CM
          have CR : Hid (∀ d, Calls Tryd.prog 29 #[.pointer (some ⟨R, 0, none⟩), .pointer (some ⟨T, 0, none⟩)] (w2.drewN d) fun e w' => Reads R T s j w2.heap.size r (w2.drewN d) e w') := fun d => by
            rw [← HR0.out]
            exact reads_name (w2.drewN d) R T s j _ HN.out HT.out hlt hs rfl m HM2.out (by have := HS.out.2.1; omega) hd h34 (by rw [hs1]; rfl)
          clear hd h34 hs1
          clear HR0 HQ HM HM2 HR
          go_wp2_with fail
          go_quiet (fail)
          generalize nq = n1 at *
          clear nq
          go_wp2_with fail
          go_quiet (fail)
          go_wp2_with (first
            | (go_at_call 24; refine (CD.out _).mono ?_; rintro e w' ⟨rfl, rfl⟩)
            | (go_at_call 27; refine (CM.out _).mono ?_; rintro e w' ⟨rfl, rfl⟩)
            | (go_at_call 28; refine (CG.out _).mono ?_; rintro e w' ⟨rfl, rfl⟩)
            | (go_at_call 30; refine (CI.out _).mono ?_; rintro e w' ⟨ki, rfl, hki, rfl⟩)
            | (go_at_call 29; refine (CR.out _).mono ?_; rintro e w3 ⟨kd, nm, tx, n, rfl, h1, h2, h3, h4⟩
               have H1 := Lib.hid h1
               have H2 := Lib.hid h2
               have H3 := Lib.hid h3
               have H4 := Lib.hid h4
               clear h1 h2 h3 h4 r0 r1
               have HZ3 : Hid (Whole w3 w.heap.size 32 #[.int .i64 0, .string ⟨#[]⟩, .int .i64 0, .int .i64 0]) := H2.out.whole HZ.out HL.out (by have := HS.out.1; omega) (by have := HS.out.2.1; omega)
               have t0 : w3.cell? ⟨T, 0, none⟩ = some (.int .i64 kd) := (show Whole w3 T 32 _ from H3.out).cell 0
               have t1 : w3.cell? ⟨T, 1, none⟩ = some (.string tx) := (show Whole w3 T 32 _ from H3.out).cell 1
               have t2 : w3.cell? ⟨T, 2, none⟩ = some (.int .i64 nm) := (show Whole w3 T 32 _ from H3.out).cell 2
               have t3 : w3.cell? ⟨T, 3, none⟩ = some (.int .i64 (j : Int)) := (show Whole w3 T 32 _ from H3.out).cell 3
               have z0 : w3.cell? ⟨w.heap.size, 0, none⟩ = some (.int .i64 0) := HZ3.out.cell 0
               have z1 : w3.cell? ⟨w.heap.size, 1, none⟩ = some (.string ⟨#[]⟩) := HZ3.out.cell 1
               have z2 : w3.cell? ⟨w.heap.size, 2, none⟩ = some (.int .i64 0) := HZ3.out.cell 2
               have z3 : w3.cell? ⟨w.heap.size, 3, none⟩ = some (.int .i64 0) := HZ3.out.cell 3
               have y0 := HZ3.out.free 0
               have y1 := HZ3.out.free 1
               have y2 := HZ3.out.free 2
               have y3 := HZ3.out.free 3))
          have HF : Hid (RdAt ((((w3.setCell ⟨w.heap.size, 0, none⟩ (.int .i64 kd)).setCell ⟨w.heap.size, 1, none⟩ (.string tx)).setCell ⟨w.heap.size, 2, none⟩ (.int .i64 nm)).setCell ⟨w.heap.size, 3, none⟩ (.int .i64 (j : Int))) R s (j + n)) := by
            have hne : R ≠ w.heap.size := by have := HS.out.1; omega
            exact ((((show Whole w3 R 40 _ from H1.out).far (p := ⟨w.heap.size, 0, none⟩) hne _).far (p := ⟨w.heap.size, 1, none⟩) hne _).far (p := ⟨w.heap.size, 2, none⟩) hne _).far (p := ⟨w.heap.size, 3, none⟩) hne _
          have HG : Hid (But R w.heap.size w ((((w3.setCell ⟨w.heap.size, 0, none⟩ (.int .i64 kd)).setCell ⟨w.heap.size, 1, none⟩ (.string tx)).setCell ⟨w.heap.size, 2, none⟩ (.int .i64 nm)).setCell ⟨w.heap.size, 3, none⟩ (.int .i64 (j : Int)))) := by
            have hb : But R w.heap.size w w3 := (HB.out.trans (.of_below (below_drewN (Below.refl _ _) _))).trans (H2.out.but (by have := HS.out.2.1; omega) (Nat.le_of_lt HL.out))
            exact (((hb.setCell (Nat.le_refl _) _).setCell (Nat.le_refl _) _).setCell (Nat.le_refl _) _).setCell (Nat.le_refl _) _
          have HZF : Hid (Whole ((((w3.setCell ⟨w.heap.size, 0, none⟩ (.int .i64 kd)).setCell ⟨w.heap.size, 1, none⟩ (.string tx)).setCell ⟨w.heap.size, 2, none⟩ (.int .i64 nm)).setCell ⟨w.heap.size, 3, none⟩ (.int .i64 (j : Int))) w.heap.size 32 #[.int .i64 kd, .string tx, .int .i64 nm, .int .i64 (j : Int)]) := (((Whole.put (w := w3) HZ3.out 0 (.int .i64 kd)).put 1 (.string tx)).put 2 (.int .i64 nm)).put 3 (.int .i64 (j : Int))
          generalize (((w3.setCell ⟨w.heap.size, 0, none⟩ (.int .i64 kd)).setCell ⟨w.heap.size, 1, none⟩ (.string tx)).setCell ⟨w.heap.size, 2, none⟩ (.int .i64 nm)).setCell ⟨w.heap.size, 3, none⟩ (.int .i64 (j : Int)) = wf at *
          have g0 := HZF.out.cell 0
          have g1 := HZF.out.cell 1
          have g2 := HZF.out.cell 2
          have g3 := HZF.out.cell 3
          simp only [List.getElem?_toArray, List.getElem?_cons_zero, List.getElem?_cons_succ] at g0 g1 g2 g3
          exact bodyPost_ret (v := .tuple #[tkV kd tx nm j, .int .i64 r.e]) (by simp [results, Tryd.results18, go_sem, tkV, g0, g1, g2, g3]) rfl ⟨kd, nm, tx, n, rfl, HF.out, HG.out, H4.out⟩
  · have hjs : j = s.size := by omega
    have hr : tokF (s.data.toList.drop j) = ⟨0, [], 0, 0, 0⟩ := by rw [List.drop_eq_nil_of_le (by rw [size_list]; omega)]; rfl
    obtain rfl : r = _ := HR0.out.symm.trans hr
    clear HR0 hr
    subst hjs
    have t0 : w2.cell? ⟨T, 0, none⟩ = some (.int .i64 0) := (show Whole w2 T 32 _ from HT.out).cell 0
    have t1 : w2.cell? ⟨T, 1, none⟩ = some (.string ⟨#[]⟩) := (show Whole w2 T 32 _ from HT.out).cell 1
    have t2 : w2.cell? ⟨T, 2, none⟩ = some (.int .i64 0) := (show Whole w2 T 32 _ from HT.out).cell 2
    have t3 : w2.cell? ⟨T, 3, none⟩ = some (.int .i64 (s.size : Int)) := (show Whole w2 T 32 _ from HT.out).cell 3
    have z0 : w2.cell? ⟨w.heap.size, 0, none⟩ = some (.int .i64 0) := HZ.out.cell 0
    have z1 : w2.cell? ⟨w.heap.size, 1, none⟩ = some (.string ⟨#[]⟩) := HZ.out.cell 1
    have z2 : w2.cell? ⟨w.heap.size, 2, none⟩ = some (.int .i64 0) := HZ.out.cell 2
    have z3 : w2.cell? ⟨w.heap.size, 3, none⟩ = some (.int .i64 0) := HZ.out.cell 3
    have y0 := HZ.out.free 0
    have y1 := HZ.out.free 1
    have y2 := HZ.out.free 2
    have y3 := HZ.out.free 3
    go_wp2_with fail
    go_quiet (fail)
    go_wp2_with fail
    have HF : Hid (RdAt (((((w2.drewN nq).setCell ⟨w.heap.size, 0, none⟩ (.int .i64 0)).setCell ⟨w.heap.size, 1, none⟩ (.string ⟨#[]⟩)).setCell ⟨w.heap.size, 2, none⟩ (.int .i64 0)).setCell ⟨w.heap.size, 3, none⟩ (.int .i64 (s.size : Int))) R s (s.size + 0)) := by
      have hne : R ≠ w.heap.size := by have := HS.out.1; omega
      exact ((((show Whole (w2.drewN nq) R 40 _ from HN.out).far (p := ⟨w.heap.size, 0, none⟩) hne _).far (p := ⟨w.heap.size, 1, none⟩) hne _).far (p := ⟨w.heap.size, 2, none⟩) hne _).far (p := ⟨w.heap.size, 3, none⟩) hne _
    have HG : Hid (But R w.heap.size w (((((w2.drewN nq).setCell ⟨w.heap.size, 0, none⟩ (.int .i64 0)).setCell ⟨w.heap.size, 1, none⟩ (.string ⟨#[]⟩)).setCell ⟨w.heap.size, 2, none⟩ (.int .i64 0)).setCell ⟨w.heap.size, 3, none⟩ (.int .i64 (s.size : Int)))) := by
      have hb : But R w.heap.size w (w2.drewN nq) := HB.out.trans (.of_below (below_drewN (Below.refl _ _) _))
      exact (((hb.setCell (Nat.le_refl _) _).setCell (Nat.le_refl _) _).setCell (Nat.le_refl _) _).setCell (Nat.le_refl _) _
    have HZF : Hid (Whole (((((w2.drewN nq).setCell ⟨w.heap.size, 0, none⟩ (.int .i64 0)).setCell ⟨w.heap.size, 1, none⟩ (.string ⟨#[]⟩)).setCell ⟨w.heap.size, 2, none⟩ (.int .i64 0)).setCell ⟨w.heap.size, 3, none⟩ (.int .i64 (s.size : Int))) w.heap.size 32 #[.int .i64 0, .string ⟨#[]⟩, .int .i64 0, .int .i64 (s.size : Int)]) := (((Whole.put (w := (w2.drewN nq)) HZ.out 0 (.int .i64 0)).put 1 (.string ⟨#[]⟩)).put 2 (.int .i64 0)).put 3 (.int .i64 (s.size : Int))
    generalize ((((w2.drewN nq).setCell ⟨w.heap.size, 0, none⟩ (.int .i64 0)).setCell ⟨w.heap.size, 1, none⟩ (.string ⟨#[]⟩)).setCell ⟨w.heap.size, 2, none⟩ (.int .i64 0)).setCell ⟨w.heap.size, 3, none⟩ (.int .i64 (s.size : Int)) = wf at *
    have g0 := HZF.out.cell 0
    have g1 := HZF.out.cell 1
    have g2 := HZF.out.cell 2
    have g3 := HZF.out.cell 3
    simp only [List.getElem?_toArray, List.getElem?_cons_zero, List.getElem?_cons_succ] at g0 g1 g2 g3
    exact bodyPost_ret (v := .tuple #[tkV 0 ⟨#[]⟩ 0 s.size, .int .i64 0]) (by simp [results, Tryd.results18, go_sem, tkV, g0, g1, g2, g3]) rfl ⟨0, 0, ⟨#[]⟩, 0, rfl, HF.out, HG.out, fun _ => ⟨rfl, rfl, rfl, rfl⟩⟩
end Go.Proofs.YtmjjjnmfkdidgaaDoor
