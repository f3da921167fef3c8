/- The walks of layer 3: the document's examples; the first bytes of a text. -/
import Derived.Test.YtmocjhildphklaaWalkI
namespace Go.Proofs.Ytmocjhildphklaa
open Go.RowKit Go.Maps
set_option linter.unusedVariables false

theorem Ints.lit (w : World) (xs : List Int) : Ints (w.alloc (.cells (xs.map (Value.int .i64)).toArray 3)) (w.heap.size + 1) (some ⟨w.heap.size, 0, none⟩) xs.length xs :=
  ⟨rfl, fun _ => ⟨w.heap.size, 0, rfl, by omega, fun j hj => by
    rw [Nat.zero_add, (Whole.made w 3 _).cell j]
    simp [List.getD, List.getElem?_map, List.getElem?_eq_getElem hj]⟩⟩
theorem below_alloc (w : World) (o : Obj) : Below w.heap.size w (w.alloc o) := (Below.refl _ _).alloc (Nat.le_refl _) o
set_option maxHeartbeats 1000000 in
theorem lives_any (w : World) :
    Calls Try.prog 16 #[] w fun e w' => e = .returned (.bool true) ∧ Below w.heap.size w w' := by
  go_enter Try.func16, Try.ntmps16
  go_wp2_with fail
  refine (pack_in _ _ (by decide)).mono ?_
  rintro e w1 ⟨v, rfl, hown, hb1⟩
  obtain ⟨A, c, hv, hI⟩ := Ints.of_own hown
  rw [hv]
  clear hown hv
  rw [show (ByteArray.size ⟨#[97, 98]⟩ + 6) / 7 + 1 = 2 from rfl] at hI ⊢
  rw [show packF (⟨#[97, 98]⟩ : ByteArray).data.toList = [2, 25185] from by decide +kernel] at hI
  go_wp2_with fail
  refine (same_any (w1.alloc (.cells #[.int .i64 2, .int .i64 25185] 3)) (w1.heap.size + 1) A _ 2 2 c 2 [2, 25185] [2, 25185] ((hI.below (below_alloc w1 _)).more (by omega)) (Ints.lit w1 [2, 25185]) (by decide) (by decide)).mono ?_
  rintro e w2 ⟨rfl, hb2⟩
  have hw2 : Below w.heap.size w w2 := (hb1.alloc hb1.size _).trans (hb2.mono (by have := hb1.size; simp; omega))
  clear hb1 hb2 hI
  rw [show ([2, 25185] == ([2, 25185] : List Int)) = true from rfl]
  go_wp2_with fail
  refine (unquote_any _ _ (by decide)).mono ?_
  rintro e w3 ⟨rfl, hb3⟩
  have hw3 := hw2.trans (hb3.mono hw2.size)
  clear hw2 hb3
  rw [show unqF (⟨#[34, 92, 120, 52, 49, 34, 122]⟩ : ByteArray).data.toList = ([65], 6, 0) from by decide +kernel]
  go_wp2_with fail
  refine (quote_any _ _ (by decide)).mono ?_
  rintro e w4 ⟨rfl, hb4⟩
  have hw4 := hw3.trans (hb4.mono hw3.size)
  clear hw3 hb4
  rw [show quoF (⟨#[97, 10, 34]⟩ : ByteArray).data.toList = [34, 97, 92, 110, 92, 34, 34] from by decide +kernel]
  go_wp2_with fail
  go_ret
  exact ⟨rfl, hw4⟩
/-- The first bytes. -/
def fewS (s : ByteArray) : ByteArray := if 150 < s.size then s.extract 0 150 else s
theorem few_size (s : ByteArray) : (fewS s).size ≤ 150 := by
  unfold fewS
  split
  · simp; omega
  · omega
set_option maxHeartbeats 400000 in
theorem few_any (s : ByteArray) (w : World) (hs : s.size ≤ maxLen) :
    Calls Try.prog 12 #[.string s] w fun e w' => e = .returned (.string (fewS s)) ∧ w = w' := by
  unfold maxLen at hs
  by_cases h : 150 < s.size
  · have HF : Hid (fewS s = s.extract 0 150) := by show fewS s = _; unfold fewS; rw [if_pos h]
    have h' : 150 < (s.size : Int) := by omega
    go_enter Try.func12, Try.ntmps12
    go_wp2
    go_ret
    exact ⟨ret_s HF.out.symm, rfl⟩
  · have HF : Hid (fewS s = s) := by show fewS s = _; unfold fewS; rw [if_neg h]
    have h' : ¬ 150 < (s.size : Int) := by omega
    go_enter Try.func12, Try.ntmps12
    go_wp2
    go_ret
    exact ⟨ret_s HF.out.symm, rfl⟩
/-- Packing any text: its numbers, or the error. -/
def PackAny (w : World) (s : ByteArray) (e : Ending) (w' : World) : Prop :=
  ∃ A n c zs er, e = .returned (.tuple #[.slice A n c, .int .i64 er]) ∧ Ints w' w'.heap.size A n zs ∧ n ≤ 10 ∧ Below w.heap.size w w' ∧ ((s.size ≤ 60 ∧ zs = packF s.data.toList ∧ er = 0) ∨ (60 < s.size ∧ zs = [] ∧ er = 12))
theorem pack_any (s : ByteArray) (w : World) (hs : s.size ≤ maxLen) : Calls Try.prog 13 #[.string s] w (PackAny w s) := by
  by_cases h : s.size ≤ 60
  · refine (pack_in s w h).mono ?_
    rintro e w' ⟨v, rfl, hown, hb⟩
    obtain ⟨A, c, rfl, hI⟩ := Ints.of_own hown
    exact ⟨A, _, c, _, 0, rfl, hI, by omega, hb, .inl ⟨h, rfl, rfl⟩⟩
  · refine (pack_out s w (by omega) hs).mono ?_
    rintro e w' ⟨rfl, rfl⟩
    exact ⟨none, 0, 0, [], 12, rfl, Ints.nil_ _ _, by omega, Below.refl _ _, .inr ⟨by omega, rfl, rfl⟩⟩
set_option maxHeartbeats 400000 in
theorem rpack_out (s : ByteArray) (w : World) (h60 : 60 < s.size) (hs : s.size ≤ maxLen) :
    Calls Try.prog 14 #[.string s] w fun e w' => e = .returned (.tuple #[.slice none 0 0, .int .i64 12]) ∧ w = w' := by
  unfold maxLen at hs
  go_enter Try.func14, Try.ntmps14
  go_wp2
  go_ret2
  exact ⟨rfl, rfl⟩
theorem rpack_any (s : ByteArray) (w : World) (hs : s.size ≤ maxLen) : Calls Try.prog 14 #[.string s] w (PackAny w s) := by
  by_cases h : s.size ≤ 60
  · refine (rpack_in s w h).mono ?_
    rintro e w' ⟨v, rfl, hown, hb⟩
    obtain ⟨A, c, rfl, hI⟩ := Ints.of_own hown
    exact ⟨A, _, c, _, 0, rfl, hI, by omega, hb, .inl ⟨h, rfl, rfl⟩⟩
  · refine (rpack_out s w (by omega) hs).mono ?_
    rintro e w' ⟨rfl, rfl⟩
    exact ⟨none, 0, 0, [], 12, rfl, Ints.nil_ _ _, by omega, Below.refl _ _, .inr ⟨by omega, rfl, rfl⟩⟩
end Go.Proofs.Ytmocjhildphklaa
