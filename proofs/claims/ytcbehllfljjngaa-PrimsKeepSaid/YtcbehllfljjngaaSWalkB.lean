/- The walks of layer 3: a text as numbers, by the program. -/
import Derived.Test.YtcbehllfljjngaaSWalkA
import Derived.Test.YtcbehllfljjngaaSPlain
namespace Go.Proofs.Ytcbehllfljjngaa
open Go.RowKit
set_option linter.unusedVariables false

theorem Try.info3 : (Try.prog.info? 3).map (fun i => (i.zero, i.size, i.bytes)) = some (some (.int .i64 0), 1, 8) := by kernel_rfl
theorem own_one (w : World) (base : Nat) (hb : base ≤ w.heap.size) (x : Int) : (w.alloc (.cells #[.int .i64 x] 3)).ownsRow base 3 1 (.slice (some ⟨w.heap.size, 0, none⟩) 1 1) 1 ([x].map (Value.int .i64)) :=
  ⟨rfl, .inr ⟨w.heap.size, 1, #[.int .i64 x], rfl, hb, heap_alloc_new w _, by decide, by unfold maxLen; omega, rfl, rfl⟩⟩
def PackRel (w : World) (s : ByteArray) (v i : Value) (wr : World) : Prop :=
  ∃ j p : Nat, p = 7 * j ∧ j ≤ (s.size + 6) / 7 ∧ i = .int .i64 (p : Int) ∧ wr.ownsRow w.heap.size 3 1 v (j + 1) ((((s.size : Int) :: nums s.data.toList j)).map (Value.int .i64)) ∧ Below w.heap.size w wr
def PackPost (w : World) (s : ByteArray) (e : Ending) (w' : World) : Prop :=
  ∃ v, e = .returned (.tuple #[v, .int .i64 0]) ∧ w'.ownsRow w.heap.size 3 1 v ((s.size + 6) / 7 + 1) ((packF s.data.toList).map (Value.int .i64)) ∧ Below w.heap.size w w'
theorem pack_more (s : ByteArray) (w wr w1 : World) (j p m : Nat) (v v' : Value) (hp : p = 7 * j) (hlt : p < s.size) (hm : (7 ≤ s.size - p ∧ m = 7) ∨ (s.size - p < 7 ∧ m = s.size - p))
    (hw : Below w.heap.size w wr) (x : Int) (hx : x = (leV ((s.data.toList.drop p).take m) : Int)) (hown : wr.ownsRow w.heap.size 3 1 v (j + 1) ((((s.size : Int) :: nums s.data.toList j)).map (Value.int .i64)))
    (hown' : w1.ownsRow w.heap.size 3 1 v' (j + 1 + 1) ((((s.size : Int) :: nums s.data.toList j)).map (Value.int .i64) ++ [.int .i64 x])) (hg : (wr.alloc (.cells #[.int .i64 x] 3)).grownBy w1 v.ownBlock) :
    PackRel w s v' (.int .i64 ((p + 7 : Nat) : Int)) w1 := by
  have e7 : (s.data.toList.drop p).take m = (s.data.toList.drop (7 * j)).take 7 := by
    subst hp
    rcases hm with ⟨h, rfl⟩ | ⟨h, rfl⟩
    · rfl
    · rw [List.take_of_length_le (by rw [List.length_drop, size_data]; omega), List.take_of_length_le (by rw [List.length_drop, size_data]; omega)]
  refine ⟨j + 1, p + 7, by omega, by omega, rfl, ?_, ?_⟩
  · rw [nums_succ, ← e7, ← hx]
    simpa [List.map_append] using hown'
  · refine (hw.alloc hw.size _).grown hg (by have := hw.size; simp; omega) (fun k hk => (hown.lt k hk).1)

set_option maxRecDepth 100000 in
set_option maxHeartbeats 1000000 in
theorem pack_in (s : ByteArray) (w : World) (h60 : s.size ≤ 60) :
    Calls Try.prog 53 #[.string s] w (PackPost w s) := by
  obtain ⟨i0, hi, hz0, hz1, hz2⟩ := info_parts Try.info3
  go_enter Try.func53, Try.ntmps53
  go_wp2
  go_loopw [4, 5] (PackRel w s) (fun _ i _ => s.size - (intOf i).toNat)
  case atStart => exact ⟨0, 0, rfl, by omega, rfl, own_one w _ (Nat.le_refl _) _, (Below.refl _ _).alloc (Nat.le_refl _) _⟩
  case round =>
    obtain ⟨j, p, hp, hj, rfl, hown, hw⟩ := hrel
    have Hp := Lib.hid hp
    by_cases hlt : p < s.size
    · by_cases h7 : 7 ≤ s.size - p
      · have h7' : (7 : Int) ≤ (s.size : Int) - p := by omega
        clear hp
        go_wp2
        go_loop [6, 25] (fun n i => ∃ k : Nat, k ≤ 7 ∧ i = .int .i64 k ∧ n = .int .i64 ((leV ((s.data.toList.drop p).take k) : Nat) : Int)) (fun _ i => 7 - (intOf i).toNat)
        case atStart => exact ⟨0, by omega, rfl, by simp [leV]⟩
        case round =>
          obtain ⟨k, hk, rfl, rfl⟩ := hrel
          have hN := leV_small (s.data.toList.drop p) k (by omega)
          by_cases hk7 : k < 7
          · have hb : p + k < s.size := by omega
            have hor := or_num _ s[p + k].toNat k hN s[p + k].toNat_lt (by omega)
            have HS := Lib.hid (leV_step s p k hb)
            have hpk : (p : Int) + (k : Int) < (s.size : Int) := by omega
            generalize leV ((s.data.toList.drop p).take k) = N at *
            clear hN
            go_wp2
            go_round
            case rel => exact ⟨k + 1, by omega, by go_num, by rw [HS.out, Int.natCast_add, Int.natCast_mul, Int.natCast_pow]; rfl⟩
            case measure => simp [intOf]; omega
          · have e : k = 7 := by omega
            subst e
            generalize hX : ((leV ((s.data.toList.drop p).take 7) : Nat) : Int) = X at *
            have HX := Lib.hid hX
            clear hX hN hk7
            go_wp2_with (first
              | (at_builtin; go_must (refine wpList_append_own _ rfl _ _ 36 rfl w.heap.size 3 i0 (.int .i64 0) 1 8 Try.underlying36 hi hz0 hz1 hz2 rfl (by decide) _ _ _ rfl (hown.alloc _) ⟨wr.heap.size, 0, none⟩ 1 1 [.int .i64 X] rfl rfl ?c1 ?c2 ?c3 ?c4 ?c5 ?_)))
            case c2 => first | rfl | (intro u hu; simp at hu; subst hu; rfl)
            case c3 => unfold maxLen; omega
            case c4 => omega
            case c5 => have := hw.size; simp; omega
            intro v' w1 hown' hgrow _
            have R := pack_more s w wr w1 j p 7 _ v' Hp.out hlt (.inl ⟨h7, rfl⟩) hw X HX.out.symm hown hown' hgrow
            clear hown' hgrow hown HX
            go_wp2
            exact ⟨R, by simp [intOf]; omega⟩
      · obtain ⟨m, hm⟩ : ∃ m, m = s.size - p := ⟨_, rfl⟩
        have hm7 : m < 7 := by omega
        have hmz : (s.size : Int) - p = m := by omega
        have h7' : ¬ (7 : Int) ≤ (m : Int) := by omega
        have HM : Hid ((7 ≤ s.size - p ∧ m = 7) ∨ (s.size - p < 7 ∧ m = s.size - p)) := .inr ⟨by omega, hm⟩
        have hmp : p + m ≤ s.size := by omega
        clear hp hm
        go_wp2
        go_loop [6, 25] (fun n i => ∃ k : Nat, k ≤ m ∧ i = .int .i64 k ∧ n = .int .i64 ((leV ((s.data.toList.drop p).take k) : Nat) : Int)) (fun _ i => m - (intOf i).toNat)
        case atStart => exact ⟨0, by omega, rfl, by simp [leV]⟩
        case round =>
          obtain ⟨k, hk, rfl, rfl⟩ := hrel
          have hN := leV_small (s.data.toList.drop p) k (by omega)
          by_cases hk7 : k < m
          · have hb : p + k < s.size := by omega
            have hor := or_num _ s[p + k].toNat k hN s[p + k].toNat_lt (by omega)
            have HS := Lib.hid (leV_step s p k hb)
            have hpk : (p : Int) + (k : Int) < (s.size : Int) := by omega
            generalize leV ((s.data.toList.drop p).take k) = N at *
            clear hN
            go_wp2
            go_round
            case rel => exact ⟨k + 1, by omega, by go_num, by rw [HS.out, Int.natCast_add, Int.natCast_mul, Int.natCast_pow]; rfl⟩
            case measure => simp [intOf]; omega
          · have e : m = k := by omega
            subst e
            generalize hX : ((leV ((s.data.toList.drop p).take m) : Nat) : Int) = X at *
            have HX := Lib.hid hX
            clear hX hN hk7
            go_wp2_with (first
              | (at_builtin; go_must (refine wpList_append_own _ rfl _ _ 36 rfl w.heap.size 3 i0 (.int .i64 0) 1 8 Try.underlying36 hi hz0 hz1 hz2 rfl (by decide) _ _ _ rfl (hown.alloc _) ⟨wr.heap.size, 0, none⟩ 1 1 [.int .i64 X] rfl rfl ?d1 ?d2 ?d3 ?d4 ?d5 ?_)))
            case d2 => first | rfl | (intro u hu; simp at hu; subst hu; rfl)
            case d3 => unfold maxLen; omega
            case d4 => omega
            case d5 => have := hw.size; simp; omega
            intro v' w1 hown' hgrow _
            have R := pack_more s w wr w1 j p m _ v' Hp.out hlt HM.out hw X HX.out.symm hown hown' hgrow
            clear hown' hgrow hown HX
            go_wp2
            exact ⟨R, by simp [intOf]; omega⟩
    · have H2 : Hid (j = (s.size + 6) / 7) := by show j = _; omega
      clear hp
      go_wp2
      go_ret2
      refine ⟨_, rfl, ?_, hw⟩
      have := H2.out
      subst this
      unfold packF
      rw [size_data]
      exact hown
set_option maxRecDepth 100000 in
set_option maxHeartbeats 400000 in
theorem pack_out (s : ByteArray) (w : World) (h60 : 60 < s.size) (hs : s.size ≤ maxLen) :
    Calls Try.prog 53 #[.string s] w fun e w' => e = .returned (.tuple #[.slice none 0 0, .int .i64 12]) ∧ w = w' := by
  unfold maxLen at hs
  go_enter Try.func53, Try.ntmps53
  go_wp2
  go_ret2
  exact ⟨rfl, rfl⟩
end Go.Proofs.Ytcbehllfljjngaa
