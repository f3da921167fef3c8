/- The walks of layer 13: how many of A and B an Op uses. -/
import Derived.Test.YtjkbhdocpjekmaaRows
import Derived.WalkKit
import Derived.WalkSpells
import Derived.WalkLawsBesides
import Derived.Lib.Hide
import Derived.Deep.DeepMust
import Derived.Deep.QuietTactic
import Derived.BigQuiet
import Derived.Test.YtjkbhdocpjekmaaWords
namespace Go.Proofs.Ytjkbhdocpjekmaa
open Go.RowKit
set_option linter.unusedVariables false

theorem ret_b {a b : Bool} (h : a = b) : Ending.returned (.bool a) = .returned (.bool b) := by rw [h]
theorem ret_i {k : IntKind} {a b : Int} (h : a = b) : Ending.returned (.int k a) = .returned (.int k b) := by rw [h]
theorem ret_s {a b : ByteArray} (h : a = b) : Ending.returned (.string a) = .returned (.string b) := by rw [h]
/-- How many of A and B an Op uses. -/
def usesF (op : Int) : Int :=
  if op = 10 ∨ op = 11 ∨ op = 18 then 2
  else if op = 1 ∨ op = 2 ∨ op = 3 ∨ op = 4 ∨ op = 6 ∨ op = 7 ∨ op = 8 ∨ op = 12 ∨ op = 16 ∨ op = 17 ∨ op = 19 ∨ op = 21 ∨ op = 28 then 1
  else if op < 1 ∨ 33 < op then -1 else 0
def twoL : List Int := [10, 11, 18]
def noneL : List Int := [5, 9, 13, 14, 15, 20, 22, 23, 24, 25, 26, 27, 29, 30, 31, 32, 33]

set_option maxHeartbeats 1000000 in
theorem uses_any (op : Int) (w : World) : Calls Try.prog 49 #[.int .i64 op] w fun e w' => e = .returned (.int .i64 (usesF op)) ∧ w = w' := by
  go_enter Try.func49, Try.ntmps49
  go_wp2
  all_goals (go_ret; refine ⟨ret_i ?_, rfl⟩; unfold usesF; simp_all)
theorem in_any (n a b : Int) (w : World) : Calls Try.prog 22 #[.int .i64 n, .int .i64 a, .int .i64 b] w fun e w' => e = .returned (.bool (decide (a ≤ n) && decide (n ≤ b))) ∧ w = w' := by
  by_cases h : a ≤ n
  · have t1 : decide (a ≤ n) = true := by simp [h]
    go_enter Try.func22, Try.ntmps22
    go_wp2
    go_ret
    exact ⟨ret_b (by simp_all), rfl⟩
  · have t1 : decide (a ≤ n) = false := by simp [h]
    go_enter Try.func22, Try.ntmps22
    go_wp2
    go_ret
    exact ⟨ret_b (by simp_all), rfl⟩
theorem usesF_two {op : Int} {k : Nat} (hk : k < 3) (h : twoL.getD k 0 = op) : usesF op = 2 := by
  subst h
  match k, hk with
  | 0, _ => rfl
  | 1, _ => rfl
  | 2, _ => rfl
theorem usesF_fin : ∀ m : Fin 34, 1 ≤ m.val → (∀ j : Fin 3, twoL.getD j.val 0 ≠ (m.val : Int)) → (∀ k : Fin 17, noneL.getD k.val 0 = (m.val : Int) → usesF (m.val : Int) = 0) ∧ ((∀ k : Fin 17, noneL.getD k.val 0 ≠ (m.val : Int)) → usesF (m.val : Int) = 1) := by decide +kernel
theorem usesF_none {op : Int} {k : Nat} (h1 : 1 ≤ op) (h2 : op ≤ 33) (ht : ∀ j, j < 3 → twoL.getD j 0 ≠ op) (hk : k < 17) (h : noneL.getD k 0 = op) : usesF op = 0 := by
  obtain ⟨m, rfl⟩ := Int.eq_ofNat_of_zero_le (a := op) (by omega)
  exact (usesF_fin ⟨m, by omega⟩ (by show 1 ≤ m; omega) (fun j => ht j.val j.isLt)).1 ⟨k, hk⟩ h
theorem usesF_one {op : Int} (h1 : 1 ≤ op) (h2 : op ≤ 33) (ht : ∀ j, j < 3 → twoL.getD j 0 ≠ op) (hn : ∀ k, k < 17 → noneL.getD k 0 ≠ op) : usesF op = 1 := by
  obtain ⟨m, rfl⟩ := Int.eq_ofNat_of_zero_le (a := op) (by omega)
  exact (usesF_fin ⟨m, by omega⟩ (by show 1 ≤ m; omega) (fun j => ht j.val j.isLt)).2 (fun k => hn k.val k.isLt)
theorem usesF_out {op : Int} (h : op < 1 ∨ 33 < op) : usesF op = -1 := by
  unfold usesF; rw [if_neg (by omega), if_neg (by omega), if_pos h]
/-- A block of integers reads as a list. -/
theorem whole_get {w : World} {g : Nat} {zs : List Int} (h : Whole w g 3 (zs.map (Value.int .i64)).toArray) {k : Nat} (hk : k < zs.length) : w.cell? ⟨g, k, none⟩ = some (.int .i64 (zs.getD k 0)) := by
  rw [h.cell k, List.getElem?_toArray, List.getElem?_map, List.getElem?_eq_getElem hk, List.getD_eq_getElem?_getD, List.getElem?_eq_getElem hk]; rfl
set_option maxHeartbeats 1000000 in
theorem ruses_any (op : Int) (w : World) : Calls Try.prog 21 #[.int .i64 op] w fun e w' => e = .returned (.int .i64 (usesF op)) ∧ Below w.heap.size w w' := by
  by_cases ho : op < 1 ∨ 33 < op
  · have H2 := Lib.hid (usesF_out ho)
    by_cases h1 : op < 1
    · clear ho
      go_enter Try.func21, Try.ntmps21
      go_wp2
      go_ret
      exact ⟨ret_i H2.out.symm, Below.refl _ _⟩
    · have h3 : 33 < op := by omega
      clear ho
      go_enter Try.func21, Try.ntmps21
      go_wp2
      go_ret
      exact ⟨ret_i H2.out.symm, Below.refl _ _⟩
  · have h1 : ¬ op < 1 := by omega
    have h3 : ¬ 33 < op := by omega
    clear ho
    go_enter Try.func21, Try.ntmps21
    go_wp2
    obtain ⟨w2, hw2⟩ : ∃ w2, w2 = (w.alloc (.cells (twoL.map (Value.int .i64)).toArray 3)).alloc (.cells (noneL.map (Value.int .i64)).toArray 3) := ⟨_, rfl⟩
    have hh1 : Whole w2 w.heap.size 3 (twoL.map (Value.int .i64)).toArray := by rw [hw2]; exact (Whole.made w 3 _).alloc _
    have hh2 : Whole w2 (w.heap.size + 1) 3 (noneL.map (Value.int .i64)).toArray := by
      rw [hw2]
      have := Whole.made (w.alloc (.cells (twoL.map (Value.int .i64)).toArray 3)) 3 (noneL.map (Value.int .i64)).toArray
      simpa using this
    have hwb : Below w.heap.size w w2 := by
      rw [hw2]; exact ((Below.refl _ _).alloc (Nat.le_refl _) _).alloc (by simp) _
    change (w2 = (w.alloc (.cells #[.int .i64 10, .int .i64 11, .int .i64 18] 3)).alloc (.cells #[.int .i64 5, .int .i64 9, .int .i64 13, .int .i64 14, .int .i64 15, .int .i64 20, .int .i64 22, .int .i64 23, .int .i64 24, .int .i64 25, .int .i64 26, .int .i64 27, .int .i64 29, .int .i64 30, .int .i64 31, .int .i64 32, .int .i64 33] 3)) at hw2
    rw [← hw2]
    clear hw2
    have HW := Lib.hid hwb
    clear hwb
    go_loop [5] (fun v => ∃ k : Nat, v = .int .i64 (k : Int) ∧ k ≤ 3 ∧ ∀ j, j < k → twoL.getD j 0 ≠ op) (fun v => 3 - (intOf v).toNat)
    case atStart => exact ⟨0, rfl, by omega, fun j hj => absurd hj (by omega)⟩
    case round =>
      obtain ⟨k, rfl, hk, hp⟩ := hrel
      have HP := Lib.hid hp
      clear hp
      by_cases hlt : k < 3
      · have hc := whole_get hh1 (k := k) hlt
        obtain ⟨x, hx⟩ : ∃ x, x = twoL.getD k 0 := ⟨_, rfl⟩
        rw [← hx] at hc
        by_cases hxo : x = op
        · have H2 := Lib.hid (usesF_two hlt (hx.symm.trans hxo))
          have t1 : (x == op) = true := by simp [hxo]
          clear hx hxo
          go_wp2
          go_ret
          exact ⟨ret_i H2.out.symm, HW.out⟩
        · have t1 : (x == op) = false := by simp [hxo]
          have H2 : Hid (∀ j, j < k + 1 → twoL.getD j 0 ≠ op) := fun j hj => by
            rcases Nat.lt_or_ge j k with h | h
            · exact HP.out j h
            · rw [show j = k from by omega, ← hx]; exact hxo
          clear hx hxo
          go_wp2
          go_round
          case rel => exact ⟨k + 1, by go_num, by omega, H2.out⟩
          case measure => simp [intOf]; omega
      · have HP3 : Hid (∀ j, j < 3 → twoL.getD j 0 ≠ op) := fun j hj => HP.out j (by omega)
        clear HP
        go_wp2
        go_loop [6] (fun v => ∃ k : Nat, v = .int .i64 (k : Int) ∧ k ≤ 17 ∧ ∀ j, j < k → noneL.getD j 0 ≠ op) (fun v => 17 - (intOf v).toNat)
        case atStart => exact ⟨0, rfl, by omega, fun j hj => absurd hj (by omega)⟩
        case round =>
          obtain ⟨m, rfl, hm, hp⟩ := hrel
          have HP := Lib.hid hp
          clear hp
          by_cases hlt : m < 17
          · have hc := whole_get hh2 (k := m) hlt
            obtain ⟨x, hx⟩ : ∃ x, x = noneL.getD m 0 := ⟨_, rfl⟩
            rw [← hx] at hc
            by_cases hxo : x = op
            · have H2 := Lib.hid (usesF_none (by omega) (by omega) HP3.out hlt (hx.symm.trans hxo))
              have t1 : (x == op) = true := by simp [hxo]
              clear hx hxo
              go_wp2
              go_ret
              exact ⟨ret_i H2.out.symm, HW.out⟩
            · have t1 : (x == op) = false := by simp [hxo]
              have H2 : Hid (∀ j, j < m + 1 → noneL.getD j 0 ≠ op) := fun j hj => by
                rcases Nat.lt_or_ge j m with h | h
                · exact HP.out j h
                · rw [show j = m from by omega, ← hx]; exact hxo
              clear hx hxo
              go_wp2
              go_round
              case rel => exact ⟨m + 1, by go_num, by omega, H2.out⟩
              case measure => simp [intOf]; omega
          · have H2 := Lib.hid (usesF_one (op := op) (by omega) (by omega) HP3.out (fun j hj => HP.out j (by omega)))
            go_wp2
            go_ret
            exact ⟨ret_i H2.out.symm, HW.out⟩
end Go.Proofs.Ytjkbhdocpjekmaa
