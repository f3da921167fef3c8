/- The walks of layer 3: a text as it is written, by the reference. -/
import Derived.Test.YtmocjhildphklaaWalkE
namespace Go.Proofs.Ytmocjhildphklaa
open Go.RowKit
set_option linter.unusedVariables false

theorem hex_slice (a : Nat) (h : a < 16) (W : World) : (Instr.slice 9 (.string ⟨#[48, 49, 50, 51, 52, 53, 54, 55, 56, 57, 97, 98, 99, 100, 101, 102]⟩) (some (.int .i64 (a : Int))) (some (.int .i64 ((a : Int) + 1))) none).run Try.prog W = .ok (.string ⟨#[hexL.getD a 0]⟩) W := by
  rcases (by omega : a = 0 ∨ a = 1 ∨ a = 2 ∨ a = 3 ∨ a = 4 ∨ a = 5 ∨ a = 6 ∨ a = 7 ∨ a = 8 ∨ a = 9 ∨ a = 10 ∨ a = 11 ∨ a = 12 ∨ a = 13 ∨ a = 14 ∨ a = 15) with rfl | rfl | rfl | rfl | rfl | rfl | rfl | rfl | rfl | rfl | rfl | rfl | rfl | rfl | rfl | rfl <;> kernel_rfl
theorem app_data (S T : ByteArray) : (S ++ T).data.toList = S.data.toList ++ T.data.toList := by simp
theorem one_data (s : ByteArray) (k : Nat) (h : k < s.size) : (s.extract k (k + 1)).data.toList = [s[k]] := by
  rw [ByteArray.data_extract, Array.toList_extract]
  show (s.data.toList.drop k).take (k + 1 - k) = _
  rw [show k + 1 - k = 1 from by omega]
  rw [List.drop_eq_getElem_cons (by rw [size_data]; exact h)]
  rfl
theorem str_ext (S : ByteArray) (l : List UInt8) (h : S.data.toList = l) : S = ⟨l.toArray⟩ := by subst h; cases S; simp
def RQRel (s : ByteArray) (o i : Value) : Prop :=
  ∃ (k : Nat) (S : ByteArray), k ≤ s.size ∧ i = .int .i64 (k : Int) ∧ o = .string S ∧ S.data.toList = quoP (s.data.toList.take k)
theorem rq_next {s S T : ByteArray} {k : Nat} (h : k < s.size) (hS : S.data.toList = quoP (s.data.toList.take k)) (hT : T.data.toList = quoP (s.data.toList.take k) ++ quo1 s[k]) : RQRel s (.string T) (.int .i64 ((k : Int) + 1)) :=
  ⟨k + 1, T, by omega, by congr 1, rfl, by rw [hT, quoP_snoc s k h]⟩

set_option maxHeartbeats 2000000 in
theorem rquote_any (s : ByteArray) (w : World) (hs : s.size ≤ 150) :
    Calls Try.prog 18 #[.string s] w fun e w' => e = .returned (.string ⟨(quoF s.data.toList).toArray⟩) ∧ Below w.heap.size w w' := by
  go_enter Try.func18, Try.ntmps18
  go_wp2
  go_loopw [4, 5] (fun o i wr => RQRel s o i ∧ ∃ d, wr = w.drewN d) (fun _ i _ => s.size - (intOf i).toNat)
  case atStart => exact ⟨⟨0, _, by omega, rfl, rfl, rfl⟩, 0, rfl⟩
  case round =>
    obtain ⟨⟨k, S, hk, rfl, rfl, hSd⟩, d, rfl⟩ := hrel
    have hql := quoP_len (s.data.toList.take k)
    have hkl : (s.data.toList.take k).length ≤ 150 := by rw [List.length_take, size_data]; omega
    have hSz : S.size ≤ 601 := by rw [← size_data, hSd]; omega
    have HSd := Lib.hid hSd
    clear hSd hql hkl
    by_cases hlt : k < s.size
    · have hc := s[k].toNat_lt
      have hone := one_data s k hlt
      have Hone := Lib.hid hone; clear hone
      by_cases h34 : s[k] = 34
      · have t1 : ((s[k].toNat : Int) == 34) = true := by rw [h34]; rfl
        have HQ : Hid (quo1 s[k] = [92, 34]) := by show quo1 s[k] = _; rw [h34]; decide
        clear h34
        go_wp2
        exact ⟨⟨rq_next hlt HSd.out (by rw [app_data, HSd.out, HQ.out]), d, rfl⟩, by simp [intOf]; omega⟩
      · have t1 : ((s[k].toNat : Int) == 34) = false := by
          rw [beq_eq_false_iff_ne]; intro hh
          exact h34 (UInt8.toNat.inj (by rw [show (34 : UInt8).toNat = 34 from rfl]; omega))
        by_cases h92 : s[k] = 92
        · have t2 : ((s[k].toNat : Int) == 92) = true := by rw [h92]; rfl
          have HQ : Hid (quo1 s[k] = [92, 92]) := by show quo1 s[k] = _; rw [h92]; decide
          clear h34 h92
          go_wp2
          exact ⟨⟨rq_next hlt HSd.out (by rw [app_data, HSd.out, HQ.out]), d, rfl⟩, by simp [intOf]; omega⟩
        · have t2 : ((s[k].toNat : Int) == 92) = false := by
            rw [beq_eq_false_iff_ne]; intro hh
            exact h92 (UInt8.toNat.inj (by rw [show (92 : UInt8).toNat = 92 from rfl]; omega))
          by_cases h10 : s[k] = 10
          · have t3 : ((s[k].toNat : Int) == 10) = true := by rw [h10]; rfl
            have HQ : Hid (quo1 s[k] = [92, 110]) := by show quo1 s[k] = _; rw [h10]; decide
            clear h34 h92 h10
            go_wp2
            exact ⟨⟨rq_next hlt HSd.out (by rw [app_data, HSd.out, HQ.out]), d, rfl⟩, by simp [intOf]; omega⟩
          · have t3 : ((s[k].toNat : Int) == 10) = false := by
              rw [beq_eq_false_iff_ne]; intro hh
              exact h10 (UInt8.toNat.inj (by rw [show (10 : UInt8).toNat = 10 from rfl]; omega))
            have p34 : ((s[k].toNat : Int) != 34) = true := by rw [bne, t1]; rfl
            have p92 : ((s[k].toNat : Int) != 92) = true := by rw [bne, t2]; rfl
            by_cases hp : 32 ≤ s[k].toNat ∧ s[k].toNat ≤ 126
            · have HQ : Hid (quo1 s[k] = [s[k]]) := by
                show quo1 s[k] = _
                unfold quo1 plainB
                rw [p34, p92, decide_eq_true (by omega : 32 ≤ (s[k].toNat : Int)), decide_eq_true (by omega : (s[k].toNat : Int) ≤ 126)]; rfl
              have p1 : 32 ≤ (s[k].toNat : Int) := by omega
              have p2 : (s[k].toNat : Int) ≤ 126 := by omega
              have hse : (s.extract k (k + 1)).size ≤ 1 := by rw [← size_data, Hone.out]; exact Nat.le_refl _
              clear h34 h92 h10 hp p34 p92
              go_wp2
              exact ⟨⟨rq_next hlt HSd.out (by rw [app_data, HSd.out, HQ.out, Hone.out]), d, rfl⟩, by simp [intOf]; omega⟩
            · have HQ : Hid (quo1 s[k] = [92, 120, hexL.getD (s[k].toNat / 16) 0, hexL.getD (s[k].toNat % 16) 0]) := by
                show quo1 s[k] = _
                have hpl : plainB s[k] = false := by
                  unfold plainB
                  rw [Bool.and_eq_false_iff, Bool.and_eq_false_iff, Bool.and_eq_false_iff]
                  simp only [decide_eq_false_iff_not]
                  left; left; omega
                unfold quo1
                rw [hpl, if_neg (by decide), if_neg h10, if_neg (by rintro (hh | hh) <;> contradiction)]
              have f1 := fun W => hex_slice (s[k].toNat / 16) (by omega) W
              have f2 := fun W => hex_slice (s[k].toNat % 16) (by omega) W
              generalize hexL.getD (s[k].toNat / 16) 0 = x at *
              generalize hexL.getD (s[k].toNat % 16) 0 = y at *
              rw [show ((s[k].toNat / 16 : Nat) : Int) = (s[k].toNat : Int) / 16 from by omega] at f1
              rw [show ((s[k].toNat % 16 : Nat) : Int) = (s[k].toNat : Int) % 16 from by omega] at f2
              have g1 : IntKind.i64.wrap ((s[k].toNat : Int) / 16 + 1) = (s[k].toNat : Int) / 16 + 1 := i64_id _ (by omega) (by omega)
              have g2 : IntKind.i64.wrap ((s[k].toNat : Int) % 16 + 1) = (s[k].toNat : Int) % 16 + 1 := i64_id _ (by omega) (by omega)
              clear h34 h92 h10 p34 p92
              rcases (by omega : (s[k].toNat : Int) < 32 ∨ 126 < (s[k].toNat : Int)) with hp1 | hp1
              · clear hp
                go_wp2
                go_quiet (fail)
                go_wp2
                exact ⟨⟨rq_next hlt HSd.out (by rw [app_data, app_data, app_data, HSd.out, HQ.out]; simp), _, rfl⟩, by simp [intOf]; omega⟩
              · have p1 : 32 ≤ (s[k].toNat : Int) := by omega
                clear hp
                go_wp2
                go_quiet (fail)
                go_wp2
                exact ⟨⟨rq_next hlt HSd.out (by rw [app_data, app_data, app_data, HSd.out, HQ.out]; simp), _, rfl⟩, by simp [intOf]; omega⟩
    · have e : k = s.size := by omega
      subst e
      go_wp2
      go_ret
      refine ⟨ret_s (str_ext _ _ ?_), below_drewN (Below.refl _ _) _⟩
      rw [app_data, HSd.out, List.take_of_length_le (by rw [size_data]; omega)]; rfl
end Go.Proofs.Ytmocjhildphklaa
