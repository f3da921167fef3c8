/- The walks of layer 3: a text as numbers, by the reference. -/
import Derived.Test.YtcbehllfljjngaaSWalkB
import Derived.Test.YtcbehllfljjngaaSPlainB
import Derived.StillTailTactics
import Derived.IntWalk
namespace Go.Proofs.Ytcbehllfljjngaa
open Go.RowKit
set_option linter.unusedVariables false
set_option maxRecDepth 100000 in
set_option maxHeartbeats 400000 in
theorem power_any (n : Nat) (w : World) (hn : n ≤ 6) :
    Calls Try.prog 77 #[.int .i64 n] w fun e w' => e = .returned (.int .i64 ((256 ^ n : Nat) : Int)) ∧ w' = w := by
  go_enter Try.func77, Try.ntmps77
  go_wp2
  go_loop [3, 4] (fun p i => ∃ k : Nat, k ≤ n ∧ i = .int .i64 k ∧ p = .int .i64 ((256 ^ k : Nat) : Int)) (fun _ i => n - (intOf i).toNat)
  case atStart => exact ⟨0, by omega, rfl, rfl⟩
  case round =>
    obtain ⟨k, hk, rfl, rfl⟩ := hrel
    by_cases hlt : k < n
    · have h1 : (256 : Nat) ^ k ≤ 256 ^ 5 := Nat.pow_le_pow_right (by decide) (by omega)
      have h2 : (256 : Nat) ^ 5 = 1099511627776 := by decide
      have h3 : Hid ((256 : Nat) ^ (k + 1) = 256 ^ k * 256) := Nat.pow_succ ..
      generalize (256 : Nat) ^ k = p at *
      rw [h2] at h1
      clear h2
      go_wp2
      go_round
      case rel => exact ⟨k + 1, by omega, by go_num, by rw [h3.out]; congr 1⟩
      case measure => simp [intOf]; omega
    · have e : k = n := by omega
      subst e
      go_wp2
      go_ret
      exact ⟨rfl, rfl⟩
theorem app_int {ops : Array Oper} {rest : List Oper} {o : Oper} {a : Act} {Q : Exit → Act → World → Prop} {w wr : World} {v : Value} {n : Nat} {xs : List Value} {X : Int} (hgd : o.guard = none) (s x : Operand)
    (ho : o.op = .call { callee := .builtin .append, args := #[s, x], argTypes := #[36, 36] }) (hs : a.eval s = v) (hown : wr.ownsRow w.heap.size 3 1 v n xs) (hw : Below w.heap.size w wr)
    (hx : a.eval x = .slice (some ⟨wr.heap.size, 0, none⟩) 1 1) (hn : n ≤ 1000000)
    (h : ∀ v' w', w'.ownsRow w.heap.size 3 1 v' (n + 1) (xs ++ [.int .i64 X]) → Below w.heap.size w w' → wpList Try.prog ops Q rest (a.put o.dst v') w') :
    wpList Try.prog ops Q (o :: rest) a (wr.alloc (.cells #[.int .i64 X] 3)) := by
  obtain ⟨i0, hi, hz0, hz1, hz2⟩ := info_parts Try.info3
  refine wpList_append_own _ hgd s x 36 ho w.heap.size 3 i0 (.int .i64 0) 1 8 Try.underlying36 hi hz0 hz1 hz2 rfl (by decide) v n xs hs (hown.alloc _) ⟨wr.heap.size, 0, none⟩ 1 1 [.int .i64 X] hx rfl (cell_one_new _ _ _) ?_ ?_ ?_ ?_ ?_
  · intro u hu; simp at hu; subst hu; rfl
  · unfold maxLen; omega
  · omega
  · have := hw.size; simp; omega
  · intro v' w1 hown' hgrow _
    exact h v' w1 hown' ((hw.alloc hw.size _).grown hgrow (by have := hw.size; simp; omega) (fun k hk => (hown.lt k hk).1))
def RPackRel (w : World) (s : ByteArray) (v i : Value) (wr : World) : Prop :=
  ∃ k : Nat, k ≤ s.size ∧ i = .int .i64 (k : Int) ∧ wr.ownsRow w.heap.size 3 1 v ((k + 6) / 7 + 1) ((packR s.data.toList k).map (Value.int .i64)) ∧ Below w.heap.size w wr
theorem own_formS {w : World} {base e : Nat} {v : Value} {n : Nat} {xs : List Value} (h : w.ownsRow base e 1 v (n + 1) xs) : ∃ g cap, v = .slice (some ⟨g, 0, none⟩) (n + 1) cap ∧ base ≤ g := by
  rcases h.2 with ⟨_, h0⟩ | ⟨g, cap, cur, hv, hg, _⟩
  · cases h0
  · exact ⟨g, cap, hv, hg⟩
theorem i64_id (x : Int) (h0 : 0 ≤ x) (h1 : x < 1000000000000000000) : IntKind.i64.wrap x = x := by
  simp only [IntKind.wrap, IntKind.bits, IntKind.signed]; simp; omega

theorem set_map_app (L : List Int) (x : Int) : (L ++ [x]).map (Value.int .i64) = L.map (Value.int .i64) ++ [.int .i64 x] := by simp
set_option maxRecDepth 100000 in
set_option maxHeartbeats 1000000 in
theorem rpack_in (s : ByteArray) (w : World) (h60 : s.size ≤ 60) :
    Calls Try.prog 70 #[.string s] w (PackPost w s) := by
  go_enter Try.func70, Try.ntmps70
  go_wp2
  go_loopw [4, 5] (RPackRel w s) (fun _ i _ => s.size - (intOf i).toNat)
  case atStart => exact ⟨0, by omega, rfl, by rw [show packR s.data.toList 0 = [(s.size : Int)] from by simp [packR, numsR]]; exact own_one w _ (Nat.le_refl _) _, (Below.refl _ _).alloc (Nat.le_refl _) _⟩
  case round =>
    obtain ⟨k, hk, rfl, hown, hw⟩ := hrel
    by_cases hlt : k < s.size
    · have hc := s[k].toNat_lt
      have hp := pow_small (k % 7) (by omega)
      have hcp : s[k].toNat * 256 ^ (k % 7) ≤ 255 * 281474976710656 := Nat.mul_le_mul (by omega) hp
      by_cases h7 : k % 7 = 0
      · have h7' : ((k : Int) % 7 == 0) = true := by rw [beq_iff_eq]; omega
        have hN := packR_new s k hlt h7
        have HN0 := Lib.hid hN; clear hN
        go_wp2_with (at_builtin; go_must (refine app_int rfl _ _ rfl rfl hown hw rfl (by omega) ?_); intro v' w1 hown' hw1)
        have hN := HN0.out
        clear HN0
        obtain ⟨g, cap, hv, hg⟩ := own_formS hown'
        rw [hv] at hown' ⊢
        rw [← set_map_app] at hown'
        have hcell := hown'.cellAt ((k + 6) / 7 + 1) (by omega)
        rw [set_map_app, List.getElem?_append_right (by rw [List.length_map, packR_len]; omega), List.length_map, packR_len, Nat.sub_self] at hcell
        replace hcell := hcell.trans (show _ = some (Value.int .i64 0) from rfl)
        have H7 := Lib.hid h7
        clear hown hv h7'
        obtain ⟨q, hq⟩ : ∃ q : Nat, (k + 6) / 7 + 1 = q := ⟨_, rfl⟩
        have hq9 : q ≤ 100 := by omega
        rw [hq] at hcell hN ⊢
        rw [hq] at hown'
        have HQ := Lib.hid hq; clear hq
        obtain ⟨PW, hPW⟩ : ∃ PW : Nat, 256 ^ (k % 7) = PW := ⟨_, rfl⟩
        rw [hPW] at hp hcp hN
        rw [show (0 + ((s[k].toNat * PW : Nat) : Int)) = (s[k].toNat : Int) * (PW : Int) from by first | (rw [Int.natCast_mul]; done) | (rw [Int.natCast_mul]; omega)] at hN
        have HN := Lib.hid hN; clear hN
        have hfree := hown'.frozenAt q
        have hst := (hown'.stored q (.int .i64 ((s[k].toNat : Int) * (PW : Int)))).1
        have hwst := hw1.setCell (p := ⟨g, q, none⟩) hg (.int .i64 ((s[k].toNat : Int) * (PW : Int)))
        clear hown'
        have f1 := i64_id (q : Int) (by omega) (by omega)
        have f2 := i64_id (s[k].toNat : Nat) (by omega) (by omega)
        have f3 : (k : Int).tmod 7 = ((k % 7 : Nat) : Int) := by rw [Int.tmod_eq_emod_of_nonneg (by omega)]; omega
        have f4 : IntKind.i64.wrap ((s[k].toNat : Int) * (PW : Int)) = ((s[k].toNat * PW : Nat) : Int) := by rw [← Int.natCast_mul]; exact i64_id _ (by omega) (by omega)
        have f5 := i64_id (0 + ((s[k].toNat * PW : Nat) : Int)) (by omega) (by omega)
        have f7 : (q : Int) < (q : Int) + 1 := by omega
        have f8 : (k : Int) < (s.size : Int) := by omega
        have hpow := fun W => power_any (k % 7) W (by omega)
        rw [hPW] at hpow
        clear hPW hw1 h7
        go_still_tail 20, (by kernel_rfl)
        have f6 : ((k % 7 : Nat) : Int) = (k : Int) % 7 := by omega
        still_call (by rw [← f6]; exact hpow _)
        repeat still_step
        refine wpStill_nil ?_
        change wpList _ _ _ _ _ w1.drew
        clear f1 f2 f3 f4 f5 f6 hpow
        go_wp2
        refine ⟨⟨k + 1, by omega, by go_num, ?_, hwst.drew⟩, by simp [intOf]; omega⟩
        have e := HQ.out
        have e7 := H7.out
        rw [show (k + 1 + 6) / 7 + 1 = q + 1 from by omega, HN.out, List.map_set]
        exact hst
      · have h7' : ((k : Int) % 7 == 0) = false := by rw [beq_eq_false_iff_ne]; omega
        obtain ⟨x, hx, hx0, hx1, hN⟩ := numsR_in s k hlt h7
        obtain ⟨g, cap, hv, hg⟩ := own_formS hown
        rw [hv] at hown ⊢
        have hcell := hown.cellAt ((k + 6) / 7) (by omega)
        rw [List.getElem?_map, hx] at hcell
        replace hcell := hcell.trans (show _ = some (Value.int .i64 x) from rfl)
        have H7 := Lib.hid h7
        clear hv hx
        obtain ⟨q, hq⟩ : ∃ q : Nat, (k + 6) / 7 = q := ⟨_, rfl⟩
        have hq9 : q ≤ 100 := by omega
        rw [hq] at hcell hN ⊢
        rw [hq] at hown
        have HQ := Lib.hid hq; clear hq
        obtain ⟨PW, hPW⟩ : ∃ PW : Nat, 256 ^ (k % 7) = PW := ⟨_, rfl⟩
        rw [hPW] at hp hcp hN
        rw [show (x + ((s[k].toNat * PW : Nat) : Int)) = x + (s[k].toNat : Int) * (PW : Int) from by first | (rw [Int.natCast_mul]; done) | (rw [Int.natCast_mul]; omega)] at hN
        have HN := Lib.hid hN; clear hN
        have hfree := hown.frozenAt q
        have hst := (hown.stored q (.int .i64 (x + (s[k].toNat : Int) * (PW : Int)))).1
        have hwst := hw.setCell (p := ⟨g, q, none⟩) hg (.int .i64 (x + (s[k].toNat : Int) * (PW : Int)))
        clear hown
        go_wp2
        have f1 := i64_id (q : Int) (by omega) (by omega)
        have f2 := i64_id (s[k].toNat : Nat) (by omega) (by omega)
        have f3 : (k : Int).tmod 7 = ((k % 7 : Nat) : Int) := by rw [Int.tmod_eq_emod_of_nonneg (by omega)]; omega
        have f4 : IntKind.i64.wrap ((s[k].toNat : Int) * (PW : Int)) = ((s[k].toNat * PW : Nat) : Int) := by rw [← Int.natCast_mul]; exact i64_id _ (by omega) (by omega)
        have f5 := i64_id (x + ((s[k].toNat * PW : Nat) : Int)) (by omega) (by omega)
        have f7 : (q : Int) < (q : Int) + 1 := by omega
        have f8 : (k : Int) < (s.size : Int) := by omega
        have hpow := fun W => power_any (k % 7) W (by omega)
        rw [hPW] at hpow
        clear hPW h7
        go_still_tail 20, (by kernel_rfl)
        have f6 : ((k % 7 : Nat) : Int) = (k : Int) % 7 := by omega
        still_call (by rw [← f6]; exact hpow _)
        repeat still_step
        refine wpStill_nil ?_
        change wpList _ _ _ _ _ wr.drew
        clear f1 f2 f3 f4 f5 f6 hpow
        go_wp2
        refine ⟨⟨k + 1, by omega, by go_num, ?_, hwst.drew⟩, by simp [intOf]; omega⟩
        have e := HQ.out
        have e7 := H7.out
        rw [show (k + 1 + 6) / 7 + 1 = q + 1 from by omega, HN.out, List.map_set]
        exact hst
    · have e : k = s.size := by omega
      subst e
      go_wp2
      go_ret2
      refine ⟨_, rfl, ?_, hw⟩
      rw [← packR_end, size_data]
      exact hown
end Go.Proofs.Ytcbehllfljjngaa
