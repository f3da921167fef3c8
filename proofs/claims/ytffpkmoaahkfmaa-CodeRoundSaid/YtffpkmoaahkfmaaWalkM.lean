/- The walks of layer 13: numbers of two and of eight bytes, by the document. -/
import Derived.Test.YtffpkmoaahkfmaaWalkJ
namespace Go.Proofs.Ytffpkmoaahkfmaa
open Go.RowKit
set_option linter.unusedVariables false

theorem app_grow {ops : Array Oper} {rest : List Oper} {o : Oper} {a : Act} {Q : Exit → Act → World → Prop} {w0 wr : World} {base : Nat} {v : Value} {L : List UInt8} {m : Nat} {news : List Value} (hgd : o.guard = none) (s x : Operand)
    (ho : o.op = .call { callee := .builtin .append, args := #[s, x], argTypes := #[28, 28] }) (hs : a.eval s = v) (hg : Grow true w0 base L v wr)
    (hx : a.eval x = .slice (some ⟨wr.heap.size, 0, none⟩) m m) (l : List UInt8) (hnews : news = l.map u8v) (hm : l.length = m) (hm0 : 0 < m) (hn : L.length + m ≤ 1000000000)
    (h : ∀ v' w', Grow true w0 base (L ++ l) v' w' → KeepT wr w' → wpList Try.prog ops Q rest (a.put o.dst v') w') :
    wpList Try.prog ops Q (o :: rest) a (wr.alloc (.cells news.toArray 5)) := by
  subst hnews
  refine app_u8 (w0 := w0) (w1 := wr) (f := true) hgd s x ho hs hg.1 hg.2.1 (KeepT.refl _) hg.2.2.2 hx (by simpa using hm) (fun u hu => ?_) hm0 hn (fun v' w' ho hb hk hs => ?_)
  · obtain ⟨c, _, rfl⟩ := List.mem_map.1 hu; rfl
  · refine h v' w' ⟨.inl ?_, hb, hg.2.2.1.trans hk, hs⟩ hk
    rw [List.length_append, List.map_append, hm]; exact ho
theorem two_news (n : Int) (h0 : 0 ≤ n) (h1 : n ≤ 65535) : [Value.int IntKind.u8 (n % 256), Value.int IntKind.u8 (n / 256)] = (putB 2 [n]).map u8v := by
  show _ = [u8v (byt n 0), u8v (byt n 1)]
  rw [u8v_byt, u8v_byt]
  simp; omega
set_option maxHeartbeats 1000000 in
theorem two_any {w wr : World} {base : Nat} {L : List UInt8} {v : Value} (hg : Grow true w base L v wr) (n : Int) (h0 : 0 ≤ n) (h1 : n ≤ 65535) (hl : L.length ≤ 100000000) :
    Calls Try.prog 24 #[v, .int .i64 n] wr fun e w' => ∃ v', e = .returned v' ∧ Grow true w base (L ++ putB 2 [n]) v' w' ∧ KeepT wr w' := by
  have HG := Lib.hid hg
  clear hg
  go_enter Try.func24, Try.ntmps24
  go_wp2_with (at_builtin; go_must (refine app_grow rfl _ _ rfl rfl HG.out rfl (putB 2 [n]) ?hnn rfl (by omega) (by omega) ?_); (case hnn => rw [two_news n h0 h1]); intro v8 w8 hg8 hk8)
  go_ret
  exact ⟨_, rfl, hg8, hk8⟩
theorem tm256 (y : Int) : (0 ≤ y.tmod 256 ∧ y.tmod 256 = y % 256) ∨ (y.tmod 256 < 0 ∧ y.tmod 256 = y % 256 - 256) := by
  rcases Int.le_total 0 y with h | h
  · rw [Int.tmod_eq_emod_of_nonneg h]; omega
  · obtain ⟨z, rfl⟩ : ∃ z, y = -z := ⟨-y, by omega⟩
    rw [Int.neg_tmod, Int.tmod_eq_emod_of_nonneg (by omega)]; omega
theorem td256 (y : Int) (hb : -4611686018427387904 ≤ y ∧ y ≤ 4611686018427387903) : wrap64 ((wrap64 (y - y % 256)).tdiv 256) = y / 256 := by
  have h1 : wrap64 (y - y % 256) = 256 * (y / 256) := by unfold wrap64; omega
  rw [h1, Int.mul_tdiv_cancel_left _ (by decide)]; unfold wrap64; omega
theorem low_a {y : Int} (hb : -4611686018427387904 ≤ y ∧ y ≤ 4611686018427387903) (h : ¬ y.tmod 256 < 0) : y.tmod 256 = y % 256 ∧ wrap64 ((wrap64 (y - y.tmod 256)).tdiv 256) = y / 256 := by
  have e : y.tmod 256 = y % 256 := by rcases tm256 y with ⟨_, h2⟩ | ⟨h1, _⟩ <;> omega
  exact ⟨e, by rw [e]; exact td256 y hb⟩
theorem low_b {y : Int} (hb : -4611686018427387904 ≤ y ∧ y ≤ 4611686018427387903) (h : y.tmod 256 < 0) : wrap64 (y.tmod 256 + 256) = y % 256 ∧ wrap64 ((wrap64 (y - wrap64 (y.tmod 256 + 256))).tdiv 256) = y / 256 := by
  have e : wrap64 (y.tmod 256 + 256) = y % 256 := by unfold wrap64; rcases tm256 y with ⟨_, h2⟩ | ⟨_, h1⟩ <;> omega
  exact ⟨e, by rw [e]; exact td256 y hb⟩
theorem pow_div (x : Int) (k : Nat) : x / 256 ^ (k + 1) = x / 256 ^ k / 256 := by
  rw [Int.pow_succ, Int.ediv_ediv_of_nonneg (Int.pow_nonneg (by decide))]
theorem pow_bd (x : Int) (hb : -4611686018427387904 ≤ x ∧ x ≤ 4611686018427387903) : ∀ k : Nat, -4611686018427387904 ≤ x / 256 ^ k ∧ x / 256 ^ k ≤ 4611686018427387903
  | 0 => by rw [Int.pow_zero, Int.ediv_one]; exact hb
  | k + 1 => by have := pow_bd x hb k; rw [pow_div]; omega
def EightRel (w : World) (base : Nat) (L : List UInt8) (x : Int) (b n low i : Value) (wr : World) : Prop :=
  ∃ k : Nat, i = .int .i64 (k : Int) ∧ k ≤ 8 ∧ n = .int .i64 (x / 256 ^ (k + 1)) ∧ low = .int .i64 (x / 256 ^ k % 256) ∧ Grow true w base (L ++ byts x k) b wr
theorem eight_next {w : World} {base : Nat} {L : List UInt8} {x y n' low' i' : Int} {b : Value} {wr : World} {k : Nat} (hk : k < 8) (hy : x / 256 ^ (k + 1) = y) (hn : n' = y / 256) (hl : low' = y % 256) (hi : i' = (k : Int) + 1) (hg : Grow true w base (L ++ byts x k ++ [byt x k]) b wr) :
    EightRel w base L x b (.int .i64 n') (.int .i64 low') (.int .i64 i') wr :=
  ⟨k + 1, by rw [hi]; simp, by omega, by rw [hn, ← hy, ← pow_div], by rw [hl, ← hy], by rw [byts_succ, ← List.append_assoc]; exact hg⟩
theorem eight_news {x r : Int} {k : Nat} (h : x / 256 ^ k % 256 = r) : [Value.int IntKind.u8 r] = [byt x k].map u8v := by
  show _ = [u8v (byt x k)]
  rw [u8v_byt, show (2 : Int) ^ (8 * k) = 256 ^ k from by rw [Int.pow_mul]; rfl, h]
set_option maxHeartbeats 1000000 in
theorem eight_any {w wr : World} {base : Nat} {L : List UInt8} {v : Value} (hg : Grow true w base L v wr) (n : Int) (h0 : -4611686018427387904 ≤ n) (h1 : n ≤ 4611686018427387903) (hl : L.length ≤ 100000000) :
    Calls Try.prog 23 #[v, .int .i64 n] wr fun e w' => ∃ v', e = .returned v' ∧ Grow true w base (L ++ putB 8 [n]) v' w' := by
  have HG := Lib.hid hg
  have HB := Lib.hid (And.intro h0 h1)
  have hA := fun h => low_a (y := n) ⟨h0, h1⟩ h
  have hB := fun h => low_b (y := n) ⟨h0, h1⟩ h
  have HA := Lib.hid hA; have HBB := Lib.hid hB
  clear hg h0 h1 hA hB
  generalize hgw : wr = w0 at *
  clear hgw
  go_enter Try.func23, Try.ntmps23
  go_wp2_with fail
  all_goals
    go_loopw [0, 1, 5, 6] (fun b nn low i wi => EightRel w base L n b nn low i wi) (fun _ _ _ i _ => 8 - (intOf i).toNat)
    case atStart =>
      refine ⟨0, rfl, by omega, ?_, ?_, by simpa [byts] using HG.out⟩
      · first
        | exact congrArg _ (((HA.out (by first | assumption | exact Int.not_lt.mpr (by assumption))).2).trans (by rw [Int.pow_succ, Int.pow_zero, Int.one_mul]))
        | exact congrArg _ (((HBB.out (by assumption)).2).trans (by rw [Int.pow_succ, Int.pow_zero, Int.one_mul]))
      · first
        | exact congrArg _ (((HA.out (by first | assumption | exact Int.not_lt.mpr (by assumption))).1).trans (by rw [Int.pow_zero, Int.ediv_one]))
        | exact congrArg _ (((HBB.out (by assumption)).1).trans (by rw [Int.pow_zero, Int.ediv_one]))
    case round =>
      obtain ⟨k, rfl, hk, rfl, rfl, hgr⟩ := hrel
      have HGR := Lib.hid hgr
      clear hgr
      have hbd := pow_bd n HB.out (k + 1)
      have HAY := Lib.hid (fun h => low_a (y := n / 256 ^ (k + 1)) hbd h)
      have HBY := Lib.hid (fun h => low_b (y := n / 256 ^ (k + 1)) hbd h)
      have hr0 : 0 ≤ n / 256 ^ k % 256 := by omega
      have hr1 : n / 256 ^ k % 256 ≤ 255 := by omega
      have hlen : (L ++ byts n k).length ≤ 100000008 := by rw [List.length_append, byts_len]; omega
      generalize hy : n / 256 ^ (k + 1) = y at *
      generalize hr : n / 256 ^ k % 256 = r at *
      have HY := Lib.hid hy
      have HR := Lib.hid (eight_news hr)
      clear hy hr
      by_cases hlt : k < 8
      · go_wp2_with (at_builtin; go_must (refine app_grow rfl _ _ rfl rfl HGR.out rfl [byt n k] ?hnn rfl (by omega) (by omega) ?_); (case hnn => exact HR.out); intro v8 w8 hg8 hk8)
        all_goals
          go_roundw
          case rel => first | exact eight_next hlt HY.out (HAY.out (by first | assumption | exact Int.not_lt.mpr (by assumption))).2 (HAY.out (by first | assumption | exact Int.not_lt.mpr (by assumption))).1 rfl hg8 | exact eight_next hlt HY.out (HBY.out (by assumption)).2 (HBY.out (by assumption)).1 rfl hg8
          case measure => simp [intOf]; omega
      · have e : k = 8 := by omega
        subst e
        go_wp2
        go_ret
        exact ⟨_, rfl, HGR.out⟩
end Go.Proofs.Ytffpkmoaahkfmaa
