/- The walks of layer 3: a text as it is written, by the program. -/
import Derived.Test.YtmocjhildphklaaWalkD
import Derived.Deep.RegionHeld3
import Derived.Deep.AppendLies
import Derived.Laws.BytesArg
namespace Go.Proofs.Ytmocjhildphklaa
open Go.RowKit
set_option linter.unusedVariables false

theorem Try.info5 : (Try.prog.info? 5).map (fun i => (i.zero, i.size, i.bytes)) = some (some (.int .u8 0), 1, 1) := by kernel_rfl
theorem app_u8 {ops : Array Oper} {rest : List Oper} {o : Oper} {a : Act} {Q : Exit → Act → World → Prop} {w0 wr : World} {base : Nat} {v : Value} {n m : Nat} {xs news : List Value} (hgd : o.guard = none) (s x : Operand)
    (ho : o.op = .call { callee := .builtin .append, args := #[s, x], argTypes := #[40, 40] }) (hs : a.eval s = v) (hown : wr.ownsRow base 5 1 v n xs) (hw : Below base w0 wr) (hb : base ≤ wr.heap.size)
    (hx : a.eval x = .slice (some ⟨wr.heap.size, 0, none⟩) m m) (hm : news.length = m) (h1 : ∀ u ∈ news, u.oneCell' = true) (hn : n + m ≤ 1000000000)
    (h : ∀ v' w', w'.ownsRow base 5 1 v' (n + m) (xs ++ news) → Below base w0 w' → base ≤ w'.heap.size → wpList Try.prog ops Q rest (a.put o.dst v') w') :
    wpList Try.prog ops Q (o :: rest) a (wr.alloc (.cells news.toArray 5)) := by
  obtain ⟨i0, hi, hz0, hz1, hz2⟩ := info_parts Try.info5
  refine wpList_append_own _ hgd s x 40 ho base 5 i0 (.int .u8 0) 1 1 Try.underlying40 hi hz0 hz1 hz2 rfl (by decide) v n xs hs (hown.alloc _) ⟨wr.heap.size, 0, none⟩ m m news hx (by omega) ?_ h1 ?_ ?_ ?_ ?_
  · intro j u hj
    have := (Whole.made wr 5 news.toArray).cell j
    have e : (⟨wr.heap.size, 0, none⟩ : Addr).add j = ⟨wr.heap.size, j, none⟩ := by unfold Addr.add; split <;> simp_all
    rw [e, this]; simpa using hj
  · unfold maxLen; omega
  · omega
  · simp; omega
  · intro v' w1 hown' hgrow _
    refine h v' w1 hown' ((hw.alloc hb _).grown hgrow (by simp; omega) (fun k hk => (hown.lt k hk).1)) ?_
    have := hgrow.size; simp at this; omega
theorem step_app_u8 {ops : Array Oper} {o : Oper} {a : Act} {K : Act → World → Prop} {Q : Exit → Act → World → Prop} {E : Prop} {W : World} (hgd : o.guard = none) (s x : Operand)
    (ho : o.op = .call { callee := .builtin .append, args := #[s, x], argTypes := #[40, 40] }) (base : Nat) (v : Value) (n : Nat) (xs : List Value) (hs : a.eval s = v) (hown : W.ownsRow base 5 1 v n xs)
    (g m : Nat) (news : List Value) (hx : a.eval x = .slice (some ⟨g, 0, none⟩) m m) (hnew : Whole W g 5 news.toArray) (hm : news.length = m) (h1 : ∀ u ∈ news, u.oneCell' = true) (hn : n + m ≤ 1000000000) (hbase : base ≤ W.heap.size)
    (h : ∀ v' w', w'.ownsRow base 5 1 v' (n + m) (xs ++ news) → W.grownBy w' v.ownBlock → K (a.put o.dst v') w') :
    if Region.wanted o (yielded ops a.tmps) = true then Oper.wp Try.prog o a W K Q else E := by
  obtain ⟨i0, hi, hz0, hz1, hz2⟩ := info_parts Try.info5
  have hw : Region.wanted o (yielded ops a.tmps) = true := by simp [Region.wanted, hgd]
  rw [if_pos hw]
  refine wp_append_own _ s x 40 ho base 5 i0 (.int .u8 0) 1 1 Try.underlying40 hi hz0 hz1 hz2 rfl (by decide) v n xs hs hown ⟨g, 0, none⟩ m m news hx (by omega) ?_ h1 ?_ ?_ hbase ?_
  · intro j u hj
    have := hnew.cell j
    have e : (⟨g, 0, none⟩ : Addr).add j = ⟨g, j, none⟩ := by unfold Addr.add; split <;> simp_all
    rw [e, this]; simpa using hj
  · unfold maxLen; omega
  · omega
  · intro v' w1 hown' hgrow _
    exact h v' w1 hown' hgrow
/-- A byte as it is written. -/
def quo1 (c : UInt8) : List UInt8 :=
  if plainB c then [c] else if c = 10 then [92, 110] else if c = 34 ∨ c = 92 then [92, c] else [92, 120, hexL.getD (c.toNat / 16) 0, hexL.getD (c.toNat % 16) 0]
def quoP (l : List UInt8) : List UInt8 := 34 :: l.flatMap quo1
def quoF (l : List UInt8) : List UInt8 := quoP l ++ [34]
theorem quo1_len (c : UInt8) : (quo1 c).length ≤ 4 := by unfold quo1; split <;> (try split) <;> (try split) <;> simp
theorem quoP_len (l : List UInt8) : (quoP l).length ≤ 4 * l.length + 1 := by
  unfold quoP
  induction l with
  | nil => simp
  | cons c l ih =>
    have := quo1_len c
    rw [List.flatMap_cons]; simp at ih ⊢; omega
theorem quoP_snoc (s : ByteArray) (k : Nat) (h : k < s.size) : quoP (s.data.toList.take (k + 1)) = quoP (s.data.toList.take k) ++ quo1 s[k] := by
  unfold quoP
  rw [List.take_add_one, data_get s k h, Option.toList_some, List.flatMap_append, List.flatMap_cons, List.flatMap_nil, List.append_nil]; rfl
def hexA : Array Value := #[.int .u8 48, .int .u8 49, .int .u8 50, .int .u8 51, .int .u8 52, .int .u8 53, .int .u8 54, .int .u8 55, .int .u8 56, .int .u8 57, .int .u8 97, .int .u8 98, .int .u8 99, .int .u8 100, .int .u8 101, .int .u8 102]
theorem hexA_get (i : Nat) (h : i < 16) : hexA[i]? = some (u8v (hexL.getD i 0)) := by
  rcases (by omega : i = 0 ∨ i = 1 ∨ i = 2 ∨ i = 3 ∨ i = 4 ∨ i = 5 ∨ i = 6 ∨ i = 7 ∨ i = 8 ∨ i = 9 ∨ i = 10 ∨ i = 11 ∨ i = 12 ∨ i = 13 ∨ i = 14 ∨ i = 15) with rfl | rfl | rfl | rfl | rfl | rfl | rfl | rfl | rfl | rfl | rfl | rfl | rfl | rfl | rfl | rfl <;> rfl
theorem conv_own {w : World} {base n : Nat} {v : Value} {xs : List Value} {l : List UInt8} (h : w.ownsRow base 5 1 v n xs) (hx : xs = l.map u8v) : (convert 40 9 v).run Try.prog w = .ok (.string ⟨l.toArray⟩) w := by
  subst hx
  have hl := h.1
  rw [List.length_map, Nat.mul_one] at hl
  rcases h.2 with ⟨rfl, rfl⟩ | ⟨g, cap, cur, rfl, hg, hh, hn, hc, hs, ht⟩
  · have : l = [] := List.eq_nil_of_length_eq_zero hl
    subst this
    exact run_convert_bytes_nil w 40 5 Try.underlying40 Try.underlying5 0 0 9 Try.underlying9
  · have hr := run_convert_bytes_arg w 40 5 Try.underlying40 Try.underlying5 g 0 n cap (l.map fun c => (c.toNat : Int)) (by simpa using hl) (fun i hi => by
      have h1 : w.cell? ⟨g, 0 + i, none⟩ = cur[i]? := by rw [Nat.zero_add]; exact cell_of_row w g i cur 5 (0, 0) hh
      rw [h1]
      have h2 : cur[i]? = (cur.toList.take (n * 1))[i]? := by rw [List.getElem?_take, if_pos (by omega), Array.getElem?_toList]
      rw [h2, ht, List.getElem?_map]
      simp [List.getD, List.getElem?_map, List.getElem?_eq_getElem (show i < l.length by omega), u8v]) 9 Try.underlying9
    rw [hr]
    congr 2
    unfold strOfNums
    congr 2
    rw [List.map_map]
    conv => rhs; rw [← List.map_id l]
    apply List.map_congr_left
    intro b _
    simp
def QRel (w w2 : World) (B : Nat) (s : ByteArray) (v i : Value) (wr : World) : Prop :=
  ∃ k : Nat, k ≤ s.size ∧ i = .int .i64 (k : Int) ∧ wr.ownsRow (B + 1) 5 1 v (quoP (s.data.toList.take k)).length ((quoP (s.data.toList.take k)).map u8v) ∧ Below (B + 1) w2 wr ∧ B + 1 ≤ wr.heap.size
theorem q_next {w w2 wr : World} {B k : Nat} {s : ByteArray} {v : Value} {n : Nat} {xs : List Value} (hk : k < s.size) (hn : n = (quoP (s.data.toList.take (k + 1))).length) (hx : xs = (quoP (s.data.toList.take (k + 1))).map u8v)
    (ho : wr.ownsRow (B + 1) 5 1 v n xs) (hb : Below (B + 1) w2 wr) (hs : B + 1 ≤ wr.heap.size) : QRel w w2 B s v (.int .i64 ((k : Int) + 1)) wr :=
  ⟨k + 1, by omega, by congr 1, by rw [← hn, ← hx]; exact ho, hb, hs⟩

set_option maxHeartbeats 4000000 in
theorem quote_any (s : ByteArray) (w : World) (hs : s.size ≤ 150) :
    Calls Try.prog 17 #[.string s] w fun e w' => e = .returned (.string ⟨(quoF s.data.toList).toArray⟩) ∧ Below w.heap.size w w' := by
  go_enter Try.func17, Try.ntmps17
  go_wp2_with (go_at_call 25; refine (sixteen_any _).mono ?_; rintro e w1 ⟨rfl, hb1⟩)
  obtain ⟨w2, hw2⟩ : ∃ w2, w2 = (w1.alloc (.cells hexA 38)).alloc (.cells #[.int .u8 34] 5) := ⟨_, rfl⟩
  have hB2 : w1.heap.size + 2 = w2.heap.size := by rw [hw2]; simp
  have hh2 : Whole w2 w1.heap.size 38 hexA := by rw [hw2]; exact (Whole.made w1 38 hexA).alloc _
  have ho2 : w2.ownsRow (w1.heap.size + 1) 5 1 (.slice (some ⟨w1.heap.size + 1, 0, none⟩) 1 1) 1 [.int .u8 34] := by
    rw [hw2]
    exact ⟨rfl, .inr ⟨w1.heap.size + 1, 1, #[.int .u8 34], rfl, Nat.le_refl _, by have := heap_alloc_new (w1.alloc (.cells hexA 38)) (.cells #[.int .u8 34] 5); simpa using this, by decide, by unfold maxLen; omega, rfl, rfl⟩⟩
  have hwb : Below w.heap.size w w2 := by
    rw [hw2]
    exact ((hb1.alloc hb1.size _).alloc (by have := hb1.size; simp; omega) _)
  have HW2 := Lib.hid hw2
  change (w2 = (w1.alloc (.cells #[.int .u8 48, .int .u8 49, .int .u8 50, .int .u8 51, .int .u8 52, .int .u8 53, .int .u8 54, .int .u8 55, .int .u8 56, .int .u8 57, .int .u8 97, .int .u8 98, .int .u8 99, .int .u8 100, .int .u8 101, .int .u8 102] 38)).alloc (.cells #[.int .u8 34] 5)) at hw2
  rw [← hw2]
  clear hw2 HW2
  have hB := hb1.size
  generalize w1.heap.size = B at *
  clear hb1
  clear w1
  go_loopw [4, 11] (QRel w w2 B s) (fun _ i _ => s.size - (intOf i).toNat)
  case atStart => exact ⟨0, by omega, rfl, ho2, Below.refl _ _, by omega⟩
  case round =>
    obtain ⟨k, hk, rfl, hown, hw, hsz⟩ := hrel
    have hql := quoP_len (s.data.toList.take k)
    have hkl : (s.data.toList.take k).length ≤ 150 := by rw [List.length_take, size_data]; omega
    by_cases hlt : k < s.size
    · have hS := quoP_snoc s k hlt
      have HS := Lib.hid hS; clear hS
      have hc := s[k].toNat_lt
      rcases hp : plainB s[k] with _ | _
      · by_cases h10 : s[k] = 10
        · have HQ : Hid (quo1 s[k] = [92, 110]) := by show quo1 s[k] = _; unfold quo1; rw [hp, if_neg (by decide), if_pos h10]
          have t1 : ((s[k].toNat : Int) == 10) = true := by rw [h10]; rfl
          clear h10
          go_wp2_with (first | (go_at_call 26; refine (plain_any _ _).mono ?_; rintro e w' ⟨rfl, rfl⟩) | (at_builtin; go_must (refine app_u8 rfl _ _ rfl rfl hown hw hsz rfl rfl (by intro u hu; simp at hu; first | (subst hu; rfl) | (rcases hu with rfl | rfl <;> rfl)) (by simp; omega) ?_); intro v' w' hown' hw' hsz'))
          exact ⟨q_next hlt (by rw [HS.out, HQ.out, List.length_append]; rfl) (by rw [HS.out, HQ.out, List.map_append]; rfl) hown' hw' hsz', by simp [intOf]; omega⟩
        · have t1 : ((s[k].toNat : Int) == 10) = false := by
            rw [beq_eq_false_iff_ne]; intro hh
            exact h10 (UInt8.toNat.inj (by rw [show (10 : UInt8).toNat = 10 from rfl]; omega))
          by_cases h34 : s[k] = 34 ∨ s[k] = 92
          · have HQ : Hid (quo1 s[k] = [92, s[k]]) := by show quo1 s[k] = _; unfold quo1; rw [hp, if_neg (by decide), if_neg h10, if_pos h34]
            rcases h34 with h34 | h34
            · have t2 : ((s[k].toNat : Int) == 34) = true := by rw [h34]; rfl
              clear h10 h34
              go_wp2_with (first | (go_at_call 26; refine (plain_any _ _).mono ?_; rintro e w' ⟨rfl, rfl⟩) | (at_builtin; go_must (refine app_u8 rfl _ _ rfl rfl hown hw hsz rfl rfl (by intro u hu; simp at hu; first | (subst hu; rfl) | (rcases hu with rfl | rfl <;> rfl)) (by simp; omega) ?_); intro v' w' hown' hw' hsz'))
              exact ⟨q_next hlt (by rw [HS.out, HQ.out, List.length_append]; rfl) (by rw [HS.out, HQ.out, List.map_append]; rfl) hown' hw' hsz', by simp [intOf]; omega⟩
            · have t2 : ((s[k].toNat : Int) == 34) = false := by rw [h34]; rfl
              have t3 : ((s[k].toNat : Int) == 92) = true := by rw [h34]; rfl
              clear h10 h34
              go_wp2_with (first | (go_at_call 26; refine (plain_any _ _).mono ?_; rintro e w' ⟨rfl, rfl⟩) | (at_builtin; go_must (refine app_u8 rfl _ _ rfl rfl hown hw hsz rfl rfl (by intro u hu; simp at hu; first | (subst hu; rfl) | (rcases hu with rfl | rfl <;> rfl)) (by simp; omega) ?_); intro v' w' hown' hw' hsz'))
              exact ⟨q_next hlt (by rw [HS.out, HQ.out, List.length_append]; rfl) (by rw [HS.out, HQ.out, List.map_append]; rfl) hown' hw' hsz', by simp [intOf]; omega⟩
          · have HQ : Hid (quo1 s[k] = [92, 120, hexL.getD (s[k].toNat / 16) 0, hexL.getD (s[k].toNat % 16) 0]) := by show quo1 s[k] = _; unfold quo1; rw [hp, if_neg (by decide), if_neg h10, if_neg h34]
            have t2 : ((s[k].toNat : Int) == 34) = false := by
              rw [beq_eq_false_iff_ne]; intro hh
              exact h34 (.inl (UInt8.toNat.inj (by rw [show (34 : UInt8).toNat = 34 from rfl]; omega)))
            have t3 : ((s[k].toNat : Int) == 92) = false := by
              rw [beq_eq_false_iff_ne]; intro hh
              exact h34 (.inr (UInt8.toNat.inj (by rw [show (92 : UInt8).toNat = 92 from rfl]; omega)))
            clear h10 h34
            have hh := hh2.below hw (by omega)
            have hA := (hh.cell (s[k].toNat / 16)).trans (hexA_get _ (by omega))
            have hA2 := (hh.cell (s[k].toNat % 16)).trans (hexA_get _ (by omega))
            generalize hexL.getD (s[k].toNat / 16) 0 = x at *
            generalize hexL.getD (s[k].toNat % 16) 0 = y at *
            unfold u8v at hA hA2
            go_wp2_with (go_at_call 26; refine (plain_any _ _).mono ?_; rintro e w' ⟨rfl, rfl⟩)
            have e1 : bits .and .u8 (s[k].toNat : Int) 15 = (s[k].toNat : Int) % 16 := u8_and15 _ (by omega) (by omega)
            have e3 : (s[k].toNat : Int) / 16 < 16 := by omega
            have e4 : (s[k].toNat : Int) % 16 < 16 := by omega
            have e5 : ((s[k].toNat : Int) / 16).toNat = s[k].toNat / 16 := by omega
            have e6 : ((s[k].toNat : Int) % 16).toNat = s[k].toNat % 16 := by omega
            have e7 : 0 ≤ (s[k].toNat : Int) / 16 := by omega
            have e8 : 0 ≤ (s[k].toNat : Int) % 16 := by omega
            have hob : u4.ownBlock ≠ some B := by
              intro hh; have := (hown.lt B hh).1; omega
            go_region_held3 (fun W => W.cell? ⟨B, s[k].toNat / 16, none⟩ = some (.int .u8 (x.toNat : Int)) ∧ W.cell? ⟨B, s[k].toNat % 16, none⟩ = some (.int .u8 (y.toNat : Int)))
              (first
                | go_keep
                | (go_split_ands
                   refine ⟨?_, ?_⟩
                   · (rw [hgrow.cell_far _ (by simp; omega) (Ne.symm hob)]; assumption)
                   · (rw [hgrow.cell_far _ (by simp; omega) (Ne.symm hob)]; assumption)))
              ((refine step_app_u8 (by rfl) _ _ (by rfl) (B + 1) u4 _ _ (by rfl) ((hown.alloc _).drew) wr.heap.size 4 [.int .u8 92, .int .u8 120, .int .u8 (x.toNat : Int), .int .u8 (y.toNat : Int)] (by rfl) (Whole.made wr 5 _) (by rfl) (by simp [Value.oneCell']) (by omega) (by simp; omega) ?_; intro v' w' hown' hgrow))
            have hw3 : Below (B + 1) w2 w' := ((hw.alloc hsz (.cells #[.int .u8 92, .int .u8 120, .int .u8 (x.toNat : Int), .int .u8 (y.toNat : Int)] 5)).drew).grown hgrow (by simp; omega) (fun j hj => (hown.lt j hj).1)
            have hsz3 : B + 1 ≤ w'.heap.size := by have := hgrow.size; simp at this; omega
            clear hgrow hA hA2 hh
            go_wp2
            exact ⟨q_next hlt (by rw [HS.out, HQ.out, List.length_append]; rfl) (by rw [HS.out, HQ.out, List.map_append]; rfl) hown' hw3 hsz3, by simp [intOf]; omega⟩
      · have HQ : Hid (quo1 s[k] = [s[k]]) := by show quo1 s[k] = _; unfold quo1; rw [hp]; rfl
        go_wp2_with (first | (go_at_call 26; refine (plain_any _ _).mono ?_; rintro e w' ⟨rfl, rfl⟩) | (at_builtin; go_must (refine app_u8 rfl _ _ rfl rfl hown hw hsz rfl rfl (by intro u hu; simp at hu; first | (subst hu; rfl) | (rcases hu with rfl | rfl <;> rfl)) (by simp; omega) ?_); intro v' w' hown' hw' hsz'))
        exact ⟨q_next hlt (by rw [HS.out, HQ.out, List.length_append]; rfl) (by rw [HS.out, HQ.out, List.map_append]; rfl) hown' hw' hsz', by simp [intOf]; omega⟩
    · have e : k = s.size := by omega
      subst e
      rw [List.take_of_length_le (by rw [size_data]; omega)] at hown hql
      clear hkl
      have hl2 : (quoP s.data.toList).length ≤ 601 := by rw [size_data] at hql; omega
      clear hql
      go_wp2_with (at_builtin; go_must (refine app_u8 rfl _ _ rfl rfl hown hw hsz rfl rfl (by intro u hu; simp at hu; subst hu; rfl) (by simp; omega) ?_); intro v' w' hown' hw' hsz'; have hcv := conv_own (l := quoF s.data.toList) hown' (by unfold quoF; rw [List.map_append]; rfl); clear hown' hown)
      go_ret
      exact ⟨rfl, hwb.trans (hw'.mono (by omega))⟩
end Go.Proofs.Ytmocjhildphklaa
