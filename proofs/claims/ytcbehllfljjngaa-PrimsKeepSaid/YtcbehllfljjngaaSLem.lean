/- Words for bytes that a call owns; packing, any text. -/
import Derived.Test.YtcbehllfljjngaaSWalkL
import Derived.Deep.RegionHeld3
import Derived.Deep.AppendLies
import Derived.Laws.BytesArg
namespace Go.Proofs.Ytcbehllfljjngaa
open Go.RowKit
set_option linter.unusedVariables false

def u8v (c : UInt8) : Value := .int .u8 (c.toNat : Int)
theorem Try.info5 : (Try.prog.info? 5).map (fun i => (i.zero, i.size, i.bytes)) = some (some (.int .u8 0), 1, 1) := by kernel_rfl
theorem app_u8 {ops : Array Oper} {rest : List Oper} {o : Oper} {a : Act} {Q : Exit → Act → World → Prop} {w0 wr : World} {base : Nat} {v : Value} {n m : Nat} {xs news : List Value} (hgd : o.guard = none) (s x : Operand)
    (ho : o.op = .call { callee := .builtin .append, args := #[s, x], argTypes := #[97, 97] }) (hs : a.eval s = v) (hown : wr.ownsRow base 5 1 v n xs) (hw : Below base w0 wr) (hb : base ≤ wr.heap.size)
    (hx : a.eval x = .slice (some ⟨wr.heap.size, 0, none⟩) m m) (hm : news.length = m) (h1 : ∀ u ∈ news, u.oneCell' = true) (hn : n + m ≤ 1000000000)
    (h : ∀ v' w', w'.ownsRow base 5 1 v' (n + m) (xs ++ news) → Below base w0 w' → base ≤ w'.heap.size → wpList Try.prog ops Q rest (a.put o.dst v') w') :
    wpList Try.prog ops Q (o :: rest) a (wr.alloc (.cells news.toArray 5)) := by
  obtain ⟨i0, hi, hz0, hz1, hz2⟩ := info_parts Try.info5
  refine wpList_append_own _ hgd s x 97 ho base 5 i0 (.int .u8 0) 1 1 Try.underlying97 hi hz0 hz1 hz2 rfl (by decide) v n xs hs (hown.alloc _) ⟨wr.heap.size, 0, none⟩ m m news hx (by omega) ?_ h1 ?_ ?_ ?_ ?_
  · intro j u hj
    have := (Whole.made wr 5 news.toArray).cell j
    have e : (⟨wr.heap.size, 0, none⟩ : Addr).add j = ⟨wr.heap.size, j, none⟩ := by unfold Addr.add; split <;> simp_all
    rw [e, this]; simpa using hj
  · unfold maxLen; omega
  · omega
  · simp; omega
  · intro v' w1 hown' hgrow _
    refine h v' w1 hown' ((hw.alloc hb _).grown hgrow (by simp; omega) (fun k hk => (hown.lt k hk).1)) ?_
    have := hgrow.size; simp at this; omega
theorem conv_own {w : World} {base n : Nat} {v : Value} {xs : List Value} {l : List UInt8} (h : w.ownsRow base 5 1 v n xs) (hx : xs = l.map u8v) : (convert 97 9 v).run Try.prog w = .ok (.string ⟨l.toArray⟩) w := by
  subst hx
  have hl := h.1
  rw [List.length_map, Nat.mul_one] at hl
  rcases h.2 with ⟨rfl, rfl⟩ | ⟨g, cap, cur, rfl, hg, hh, hn, hc, hs, ht⟩
  · have : l = [] := List.eq_nil_of_length_eq_zero hl
    subst this
    exact run_convert_bytes_nil w 97 5 Try.underlying97 Try.underlying5 0 0 9 Try.underlying9
  · have hr := run_convert_bytes_arg w 97 5 Try.underlying97 Try.underlying5 g 0 n cap (l.map fun c => (c.toNat : Int)) (by simpa using hl) (fun i hi => by
      have h1 : w.cell? ⟨g, 0 + i, none⟩ = cur[i]? := by rw [Nat.zero_add]; exact cell_of_row w g i cur 5 (0, 0) hh
      rw [h1]
      have h2 : cur[i]? = (cur.toList.take (n * 1))[i]? := by rw [List.getElem?_take, if_pos (by omega), Array.getElem?_toList]
      rw [h2, ht, List.getElem?_map]
      simp [List.getD, List.getElem?_map, List.getElem?_eq_getElem (show i < l.length by omega), u8v]) 9 Try.underlying9
    rw [hr]
    congr 2
    unfold strOfNums
    congr 2
    rw [List.map_map]
    conv => rhs; rw [← List.map_id l]
    apply List.map_congr_left
    intro b _
    simp
theorem own_val {w : World} {base e n : Nat} {v : Value} {xs : List Value} (h : w.ownsRow base e 1 v n xs) : ∃ A c, v = .slice A n c := by
  rcases h.2 with ⟨rfl, rfl⟩ | ⟨g, cap, cur, rfl, _⟩
  · exact ⟨none, 0, rfl⟩
  · exact ⟨_, cap, rfl⟩
theorem own_keep {w w' : World} {base e n : Nat} {v : Value} {xs : List Value} (h : w.ownsRow base e 1 v n xs) (hb : Below w.heap.size w w') (_h : base ≤ w.heap.size) : w'.ownsRow base e 1 v n xs := by
  refine ⟨h.1, ?_⟩
  rcases h.2 with hh | ⟨g, cap, cur, hv, hg, hh, r⟩
  · exact .inl hh
  · refine .inr ⟨g, cap, cur, hv, hg, ?_, r⟩
    have hlt : g < w.heap.size := by
      rcases Nat.lt_or_ge g w.heap.size with h1 | h1
      · exact h1
      · rw [Array.getElem?_eq_none h1] at hh; cases hh
    rw [hb.block g hlt]; exact hh

/-- Packing any text: its numbers, or the error. -/
def PackAny (w : World) (s : ByteArray) (e : Ending) (w' : World) : Prop :=
  ∃ A n c zs er, e = .returned (.tuple #[.slice A n c, .int .i64 er]) ∧ Ints w' w'.heap.size A n zs ∧ n ≤ 10 ∧ Below w.heap.size w w' ∧ ((s.size ≤ 60 ∧ zs = packF s.data.toList ∧ er = 0) ∨ (60 < s.size ∧ zs = [] ∧ er = 12))
theorem pack_any (s : ByteArray) (w : World) (hs : s.size ≤ maxLen) : Calls Try.prog 53 #[.string s] w (PackAny w s) := by
  by_cases h : s.size ≤ 60
  · refine (pack_in s w h).mono ?_
    rintro e w' ⟨v, rfl, hown, hb⟩
    obtain ⟨A, c, rfl, hI⟩ := Ints.of_own hown
    exact ⟨A, _, c, _, 0, rfl, hI, by omega, hb, .inl ⟨h, rfl, rfl⟩⟩
  · refine (pack_out s w (by omega) hs).mono ?_
    rintro e w' ⟨rfl, rfl⟩
    exact ⟨none, 0, 0, [], 12, rfl, Ints.nil_ _ _, by omega, Below.refl _ _, .inr ⟨by omega, rfl, rfl⟩⟩
set_option maxHeartbeats 400000 in
theorem rpack_out (s : ByteArray) (w : World) (h60 : 60 < s.size) (hs : s.size ≤ maxLen) :
    Calls Try.prog 70 #[.string s] w fun e w' => e = .returned (.tuple #[.slice none 0 0, .int .i64 12]) ∧ w = w' := by
  unfold maxLen at hs
  go_enter Try.func70, Try.ntmps70
  go_wp2
  go_ret2
  exact ⟨rfl, rfl⟩
theorem rpack_any (s : ByteArray) (w : World) (hs : s.size ≤ maxLen) : Calls Try.prog 70 #[.string s] w (PackAny w s) := by
  by_cases h : s.size ≤ 60
  · refine (rpack_in s w h).mono ?_
    rintro e w' ⟨v, rfl, hown, hb⟩
    obtain ⟨A, c, rfl, hI⟩ := Ints.of_own hown
    exact ⟨A, _, c, _, 0, rfl, hI, by omega, hb, .inl ⟨h, rfl, rfl⟩⟩
  · refine (rpack_out s w (by omega) hs).mono ?_
    rintro e w' ⟨rfl, rfl⟩
    exact ⟨none, 0, 0, [], 12, rfl, Ints.nil_ _ _, by omega, Below.refl _ _, .inr ⟨by omega, rfl, rfl⟩⟩
end Go.Proofs.Ytcbehllfljjngaa
