/- Memory of layer 14: targets. -/
import Derived.Test.YtjkbhdocpjekmaaVMem
import Derived.Great.BuildSlice
namespace Go.Proofs.Ytjkbhdocpjekmaa
open Go.RowKit
set_option linter.unusedVariables false

/-- A slice of marks that came out of a state. -/
def MksV (w : World) (v : Value) (ms : List (Int × Int)) : Prop := ∃ A n c, v = .slice A n c ∧ Mks 89 w A n ms ∧ n ≤ c ∧ c ≤ 9223372036854775807 ∧ (A = none → c = 0)
/-- Targets read: three cells each. -/
def TgRow (w : World) : List (Int × St) → List Value → Prop
  | [], [] => True
  | p :: l, x :: y :: z :: xs => x = .int .i64 p.1 ∧ y = .int .i64 p.2.d ∧ MksV w z p.2.m ∧ TgRow w l xs
  | _, _ => False
theorem MksV.keep {w w' : World} {v : Value} {ms : List (Int × Int)} (h : MksV w v ms) (hk : ∀ g cs, Whole w g 89 cs → Whole w' g 89 cs) : MksV w' v ms := by
  obtain ⟨A, n, c, e, h1, h2⟩ := h
  exact ⟨A, n, c, e, h1.keep hk, h2⟩
theorem TgRow.keep {w w' : World} (hk : ∀ g cs, Whole w g 89 cs → Whole w' g 89 cs) : ∀ (l : List (Int × St)) (xs : List Value), TgRow w l xs → TgRow w' l xs
  | [], [], _ => trivial
  | p :: l, x :: y :: z :: xs, h => ⟨h.1, h.2.1, h.2.2.1.keep hk, TgRow.keep hk l xs h.2.2.2⟩
  | [], _ :: _, h => h.elim
  | _ :: _, [], h => h.elim
  | _ :: _, [_], h => h.elim
  | _ :: _, [_, _], h => h.elim
theorem TgRow.len {w : World} : ∀ (l : List (Int × St)) (xs : List Value), TgRow w l xs → xs.length = l.length * 3
  | [], [], _ => rfl
  | p :: l, x :: y :: z :: xs, h => by have := TgRow.len l xs h.2.2.2; simp only [List.length_cons]; omega
  | [], _ :: _, h => h.elim
  | _ :: _, [], h => h.elim
  | _ :: _, [_], h => h.elim
  | _ :: _, [_, _], h => h.elim
theorem TgRow.append {w : World} : ∀ (l m : List (Int × St)) (xs ys : List Value), TgRow w l xs → TgRow w m ys → TgRow w (l ++ m) (xs ++ ys)
  | [], m, [], ys, _, h => h
  | p :: l, m, x :: y :: z :: xs, ys, h, k => ⟨h.1, h.2.1, h.2.2.1, TgRow.append l m xs ys h.2.2.2 k⟩
  | [], _, _ :: _, _, h, _ => h.elim
  | _ :: _, _, [], _, h, _ => h.elim
  | _ :: _, _, [_], _, h, _ => h.elim
  | _ :: _, _, [_, _], _, h, _ => h.elim
theorem TgRow.last {w : World} {p : Int × St} : ∀ (l : List (Int × St)) (xs : List Value), TgRow w (l ++ [p]) xs → ∃ ys z, xs = ys ++ [.int .i64 p.1, .int .i64 p.2.d, z] ∧ TgRow w l ys ∧ MksV w z p.2.m
  | [], [x, y, z], h => ⟨[], z, by rw [h.1, h.2.1]; rfl, trivial, h.2.2.1⟩
  | [], x :: y :: z :: u :: xs, h => h.2.2.2.elim
  | q :: l, x :: y :: z :: xs, h => by
    obtain ⟨ys, z', e, h1, h2⟩ := TgRow.last l xs h.2.2.2
    exact ⟨x :: y :: z :: ys, z', by rw [e]; rfl, ⟨h.1, h.2.1, h.2.2.1, h1⟩, h2⟩
  | [], [], h => h.elim
  | [], [_], h => h.elim
  | [], [_, _], h => h.elim
  | _ :: _, [], h => h.elim
  | _ :: _, [_], h => h.elim
  | _ :: _, [_, _], h => h.elim
/-- A value is a new slice of targets. -/
def TgsAt (w : World) (B : Nat) (T : Value) (l : List (Int × St)) : Prop :=
  (l = [] ∧ T = .slice none 0 0) ∨ ∃ g xs, 0 < l.length ∧ T = .slice (some ⟨g, 0, none⟩) l.length l.length ∧ B ≤ g ∧ Whole w g 69 (List.toArray xs) ∧ TgRow w l xs ∧ ∀ u ∈ xs, u.oneCell' = true
theorem TgRow.one {w : World} : ∀ (l : List (Int × St)) (xs : List Value), TgRow w l xs → ∀ u ∈ xs, u.oneCell' = true
  | [], [], _ => fun u hu => by simp at hu
  | p :: l, x :: y :: z :: xs, h => fun u hu => by
    simp only [List.mem_cons] at hu
    rcases hu with rfl | rfl | rfl | hu
    · rw [h.1]; rfl
    · rw [h.2.1]; rfl
    · obtain ⟨A, n, c, e, _⟩ := h.2.2.1; rw [e]; rfl
    · exact TgRow.one l xs h.2.2.2 u hu
  | [], _ :: _, h => h.elim
  | _ :: _, [], h => h.elim
  | _ :: _, [_], h => h.elim
  | _ :: _, [_, _], h => h.elim
theorem tgs_nil {w : World} {B : Nat} : TgsAt w B (.slice none 0 0) [] := .inl ⟨rfl, rfl⟩
theorem tgs_one {w : World} {B g : Nat} {a d : Int} {v : Value} {ms : List (Int × Int)} (hg : B ≤ g) (hw : Whole w g 69 #[.int .i64 a, .int .i64 d, v]) (hm : MksV w v ms) : TgsAt w B (.slice (some ⟨g, 0, none⟩) 1 1) [(a, ⟨d, ms⟩)] :=
  have h : TgRow w [(a, ⟨d, ms⟩)] [.int .i64 a, .int .i64 d, v] := ⟨rfl, rfl, hm, trivial⟩
  .inr ⟨g, _, Nat.zero_lt_succ _, rfl, hg, hw, h, h.one⟩
theorem tgs_two {w : World} {B g : Nat} {a d b e : Int} {v u : Value} {ms ns : List (Int × Int)} (hg : B ≤ g) (hw : Whole w g 69 #[.int .i64 a, .int .i64 d, v, .int .i64 b, .int .i64 e, u]) (hm : MksV w v ms) (hn : MksV w u ns) : TgsAt w B (.slice (some ⟨g, 0, none⟩) 2 2) [(a, ⟨d, ms⟩), (b, ⟨e, ns⟩)] :=
  have h : TgRow w [(a, ⟨d, ms⟩), (b, ⟨e, ns⟩)] [.int .i64 a, .int .i64 d, v, .int .i64 b, .int .i64 e, u] := ⟨rfl, rfl, hm, rfl, rfl, hn, trivial⟩
  .inr ⟨g, _, Nat.zero_lt_succ _, rfl, hg, hw, h, h.one⟩
theorem run_one (w : World) (a1 a2 a3 : Value) :
   (Instr.buildSlice 70 1 #[(0, .agg #[a1, a2, a3])]).run Try.prog w = .ok (.slice (some ⟨w.heap.size, 0, none⟩) 1 1) (w.alloc (.cells #[a1, a2, a3] 69)) := by
  go_simp
theorem run_two (w : World) (a1 a2 a3 b1 b2 b3 : Value) :
   (Instr.buildSlice 70 2 #[(0, .agg #[a1, a2, a3]), (1, .agg #[b1, b2, b3])]).run Try.prog w = .ok (.slice (some ⟨w.heap.size, 0, none⟩) 2 2) (w.alloc (.cells #[a1, a2, a3, b1, b2, b3] 69)) := by
  go_simp
theorem wp_two {o : Oper} {a : Act} {w : World} {K : Act → World → Prop} {Q : Exit → Act → World → Prop} (x y : Operand) (ho : o.op = .buildSlice 70 2 #[(0, x), (1, y)]) (a1 a2 a3 b1 b2 b3 : Value) (hx : a.eval x = .agg #[a1, a2, a3]) (hy : a.eval y = .agg #[b1, b2, b3])
    (h : K (a.put o.dst (.slice (some ⟨w.heap.size, 0, none⟩) 2 2)) (w.alloc (.cells #[a1, a2, a3, b1, b2, b3] 69))) : o.wp Try.prog a w K Q := by
  have hr := run_two w a1 a2 a3 b1 b2 b3
  unfold Oper.wp execOp
  simp only [ho, Sem.run_bind]
  rw [show (#[(0, x), (1, y)].map fun (i, x) => (i, a.eval x)) = #[(0, a.eval x), (1, a.eval y)] from by simp, hx, hy, hr]
  exact h
theorem list_two {ops : Array Oper} {rest : List Oper} {o : Oper} {a : Act} {w : World} {Q : Exit → Act → World → Prop} (hg : o.guard = none) (x y : Operand) (ho : o.op = .buildSlice 70 2 #[(0, x), (1, y)]) (a1 a2 a3 b1 b2 b3 : Value) (hx : a.eval x = .agg #[a1, a2, a3]) (hy : a.eval y = .agg #[b1, b2, b3])
    (h : wpList Try.prog ops Q rest (a.put o.dst (.slice (some ⟨w.heap.size, 0, none⟩) 2 2)) (w.alloc (.cells #[a1, a2, a3, b1, b2, b3] 69))) : wpList Try.prog ops Q (o :: rest) a w :=
  wpList_plain hg fun _ hK => wp_two x y ho a1 a2 a3 b1 b2 b3 hx hy (hK _ _ h)
def three : Value → Bool
  | .agg ⟨[_, _, _]⟩ => true
  | _ => false
def cat : Value → Value → Array Value
  | .agg ⟨[a, b, c]⟩, .agg ⟨[d, e, f]⟩ => #[a, b, c, d, e, f]
  | _, _ => #[]
theorem three_eq (a b c : Value) : three (.agg #[a, b, c]) = true := rfl
theorem cat_eq (a b c d e f : Value) : cat (.agg #[a, b, c]) (.agg #[d, e, f]) = #[a, b, c, d, e, f] := rfl
theorem of_three {v : Value} (h : three v = true) : ∃ a b c, v = .agg #[a, b, c] := by
  unfold three at h
  split at h
  · exact ⟨_, _, _, rfl⟩
  · cases h
theorem wp_two_eq (d : Option Tmp) (ty : TypeId) (pos : String) (af : Array Edge) (gd : Option (Nat × Bool)) (i j : Tmp) (a : Act) (w : World) (K : Act → World → Prop) (Q : Exit → Act → World → Prop) (hx : three (a.eval (.tmp i)) = true) (hy : three (a.eval (.tmp j)) = true) :
    Oper.wp Try.prog ⟨d, .buildSlice 70 2 #[(0, .tmp i), (1, .tmp j)], ty, pos, af, gd⟩ a w K Q = K (a.put d (.slice (some ⟨w.heap.size, 0, none⟩) 2 2)) (w.alloc (.cells (cat (a.eval (.tmp i)) (a.eval (.tmp j))) 69)) := by
  obtain ⟨a1, a2, a3, hx⟩ := of_three hx
  obtain ⟨b1, b2, b3, hy⟩ := of_three hy
  have hr := run_two w a1 a2 a3 b1 b2 b3
  rw [hx, hy, cat_eq]
  unfold Oper.wp execOp
  simp only [Sem.run_bind]
  rw [show (#[(0, Operand.tmp i), (1, Operand.tmp j)].map fun (i, x) => (i, a.eval x)) = #[(0, a.eval (.tmp i)), (1, a.eval (.tmp j))] from by simp, hx, hy, hr]
  rfl
theorem at_op {ops : Array Oper} {rest : List Oper} {o : Oper} {a : Act} {Q : Exit → Act → World → Prop} {w : World} (h : wpList Try.prog ops Q (o :: rest) a w) : wpList Try.prog ops Q (o :: rest) a w := h
end Go.Proofs.Ytjkbhdocpjekmaa
