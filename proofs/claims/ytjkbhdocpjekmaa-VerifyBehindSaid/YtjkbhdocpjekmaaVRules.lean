/- The rules of layer 14: a map from Ops to closures: what a map that the call made holds, value by value. -/
import Derived.Test.YtjkbhdocpjekmaaVWalkA
import Derived.Maps.Own
import Derived.Maps.OwnOps
import Derived.Maps.Views
namespace Go.Proofs.Ytjkbhdocpjekmaa
open Go.RowKit Go.Maps
set_option linter.unusedVariables false
attribute [local go_sem ↓] Go.wp_at_zero Go.wp_at_succ

/-- A value reads as itself. -/
def tok (v : Value) : Option (DataW Value × List MemPlace) := some (.held v, [])
theorem law3 : Keyed Try.prog 3 := int_keyed Try.underlying3
/-- Block b is a map of these pairs (the last one of a key holds). -/
def PairsAt (w : World) (b : Nat) (ps : List (Int × Value)) : Prop :=
  w.ownsMap Try.prog 3 tok b ps.length (ps.foldl (fun D p => D.put (.int .i64 p.1) (.held p.2)) (.map []))
theorem PairsAt.made (w : World) : PairsAt (w.alloc (.map #[] 0)) w.heap.size [] := World.ownsMap_made w Try.prog 3 tok
theorem PairsAt.kept {w w' : World} {b : Nat} {ps : List (Int × Value)} (h : PairsAt w b ps) (hb : w'.heap[b]? = w.heap[b]?) : PairsAt w' b ps := by
  obtain ⟨es, clock, h1, h2⟩ := h
  exact ⟨es, clock, hb.trans h1, h2⟩
theorem PairsAt.lt {w : World} {b : Nat} {ps : List (Int × Value)} (h : PairsAt w b ps) : b < w.heap.size := World.ownsMap.lt h
/-- One pair more is laid. -/
theorem list_insert {ops : Array Oper} {rest : List Oper} {o : Oper} {a : Act} {Q : Exit → Act → World → Prop} {w : World} (hgd : o.guard = none) (m x v : Operand) (hop : o.op = .insert 82 m x v) (b : Nat) (ps : List (Int × Value)) (hown : PairsAt w b ps) (hn : ps.length ≤ 1000)
    (k : Int) (u : Value) (hm : a.eval m = .map (some b)) (hx : a.eval x = .int .i64 k) (hv : a.eval v = u) (hk : (Lit.int .i64 k).wf = true)
    (h : ∀ w', PairsAt w' b (ps ++ [(k, u)]) → w.grownBy w' (some b) → wpList Try.prog ops Q rest (a.put o.dst undef) w') : wpList Try.prog ops Q (o :: rest) a w := by
  refine wpList_plain hgd fun K hK => ?_
  obtain ⟨w', hrun, r1, r2⟩ := World.ownsMap.update hown law3 Try.underlying82 (by unfold maxLen; omega) (key := .int .i64 k) (val := u) (keyOf_int_mk Try.underlying3 hk) (d := .held u) (ps := []) rfl
  unfold Oper.wp
  simp [execOp, hop, hm, hx, hv, hrun, Result.andThen]
  refine hK _ _ (h w' ?_ r2)
  unfold PairsAt
  rw [List.length_append, List.foldl_append]; exact r1
theorem zero81 (w : World) : (zeroValue 81).run Try.prog w = .ok .nilFunc w := by kernel_rfl
/-- What pairs have at a key; nothing: nil. -/
def pairF (ps : List (Int × Value)) (k : Int) : Value := ps.foldl (fun v p => if p.1 = k then p.2 else v) .nilFunc
theorem isMap_put {D : DataW Value} (h : IsMap D) (k : Lit) (d : DataW Value) : IsMap (D.put k d) := by
  obtain ⟨es, rfl⟩ := h; exact ⟨_, rfl⟩
theorem atKey_fold (k : Int) : ∀ (ps : List (Int × Value)) (D : DataW Value) (v : Value), IsMap D → D.atKey (.int .i64 k) (.held .nilFunc) = .held v →
    (ps.foldl (fun D p => D.put (.int .i64 p.1) (.held p.2)) D).atKey (.int .i64 k) (.held .nilFunc) = .held (ps.foldl (fun v p => if p.1 = k then p.2 else v) v)
  | [], D, v, _, h => h
  | p :: ps, D, v, hD, h => by
    rw [List.foldl_cons, List.foldl_cons]
    refine atKey_fold k ps _ _ (isMap_put hD _ _) ?_
    by_cases hp : p.1 = k
    · rw [if_pos hp, hp]; exact atKey_put_same hD (by trivial) _ _
    · rw [if_neg hp, atKey_put_other (by intro hh; cases hh; exact hp rfl)]; exact h
/-- What is looked up. -/
theorem PairsAt.look {w : World} {b : Nat} {ps : List (Int × Value)} (h : PairsAt w b ps) (k : Int) (hk : (Lit.int .i64 k).wf = true) : (Instr.lookup 82 (.map (some b)) (.int .i64 k) false).run Try.prog w = .ok (pairF ps k) w := by
  obtain ⟨v, pl, hrun, hv⟩ := World.ownsMap.lookup h law3 Try.underlying82 (zero81 w) (zd := .held .nilFunc) (zp := []) rfl (key := .int .i64 k) (keyOf_int_mk Try.underlying3 hk)
  rw [atKey_fold k ps (.map []) .nilFunc ⟨[], rfl⟩ rfl] at hv
  unfold tok at hv
  simp only [Option.some.injEq, Prod.mk.injEq, DataW.held.injEq] at hv
  rw [hrun, hv.1]; rfl
end Go.Proofs.Ytjkbhdocpjekmaa
