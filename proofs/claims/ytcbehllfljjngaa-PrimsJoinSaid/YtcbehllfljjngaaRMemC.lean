/- Memory of the document's heap: a block more. -/
import Derived.Test.YtcbehllfljjngaaRWalkC
import Derived.Test.YtcbehllfljjngaaHWalkE
namespace Go.Proofs.Ytcbehllfljjngaa
open Go.RowKit
set_option linter.unusedVariables false

section
variable {w w' : World} {B rb N : Nat} {H : Hp}
theorem RVar.more {b c : Blk} {u : Value × Value} (h : RVar w B H b u) (hc : WfH H) : RVar w B (H ++ [c]) b u := by
  obtain ⟨ws, raw, h1, h2, h3⟩ := h
  refine ⟨ws, raw, h1, h2, ?_⟩
  rcases h3 with h3 | ⟨h4, h5, h6, h7⟩
  · exact .inl h3
  · exact .inr ⟨h4, h5, h6, fun i hi => (h7 i hi).more c⟩
theorem RVar.base {b : Blk} {u : Value × Value} {B2 : Nat} (h : RVar w B2 H b u) (hB : B ≤ B2) : RVar w B H b u := by
  obtain ⟨ws, raw, h1, h2, h3⟩ := h
  exact ⟨ws, raw, own_more h1 hB, own_more h2 hB, h3⟩
theorem ref_add {v v' : Value} {us : List (Value × Value)} {b : Blk} {u : Value × Value} {w7 : World} (h : RefAt w B rb N H) (hw : Whole w rb 42 #[.int .i64 N, v]) (ho : w.ownsRow B 80 3 v H.length (rCells H us)) (hl : us.length = H.length)
    (hv : ∀ k, k < H.length → RVar w B H (H.getD k blk0) (us.getD k (nilV, nilV))) (hu : RVar w B H b u) (hb : b.tag ≤ 201 ∧ b.fs.length ≤ 60 ∧ ∀ z ∈ b.fs, WfI z) (hroom : topN H + b.fs.length ≤ N)
    (ha : Appended (w.alloc (.cells #[.int .i64 b.tag, u.1, u.2] 80)) B 80 3 v (H.length + 1) (rCells H us ++ [.int .i64 b.tag, u.1, u.2]) v' w7) :
    RefAt (w7.setCell ⟨rb, 1, none⟩ v') B rb N (H ++ [b]) ∧ Below B w (w7.setCell ⟨rb, 1, none⟩ v') ∧ Whole w7 rb 42 #[.int .i64 N, v] := by
  have hBs : B ≤ w.heap.size := by have := hw.lt; have := h.hB; omega
  have ho1 := ho.alloc (.cells #[.int .i64 b.tag, u.1, u.2] 80)
  have hW : Whole w7 rb 42 #[.int .i64 N, v] := ha.stays ho1 (hw.alloc _) (by decide)
  have keepV : ∀ (c : Blk) (y : Value × Value), RVar w B H c y → RVar (w7.setCell ⟨rb, 1, none⟩ v') B (H ++ [b]) c y := fun c y hy => by
    have hy := hy.more (c := b) h.wf
    obtain ⟨ws, raw, h1, h2, h3⟩ := hy
    have k1 := ha.other (h1.alloc _) (own_ne_type ho1 (h1.alloc _) (by decide))
    have k2 := ha.other (h2.alloc _) (own_ne_type ho1 (h2.alloc _) (by decide))
    exact ⟨ws, raw, own_setCell k1 (own_whole_ne k1 hW (by decide)) _, own_setCell k2 (own_whole_ne k2 hW (by decide)) _, h3⟩
  refine ⟨⟨⟨v', us ++ [u], hW.put 1 v', ?_, by simp [hl], fun k hk => ?_⟩, h.hB, ?_, h.n, ?_⟩, ?_, hW⟩
  · rw [rCells_snoc _ _ _ _ hl, List.length_append]
    exact own_setCell ha.own (own_whole_ne ha.own hW (by decide)) _
  · rw [List.length_append] at hk
    have e1 : (H ++ [b]).getD k blk0 = if k < H.length then H.getD k blk0 else b := by
      simp only [List.getD_eq_getElem?_getD]
      split
      · rename_i h1; rw [List.getElem?_append_left h1]
      · rename_i h1; rw [show k = H.length from by simp at hk; omega, List.getElem?_append_right (Nat.le_refl _)]; simp
    have e2 : (us ++ [u]).getD k (nilV, nilV) = if k < H.length then us.getD k (nilV, nilV) else u := by
      simp only [List.getD_eq_getElem?_getD]
      split
      · rename_i h1; rw [List.getElem?_append_left (by omega)]
      · rename_i h1; rw [show k = us.length from by simp at hk; omega, List.getElem?_append_right (Nat.le_refl _)]; simp
    rw [e1, e2]
    split
    · rename_i h1; exact keepV _ _ (hv k h1)
    · exact keepV _ _ hu
  · rw [topN_snoc]; unfold Blk.sz; omega
  · intro c hc
    rcases List.mem_append.1 hc with hc | hc
    · exact h.wf c hc
    · simp only [List.mem_singleton] at hc; subst hc; exact hb
  · have b1 : Below B w (w.alloc (.cells #[.int .i64 b.tag, u.1, u.2] 80)) := (Below.refl _ _).alloc hBs _
    have b2 := ha.below ho1 b1 (Nat.le_refl _) (by have := b1.size; omega)
    exact b2.setCell (p := ⟨rb, 1, none⟩) h.hB _
/-- What stands when the block is built. -/
structure MkDone (w : World) (B rb N : Nat) (H : Hp) (tag : Int) (zs : List Int) (u1 u2 : Value) (wr : World) : Prop where
  ref : RefAt wr B rb N H
  box : BoxAt w w.heap.size 80 #[.int .i64 tag, u1, u2] wr
  var : RVar wr (w.heap.size + 1) H ⟨tag.toNat, zs⟩ (u1, u2)
theorem MkDone.later {tag : Int} {zs : List Int} {u1 u2 : Value} {wr : World} (h : MkDone w B rb N H tag zs u1 u2 wr) (hb : Below wr.heap.size wr w') : MkDone w B rb N H tag zs u1 u2 w' :=
  ⟨h.ref.later hb, h.box.below hb (by have := h.box.2.2; omega), h.var.keep (fun g _ hg => hb.block g hg)⟩
theorem MkDone.drew {tag : Int} {zs : List Int} {u1 u2 : Value} {wr : World} (h : MkDone w B rb N H tag zs u1 u2 wr) : MkDone w B rb N H tag zs u1 u2 wr.drew := ⟨h.ref.drew, h.box.drew, h.var⟩
end
end Go.Proofs.Ytcbehllfljjngaa
