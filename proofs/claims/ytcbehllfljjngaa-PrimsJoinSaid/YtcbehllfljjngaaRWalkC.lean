/- The walks of layer 2's reference: words as numbers, fields. -/
import Derived.Test.YtcbehllfljjngaaRWalkB
namespace Go.Proofs.Ytcbehllfljjngaa
open Go.RowKit
set_option linter.unusedVariables false
attribute [local go_sem ↓] Go.wp_at_zero Go.wp_at_succ

theorem take_snoc' {zs : List Int} {k : Nat} (h : k < zs.length) : zs.take (k + 1) = zs.take k ++ [zs.getD k 0] := by
  rw [List.take_succ_eq_append_getElem h, List.getD_eq_getElem?_getD, List.getElem?_eq_getElem h]; rfl
section
variable {w : World} {B rb N : Nat} {H : Hp}
set_option maxHeartbeats 400000 in
theorem say_any (h : RefAt w B rb N H) (b : Bool) (n f : Int) (hs : SayOk H (b, n) f) : Calls Try.prog 52 #[.pointer (some ⟨rb, 0, none⟩), .agg #[.bool b, .int .i64 n]] w fun e w' => e = .returned (.int .i64 f) ∧ Below w.heap.size w w' := by
  have hB0 : Below w.heap.size w (w.alloc (.cells #[.bool b, .int .i64 n] 84)) := (Below.refl _ _).alloc (Nat.le_refl _) _
  have HB0 := Lib.hid hB0
  have HH := Lib.hid (h.later hB0)
  cases b with
  | true =>
    obtain ⟨k, rfl, hk⟩ := hs.1 rfl
    have HF : Hid (2 * (posn H k : Nat) = f) := by
      have := hs.2
      unfold sayF at this
      rw [if_pos rfl] at this
      rw [Int.toNat_natCast] at this
      exact this
    clear h hB0 hs
    go_enter Try.func52, Try.ntmps52
    go_wp2_with fail
    refine (point_any HH.out k (by omega)).mono ?_
    rintro ee w2 ⟨rfl, b2⟩
    have HB2 := Lib.hid (HB0.out.trans (b2.mono HB0.out.size))
    rw [HF.out]
    clear b2 HB0 HH
    go_wp2_with fail
    go_ret
    exact ⟨rfl, HB2.out⟩
  | false =>
    have HF : Hid (n = f) := by
      have := hs.2
      unfold sayF at this
      rw [if_neg (by simp)] at this
      exact this
    clear h hB0 hs
    go_enter Try.func52, Try.ntmps52
    go_wp2_with fail
    go_ret
    exact ⟨rt_i HF.out, HB0.out⟩
def RowPost (w : World) (fs : List Int) (e : Ending) (w' : World) : Prop := ∃ A n c, e = .returned (.slice A n c) ∧ Ints w' w'.heap.size A n fs ∧ (n ≤ 60 ∧ n ≤ c ∧ c ≤ maxLen) ∧ Below w.heap.size w w'
set_option maxHeartbeats 2000000 in
theorem rfields_any (h : RefAt w B rb N H) (k : Nat) (hk : k < H.length) : Calls Try.prog 22 #[.pointer (some ⟨rb, 0, none⟩), .int .i64 k] w (RowPost w (H.getD k blk0).fs) := by
  obtain ⟨A, c, x0, x1, hx⟩ := h.form
  obtain ⟨g, rfl, hgl, A1, n1, c1, A2, n2, c2, y0, y1, y2, hsz, hor⟩ := hx k hk
  have hwf := h.wf (H.getD k blk0) (by rw [List.getD_eq_getElem?_getD, List.getElem?_eq_getElem hk]; exact List.getElem_mem _)
  have hl60 := hwf.2.1
  unfold Blk.sz at hsz
  have hlN := h.len
  have hN := h.n
  rcases hor with ⟨ht, rfl, hI, hcn, hcm⟩ | ⟨ht, hn1, _⟩
  · have HI := Lib.hid hI
    have h2 : n2 ≤ 60 := by omega
    have HL : Hid (∀ A', Ints w w.heap.size A' n2 (H.getD k blk0).fs → RowPost w (H.getD k blk0).fs (.returned (.slice A' n2 c2)) w) := fun A' hi => ⟨A', n2, c2, rfl, hi, ⟨h2, hcn, hcm⟩, Below.refl _ _⟩
    replace y0 : w.cell? ⟨g, k * 3, none⟩ = some (.int .i64 201) := by rw [y0, ht]; rfl
    clear h hx hsz hl60 hwf hI ht hcn hcm
    generalize (H.getD k blk0).fs = fs at *
    generalize H.length = L at *
    go_enter Try.func22, Try.ntmps22
    go_wp2_with fail
    go_ret
    exact HL.out _ HI.out
  · have hb1 : (((H.getD k blk0).tag : Int) == 201) = false := beq_eq_false_iff_ne.2 (by omega)
    have HT := Lib.hid ht
    have HH := Lib.hid h
    have HKL := Lib.hid hk
    have hn60 : n1 ≤ 60 := by omega
    have HN1 := Lib.hid hn1
    have hgl3 : k < H.length := hk
    clear h hx hl60 hwf ht hsz hk hn1
    obtain ⟨t, ht⟩ : ∃ t : Int, t = (H.getD k blk0).tag := ⟨_, rfl⟩
    rw [← ht] at y0 hb1
    clear ht
    go_enter Try.func22, Try.ntmps22
    go_wp2_with fail
    clear x0 x1 y0 y1 y2
    go_loopw [5, 6] (fun v i wr => ∃ j : Nat, j ≤ n1 ∧ i = .int .i64 j ∧ wr.ownsRow w.heap.size 3 1 v j (((H.getD k blk0).fs.take j).map (Value.int .i64)) ∧ Below w.heap.size w wr) (fun _ i _ => n1 - (intOf i).toNat)
    case atStart => exact ⟨0, Nat.zero_le _, rfl, World.ownsRow_nil _ _ _ _, Below.refl _ _⟩
    case round =>
      obtain ⟨j, hj, rfl, hown, hb⟩ := hrel
      have HR := Lib.hid (HH.out.later hb)
      have HB := Lib.hid hb
      have HO := Lib.hid hown
      obtain ⟨A, c, x0, x1, hx⟩ := HR.out.form
      obtain ⟨g', rfl, hgl', A1', n1', c1', A2', n2', c2', y0, y1, y2, hsz, hor⟩ := hx k HKL.out
      rcases hor with ⟨ht, _⟩ | ⟨_, hn1', ws, hws, hsay⟩
      · exact absurd ht HT.out
      · obtain rfl : n1 = n1' := by rw [HN1.out, hn1']
        have HWS := Lib.hid hws
        have HSAY := Lib.hid hsay
        clear hx hsz hb hown hws hsay hn1'
        by_cases hlt : j < n1
        · obtain ⟨gw, rfl, _, hcs⟩ := HWS.out.2 (by omega)
          obtain ⟨z0, z1⟩ := hcs j hlt
          have HS := Lib.hid (HSAY.out j hlt)
          have HTK := Lib.hid (take_snoc' (zs := (H.getD k blk0).fs) (k := j) (by rw [← HN1.out]; exact hlt))
          clear hcs
          generalize (H.getD k blk0).fs.getD j 0 = f at *
          generalize ws.getD j wd0 = x at *
          obtain ⟨xb, xn⟩ := x
          dsimp only at *
          generalize H.length = L at *
          go_wp2_with fail
          refine (say_any HR.out xb xn f HS.out).mono ?_
          rintro ee w2 ⟨rfl, b2⟩
          have HB2 := Lib.hid (HB.out.trans (b2.mono HB.out.size))
          have HO2 := Lib.hid (own_below HO.out b2 (Nat.le_refl _))
          clear b2 x0 x1 y0 y1 y2 z0 z1 HO
          go_wp2_with (at_builtin; refine list_app ty_ints (v := u5) rfl _ _ rfl rfl (HO2.out.alloc _) w2.heap.size 1 [.int .i64 f] rfl (Whole.made w2 3 _) rfl (by simp [Value.oneCell']) (by decide) (by omega) (by decide) (by have := HB2.out.size; simp; omega) ?_; intro gv cv w7 hap; have HA := Lib.hid hap.own; have HB7 := Lib.hid (hap.below (HO2.out.alloc _) (HB2.out.alloc HB2.out.size _) (Nat.le_refl _) (by have := HB2.out.size; simp; omega)); clear hap)
          go_roundw
          case rel => exact ⟨j + 1, by omega, by go_num, by rw [HTK.out, List.map_append]; exact HA.out, HB7.out⟩
          case measure => simp [intOf]; omega
        · obtain rfl : j = n1 := by omega
          have HE : Hid ((H.getD k blk0).fs.take j = (H.getD k blk0).fs) := List.take_of_length_le (by have := HN1.out; omega)
          obtain ⟨A5, c5, rfl, hI⟩ := Ints.of_own HO.out
          obtain ⟨A6, c6, e6, _, hcm, hcn⟩ := own_form HO.out
          simp only [Value.slice.injEq] at e6
          obtain ⟨_, _, rfl⟩ := e6
          have HCC : Hid (j ≤ 60 ∧ j ≤ c5 ∧ c5 ≤ maxLen) := ⟨hn60, hcn, hcm⟩
          clear hcm hcn
          rw [HE.out] at hI
          have HI := Lib.hid hI
          clear hI
          generalize H.length = L at *
          go_wp2_with fail
          go_ret
          exact ⟨A5, j, c5, rfl, HI.out, HCC.out, HB.out⟩
end
end Go.Proofs.Ytcbehllfljjngaa
