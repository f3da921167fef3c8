/- The walks of layer 19: the program's table: Wake. -/
import Derived.Test.YtibgchnfodpehaaWalkD
namespace Go.Proofs.Ytibgchnfodpehaa
open Go.RowKit
set_option linter.unusedVariables false
attribute [local go_sem ↓] Go.wp_at_zero Go.wp_at_succ

def setAll (zs : List Int) (L : Tb) : Tb := zs.foldl (fun M z => M.set z.toNat thr0) L
def wakeZ (L : Tb) (v : Int) : List Int := idxL (wokeP v) L L.length
def wakeL (L : Tb) (v : Int) : Tb := setAll (wakeZ L v) L
theorem setAll_len (zs : List Int) : ∀ L : Tb, (setAll zs L).length = L.length := by
  induction zs with
  | nil => intro L; rfl
  | cons z zs ih => intro L; show (setAll zs (L.set z.toNat thr0)).length = _; rw [ih, List.length_set]
theorem setAll_snoc (zs : List Int) (z : Int) (L : Tb) : setAll (zs ++ [z]) L = (setAll zs L).set z.toNat thr0 := by
  unfold setAll; rw [List.foldl_append]; rfl
theorem idxL_mem {P : Thr → Bool} {L : Tb} {m : Nat} {z : Int} (h : z ∈ idxL P L m) : ∃ j : Nat, z = j ∧ j < m ∧ P (L.getD j thr0) = true := by
  unfold idxL at h
  obtain ⟨j, hj, rfl⟩ := List.mem_map.1 h
  rw [List.mem_filter, List.mem_range] at hj
  exact ⟨j, rfl, hj.1, hj.2⟩
theorem take_snoc' {zs : List Int} {k : Nat} (h : k < zs.length) : zs.take (k + 1) = zs.take k ++ [zs.getD k 0] := by
  rw [List.take_add_one, List.getElem?_eq_getElem h, List.getD_eq_getElem?_getD, List.getElem?_eq_getElem h]; rfl
theorem getD_mem {α : Type} {l : List α} {k : Nat} {d : α} (h : k < l.length) : l.getD k d ∈ l := by
  rw [List.getD_eq_getElem?_getD, List.getElem?_eq_getElem h]; exact List.getElem_mem h
set_option maxHeartbeats 2000000 in
theorem wake_any (w : World) (b D : Nat) (L : Tb) (v : Int) (h : TabAt w b D L) :
    Calls Try.prog 12 #[.pointer (some ⟨b, 0, none⟩), .int .i64 v] w fun e w' => ∃ A n c, e = .returned (.slice A n c) ∧ w'.ownsRow w.heap.size 3 1 (.slice A n c) n ((wakeZ L v).map (Value.int .i64)) ∧ TabAt w' b D (wakeL L v) ∧ Fr 52 54 b w w' := by
  have hbel : Below w.heap.size w (w.alloc (.cells #[.int .i64 v] 3)) := (Below.refl _ _).alloc (Nat.le_refl _) _
  have HT := Lib.hid (h.below hbel)
  have HB0 := Lib.hid hbel
  have HF : Hid (Fr 52 54 b w (w.alloc (.cells #[.int .i64 v] 3))) := Fr.of_below hbel (by have := h.size; omega)
  have HP : Hid ((w.alloc (.cells #[.int .i64 v] 3)).cell? ⟨w.heap.size, 0, none⟩ = some (.int .i64 v)) := (Whole.made w 3 #[.int .i64 v]).cell 0
  have HS := Lib.hid h.size
  clear h hbel
  go_enter Try.func12, Try.ntmps12
  go_wp2_with fail
  refine (of_wakes (w.alloc (.cells #[.int .i64 v] 3)) b D v w.heap.size HP.out L HT.out).mono ?_
  rintro e w1 ⟨A, n, c, rfl, ho, hb⟩
  have HT1 := Lib.hid (HT.out.below hb)
  have HF1 := Lib.hid (HF.out.later hb (by have := HS.out; simp; omega))
  have HN1 := Lib.hid (own_more (b2 := w.heap.size) ho (by simp))
  have HZN : Hid ((wakeZ L v).length = n) := by have := ho.1; rw [List.length_map, Nat.mul_one] at this; exact this
  have HZI : Hid (∀ z ∈ wakeZ L v, ∃ j : Nat, z = j ∧ j < L.length) := fun z hz => by obtain ⟨j, e, hj, _⟩ := idxL_mem hz; exact ⟨j, e, hj⟩
  have hnl : n ≤ 8 := by
    have h1 : (wakeZ L v).length ≤ L.length := by
      unfold wakeZ idxL
      rw [List.length_map]
      exact Nat.le_trans (List.length_filter_le _ _) (by rw [List.length_range]; exact Nat.le_refl _)
    have := HT.out.len
    rw [HZN.out] at h1; omega
  have HWL : Hid (wakeL L v = setAll (wakeZ L v) L) := rfl
  have hdef : idxL (wokeP v) L L.length = wakeZ L v := rfl
  rw [hdef] at HN1
  clear ho hb HT HF HB0 HP hdef
  generalize hzs : wakeZ L v = zs at *
  have HZS := Lib.hid hzs
  clear hzs
  go_wp2_with fail
  go_loopw [13, 7] (fun i _ wr => ∃ k : Nat, i = .int .i64 (k : Int) ∧ k ≤ n ∧ TabAt wr b D (setAll (zs.take k) L) ∧ wr.ownsRow w.heap.size 3 1 (.slice A n c) n (zs.map (Value.int .i64)) ∧ Fr 52 54 b w wr) (fun i _ _ => n - (intOf i).toNat)
  case atStart => exact ⟨0, rfl, by omega, HT1.out, HN1.out, HF1.out⟩
  case round =>
    obtain ⟨k, rfl, hk, ht, hown, hfr⟩ := hrel
    clear HT1 HN1 HF1
    have HT := Lib.hid ht
    have HN := Lib.hid hown
    have HF := Lib.hid hfr
    clear ht hown hfr
    by_cases hlt : k < n
    · obtain ⟨j, hzj, hj⟩ := HZI.out (zs.getD k 0) (getD_mem (by rw [HZN.out]; exact hlt))
      have HSN : Hid (setAll (zs.take (k + 1)) L = (setAll (zs.take k) L).set j thr0) := by
        show _ = _
        rw [take_snoc' (by rw [HZN.out]; exact hlt), setAll_snoc, hzj]; rfl
      have hlen := setAll_len (zs.take k) L
      generalize setAll (zs.take k) L = M at *
      obtain ⟨m, g, cc, us, hmj, hm, hw, hbg, hg, ho, hv, ⟨y0, x0⟩, ⟨y1, x1⟩, hf⟩ := tab_one (n := (j : Int)) HT.out (by omega) (by omega)
      obtain rfl : j = m := by omega
      have HSET := Lib.hid (tab_set (x := thr0) (u := .slice none 0 0) HT.out hw ho hv rfl hm (World.ownsRow_nil _ _ _ _) (by decide))
      have HWG : Hid (∃ cur, Whole wr g 54 cur) := by obtain ⟨g', cur, e, _, hG⟩ := row_at ho (by omega); obtain rfl : g = g' := by simpa using e
                                                      exact ⟨cur, hG⟩
      obtain ⟨gl, cl, e1, _, hgl⟩ := row_at HN.out (by omega)
      subst e1
      have hz1 : wr.cell? ⟨gl, k, none⟩ = some (.int .i64 (j : Nat)) := by
        obtain ⟨g', c', e', _, _, hcell, _⟩ := own_cell HN.out (k := k) (by omega)
        simp only [Value.slice.injEq, Option.some.injEq, Addr.mk.injEq] at e'
        rw [e'.1.1, hcell, List.getElem?_map, List.getElem?_eq_getElem (by rw [HZN.out]; exact hlt)]
        rw [List.getD_eq_getElem?_getD, List.getElem?_eq_getElem (by rw [HZN.out]; exact hlt)] at hzj
        simp only [Option.getD_some] at hzj
        rw [hzj]; rfl
      have c0 : wr.cell? ⟨b, 0, none⟩ = some (.slice (some ⟨g, 0, none⟩) M.length cc) := hw.cell 0
      have hl := HT.out.len
      have f0 := hf (j * 2)
      have f1 := hf (j * 2 + 1)
      clear hw ho hv hf hmj hzj hgl
      obtain ⟨q, hq⟩ : ∃ q, q = M.length := ⟨_, rfl⟩
      rw [← hq] at c0 hm hl
      clear hq hlen hj
      go_wp2_with fail
      refine ⟨⟨k + 1, by go_num, by omega, by rw [HSN.out]; exact HSET.out.1, ?_, HF.out.trans HSET.out.2⟩, by simp [intOf]; omega⟩
      exact HSET.out.2.kt.own HN.out (by decide) (by decide)
    · have e : zs.take k = zs := List.take_of_length_le (by rw [HZN.out]; omega)
      rw [e] at HT
      go_wp2_with fail
      go_ret
      exact ⟨A, n, c, rfl, by rw [HZS.out]; exact HN.out, by rw [HWL.out]; exact HT.out, HF.out⟩
end Go.Proofs.Ytibgchnfodpehaa
