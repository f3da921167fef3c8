/- The walks of layer 2: how much is used, spans, fields. -/
import Derived.Test.YtcbehllfljjngaaHWalkA
import Derived.OwnWalk
import Derived.Deep.AppendLies
namespace Go.Proofs.Ytcbehllfljjngaa
open Go.RowKit
set_option linter.unusedVariables false

section
variable {w : World} {s e hb N : Nat} {H : Hp}
set_option maxHeartbeats 400000 in
theorem used_any (h : HeapAt w s e hb N H) : Calls Try.prog 17 #[.pointer (some ⟨hb, 0, none⟩)] w fun e w' => e = .returned (.int .i64 (sumSz H : Nat)) ∧ w = w' := by
  obtain ⟨wb, mb, x0, x1, x2, _⟩ := h.cells
  have ht := h.topLe
  have hN := h.n.2
  have HT : Hid ((topN H : Int) - 1 = (sumSz H : Nat)) := by show _ = _; unfold topN; omega
  clear h x0 x2
  generalize topN H = q at *
  go_enter Try.func17, Try.ntmps17
  go_wp2_with fail
  go_ret
  exact ⟨rt_i HT.out, rfl⟩
set_option maxHeartbeats 400000 in
theorem half_any (h : HeapAt w s e hb N H) : Calls Try.prog 63 #[.pointer (some ⟨hb, 0, none⟩)] w fun e w' => e = .returned (.int .i64 (N : Nat)) ∧ w = w' := by
  obtain ⟨wb, mb, x0, x1, x2, _⟩ := h.cells
  have hN := h.n.2
  clear h x1 x2
  go_enter Try.func63, Try.ntmps63
  go_wp2_with fail
  go_ret
  exact ⟨rt_i (by omega), rfl⟩
def SpanPost (w : World) (fs : List Int) (e : Ending) (w' : World) : Prop := ∃ ad, e = .returned (.slice (some ad) fs.length fs.length) ∧ Ints w w.heap.size (some ad) fs.length fs ∧ w = w'
set_option maxHeartbeats 400000 in
theorem span_any (h : HeapAt w s e hb N H) {k : Nat} {b : Blk} (hk : blkAt H k = some b) (hb6 : b.tag ≤ 201 ∧ b.fs.length ≤ 60) :
    Calls Try.prog 51 #[.pointer (some ⟨hb, 0, none⟩), .int .i64 k] w (SpanPost w b.fs) := by
  obtain ⟨wb, mb, x0, _, _, _, _, hx⟩ := h.cells
  obtain ⟨k', ek, hk1, hk2, hc, hwb, hcs⟩ := hx _ _ hk
  obtain rfl : k = k' := by omega
  have HQ := hdr_quo hb6.1
  have hh : 0 ≤ b.hdr := by unfold Blk.hdr; omega
  have hh2 : b.hdr ≤ 20000 := by unfold Blk.hdr; omega
  have HI : Hid (0 < b.fs.length → Ints w w.heap.size (some ⟨wb, k + 1, none⟩) b.fs.length b.fs) := fun _ => ⟨rfl, fun _ => ⟨wb, k + 1, rfl, hwb, hcs⟩⟩
  have HI0 : Hid (b.fs.length = 0 → ∀ ad, Ints w w.heap.size (some ad) b.fs.length b.fs) := fun h0 ad => ⟨rfl, fun h1 => by omega⟩
  have hN := h.n.2
  have HPO : Hid (∀ ad, Ints w w.heap.size (some ad) b.fs.length b.fs → SpanPost w b.fs (.returned (.slice (some ad) b.fs.length b.fs.length)) w) := fun ad hi => ⟨ad, rfl, hi, rfl⟩
  unfold Blk.sz at hk2
  have hl60 := hb6.2
  clear h hx hk hb6 hcs ek
  generalize b.hdr = y at *
  generalize b.fs = fs at *
  generalize hn : fs.length = n at *
  clear hn
  have hkN : k < N + 1 := by omega
  by_cases h0 : n = 0
  · have HI1 := Lib.hid (HI0.out h0)
    clear HI HI0
    subst h0
    by_cases hz : k + 1 = N + 1
    · obtain rfl : N = k := by omega
      go_enter Try.func51, Try.ntmps51
      go_wp2_with fail
      all_goals
        go_ret
        exact HPO.out _ (HI1.out _)
    · have hz2 : k + 1 < N + 1 := by omega
      go_enter Try.func51, Try.ntmps51
      go_wp2_with fail
      all_goals
        go_ret
        exact HPO.out _ (HI1.out _)
  · have HI1 := Lib.hid (HI.out (by omega))
    have h1 : 0 < n := by omega
    have hz2 : k + 1 < N + 1 := by omega
    clear HI HI0 h0
    go_enter Try.func51, Try.ntmps51
    go_wp2_with fail
    go_ret
    show SpanPost w fs (.returned (.slice (some ⟨wb, k + 1, none⟩) (k + 1 + n - (k + 1)) (k + 1 + n - (k + 1)))) w
    rw [show k + 1 + n - (k + 1) = n from by omega]
    exact HPO.out _ HI1.out
/-- A slice of integers that is not nil. -/
theorem own_empty (w : World) : (w.alloc (.cells #[] 3)).ownsRow w.heap.size 3 1 (.slice (some ⟨w.heap.size, 0, none⟩) 0 0) 0 [] :=
  ⟨rfl, .inr ⟨w.heap.size, 0, #[], rfl, Nat.le_refl _, heap_alloc_new w _, by omega, by unfold maxLen; omega, by simp, by simp⟩⟩
theorem ints_news {w w' : World} {ad : Addr} {n : Nat} {zs : List Int} (hz : Ints w w.heap.size (some ad) n zs) (hb : Below w.heap.size w w') : ∀ j u, (zs.map (Value.int .i64))[j]? = some u → w'.cell? (ad.add j) = some u := fun j u hj => by
  rw [List.getElem?_map] at hj
  have hjl : j < zs.length := by
    rcases Nat.lt_or_ge j zs.length with h | h
    · exact h
    · rw [List.getElem?_eq_none h] at hj; cases hj
  have hl := hz.1
  obtain ⟨b', off', e', hlt, hc⟩ := hz.2 (by omega)
  obtain rfl : ad = ⟨b', off', none⟩ := by simpa using e'
  have e : (⟨b', off', none⟩ : Addr).add j = ⟨b', off' + j, none⟩ := by unfold Addr.add; split <;> simp_all
  rw [e, hb.cell (p := ⟨b', off' + j, none⟩) hlt, hc j (by omega)]
  rw [List.getElem?_eq_getElem hjl] at hj
  rw [← hj, List.getD_eq_getElem?_getD, List.getElem?_eq_getElem hjl]; rfl
theorem own_len {w : World} {base e n : Nat} {v : Value} {zs : List Int} (h : w.ownsRow base e 1 v n (zs.map (Value.int .i64))) : zs.length = n := by
  have := h.1; rw [List.length_map, Nat.mul_one] at this; exact this
set_option maxHeartbeats 1000000 in
theorem clone_any (w : World) (ad : Addr) (n c : Nat) (zs : List Int) (hz : Ints w w.heap.size (some ad) n zs) (hn : n ≤ 1000) :
    Calls Try.prog 50 #[.slice (some ad) n c] w fun e w' => ∃ A' c', e = .returned (.slice A' n c') ∧ w'.ownsRow w.heap.size 3 1 (.slice A' n c') n (zs.map (Value.int .i64)) ∧ Below w.heap.size w w' := by
  have HZ := Lib.hid hz
  have HL := Lib.hid hz.1
  have HNW := Lib.hid (ints_news hz ((Below.refl _ _).alloc (Nat.le_refl _) (.cells #[] 3)))
  have HE := Lib.hid (own_empty w)
  clear hz
  have hnil := fun (w : World) => Lib.run_eql_slice_nil (P := Try.prog) w 36 3 (some ad) n c 0 0 Try.underlying36
  obtain ⟨i0, hi, hz0, hz1, hz2⟩ := info_parts2 (show (Try.prog.info? 3).map (fun i => (i.zero, i.size, i.bytes)) = some (some (.int .i64 0), 1, 8) by kernel_rfl)
  have HI := Lib.hid hi
  have HI2 := Lib.hid hz1
  clear hi hz0 hz1 hz2
  by_cases h0 : n = 0
  · subst h0
    obtain rfl : zs = [] := List.eq_nil_of_length_eq_zero HL.out
    go_enter Try.func50, Try.ntmps50
    go_wp2_with (at_builtin; refine wpList_append_fits_any _ rfl _ _ 36 rfl w.heap.size 3 i0 1 Try.underlying36 HI.out HI2.out w.heap.size 0 0 [] rfl HE.out (some ad) 0 c [] rfl rfl (fun h => by cases h) (fun _ _ j u h => by simp at h) (fun u h => by simp at h) (by omega) ?_; intro w7 ho7 hg7; have HA := Lib.hid ho7; have HB7 : Hid (Below w.heap.size w w7) := ((Below.refl _ _).alloc (Nat.le_refl _) _).grown hg7 (by simp) (fun k hk => by simp at hk; omega); clear ho7 hg7)
    go_ret
    exact ⟨_, 0, by simp, HA.out, HB7.out⟩
  · go_enter Try.func50, Try.ntmps50
    go_wp2_with (at_builtin; refine list_app_from ty_ints (v := .slice (some ⟨w.heap.size, 0, none⟩) 0 0) rfl _ _ rfl rfl HE.out ad n c (zs.map (Value.int .i64)) rfl HNW.out (by rw [List.length_map, HL.out, Nat.mul_one]) (by intro u hu; obtain ⟨z, _, rfl⟩ := List.mem_map.1 hu; rfl) (by omega) (by omega) (by decide) (by simp) ?_; intro gv cv w7 hap; have HA := Lib.hid hap.own; have HB7 := Lib.hid (hap.below HE.out ((Below.refl _ _).alloc (Nat.le_refl _) _) (Nat.le_refl _) (by simp)); clear hap)
    go_ret
    rw [Nat.zero_add, List.nil_append] at HA
    exact ⟨_, cv, by simp, HA.out, HB7.out⟩
set_option maxHeartbeats 400000 in
theorem fields_any (h : HeapAt w s e hb N H) (z : Int) (hz : (Lit.int .i64 z).wf = true) :
    Calls Try.prog 20 #[.pointer (some ⟨hb, 0, none⟩), .int .i64 z] w fun e w' => ∃ A n c, e = .returned (.slice A n c) ∧ w'.ownsRow w.heap.size 3 1 (.slice A n c) n ((fieldsF H z).map (Value.int .i64)) ∧ n ≤ 60 ∧ Below w.heap.size w w' := by
  have HC := Lib.hid (place_any h z hz)
  rcases hq : blkF H z with _ | b
  · have HP : Hid (fieldsF H z = []) := by show _ = _; unfold fieldsF; rw [hq]
    have h0 := placeF_none hq
    rw [h0] at HC
    clear h hz hq h0
    go_enter Try.func20, Try.ntmps20
    go_wp2_with (go_at_call 49; refine HC.out.mono ?_; rintro e w' ⟨rfl, rfl⟩)
    go_ret
    exact ⟨none, 0, 0, rfl, by rw [HP.out]; exact World.ownsRow_nil _ _ _ _, by omega, Below.refl _ _⟩
  · have HP : Hid (fieldsF H z = b.fs) := by show _ = _; unfold fieldsF; rw [hq]
    obtain ⟨e1, e2, _⟩ := placeF_some hq
    have hwf := h.wf b (blkF_in hq)
    have hwf : b.tag ≤ 201 ∧ b.fs.length ≤ 60 := ⟨hwf.1, hwf.2.1⟩
    obtain ⟨k, ek, hk1, hk2, _⟩ := blkAt_mem e2
    rw [ek] at e2
    have HS := Lib.hid (span_any h e2 hwf)
    rw [e1, ek] at HC
    have hb : ((k : Int) == 0) = false := beq_eq_false_iff_ne.2 (by omega)
    have HW := Lib.hid hwf.2
    clear h hz hq e1 e2 ek hk2 hwf
    generalize b.fs = fs at *
    go_enter Try.func20, Try.ntmps20
    go_wp2_with (go_at_call 49; refine HC.out.mono ?_; rintro e w' ⟨rfl, rfl⟩)
    refine HS.out.mono ?_
    rintro e w' ⟨ad, rfl, hi, rfl⟩
    have HI := Lib.hid hi
    clear hi HC HS
    go_wp2_with fail
    refine (clone_any w ad _ _ fs HI.out (by have := HW.out; omega)).mono ?_
    rintro e w1 ⟨A', c', rfl, ho, hb⟩
    have HO := Lib.hid ho
    have HB := Lib.hid hb
    clear ho hb HI
    go_wp2_with fail
    go_ret
    exact ⟨A', _, c', rfl, by rw [HP.out]; exact HO.out, HW.out, HB.out⟩
end
end Go.Proofs.Ytcbehllfljjngaa
