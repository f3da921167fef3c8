/- The walks of layer 19: the program's table: Clone, Wait. -/
import Derived.Test.YtibgchnfodpehaaWalkC
import Derived.WalkLawsBesides
namespace Go.Proofs.Ytibgchnfodpehaa
open Go.RowKit
set_option linter.unusedVariables false
attribute [local go_sem ↓] Go.wp_at_zero Go.wp_at_succ

/-- A slice of integers that is handed on: nil, or it has some. -/
def Arg (w : World) (A : Option Addr) (n c : Nat) (zs : List Int) : Prop := Ints w w.heap.size A n zs ∧ n ≤ 12 ∧ ((A = none ∧ n = 0 ∧ c = 0 ∧ zs = []) ∨ 0 < n)
theorem Arg.later {w w' : World} {A : Option Addr} {n c : Nat} {zs : List Int} (h : Arg w A n c zs) (hb : Below w.heap.size w w') : Arg w' A n c zs := ⟨(h.1.below hb).more hb.size, h.2⟩
theorem own_empty (w : World) : (w.alloc (.cells #[] 3)).ownsRow w.heap.size 3 1 (.slice (some ⟨w.heap.size, 0, none⟩) 0 0) 0 [] :=
  ⟨by simp, .inr ⟨w.heap.size, 0, #[], rfl, Nat.le_refl _, Whole.made w 3 #[], Nat.le_refl _, by unfold maxLen; omega, by simp, by simp⟩⟩
theorem ints_news {w w' : World} {b off n : Nat} {zs : List Int} (hz : Ints w w.heap.size (some ⟨b, off, none⟩) n zs) (hb : Below w.heap.size w w') : ∀ j u, (zs.map (Value.int .i64))[j]? = some u → w'.cell? ((⟨b, off, none⟩ : Addr).add j) = some u := fun j u hj => by
  have e : (⟨b, off, none⟩ : Addr).add j = ⟨b, off + j, none⟩ := by unfold Addr.add; split <;> simp_all
  rw [List.getElem?_map] at hj
  have hjl : j < zs.length := by
    rcases Nat.lt_or_ge j zs.length with h | h
    · exact h
    · rw [List.getElem?_eq_none h] at hj; cases hj
  have hl := hz.1
  obtain ⟨b', off', e', hlt, hc⟩ := hz.2 (by omega)
  obtain ⟨rfl, rfl⟩ : b = b' ∧ off = off' := by simpa using e'
  rw [e, hb.cell (p := ⟨b, off + j, none⟩) hlt, hc j (by omega)]
  rw [List.getElem?_eq_getElem hjl] at hj
  rw [← hj, List.getD_eq_getElem?_getD, List.getElem?_eq_getElem hjl]; rfl
set_option maxHeartbeats 1000000 in
theorem clone_any (w : World) (A : Option Addr) (n c : Nat) (zs : List Int) (h : Arg w A n c zs) :
    Calls Try.prog 27 #[.slice A n c] w fun e w' => ∃ A' c', e = .returned (.slice A' n c') ∧ w'.ownsRow w.heap.size 3 1 (.slice A' n c') n (zs.map (Value.int .i64)) ∧ Below w.heap.size w w' := by
  obtain ⟨hz, hn, hor⟩ := h
  rcases hor with ⟨rfl, rfl, rfl, rfl⟩ | h0
  · clear hz
    have hnil := fun (w : World) => Lib.run_eql_slice_nil (P := Try.prog) w 22 3 none 0 0 0 0 Try.underlying22
    go_enter Try.func27, Try.ntmps27
    go_wp2_with fail
    go_ret
    exact ⟨none, 0, rfl, World.ownsRow_nil _ _ _ _, Below.refl _ _⟩
  · obtain ⟨b, off, rfl, hlt, _⟩ := hz.2 h0
    have HZ := Lib.hid hz
    have HL := Lib.hid hz.1
    have HNW := Lib.hid (ints_news hz ((Below.refl _ _).alloc (Nat.le_refl _) (.cells #[] 3)))
    have HE := Lib.hid (own_empty w)
    clear hz
    have hnil := fun (w : World) => Lib.run_eql_slice_nil (P := Try.prog) w 22 3 (some ⟨b, off, none⟩) n c 0 0 Try.underlying22
    go_enter Try.func27, Try.ntmps27
    go_wp2_with (at_builtin; refine list_app_from ty_ints (v := .slice (some ⟨w.heap.size, 0, none⟩) 0 0) rfl _ _ rfl rfl HE.out ⟨b, off, none⟩ n c (zs.map (Value.int .i64)) rfl HNW.out (by rw [List.length_map, HL.out, Nat.mul_one]) (by intro u hu; obtain ⟨z, _, rfl⟩ := List.mem_map.1 hu; rfl) h0 (by omega) (by decide) (by simp) ?_; intro gv cv w7 hap; have HA := Lib.hid hap.own; have HB7 := Lib.hid (hap.below HE.out ((Below.refl _ _).alloc (Nat.le_refl _) _) (Nat.le_refl _) (by simp)); clear hap)
    go_ret
    rw [Nat.zero_add, List.nil_append] at HA
    exact ⟨_, cv, by simp, HA.out, HB7.out⟩
set_option maxHeartbeats 1000000 in
theorem wait_any (w : World) (b D : Nat) (L : Tb) (n : Int) (A : Option Addr) (k c : Nat) (vs : List Int) (h : TabAt w b D L) (ha : Arg w A k c vs) :
    Calls Try.prog 11 #[.pointer (some ⟨b, 0, none⟩), .int .i64 n, .slice A k c] w fun e w' => e = .returned (.int .i64 (waitE L n)) ∧ TabAt w' b D (waitL L n vs) ∧ Fr 52 54 b w w' := by
  have HT := Lib.hid h
  have HI1 := Lib.hid (is_any w b D L n .ready h)
  have HAR := Lib.hid ha
  clear h ha
  by_cases hb : isF L n .ready = true
  · have HRE0 : waitE L n = 0 ∧ waitL L n vs = L.set n.toNat ⟨.waits, vs⟩ := by unfold waitE waitL; rw [if_pos hb, if_pos hb]; exact ⟨rfl, rfl⟩
    have hr := isF_range hb
    rw [hb] at HI1
    obtain ⟨m, g, cc, us, rfl, hm, hw, hbg, hg, ho, hv, ⟨y0, x0⟩, ⟨y1, x1⟩, hf⟩ := tab_one HT.out hr.1 hr.2
    have HRE : Hid (waitE L (m : Nat) = 0 ∧ waitL L (m : Nat) vs = L.set m ⟨.waits, vs⟩) := HRE0
    have c0 : w.cell? ⟨b, 0, none⟩ = some (.slice (some ⟨g, 0, none⟩) L.length cc) := hw.cell 0
    have hl := HT.out.len
    have HVL : Hid (vs.length = k) := HAR.out.1.1
    have HK : Hid (k ≤ 12) := HAR.out.2.1
    have key : ∀ w1 : World, Below w.heap.size w w1 → ∀ A' c', w1.ownsRow w.heap.size 3 1 (.slice A' k c') k (vs.map (Value.int .i64)) →
        (TabAt ((w1.setCell ⟨g, m * 2, none⟩ (.int .i64 1)).setCell ⟨g, m * 2 + 1, none⟩ (.slice A' k c')) b D (L.set m ⟨.waits, vs⟩) ∧ Fr 52 54 b w ((w1.setCell ⟨g, m * 2, none⟩ (.int .i64 1)).setCell ⟨g, m * 2 + 1, none⟩ (.slice A' k c'))) := fun w1 hb1 A' c' ho1 => by
      have t1 := HT.out.below hb1
      have hw1 := hw.below hb1 hw.lt
      have := tab_set (x := ⟨.waits, vs⟩) (u := .slice A' k c') t1 hw1 (own_below ho hb1 (Nat.le_refl _)) ⟨hv.1, fun i hi => ⟨own_below (hv.2 i hi).1 hb1 (Nat.le_refl _), (hv.2 i hi).2⟩⟩ rfl hm (by show w1.ownsRow D 3 1 _ vs.length _; rw [HVL.out]; exact own_more ho1 HT.out.hD) (by show vs.length ≤ 12; rw [HVL.out]; exact HK.out)
      exact ⟨this.1, (Fr.of_below hb1 (by have := HT.out.size; omega)).trans this.2⟩
    have KEY := Lib.hid key
    have hx : ∀ w1 : World, Below w.heap.size w w1 → w1.cell? ⟨b, 0, none⟩ = some (.slice (some ⟨g, 0, none⟩) L.length cc) ∧ w1.cell? ⟨g, m * 2, none⟩ = some y0 ∧ w1.cell? ⟨g, m * 2 + 1, none⟩ = some y1 ∧ w1.frozen? ⟨g, m * 2, none⟩ = false ∧ w1.frozen? ⟨g, m * 2 + 1, none⟩ = false := fun w1 hb1 => by
      obtain ⟨g', cur, e, _, hG⟩ := row_at ho (by omega)
      obtain rfl : g = g' := by simpa using e
      have hG1 := hG.below hb1 hG.lt
      exact ⟨(hw.below hb1 hw.lt).cell 0, (hb1.cell (p := ⟨g, m * 2, none⟩) hg).trans x0, (hb1.cell (p := ⟨g, m * 2 + 1, none⟩) hg).trans x1, hG1.free _, hG1.free _⟩
    have HX := Lib.hid hx
    clear hw ho hv hf HRE0 key hx hr hb x0 x1
    obtain ⟨q, hq⟩ : ∃ q, q = L.length := ⟨_, rfl⟩
    rw [← hq] at c0 hm hl HX
    clear hq
    go_enter Try.func11, Try.ntmps11
    go_wp2_with fail
    refine HI1.out.mono ?_
    rintro e w1 ⟨rfl, rfl⟩
    go_wp2_with fail
    go_region_law (go_simp; go_at_call 27; (with_reducible refine (clone_any _ A k c vs (HAR.out.later (Below.refl w.heap.size w).drew)).mono ?_); rintro e w1 ⟨A', c', rfl, ho1, hb1⟩; have HO1 := Lib.hid ho1; have hb2 : Below w.heap.size w w1 := (Below.refl w.heap.size w).drew.trans hb1; have HB2 := Lib.hid hb2; obtain ⟨e0, e1, e2, e3, e4⟩ := HX.out w1 hb2; clear ho1 hb1 hb2)
    all_goals
      have HEND := Lib.hid (KEY.out w1 HB2.out A' c' HO1.out)
      generalize (w1.setCell ⟨g, m * 2, none⟩ (.int .i64 1)).setCell ⟨g, m * 2 + 1, none⟩ (.slice A' k c') = wf at *
      go_wp2
      go_ret
      exact ⟨ret_i HRE.out.1.symm, by rw [HRE.out.2]; exact HEND.out.1, HEND.out.2⟩
  · have HRE : Hid (waitE L n = 1 ∧ waitL L n vs = L) := by unfold waitE waitL; rw [if_neg hb, if_neg hb]; exact ⟨rfl, rfl⟩
    rw [Bool.not_eq_true] at hb
    rw [hb] at HI1
    clear hb
    go_enter Try.func11, Try.ntmps11
    go_wp2_with fail
    refine HI1.out.mono ?_
    rintro e w1 ⟨rfl, rfl⟩
    go_wp2_with fail
    go_ret
    exact ⟨ret_i HRE.out.1.symm, by rw [HRE.out.2]; exact HT.out, Fr.refl _ _ _ _⟩
end Go.Proofs.Ytibgchnfodpehaa
