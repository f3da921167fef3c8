/- The walks of layer 14's document: a function is gone through. -/
import Derived.Test.YtjkbhdocpjekmaaRWalkE
import Derived.Test.YtjkbhdocpjekmaaRMemC
import Derived.Deep.LoopGhost
namespace Go.Proofs.Ytjkbhdocpjekmaa
open Go.RowKit
set_option linter.unusedVariables false
attribute [local go_sem ↓] Go.wp_at_zero Go.wp_at_succ

/-- What going through a function comes to. -/
def RWalkPost (w : World) (c : Cod) (n : Nat) (f : Bdy) (e : Ending) (w' : World) : Prop :=
  Below w.heap.size w w' ∧
  ((∃ H all, e = .returned (.tuple #[.slice (some ⟨H, 0, none⟩) f.code.length f.code.length, .bool true]) ∧ AllAt w' H all ∧ Done c n f all) ∨
   (e = .returned (.tuple #[.slice none 0 0, .bool false]) ∧ ¬ Good c n f))
/-- The state of the walk: what is known, what is done; g are not done yet. -/
structure RSt (c : Cod) (n : Nat) (f : Bdy) (g : Nat) (all : List (Option St)) (dn : List Bool) : Prop where
  inv : RInv c n f all dn
  cnt : dn.count false = g
  ok : ∀ (j : Nat) t, all.getD j none = some t → StOK (f.code.length - g) t
theorem count_set {l : List Bool} {k : Nat} (hk : k < l.length) (h : l.getD k false = false) : (l.set k true).count false + 1 = l.count false := by
  induction l generalizing k with
  | nil => simp at hk
  | cons x l ih =>
    cases k with
    | zero =>
      simp only [List.getD_cons_zero] at h
      subst h
      simp
    | succ k =>
      have := ih (k := k) (by simpa using hk) (by simpa using h)
      simp only [List.set_cons_succ, List.count_cons]
      omega
theorem RSt.start (c : Cod) (n : Nat) (f : Bdy) (h : 0 < f.code.length) : RSt c n f f.code.length ((List.replicate f.code.length none).set 0 (some st0)) (List.replicate f.code.length false) := by
  refine ⟨RInv.start c n f h, by rw [List.count_replicate]; simp, fun j t hj => ?_⟩
  rw [getD_set (by simpa using h)] at hj
  split at hj
  · cases hj; exact ⟨by decide, by decide, by simp [st0], fun x hx => by simp [st0] at hx⟩
  · rw [List.getD_eq_getElem?_getD, List.getElem?_replicate] at hj
    split at hj <;> cases hj
theorem RSt.step {c : Cod} {n : Nat} {f : Bdy} {g : Nat} {all all' : List (Option St)} {dn : List Bool} {k : Nat} {s : St} {l : List (Int × St)} (h : RSt c n f g all dn) (hk : all.getD k none = some s) (hdk : dn.getD k false = false) (hd : s.d ≤ f.stack) (hst : f.stack ≤ 60)
    (hi : (f.code.getD k ins0).ok = true) (hn : nextF c n f (k : Int) s = some l) (hh : Handed all all' l) : ∃ g', g = g' + 1 ∧ RSt c n f g' all' (dn.set k true) := by
  have hk2 : k < f.code.length := by rw [← h.inv.len]; exact getD_lt hk
  have hc := count_set (l := dn) (k := k) (by rw [h.inv.dlen]; exact hk2) hdk
  have hle : g ≤ f.code.length := by rw [← h.cnt, ← h.inv.dlen]; exact List.count_le_length
  refine ⟨g - 1, by have := h.cnt; omega, h.inv.step hk hd hn hh, by have := h.cnt; omega, fun j t hj => ?_⟩
  have hg : 0 < g := by have := h.cnt; omega
  rcases hh.only j t hj with h1 | h1
  · exact (h.ok j t h1).more (by omega)
  · have hi2 : 0 ≤ (f.code.getD ((k : Int)).toNat ins0).a ∧ 0 ≤ (f.code.getD ((k : Int)).toNat ins0).b ∧ (f.code.getD ((k : Int)).toNat ins0).b ≤ 65535 := by
      rw [show ((k : Int)).toNat = k from by simp]
      generalize f.code.getD k ins0 = i at *
      obtain ⟨op, a, b⟩ := i
      simp only [Ins.ok, insOK, decide_eq_true_eq] at hi
      exact ⟨hi.2.1, hi.2.2.2.1, hi.2.2.2.2.1⟩
    exact ((next_ok (by omega) hi2 (h.ok k s hk) (by omega) hn) _ h1).2.more (by omega)
theorem cod_bdy_ok {c : Cod} {n : Nat} (h : codOK c = true) (hn : n < c.funs.length) : bdyOK (c.funs.getD n bdy0) = true := by
  unfold codOK at h
  simp only [Bool.and_eq_true, List.all_eq_true] at h
  rw [List.getD_eq_getElem?_getD, List.getElem?_eq_getElem hn]
  exact h.1.1.2 _ (List.getElem_mem hn)
theorem bdy_facts {f : Bdy} (h : bdyOK f = true) : 0 ≤ f.kept ∧ f.kept ≤ 59 ∧ 0 ≤ f.locals ∧ f.locals ≤ 60 ∧ 1 ≤ f.stack ∧ f.stack ≤ 60 ∧ 1 ≤ f.code.length ∧ f.code.length ≤ 400 ∧ ∀ k, k < f.code.length → (f.code.getD k ins0).ok = true := by
  unfold bdyOK at h
  simp only [Bool.and_eq_true, inF_iff, List.all_eq_true] at h
  refine ⟨h.1.1.1.1.1, h.1.1.1.1.2, h.1.1.1.2.1, h.1.1.1.2.2, h.1.1.2.1, h.1.1.2.2, by omega, by omega, fun k hk => ?_⟩
  rw [List.getD_eq_getElem?_getD, List.getElem?_eq_getElem hk]
  exact h.2 _ (List.getElem_mem hk)
theorem below3 (w : World) (H : Nat) (a b c : Value) : Below H w (((w.setCell ⟨H, 0, none⟩ a).setCell ⟨H, 1, none⟩ b).setCell ⟨H, 2, none⟩ c) :=
  (((Below.refl H w).setCell (p := ⟨H, 0, none⟩) (Nat.le_refl H) _).setCell (p := ⟨H, 1, none⟩) (Nat.le_refl H) _).setCell (p := ⟨H, 2, none⟩) (Nat.le_refl H) _
theorem size3 (w : World) (H : Nat) (a b c : Value) : (((w.setCell ⟨H, 0, none⟩ a).setCell ⟨H, 1, none⟩ b).setCell ⟨H, 2, none⟩ c).heap.size = w.heap.size := by simp [World.setCell]
theorem info59 : (Try.prog.info? 59).map (fun i => (i.zero, i.size, i.bytes)) = some (some (.agg #[.bool false, .int .i64 0, .slice none 0 0]), 3, 40) := by kernel_rfl
theorem info4 : (Try.prog.info? 4).map (fun i => (i.zero, i.size, i.bytes)) = some (some (.bool false), 1, 1) := by kernel_rfl
set_option maxRecDepth 100000 in
set_option maxHeartbeats 4000000 in
theorem rwalk_any (w : World) (v : Value) (c : Cod) (n : Nat) (hc : CodAt w w.heap.size v c) (hn : n < c.funs.length) (hok : codOK c = true) :
    Calls Try.prog 19 #[v, .int .i64 (n : Int)] w (RWalkPost w c n (c.funs.getD n bdy0)) := by
  obtain ⟨_, _, _, _, _, hst, hl1, hl2, hio⟩ := bdy_facts (cod_bdy_ok hok hn)
  have HC := Lib.hid hc
  obtain ⟨FA, fn, fc, IA, inn, ic, TA, tn, tc, rfl, h1, h2, h3, hf1, hi1, ht1⟩ := hc.form
  have hn2 : n < fn := by rw [← h1.1]; exact hn
  obtain ⟨g, off, rfl, hg, c0, c1, c2, CA, cn, cc, c3, hI, hcn⟩ := h1.at_ hn2
  have HN := Lib.hid hn
  have HIO := Lib.hid hio
  have HST := Lib.hid hst
  clear h1 h2 h3 hc hok hio
  generalize hfe : c.funs.getD n bdy0 = f at *
  have HF := Lib.hid hfe
  clear hfe
  have hcl : f.code.length = cn := hI.1
  have HCL := Lib.hid hcl
  rw [hcl] at hl1 hl2
  clear hcl hI
  obtain ⟨w1, hw1⟩ : ∃ w1, w1 = (w.alloc (.cells #[.slice (some ⟨g, off, none⟩) fn fc, .slice IA inn ic, .slice TA tn tc, .int .i64 c.lets] 26)).alloc (.cells #[.int .i64 f.kept, .int .i64 f.locals, .int .i64 f.stack, .slice CA cn cc] 40) := ⟨_, rfl⟩
  have HW0 : Hid (Whole w1 w.heap.size 26 #[.slice (some ⟨g, off, none⟩) fn fc, .slice IA inn ic, .slice TA tn tc, .int .i64 c.lets]) := by show Whole _ _ _ _; rw [hw1]; exact (Whole.made _ _ _).alloc _
  have HW1 : Hid (Whole w1 (w.heap.size + 1) 40 #[.int .i64 f.kept, .int .i64 f.locals, .int .i64 f.stack, .slice CA cn cc]) := by
    show Whole _ _ _ _; rw [hw1]
    have := Whole.made (w.alloc (.cells #[.slice (some ⟨g, off, none⟩) fn fc, .slice IA inn ic, .slice TA tn tc, .int .i64 c.lets] 26)) 40 #[.int .i64 f.kept, .int .i64 f.locals, .int .i64 f.stack, .slice CA cn cc]
    simpa using this
  have HB1 : Hid (Below w.heap.size w w1) := by show Below _ _ _; rw [hw1]; exact ((Below.refl _ _).alloc (Nat.le_refl _) _).alloc (by simp) _
  have HZ1 : Hid (w1.heap.size = w.heap.size + 1 + 1) := by show _ = _; rw [hw1]; simp
  have HX := Lib.hid hw1
  clear hw1
  go_enter Try.func19, Try.ntmps19
  go_upto_region 2 with (fail)
  rw [← HX.out]
  clear HX c0 c1 c2 c3
  have f3 : w1.cell? ⟨w.heap.size + 1, 3, none⟩ = some (.slice CA cn cc) := HW1.out.cell 3
  go_upto_region 3 with (at_make; refine list_make Try.underlying49 info59 rfl _ rfl _ _ rfl cn rfl rfl (by decide) (by omega) ?_; rw [HZ1.out]; intro w2 hw hb hs; have HA2 := Lib.hid hw; have HB2 := Lib.hid hb; have HZ2 := Lib.hid hs; clear hw hb hs)
  have HAL2 : Hid (AllAt w2 (w.heap.size + 1 + 1) (List.replicate cn none)) := AllAt.zeros HA2.out
  have HBB2 : Hid (Below w.heap.size w w2) := HB1.out.trans (HB2.out.mono (by omega))
  have HS2 : Hid (w2.heap.size = w.heap.size + 1 + 1 + 1) := HZ2.out
  have HV0 := Lib.hid (HW0.out.below HB2.out (by omega))
  have HV1 := Lib.hid (HW1.out.below HB2.out (by omega))
  clear HW0 HW1 HB1 HZ1 HB2 HZ2 HA2 f3
  obtain ⟨A0, n0, c0, z0, z1, z2, _, _⟩ := HAL2.out.at_ (k := 0) (by rw [List.length_replicate]; omega)
  have y0 := HAL2.out.free 0
  have y1 := HAL2.out.free 1
  have y2 := HAL2.out.free 2
  simp only [Nat.zero_mul, Nat.zero_add] at z0 z1 z2
  go_upto_region 4 with (fail)
  obtain ⟨w3, hw3⟩ : ∃ w3, w3 = ((w2.setCell ⟨w.heap.size + 1 + 1, 0, none⟩ (.bool true)).setCell ⟨w.heap.size + 1 + 1, 1, none⟩ (.int .i64 0)).setCell ⟨w.heap.size + 1 + 1, 2, none⟩ (.slice none 0 0) := ⟨_, rfl⟩
  have HAL3 : Hid (AllAt w3 (w.heap.size + 1 + 1) ((List.replicate cn none).set 0 (some st0))) := by
    have h := HAL2.out.set (k := 0) (by rw [List.length_replicate]; omega) (s := st0) (A := none) (n := 0) (c := 0) Mks.nil_ (fun _ => rfl)
    rw [hw3]; exact h
  have HB3 : Hid (Below (w.heap.size + 1 + 1) w2 w3) := by
    rw [hw3]; exact below3 w2 (w.heap.size + 1 + 1) _ _ _
  have HS3 : Hid (w3.heap.size = w.heap.size + 1 + 1 + 1) := by show w3.heap.size = _; rw [hw3, size3]; exact HS2.out
  rw [← hw3]
  have HU0 := Lib.hid (HV0.out.below HB3.out (by omega))
  have HU1 := Lib.hid (HV1.out.below HB3.out (by omega))
  have HBB3 : Hid (Below w.heap.size w w3) := HBB2.out.trans (HB3.out.mono (by omega))
  clear hw3 z0 z1 z2 y0 y1 y2 HV0 HV1 HBB2 HB3 HS2 HAL2
  have f3 : w3.cell? ⟨w.heap.size + 1, 3, none⟩ = some (.slice CA cn cc) := HU1.out.cell 3
  go_upto_block 0 with (at_make; refine list_make Try.underlying74 info4 rfl _ rfl _ _ rfl cn rfl rfl (by decide) (by omega) ?_; rw [HS3.out]; intro w4 hw hb hs; have HD4 := Lib.hid hw; have HB4 := Lib.hid hb; have HZ4 := Lib.hid hs; clear hw hb hs)
  have HAL4 : Hid (AllAt w4 (w.heap.size + 1 + 1) ((List.replicate cn none).set 0 (some st0))) := HAL3.out.over fun g hg => HB4.out.block g (by have := HS3.out; omega)
  have HDN4 : Hid (DnAt w4 (w.heap.size + 1 + 1 + 1) (List.replicate cn false)) := DnAt.made HD4.out
  have HBB4 : Hid (Below w.heap.size w w4) := HBB3.out.trans (HB4.out.mono (by omega))
  have HX0 := Lib.hid (HU0.out.below HB4.out (by omega))
  have HX1 := Lib.hid (HU1.out.below HB4.out (by omega))
  have HR4 : Hid (RSt c n f cn ((List.replicate cn none).set 0 (some st0)) (List.replicate cn false)) := by
    have := RSt.start c n f (by rw [HCL.out]; omega)
    rw [HCL.out] at this; exact this
  clear HU0 HU1 HBB3 HAL3 HB4 HD4 HZ4 HS3 f3
  go_wp2_with fail
  go_loopg [9] cn (fun gk v9 wr => ∃ all dn, RSt c n f gk all dn ∧ AllAt wr (w.heap.size + 1 + 1) all ∧ DnAt wr (w.heap.size + 1 + 1 + 1) dn ∧ Whole wr w.heap.size 26 #[.slice (some ⟨g, off, none⟩) fn fc, .slice IA inn ic, .slice TA tn tc, .int .i64 c.lets] ∧ Whole wr (w.heap.size + 1) 40 #[.int .i64 f.kept, .int .i64 f.locals, .int .i64 f.stack, .slice CA cn cc] ∧ Below w.heap.size w wr)
  case atStart => exact ⟨_, _, HR4.out, HAL4.out, HDN4.out, HX0.out, HX1.out, HBB4.out⟩
  case round =>
    obtain ⟨all, dn, hr, hal, hdn, hx0, hx1, hbw⟩ := hrel
    have HR := Lib.hid hr
    have HAL := Lib.hid hal
    have HDN := Lib.hid hdn
    have HY0 := Lib.hid hx0
    have HY1 := Lib.hid hx1
    have HBW := Lib.hid hbw
    have HLA : Hid (all.length = cn) := hr.inv.len.trans HCL.out
    have HLD : Hid (dn.length = cn) := hr.inv.dlen.trans HCL.out
    clear hr hal hdn hx0 hx1 hbw HR4 HAL4 HDN4 HX0 HX1 HBB4
    have f3 : wr.cell? ⟨w.heap.size + 1, 3, none⟩ = some (.slice CA cn cc) := HY1.out.cell 3
    go_wp2_with fail
    go_loop [9] (fun v => ∃ j : Nat, v = .int .i64 (j : Int) ∧ j ≤ cn ∧ ∀ i, i < j → dn.getD i false = true ∨ all.getD i none = none) (fun v => cn - (intOf v).toNat)
    case atStart => exact ⟨0, rfl, by omega, fun i hi => absurd hi (by omega)⟩
    case round =>
      obtain ⟨j, rfl, hj, hp⟩ := hrel
      have HP := Lib.hid hp
      clear hp
      by_cases hlt : j < cn
      · obtain ⟨A, m, cm, a0, a1, a2, hmm, hAA⟩ := HAL.out.at_ (k := j) (by rw [HLA.out]; exact hlt)
        have d0 := HDN.out.at_ (k := j) (by rw [HLD.out]; exact hlt)
        rcases hd : dn.getD j false with _ | _
        · rcases ha : all.getD j none with _ | s
          · have H2 : Hid (∀ i, i < j + 1 → dn.getD i false = true ∨ all.getD i none = none) := fun i hi => by
              rcases Nat.lt_or_ge i j with h | h
              · exact HP.out i h
              · rw [show i = j from by omega]; exact .inr ha
            rw [hd] at d0
            rw [ha, Option.isSome_none] at a0
            clear hd ha a1 a2 hmm hAA
            go_wp2_with fail
            go_round
            case rel => exact ⟨j + 1, by go_num, by omega, H2.out⟩
            case measure => simp [intOf]; omega
          · rw [hd] at d0
            rw [ha, Option.isSome_some] at a0
            have HA2 := Lib.hid ha
            have HD2 := Lib.hid hd
            have HLE : Hid (gk ≤ cn) := by show gk ≤ cn; rw [← HR.out.cnt, ← HLD.out]; exact List.count_le_length
            clear ha hd a1 a2 hmm hAA
            have p0 : wr.cell? ⟨w.heap.size, 0, none⟩ = some (.slice (some ⟨g, off, none⟩) fn fc) := HY0.out.cell 0
            have p1 : wr.cell? ⟨w.heap.size, 1, none⟩ = some (.slice IA inn ic) := HY0.out.cell 1
            have p2 : wr.cell? ⟨w.heap.size, 2, none⟩ = some (.slice TA tn tc) := HY0.out.cell 2
            have p3 : wr.cell? ⟨w.heap.size, 3, none⟩ = some (.int .i64 c.lets) := HY0.out.cell 3
            have z0 : wr.frozen? ⟨w.heap.size + 1 + 1 + 1, j, none⟩ = false := HDN.out.free j
            have HDN5 := Lib.hid (HDN.out.set j)
            have HAL5 := Lib.hid (HAL.out.far (p := ⟨w.heap.size + 1 + 1 + 1, j, none⟩) HDN.out (by decide) (by decide) (.bool true))
            have HV0 := Lib.hid (HY0.out.far (p := ⟨w.heap.size + 1 + 1 + 1, j, none⟩) (by show w.heap.size ≠ w.heap.size + 1 + 1 + 1; omega) (.bool true))
            have HV1 := Lib.hid (HY1.out.far (p := ⟨w.heap.size + 1 + 1 + 1, j, none⟩) (by show w.heap.size + 1 ≠ w.heap.size + 1 + 1 + 1; omega) (.bool true))
            have HB5 := Lib.hid (HBW.out.setCell (p := ⟨w.heap.size + 1 + 1 + 1, j, none⟩) (by show w.heap.size ≤ w.heap.size + 1 + 1 + 1; omega) (.bool true))
            go_wp2_with fail
            generalize wr.setCell ⟨w.heap.size + 1 + 1 + 1, j, none⟩ (.bool true) = w5 at *
            have CS := step_any w5 _ c n j (w.heap.size + 1 + 1) cn all s ((HC.out.below HB5.out).more (by omega)) HN.out hlt (by rw [HF.out]; exact HCL.out) HLA.out HAL5.out HA2.out ((HR.out.ok j s HA2.out).more (by rw [HCL.out]; omega)) (fun i t h => Nat.le_trans ((HR.out.ok i t h).2.2.1) (by rw [HCL.out]; omega)) (by omega) (by rw [HF.out]; exact HST.out) (by rw [HF.out]; exact HIO.out j (by rw [HCL.out]; exact hlt))
            rw [HF.out] at CS
            refine CS.mono ?_
            rintro e w6 ⟨hb6, h6⟩
            have HB6 := Lib.hid hb6
            rcases h6 with ⟨rfl, all', l, k1, k2, k3, k4⟩ | ⟨rfl, k1⟩
            · obtain ⟨g', hg', hst'⟩ := HR.out.step HA2.out HD2.out k2 HST.out (HIO.out j (by rw [HCL.out]; exact hlt)) k3 k4
              have HST' := Lib.hid hst'
              have HAL6 := Lib.hid k1
              have HDN6 : Hid (DnAt w6 (w.heap.size + 1 + 1 + 1) (dn.set j true)) := HB6.out.whole HDN5.out HDN5.out.lt (by omega)
              have HX06 := Lib.hid (HB6.out.whole HV0.out HV0.out.lt (by omega))
              have HX16 := Lib.hid (HB6.out.whole HV1.out HV1.out.lt (by omega))
              have HBW6 := Lib.hid (HB5.out.trans (HB6.out.below (b := w.heap.size) (by have := HB5.out.size; omega) (by omega)))
              clear hb6 k1 k2 k3 k4 CS hst'
              go_wp2_with fail
              go_roundg g'
              case measure => omega
              case rel => exact ⟨all', dn.set j true, HST'.out, HAL6.out, HDN6.out, HX06.out, HX16.out, HBW6.out⟩
            · have HNG := Lib.hid (k1 HR.out.inv.reach)
              clear hb6 k1 CS
              go_wp2_with fail
              go_ret2
              exact ⟨HB5.out.trans (HB6.out.below (by have := HB5.out.size; omega) (by omega)), .inr ⟨rfl, HNG.out⟩⟩
        · have H2 : Hid (∀ i, i < j + 1 → dn.getD i false = true ∨ all.getD i none = none) := fun i hi => by
            rcases Nat.lt_or_ge i j with h | h
            · exact HP.out i h
            · rw [show i = j from by omega]; exact .inl hd
          rw [hd] at d0
          clear hd a0 a1 a2 hmm hAA
          go_wp2_with fail
          go_round
          case rel => exact ⟨j + 1, by go_num, by omega, H2.out⟩
          case measure => simp [intOf]; omega
      · have H2 := Lib.hid (HR.out.inv.done (fun k hk => HP.out k (by rw [HCL.out] at hk; omega)))
        obtain rfl : j = cn := by omega
        go_wp2_with fail
        go_ret2
        exact ⟨HBW.out, .inl ⟨w.heap.size + 1 + 1, all, by rw [HCL.out]; rfl, HAL.out, H2.out⟩⟩
end Go.Proofs.Ytjkbhdocpjekmaa
