/- The walks of layer 14: a function is gone through. -/
import Derived.Test.YtjkbhdocpjekmaaVWalkI
import Derived.Test.YtjkbhdocpjekmaaVMemC
import Derived.Deep.LoopGhost
namespace Go.Proofs.Ytjkbhdocpjekmaa
open Go.RowKit Go.Maps
set_option linter.unusedVariables false
attribute [local go_sem ↓] Go.wp_at_zero Go.wp_at_succ

/-- What going through a function comes to. -/
def WalkPost (w : World) (c : Cod) (n : Nat) (f : Bdy) (e : Ending) (w' : World) : Prop :=
  Below w.heap.size w w' ∧
  ((∃ H had, e = .returned (.tuple #[.slice (some ⟨H, 0, none⟩) f.code.length f.code.length, .bool true]) ∧ HadAt w' H had ∧ Done c n f had) ∨
   (e = .returned (.tuple #[.slice none 0 0, .bool false]) ∧ ¬ Good c n f))
theorem walk_no {w w' : World} {c : Cod} {n : Nat} {f : Bdy} (hb : Below w.heap.size w w') (h : ¬ Good c n f) : WalkPost w c n f (.returned (.tuple #[.slice none 0 0, .bool false])) w' := ⟨hb, .inr ⟨rfl, h⟩⟩
set_option maxRecDepth 100000 in
set_option maxHeartbeats 8000000 in
theorem walk_any (w : World) (B q : Nat) (c : Cod) (n : Nat) (f : Bdy) (hw : WkAt w B q c n f) (hN : f.code.length ≤ 400) (hN1 : 1 ≤ f.code.length) (hio : ∀ k, k < f.code.length → (f.code.getD k ins0).ok = true) (hst : f.stack ≤ 60) :
    Calls Try.prog 17 #[.pointer (some ⟨q, 0, none⟩)] w (WalkPost w c n f) := by
  obtain ⟨FA, fn, fc, IA, inn, ic, TA, tn, tc, CA, cn, cc, hww, h1, h2, h3, h4, h5, h6, h7, h8, h9⟩ := hw.form
  obtain rfl : f.code.length = cn := h4.1
  have hqw : q < w.heap.size := hww.lt
  have x8 : w.cell? ⟨q, 8, none⟩ = some (.slice CA f.code.length cc) := hww.cell 8
  have HWK := Lib.hid hw
  have HQ := Lib.hid hww
  have HIO := Lib.hid hio
  have HINV := Lib.hid (WSt.start c n f)
  clear hw hww h1 h2 h3 h4 hio
  generalize hNe : f.code.length = N at *
  have HNE := Lib.hid hNe
  clear hNe
  go_enter Try.func17, Try.ntmps17
  go_upto_region 2 with (at_make; refine list_make Try.underlying46 info53 rfl _ rfl _ _ rfl N rfl rfl (by decide) (by omega) ?_; intro w2 hw2 hb2 hs2; have HW2 := Lib.hid hw2; have HB2 := Lib.hid hb2; have HS2 := Lib.hid hs2; clear hw2 hb2 hs2)
  have HH2 : Hid (HadAt w2 w.heap.size (List.replicate N none)) := HadAt.made HW2.out
  have hsz2 : w2.heap.size = w.heap.size + 1 := HS2.out
  have HO3 : Hid ((w2.alloc (.cells #[.int .i64 0, .int .i64 0, .slice none 0 0] 69)).ownsRow w.heap.size 69 3 (.slice (some ⟨w.heap.size + 1, 0, none⟩) 1 1) 1 [.int .i64 0, .int .i64 0, .slice none 0 0]) := hsz2 ▸ own_made (cs := [.int .i64 0, .int .i64 0, .slice none 0 0]) rfl (by omega) (by unfold maxLen; omega)
  have HT3 : Hid (TgRow (w2.alloc (.cells #[.int .i64 0, .int .i64 0, .slice none 0 0] 69)) [(0, st0)] [.int .i64 0, .int .i64 0, .slice none 0 0]) := ⟨rfl, rfl, ⟨none, 0, 0, rfl, Mks.nil_, by omega, by omega, fun _ => rfl⟩, trivial⟩
  have HH3 : Hid (HadAt (w2.alloc (.cells #[.int .i64 0, .int .i64 0, .slice none 0 0] 69)) w.heap.size (List.replicate N none)) := HH2.out.alloc _
  have HB3 : Hid (Below w.heap.size w (w2.alloc (.cells #[.int .i64 0, .int .i64 0, .slice none 0 0] 69))) := HB2.out.alloc (by omega) _
  go_wp2_with fail
  go_loopg [5] (3 * N + 1) (fun gk v5 wr => ∃ had l xs, WSt c n f had l ∧ 3 * nones had + l.length = gk ∧ gk ≤ 3 * N + 1 ∧ wr.ownsRow w.heap.size 69 3 v5 l.length xs ∧ TgRow wr l xs ∧ HadAt wr w.heap.size had ∧ Below w.heap.size w wr)
  case atStart => exact ⟨_, _, _, HINV.out, by simp [nones, List.countP_replicate], Nat.le_refl _, HO3.out, HT3.out, HH3.out, HB3.out⟩
  case round =>
    obtain ⟨had, l, xs, hws, hgk, hgk2, hown, htr, hhad, hbw⟩ := hrel
    clear HW2 HB2 HS2 HH2 hsz2 HO3 HT3 HH3 HB3 HINV x8
    rcases List.eq_nil_or_concat l with rfl | ⟨l', p, rfl⟩
    · obtain ⟨A, cl, rfl, _, _⟩ := own_form hown
      have HE : Hid (WalkPost w c n f (.returned (.tuple #[.slice (some ⟨w.heap.size, 0, none⟩) N N, .bool true])) wr) := ⟨hbw, .inl ⟨_, had, by rw [HNE.out], hhad, hws.inv.done⟩⟩
      clear hws hown htr hhad hbw
      go_wp2_with fail
      go_ret2
      exact HE.out
    · obtain ⟨a, sd, sm⟩ := p
      simp only [List.concat_eq_append] at hws htr hown hgk
      have hok0 := hws.ok (a, ⟨sd, sm⟩) (by simp)
      obtain ⟨ka, rfl⟩ := Int.eq_ofNat_of_zero_le hok0.1
      have hsok : StOK (N - nones had) ⟨sd, sm⟩ := by have := hok0.2; rwa [HNE.out] at this
      obtain ⟨ys, z, rfl, hty, A, m, cap, rfl, hm, hmc, hc2, hA⟩ := htr.last
      dsimp only at hm hown
      rw [List.length_append] at hown hgk
      simp only [List.length_cons, List.length_nil, Nat.zero_add] at hown hgk
      have hyl : ys.length = l'.length * 3 := hty.len
      generalize hj : l'.length = j at *
      obtain ⟨e0, e1, e2⟩ := row_get (a := .int .i64 (ka : Int)) (b := .int .i64 sd) (c := .slice A m cap) hyl
      obtain ⟨gl, cl, rfl, hgb, hgl, c0, _⟩ := own_cell hown (k := j * 3) (by omega)
      obtain ⟨_, _, ev1, _, _, c1, _⟩ := own_cell hown (k := j * 3 + 1) (by omega)
      obtain ⟨_, _, ev2, _, _, c2, _⟩ := own_cell hown (k := j * 3 + 2) (by omega)
      cases ev1
      cases ev2
      rw [e0] at c0
      rw [e1] at c1
      rw [e2] at c2
      obtain ⟨_, _, ev3, _, hcm, hcj⟩ := own_form hown
      cases ev3
      unfold maxLen at hcm
      have hsd0 : 0 ≤ sd := hsok.1
      have hsd1 : sd ≤ 1000 := hsok.2.1
      have hml : m ≤ 1000 := by have := hsok.2.2.1; have h0 : sm.length = m := hm.1; dsimp only at this; omega
      have HSOK : Hid (StOK 100000 ⟨sd, sm⟩) := hsok.more (by omega)
      have HR : Hid (Reach c n f (ka : Int) ⟨sd, sm⟩) := hws.inv.top
      have HLEN : Hid (had.length = N) := hws.inv.len.trans HNE.out
      have HPOP := Lib.hid (own_popl hown hyl)
      have HTY := Lib.hid hty
      have HWS := Lib.hid hws
      have HHAD := Lib.hid hhad
      have HBW := Lib.hid hbw
      have HM := Lib.hid hm
      have HA := Lib.hid hA
      have HJ := Lib.hid hj
      have hjb : j ≤ 2000 := by omega
      have hjb' : j ≤ 1000000 := by omega
      have hcj' : j ≤ cl := by omega
      clear hws hok0 hsok hty hm hA hown htr hhad hbw e0 e1 e2 hyl hj
      go_upto_block 2 with (fail)
      obtain ⟨w1, hw1⟩ : ∃ w1, w1 = wr.alloc (.cells #[.int .i64 (ka : Int), .int .i64 sd, .slice A m cap] 69) := ⟨_, rfl⟩
      have HB1 : Hid (Below w.heap.size w w1) := by show Below _ _ _; rw [hw1]; exact HBW.out.alloc HBW.out.size _
      have HO1 : Hid (w1.ownsRow w.heap.size 69 3 (.slice (some ⟨gl, 0, none⟩) j cl) j ys) := by show World.ownsRow _ _ _ _ _ _ _; rw [hw1]; exact own_more_alloc HPOP.out _
      have HT1 : Hid (TgRow w1 l' ys) := by show TgRow _ _ _; rw [hw1]; exact TgRow.keep (fun g cs h => h.alloc _) _ _ HTY.out
      have HH1 : Hid (HadAt w1 w.heap.size had) := by show HadAt _ _ _; rw [hw1]; exact HHAD.out.alloc _
      have HM1 : Hid (Mks 89 w1 A m sm) := by show Mks _ _ _ _ _; rw [hw1]; exact HM.out.alloc _
      have HX1 : Hid (Whole w1 wr.heap.size 69 #[.int .i64 (ka : Int), .int .i64 sd, .slice A m cap]) := by show Whole _ _ _ _; rw [hw1]; exact Whole.made _ _ _
      have HZ1 : Hid (w1.heap.size = wr.heap.size + 1) := by show _ = _; rw [hw1]; simp
      have HGT : Hid (w.heap.size ≤ wr.heap.size) := HBW.out.size
      have HHT : Hid (w.heap.size < wr.heap.size) := HHAD.out.lt
      rw [← hw1]
      clear hw1 HPOP HTY HHAD HM c0 c1 c2 HBW
      have HK1 : Hid (WkAt w1 B q c n f) := HWK.out.below HB1.out
      obtain ⟨FA', fn', fc', IA', inn', ic', TA', tn', tc', CA', cn', cc', hwq, _⟩ := HK1.out.form
      have k7 : w1.cell? ⟨q, 7, none⟩ = some (.int .i64 f.stack) := hwq.cell 7
      clear hwq
      have t0 : w1.cell? ⟨wr.heap.size, 0, none⟩ = some (.int .i64 (ka : Int)) := HX1.out.cell 0
      have t1 : w1.cell? ⟨wr.heap.size, 1, none⟩ = some (.int .i64 sd) := HX1.out.cell 1
      have t2 : w1.cell? ⟨wr.heap.size, 2, none⟩ = some (.slice A m cap) := HX1.out.cell 2
      by_cases hkN : ka < N
      · have d1 : decide ((N : Int) ≤ (ka : Int)) = false := decide_eq_false (by omega)
        have d1n : decide (N ≤ ka) = false := decide_eq_false (by omega)
        by_cases hds : f.stack < sd
        · have d2 : decide (f.stack < sd) = true := decide_eq_true hds
          have HNG := Lib.hid (bad_at HR.out (.inr hds))
          as_aux_lemma =>
            go_wp2_with fail
            go_quiet (fail)
            go_wp2_with fail
            go_ret2
            exact walk_no (below_drewN HB1.out _) HNG.out
        · have d2 : decide (f.stack < sd) = false := decide_eq_false hds
          have HDS : Hid (sd ≤ f.stack) := Int.not_lt.1 hds
          clear hds
          obtain ⟨v, y0, hbx⟩ := HH1.out.at_ (k := ka) (by rw [HLEN.out]; exact hkN)
          rcases hho : had.getD ka none with _ | s0
          · rw [hho] at hbx
            obtain rfl : v = .pointer none := hbx
            as_aux_lemma =>
              go_wp2_with fail
              go_quiet (fail)
              have hbd := below_drewN (Below.refl w1.heap.size w1) nq
              have HBD : Hid (Below w.heap.size w (w1.drewN nq)) := HB1.out.trans (hbd.mono HB1.out.size)
              have HOD := Lib.hid (own_below HO1.out hbd (Nat.le_refl _))
              have HTD : Hid (TgRow (w1.drewN nq) l' ys) := TgRow.keep (fun g cs h => h.below hbd h.lt) _ _ HT1.out
              have HHD := Lib.hid (HH1.out.below hbd)
              have HMD := Lib.hid (HM1.out.below hbd)
              have HXD := Lib.hid (HX1.out.below hbd HX1.out.lt)
              have HSD : Hid (wr.heap.size < (w1.drewN nq).heap.size) := by have h0 := HZ1.out; have h2 := hbd.size; show _ < _; omega
              clear HO1 HT1 HH1 HM1 HX1 HB1 HK1 t0 t1 t2 y0 k7 hbd HZ1
              generalize w1.drewN nq = wd at *
              have t0 : wd.cell? ⟨wr.heap.size, 0, none⟩ = some (.int .i64 (ka : Int)) := HXD.out.cell 0
              have t1 : wd.cell? ⟨wr.heap.size, 1, none⟩ = some (.int .i64 sd) := HXD.out.cell 1
              have t2 : wd.cell? ⟨wr.heap.size, 2, none⟩ = some (.slice A m cap) := HXD.out.cell 2
              have y0 : wd.cell? ⟨w.heap.size, ka, none⟩ = some (.pointer none) := by
                obtain ⟨v, y0, hbx⟩ := HHD.out.at_ (k := ka) (by rw [HLEN.out]; exact hkN)
                rw [hho] at hbx
                obtain rfl : v = .pointer none := hbx
                exact y0
              have HHO := Lib.hid hho
              clear hho
              go_upto_region 10 with (fail)
              obtain ⟨w2, hw2⟩ : ∃ w2, w2 = wd.alloc (.cells #[.int .i64 sd, .slice A m cap] 56) := ⟨_, rfl⟩
              have HB2 : Hid (Below w.heap.size w w2) := by show Below _ _ _; rw [hw2]; exact HBD.out.alloc HBD.out.size _
              have HO2 : Hid (w2.ownsRow w.heap.size 69 3 (.slice (some ⟨gl, 0, none⟩) j cl) j ys) := by show World.ownsRow _ _ _ _ _ _ _; rw [hw2]; exact own_more_alloc HOD.out _
              have HT2 : Hid (TgRow w2 l' ys) := by show TgRow _ _ _; rw [hw2]; exact TgRow.keep (fun g cs h => h.alloc _) _ _ HTD.out
              have HH2 : Hid (HadAt w2 w.heap.size had) := by show HadAt _ _ _; rw [hw2]; exact HHD.out.alloc _
              have HM2 : Hid (Mks 89 w2 A m sm) := by show Mks _ _ _ _ _; rw [hw2]; exact HMD.out.alloc _
              have HX2 : Hid (Whole w2 wr.heap.size 69 #[.int .i64 (ka : Int), .int .i64 sd, .slice A m cap]) := by show Whole _ _ _ _; rw [hw2]; exact HXD.out.alloc _
              have HS2 : Hid (Whole w2 wd.heap.size 56 #[.int .i64 sd, .slice A m cap]) := by show Whole _ _ _ _; rw [hw2]; exact Whole.made _ _ _
              have Y0 : Hid (w2.cell? ⟨w.heap.size, ka, none⟩ = some (.pointer none)) := by
                show _ = _
                obtain ⟨v, y0, hbx⟩ := HH2.out.at_ (k := ka) (by rw [HLEN.out]; exact hkN)
                rw [HHO.out] at hbx
                obtain rfl : v = .pointer none := hbx
                exact y0
              rw [← hw2]
              clear hw2 HBD HOD HTD HHD HMD HXD t0 t1 t2 y0
              have t0 : w2.cell? ⟨wr.heap.size, 0, none⟩ = some (.int .i64 (ka : Int)) := HX2.out.cell 0
              have y1 := HH2.out.free ka
              have y0 : w2.cell? ⟨w.heap.size, ka, none⟩ = some (.pointer none) := Y0.out
              go_upto_region 11 with (fail)
              obtain ⟨w3, hw3⟩ : ∃ w3, w3 = w2.setCell ⟨w.heap.size, ka, none⟩ (.pointer (some ⟨wd.heap.size, 0, none⟩)) := ⟨_, rfl⟩
              obtain ⟨cs, hcs, -⟩ := HH2.out
              have HB3 : Hid (Below w.heap.size w w3) := by show Below _ _ _; rw [hw3]; exact HB2.out.setCell (p := ⟨w.heap.size, ka, none⟩) (Nat.le_refl _) _
              have HO3 : Hid (w3.ownsRow w.heap.size 69 3 (.slice (some ⟨gl, 0, none⟩) j cl) j ys) := by show World.ownsRow _ _ _ _ _ _ _; rw [hw3]; exact own_setCell HO2.out (own_whole_ne HO2.out hcs (by decide)) _
              have HT3 : Hid (TgRow w3 l' ys) := by show TgRow _ _ _; rw [hw3]; exact TgRow.keep (fun g cs' h => h.far (whole_ne h hcs (by decide)) _) _ _ HT2.out
              have HH3 : Hid (HadAt w3 w.heap.size (had.set ka (some ⟨sd, sm⟩))) := by show HadAt _ _ _; rw [hw3]; exact HH2.out.set (by rw [HLEN.out]; exact hkN) HS2.out ⟨_, _, _, rfl, HM2.out, hmc, hc2, HA.out⟩
              have HM3 : Hid (Mks 89 w3 A m sm) := by show Mks _ _ _ _ _; rw [hw3]; exact HM2.out.far (p := ⟨w.heap.size, ka, none⟩) hcs (by decide) _
              have HX3 : Hid (Whole w3 wr.heap.size 69 #[.int .i64 (ka : Int), .int .i64 sd, .slice A m cap]) := by show Whole _ _ _ _; rw [hw3]; exact HX2.out.far (whole_ne HX2.out hcs (by decide)) _
              have HS3 : Hid (Whole w3 wd.heap.size 56 #[.int .i64 sd, .slice A m cap]) := by show Whole _ _ _ _; rw [hw3]; exact HS2.out.far (whole_ne HS2.out hcs (by decide)) _
              rw [← hw3]
              clear hw3 hcs cs HB2 HO2 HT2 HH2 HM2 HX2 HS2 t0 y1 y0 Y0
              have t0 : w3.cell? ⟨wr.heap.size, 0, none⟩ = some (.int .i64 (ka : Int)) := HX3.out.cell 0
              have s0 : w3.cell? ⟨wd.heap.size, 0, none⟩ = some (.int .i64 sd) := HS3.out.cell 0
              have s1 : w3.cell? ⟨wd.heap.size, 1, none⟩ = some (.slice A m cap) := HS3.out.cell 1
              have CN := Lib.hid (next_any w3 B q c n f ka sd sm A m cap (HWK.out.below HB3.out) (by rw [HNE.out]; exact hkN) (HIO.out ka (by omega)) HM3.out hmc hc2 HA.out HSOK.out (by rw [HNE.out]; omega))
              go_upto_region 12 with (go_at_call 29; refine CN.out.mono ?_; rintro e w4 ⟨hb4, T, ok, rfl, hres⟩; have HB4 := Lib.hid hb4; have HRES := Lib.hid hres; clear hb4 hres)
              have HB5 : Hid (Below w.heap.size w w4) := HB3.out.trans (HB4.out.mono HB3.out.size)
              clear CN t0 s0 s1
              rcases HRES.out with ⟨rfl, more, hnx, htg⟩ | ⟨rfl, hnx⟩
              · have HW2 : Hid (WSt c n f (had.set ka (some ⟨sd, sm⟩)) (l' ++ more)) := HWS.out.new HHO.out (by rw [HNE.out]; exact hkN) HDS.out hst (HIO.out ka (by omega)) hnx
                have HNS : Hid (nones (had.set ka (some ⟨sd, sm⟩)) + 1 = nones had) := nones_set (by rw [HLEN.out]; exact hkN) HHO.out
                have HML : Hid (more.length ≤ 2) := next_len hnx
                have HO4 := Lib.hid (own_below HO3.out HB4.out (Nat.le_refl _))
                have HT4 : Hid (TgRow w4 l' ys) := TgRow.keep (fun g cs h => h.below HB4.out h.lt) _ _ HT3.out
                have HH4 := Lib.hid (HH3.out.below HB4.out)
                clear HRES hnx HO3 HT3 HH3 HM3 HX3 HS3
                rcases htg with ⟨rfl, rfl⟩ | ⟨gt, zs, hpos, rfl, hgt, hwt, hrow, hone⟩
                · go_wp2_with (at_builtin; refine list_app0 rfl _ _ rfl _ _ _ rfl rfl hcj' hjb' ?_)
                  go_roundg (3 * nones (had.set ka (some ⟨sd, sm⟩)) + (l' ++ ([] : List (Int × St))).length)
                  case measure => have h1 := HNS.out; have h2 := HJ.out; rw [List.length_append, h2]; simp; omega
                  case rel => exact ⟨_, _, ys, HW2.out, rfl, (by have h1 := HNS.out; have h2 := HJ.out; rw [List.length_append, h2]; simp; omega), (by rw [List.append_nil, HJ.out]; exact HO4.out), (by rw [List.append_nil]; exact HT4.out), HH4.out, HB5.out⟩
                · have HROW := Lib.hid hrow
                  have HONE := Lib.hid hone
                  have HWT := Lib.hid hwt
                  have HZL : Hid (zs.length = more.length * 3) := hrow.len
                  clear hrow hone hwt
                  go_wp2_with (at_builtin; refine list_app ty_tgt (v := .slice (some ⟨gl, 0, none⟩) j cl) rfl _ _ rfl rfl HO4.out gt more.length zs rfl HWT.out HZL.out HONE.out hpos (by have := HML.out; omega) (by decide) (by have := HB5.out.size; omega) ?_; intro g' cap' w5 hap; have HAP := Lib.hid hap; clear hap)
                  go_roundg (3 * nones (had.set ka (some ⟨sd, sm⟩)) + (l' ++ more).length)
                  case measure => have h1 := HNS.out; have h2 := HJ.out; have h3 := HML.out; rw [List.length_append, h2]; omega
                  case rel => exact ⟨_, _, ys ++ zs, HW2.out, rfl, (by have h1 := HNS.out; have h2 := HJ.out; have h3 := HML.out; rw [List.length_append, h2]; omega), (by rw [List.length_append, HJ.out]; exact HAP.out.own), TgRow.append _ _ _ _ (TgRow.keep (fun g cs h => HAP.out.stays HO4.out h (by decide)) _ _ HT4.out) (TgRow.keep (fun g cs h => HAP.out.stays HO4.out h (by decide)) _ _ HROW.out), HH4.out.keep (fun g t cs ht h => HAP.out.stays HO4.out h (by rcases ht with rfl | rfl | rfl <;> decide)), HAP.out.below HO4.out HB5.out (Nat.le_refl _) HB5.out.size⟩
              · have HNG := Lib.hid (bad_next HR.out hnx)
                clear HRES hnx
                go_wp2_with fail
                go_ret2
                exact walk_no HB5.out HNG.out
          · rw [hho] at hbx
            obtain ⟨g0, x, rfl, hb0, hx0⟩ := hbx
            as_aux_lemma =>
              obtain ⟨A0, m0, cap0, rfl, hm0, hmc0, hcx0, hA0⟩ := hx0
              have hm0l : m0 ≤ 1000 := by
                have h1 := HWS.out.hok ka s0 hho
                have h2 := h1.2.2.1
                have h3 : s0.m.length = m0 := hm0.1
                rw [HNE.out] at h2
                omega
              go_wp2_with fail
              go_quiet (fail)
              have hbd := below_drewN (Below.refl w1.heap.size w1) nq
              have HBD : Hid (Below w.heap.size w (w1.drewN nq)) := HB1.out.trans (hbd.mono HB1.out.size)
              have HOD := Lib.hid (own_below HO1.out hbd (Nat.le_refl _))
              have HTD : Hid (TgRow (w1.drewN nq) l' ys) := TgRow.keep (fun g cs h => h.below hbd h.lt) _ _ HT1.out
              have HHD := Lib.hid (HH1.out.below hbd)
              have HMD := Lib.hid (HM1.out.below hbd)
              have HM0 := Lib.hid (hm0.below hbd)
              have HXD := Lib.hid (HX1.out.below hbd HX1.out.lt)
              have HG0 := Lib.hid (hb0.below hbd hb0.lt)
              have HHO := Lib.hid hho
              have Y0 : Hid ((w1.drewN nq).cell? ⟨w.heap.size, ka, none⟩ = some (.pointer (some ⟨g0, 0, none⟩))) := (hbd.cell (p := ⟨w.heap.size, ka, none⟩) HH1.out.lt).trans y0
              clear HO1 HT1 HH1 HM1 HX1 HB1 HK1 t0 t1 t2 y0 k7 hbd HZ1 hm0 hb0 hho
              generalize w1.drewN nq = wd at *
              have t0 : wd.cell? ⟨wr.heap.size, 0, none⟩ = some (.int .i64 (ka : Int)) := HXD.out.cell 0
              have t1 : wd.cell? ⟨wr.heap.size, 1, none⟩ = some (.int .i64 sd) := HXD.out.cell 1
              have t2 : wd.cell? ⟨wr.heap.size, 2, none⟩ = some (.slice A m cap) := HXD.out.cell 2
              have y0 : wd.cell? ⟨w.heap.size, ka, none⟩ = some (.pointer (some ⟨g0, 0, none⟩)) := Y0.out
              have z0 : wd.cell? ⟨g0, 0, none⟩ = some (.int .i64 s0.d) := HG0.out.cell 0
              have z1 : wd.cell? ⟨g0, 1, none⟩ = some (.slice A0 m0 cap0) := HG0.out.cell 1
              obtain ⟨d0, ms0⟩ := s0
              dsimp only at z0 HM0
              go_upto_region 15 with (fail)
              rcases hq : stEq d0 sd ms0 sm with _ | _
              · have HNG : Hid (¬ Good c n f) := bad_two (HWS.out.inv.reach ka _ HHO.out) HR.out (fun h => by rw [stEq_iff.2 h] at hq; cases hq)
                have CS : Hid (Calls Try.prog 30 #[.agg #[.int .i64 d0, .slice A0 m0 cap0], .agg #[.int .i64 sd, .slice A m cap]] wd.drew fun e w' => e = .returned (.bool false) ∧ Below wd.heap.size wd w' ∧ (w'.cell? ⟨wr.heap.size, 0, none⟩ = some (.int .i64 (ka : Int)) ∧ w'.cell? ⟨wr.heap.size, 1, none⟩ = some (.int .i64 sd) ∧ w'.cell? ⟨wr.heap.size, 2, none⟩ = some (.slice A m cap) ∧ w'.cell? ⟨w.heap.size, ka, none⟩ = some (.pointer (some ⟨g0, 0, none⟩)) ∧ w'.cell? ⟨g0, 0, none⟩ = some (.int .i64 d0) ∧ w'.cell? ⟨g0, 1, none⟩ = some (.slice A0 m0 cap0))) :=
                  (same_any wd.drew d0 sd A0 A m0 m cap0 cap ms0 sm HM0.out.drew HMD.out.drew (by omega) (by omega)).mono fun e w' ⟨h1, h2⟩ =>
                    ⟨by rw [h1, hq], (Below.refl _ _).drew.trans h2, (h2.cell (p := ⟨wr.heap.size, 0, none⟩) HXD.out.lt).trans t0, (h2.cell (p := ⟨wr.heap.size, 1, none⟩) HXD.out.lt).trans t1, (h2.cell (p := ⟨wr.heap.size, 2, none⟩) HXD.out.lt).trans t2, (h2.cell (p := ⟨w.heap.size, ka, none⟩) HHD.out.lt).trans y0, (h2.cell (p := ⟨g0, 0, none⟩) HG0.out.lt).trans z0, (h2.cell (p := ⟨g0, 1, none⟩) HG0.out.lt).trans z1⟩
                go_region_held3 (fun W => W.cell? ⟨wr.heap.size, 0, none⟩ = some (.int .i64 (ka : Int)) ∧ W.cell? ⟨wr.heap.size, 1, none⟩ = some (.int .i64 sd) ∧ W.cell? ⟨wr.heap.size, 2, none⟩ = some (.slice A m cap) ∧ W.cell? ⟨w.heap.size, ka, none⟩ = some (.pointer (some ⟨g0, 0, none⟩)) ∧ W.cell? ⟨g0, 0, none⟩ = some (.int .i64 d0) ∧ W.cell? ⟨g0, 1, none⟩ = some (.slice A0 m0 cap0))
                  (first | assumption | go_keep)
                  (first
                    | ((go_at_call 30; with_reducible refine (CS.out).mono ?_); rintro e wm ⟨rfl, hbm, hkeep⟩))
                all_goals
                  go_wp2_with fail
                  go_ret2
                  exact walk_no (HBD.out.trans (hbm.mono HBD.out.size)) HNG.out
              · have HEQ : Hid ((⟨d0, ms0⟩ : St) = ⟨sd, sm⟩) := stEq_iff.1 hq
                have HW2 : Hid (WSt c n f had l') := HWS.out.old (by omega) (by rw [show ((ka : Int)).toNat = ka from by simp, HHO.out, HEQ.out])
                have CS : Hid (Calls Try.prog 30 #[.agg #[.int .i64 d0, .slice A0 m0 cap0], .agg #[.int .i64 sd, .slice A m cap]] wd.drew fun e w' => e = .returned (.bool true) ∧ Below wd.heap.size wd w' ∧ (w'.cell? ⟨wr.heap.size, 0, none⟩ = some (.int .i64 (ka : Int)) ∧ w'.cell? ⟨wr.heap.size, 1, none⟩ = some (.int .i64 sd) ∧ w'.cell? ⟨wr.heap.size, 2, none⟩ = some (.slice A m cap) ∧ w'.cell? ⟨w.heap.size, ka, none⟩ = some (.pointer (some ⟨g0, 0, none⟩)) ∧ w'.cell? ⟨g0, 0, none⟩ = some (.int .i64 d0) ∧ w'.cell? ⟨g0, 1, none⟩ = some (.slice A0 m0 cap0))) :=
                  (same_any wd.drew d0 sd A0 A m0 m cap0 cap ms0 sm HM0.out.drew HMD.out.drew (by omega) (by omega)).mono fun e w' ⟨h1, h2⟩ =>
                    ⟨by rw [h1, hq], (Below.refl _ _).drew.trans h2, (h2.cell (p := ⟨wr.heap.size, 0, none⟩) HXD.out.lt).trans t0, (h2.cell (p := ⟨wr.heap.size, 1, none⟩) HXD.out.lt).trans t1, (h2.cell (p := ⟨wr.heap.size, 2, none⟩) HXD.out.lt).trans t2, (h2.cell (p := ⟨w.heap.size, ka, none⟩) HHD.out.lt).trans y0, (h2.cell (p := ⟨g0, 0, none⟩) HG0.out.lt).trans z0, (h2.cell (p := ⟨g0, 1, none⟩) HG0.out.lt).trans z1⟩
                go_region_held3 (fun W => W.cell? ⟨wr.heap.size, 0, none⟩ = some (.int .i64 (ka : Int)) ∧ W.cell? ⟨wr.heap.size, 1, none⟩ = some (.int .i64 sd) ∧ W.cell? ⟨wr.heap.size, 2, none⟩ = some (.slice A m cap) ∧ W.cell? ⟨w.heap.size, ka, none⟩ = some (.pointer (some ⟨g0, 0, none⟩)) ∧ W.cell? ⟨g0, 0, none⟩ = some (.int .i64 d0) ∧ W.cell? ⟨g0, 1, none⟩ = some (.slice A0 m0 cap0))
                  (first | assumption | go_keep)
                  (first
                    | ((go_at_call 30; with_reducible refine (CS.out).mono ?_); rintro e wm ⟨rfl, hbm, hkeep⟩))
                all_goals
                  go_wp2_with fail
                  go_roundg (3 * nones had + l'.length)
                  case measure => have h2 := HJ.out; omega
                  case rel => exact ⟨_, _, ys, HW2.out, rfl, (by have h2 := HJ.out; omega), (by rw [HJ.out]; exact own_below HOD.out hbm (Nat.le_refl _)), TgRow.keep (fun g cs h => h.below hbm h.lt) _ _ HTD.out, HHD.out.below hbm, HBD.out.trans (hbm.mono HBD.out.size)⟩
      · have d1 : decide ((N : Int) ≤ (ka : Int)) = true := decide_eq_true (by omega)
        have d1n : decide (N ≤ ka) = true := decide_eq_true (by omega)
        have HNG := Lib.hid (bad_at HR.out (.inl (by rw [HNE.out]; omega)))
        as_aux_lemma =>
          go_wp2_with fail
          go_quiet (fail)
          go_wp2_with fail
          go_ret2
          exact walk_no (below_drewN HB1.out _) HNG.out
end Go.Proofs.Ytjkbhdocpjekmaa
