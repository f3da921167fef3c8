/- The walks of a collection: the function. -/
import Derived.Test.YtcbehllfljjngaaKEnd
import Derived.Test.YtcbehllfljjngaaRMem
import Derived.Deep.CutBlock
import Derived.Deep.DeepCutAuto
namespace Go.Proofs.Ytcbehllfljjngaa
open Go.RowKit
set_option linter.unusedVariables false
attribute [local go_sem ↓] Go.wp_at_zero Go.wp_at_succ

/-- The state ahead of the roots' loop. -/
structure K0 (w0 : World) (s1 e1 h1 : Nat) (H : Hp) (s2 e2 h2 pb nb tb mb ob : Nat) (w : World) : Prop where
  mv : Mv w s1 e1 h1 200 H s2 e2 h2 [] pb nb tb mb 0 (fun _ => 0)
  below : Below w0.heap.size w0 w
  far : mb < ob ∧ s1 ≤ s2 ∧ s2 = w0.heap.size + 0 ∧ ob = w.heap.size
theorem k0_start {w wA wB wD : World} {s1 e1 h1 h2 : Nat} {H : Hp} (h : HeapAt w s1 e1 h1 200 H) (hA : wA = w.alloc (.cells #[.pointer (some ⟨h1, 0, none⟩)] 31)) (hB : Below wA.heap.size wA wB) (hD : HeapAt wD wB.heap.size wD.heap.size h2 200 []) (hBD : Below wB.heap.size wB wD) :
    Mv (((wD.alloc (.cells #[.pointer (some ⟨h2, 0, none⟩)] 31)).alloc (.map #[] 0)).alloc (.cells #[.map (some (wD.heap.size + 1))] 91)) s1 e1 h1 200 H wB.heap.size wD.heap.size h2 [] w.heap.size (wD.heap.size + 1 + 1) wD.heap.size (wD.heap.size + 1) 0 (fun _ => 0) ∧
    Below w.heap.size w (((wD.alloc (.cells #[.pointer (some ⟨h2, 0, none⟩)] 31)).alloc (.map #[] 0)).alloc (.cells #[.map (some (wD.heap.size + 1))] 91)) := by
  have sA : wA.heap.size = w.heap.size + 1 := by rw [hA]; simp
  have bA : Below w.heap.size w wA := by rw [hA]; exact (Below.refl _ _).alloc (Nat.le_refl _) _
  have hbx : Whole wA w.heap.size 31 #[.pointer (some ⟨h1, 0, none⟩)] := by rw [hA]; exact Whole.made w 31 _
  have sB := hB.size
  have sD := hBD.size
  have b1 : Below wD.heap.size wD (wD.alloc (.cells #[.pointer (some ⟨h2, 0, none⟩)] 31)) := (Below.refl _ _).alloc (Nat.le_refl _) _
  have b2 := b1.alloc (o := .map #[] 0) (by simp)
  have b3 := b2.alloc (o := .cells #[.map (some (wD.heap.size + 1))] 91) (by simp; omega)
  have bw : Below w.heap.size w wD := (bA.trans (hB.mono (by omega))).trans (hBD.mono (by omega))
  have e1 : (wD.alloc (.cells #[.pointer (some ⟨h2, 0, none⟩)] 31)).heap.size = wD.heap.size + 1 := by simp
  have e2 : ((wD.alloc (.cells #[.pointer (some ⟨h2, 0, none⟩)] 31)).alloc (.map #[] 0)).heap.size = wD.heap.size + 1 + 1 := by simp
  have ball := bw.trans (b3.mono (by omega))
  have n0 := NowAt.made (wD.alloc (.cells #[.pointer (some ⟨h2, 0, none⟩)] 31))
  rw [e1] at n0
  have hsz := h.size
  refine ⟨⟨h.later ball, hD.later b3, ?_, ?_, ?_, ?_, ?_⟩, ball⟩
  · exact ((hbx.below hB (by omega)).below hBD (by omega)).below b3 (by omega)
  · have := Whole.made ((wD.alloc (.cells #[.pointer (some ⟨h2, 0, none⟩)] 31)).alloc (.map #[] 0)) 91 #[.map (some (wD.heap.size + 1))]
    rw [e2] at this
    exact this
  · exact ((Whole.made wD 31 #[.pointer (some ⟨h2, 0, none⟩)]).alloc _).alloc _
  · exact n0.same (Below.heap_alloc _ _ _ (by rw [e2]; omega))
  · exact ⟨by omega, by omega, by omega, .inl (by omega), .inr (by omega), .inr (by omega)⟩
set_option maxRecDepth 100000 in
set_option maxHeartbeats 4000000 in
theorem collect_any {w : World} {s1 e1 h1 : Nat} {H : Hp} {c f2 b a : Int} {pt ps : List Int} (h : HeapAt w s1 e1 h1 200 H) (hk : KIn H c f2 b a pt ps) (A : Option Addr) (cc : Nat) (hz : Ints w w.heap.size A 1 [c]) (hs1 : s1 ≤ w.heap.size) :
    Calls Try.prog 33 #[.pointer (some ⟨h1, 0, none⟩), .slice A 1 cc] w fun ee w' => ∃ v e2, ee = .returned (.tuple #[v, .int .i64 0]) ∧ HeapAt w' s1 e2 h1 200 (kT f2 b a pt ps 4) ∧ w'.ownsRow e2 3 1 v 1 [.int .i64 2] ∧ Below s1 w w' := by
  have hoB : Below w.heap.size w (w.alloc (.cells #[.pointer (some ⟨h1, 0, none⟩)] 31)) := (Below.refl _ _).alloc (Nat.le_refl _) _
  have hbx : Whole (w.alloc (.cells #[.pointer (some ⟨h1, 0, none⟩)] 31)) w.heap.size 31 #[.pointer (some ⟨h1, 0, none⟩)] := Whole.made w 31 _
  have hodd : oddF H [c] = false := by
    unfold oddF mayF; rw [List.any_cons, hk.hc]; simp
  have HCF := Lib.hid (containsfC_any (w := w.alloc (.cells #[.pointer (some ⟨h1, 0, none⟩)] 31)) (H := H) w.heap.size A 1 cc [c] ((hz.below hoB).more hoB.size) (by decide) (fun z hz => by rw [List.mem_singleton.1 hz]; exact hk.wf.1)
    (fun wx z hb hzz => collOdd_any ((h.later hoB).later hb) z hzz w.heap.size ((hbx.below hb hbx.lt).cell 0)))
  rw [hodd] at HCF
  obtain ⟨ga, goff, rfl, hgl, hg0⟩ := hz.at_ (show 0 < 1 by decide)
  have HZ := Lib.hid hz
  have HK := Lib.hid hk
  have HBX := Lib.hid hbx
  have HH := Lib.hid h
  have HST := Lib.hid (fun (wB wD : World) (h2 : Nat) => k0_start (wA := w.alloc (.cells #[.pointer (some ⟨h1, 0, none⟩)] 31)) (wB := wB) (wD := wD) (h2 := h2) h rfl)
  have hmm := @run_makeMap Try.prog
  clear hbx hodd hk h hz hg0
  go_enter Try.func33, Try.ntmps33
  go_wp2_with fail
  refine HCF.out.mono ?_
  rintro ee wB ⟨rfl, bB⟩
  have HBB := Lib.hid bB
  have hb0 : wB.cell? ⟨w.heap.size, 0, none⟩ = some (.pointer (some ⟨h1, 0, none⟩)) := (HBX.out.below bB HBX.out.lt).cell 0
  have HA := Lib.hid ((HH.out.later hoB).later bB)
  clear bB HCF
  go_wp2_with fail
  refine (half_any HA.out).mono ?_
  rintro ee wC ⟨rfl, rfl⟩
  go_wp2_with fail
  refine (heapNew_any 200 (by decide) (by decide) wB).mono ?_
  rintro ee wD ⟨h2, rfl, hD, bD⟩
  have HS := HST.out wB wD h2 HBB.out hD bD
  have HM := Lib.hid HS.1
  have HBW := Lib.hid HS.2
  have HD2 : Hid (wB.heap.size ≤ wD.heap.size) := bD.size
  clear HS HST hD bD HA hb0
  go_wp2_with fail
  have HSE : Hid ((((wD.alloc (.cells #[.pointer (some ⟨h2, 0, none⟩)] 31)).alloc (.map #[] 0)).alloc (.cells #[.map (some (wD.heap.size + 1))] 91)).heap.size = wD.heap.size + 1 + 1 + 1) := by show _ = _; simp
  have HWBS : Hid (w.heap.size ≤ wB.heap.size) := Nat.le_trans hoB.size HBB.out.size
  generalize ((wD.alloc (.cells #[.pointer (some ⟨h2, 0, none⟩)] 31)).alloc (.map #[] 0)).alloc (.cells #[.map (some (wD.heap.size + 1))] 91) = wE at *
  clear hmm HH HBX hoB HBB
  generalize hs2 : wB.heap.size = s2 at *
  generalize he2 : wD.heap.size = e2 at *
  have HS2 := Lib.hid hs2
  have HE2 := Lib.hid he2
  clear hs2 he2
  go_loopw [9, 25, 11] (fun o i x wr => (i = .int .i64 0 ∧ o = .slice none 0 0 ∧ wr = wE) ∨ (i = .int .i64 1 ∧ ∃ wb, KS wE s1 e1 h1 H s2 e2 h2 w.heap.size (e2 + 1 + 1) e2 (e2 + 1) (e2 + 1 + 1 + 1) wb o c f2 b a pt ps 0 wr)) (fun o i x wr => 1 - (intOf i).toNat)
  case atStart => exact .inl ⟨rfl, rfl, rfl⟩
  case round =>
    rcases hrel with ⟨rfl, rfl, rfl⟩ | ⟨rfl, wb, hks⟩
    · have x0 : wr.cell? ⟨ga, goff, none⟩ = some (.int .i64 c) := by
        obtain ⟨ga', goff', e, _, x⟩ := (HZ.out.below HBW.out).at_ (show 0 < 1 by decide)
        simp only [Option.some.injEq, Addr.mk.injEq] at e
        obtain ⟨rfl, rfl, _⟩ := e
        simpa using x
      have HMV := Lib.hid (move_new HM.out c HK.out.wf.1 _ HK.out.hc rfl (by show 1 + 4 ≤ 200; omega) (by decide))
      go_wp2_with fail
      refine HMV.out.mono ?_
      rintro ee w2 ⟨rfl, hm2, hf2, hr2⟩
      have HM2 := Lib.hid hm2
      have HF2 := Lib.hid hf2
      clear hm2 hf2 hr2 HMV x0
      rw [show (2 * ((topN [] : Nat) : Int)) = 2 from rfl]
      have HO : Hid (w2.ownsRow w2.heap.size 3 1 (.slice none 0 0) 0 []) := World.ownsRow_nil _ _ _ _
      go_wp2_with (at_builtin; refine list_app ty_ints (v := .slice none 0 0) rfl _ _ rfl rfl (HO.out.alloc _) w2.heap.size 1 [.int .i64 2] rfl (Whole.made w2 3 _) rfl (by simp [Value.oneCell']) (by decide) (by omega) (by decide) (by simp) ?_; intro gv cv w7 hap; have HA := Lib.hid hap.own; have HB7 : Hid (Below w2.heap.size w2 w7) := Lib.hid (hap.below (HO.out.alloc _) ((Below.refl w2.heap.size w2).alloc (Nat.le_refl _) _) (Nat.le_refl _) (by simp)); clear hap)
      go_roundw
      case rel =>
        obtain ⟨wb, hrow, hwb1, hwb2⟩ := HM2.out.dst.row
        refine .inr ⟨by go_num, wb, ⟨HM2.out.later HB7.out, (HB7.out.cell (p := ⟨h2, 0, none⟩) (by have := HM2.out.dst.hbs; have := HM2.out.dst.size; show h2 < _; omega)).trans hrow, own_more HA.out (by have := HF2.out.size; have := HSE.out; omega), ?_, ?_⟩⟩
        · exact ((HF2.out.below (by have := HSE.out; have := HD2.out; omega) (by have := HD2.out; omega)).mono (by have := HM2.out.src; have := HWBS.out; omega)).trans (HB7.out.mono (by have := HF2.out.size; have := HSE.out; have := HD2.out; have := HWBS.out; omega))
        · exact ⟨by omega, by have := HWBS.out; omega, by have := HSE.out; have := HD2.out; omega⟩
      case measure => simp [intOf]
    · have HKS := Lib.hid hks
      clear hks HM
      go_wp2_with fail
      go_loopw [12, 13, 14] (fun at_ _ _ wr => (at_ = .int .i64 1 ∧ KS wE s1 e1 h1 H s2 e2 h2 w.heap.size (e2 + 1 + 1) e2 (e2 + 1) (e2 + 1 + 1 + 1) wb u9 c f2 b a pt ps 0 wr) ∨ (∃ k : Nat, at_ = .int .i64 k ∧ KS wE s1 e1 h1 H s2 e2 h2 w.heap.size (e2 + 1 + 1) e2 (e2 + 1) (e2 + 1 + 1 + 1) wb u9 c f2 b a pt ps 4 wr ∧ (k = 6 ∨ k = 7 + pt.length ∨ k = 8 + pt.length + ps.length))) (fun at_ _ _ wr => 8 + pt.length + ps.length - (intOf at_).toNat)
      case atStart => exact .inl ⟨rfl, HKS.out⟩
      case round =>
        clear HKS
        rcases hrel with ⟨rfl, hks⟩ | ⟨k, rfl, hks, hk⟩
        · have HS := Lib.hid hks
          have t0 := (hks.cells (by decide)).1
          have t1 : wr.cell? ⟨h2, 1, none⟩ = some (.int .i64 6) := hks.top
          have HSP : Hid (Calls Try.prog 51 #[.pointer (some ⟨h2, 0, none⟩), .int .i64 1] wr (SpanAt wr wb 1 4)) := span_at hks.mv.dst hks.row (k := 1) (b := ⟨200, [f2, b, a, 9]⟩) rfl ⟨by show 200 ≤ 201; decide, by show 4 ≤ 60; decide⟩
          clear hks
          go_wp2_with fail
          refine HSP.out.mono ?_
          rintro ee w3 ⟨ad, rfl, had, rfl⟩
          obtain rfl := had (by decide)
          clear HSP had
          go_wp2_with fail
          go_loopw [14, 47] (fun _ i wx => ∃ q : Nat, q ≤ 4 ∧ i = .int .i64 q ∧ KS wE s1 e1 h1 H s2 e2 h2 w.heap.size (e2 + 1 + 1) e2 (e2 + 1) (e2 + 1 + 1 + 1) wb u9 c f2 b a pt ps q wx) (fun _ i _ => 4 - (intOf i).toNat)
          case atStart => exact ⟨0, by decide, rfl, HS.out⟩
          case round =>
            obtain ⟨q, hq, rfl, hks⟩ := hrel
            have HQ := Lib.hid hks
            clear hks HS t0 t1
            by_cases hq4 : q < 4
            · obtain ⟨y0, y1, y2⟩ := HQ.out.cells hq4
              have y3 := HQ.out.row
              have HSTEP := Lib.hid (step_any HK.out HQ.out hq4)
              generalize kZ f2 b a q = zq at *
              go_wp2_with fail
              refine HSTEP.out.mono ?_
              rintro ee w4 ⟨z', rfl, hks, hfz, uu, hcu⟩
              have HQ2 := Lib.hid hks
              clear hks HQ y0 y1 y2 y3 HSTEP
              go_wp2_with fail
              go_roundw
              case rel => exact ⟨q + 1, by omega, by go_num, HQ2.out⟩
              case measure => simp [intOf]; omega
            · obtain rfl : q = 4 := by omega
              go_wp2_with fail
              go_roundw
              case rel => exact .inr ⟨6, by go_num, HQ.out, .inl rfl⟩
              case measure => simp [intOf]; omega
        · have HS := Lib.hid hks
          have t0 := hks.mv.tbox.cell 0
          have htop := hks.top
          rw [kT_top4] at htop
          clear hks
          have hfew := HK.out.few
          by_cases hend : k = 8 + pt.length + ps.length
          · subst hend
            clear hk
            obtain ⟨u0, u1, u2, hw1⟩ : ∃ u0 u1 u2, Whole wr h1 71 #[u0, u1, u2] := by
              obtain ⟨wb1, mb1, pad1, hw1, _⟩ := HS.out.mv.src.ex
              exact ⟨_, _, _, hw1⟩
            obtain ⟨mb2, hw2⟩ : ∃ mb2, Whole wr h2 71 #[.slice (some ⟨wb, 0, none⟩) 201 201, .int .i64 (8 + pt.length + ps.length : Nat), .map (some mb2)] := by
              obtain ⟨wb2, mb2, pad2, hw2, _⟩ := HS.out.mv.dst.ex
              obtain rfl : wb = wb2 := by
                have h1 := hw2.cell 0
                have h3 := HS.out.row
                rw [h1] at h3
                simpa using h3.symm
              rw [kT_top4] at hw2
              exact ⟨mb2, hw2⟩
            have HW1 := Lib.hid hw1
            have HW2 := Lib.hid hw2
            have a0 : wr.cell? ⟨h1, 0, none⟩ = some u0 := hw1.cell 0
            have a1 : wr.cell? ⟨h1, 1, none⟩ = some u1 := hw1.cell 1
            have a2 : wr.cell? ⟨h1, 2, none⟩ = some u2 := hw1.cell 2
            have f0 := hw1.free 0
            have f1 := hw1.free 1
            have f2' := hw1.free 2
            have b0 : wr.cell? ⟨h2, 0, none⟩ = some (.slice (some ⟨wb, 0, none⟩) 201 201) := hw2.cell 0
            have b2 : wr.cell? ⟨h2, 2, none⟩ = some (.map (some mb2)) := hw2.cell 2
            have c0 : wr.cell? ⟨w.heap.size, 0, none⟩ = some (.pointer (some ⟨h1, 0, none⟩)) := HS.out.mv.hbox.cell 0
            clear hw1 hw2 hfew
            generalize hll : 8 + pt.length + ps.length = tp at *
            have HTP := Lib.hid hll
            clear hll
            go_wp2_with fail
            go_region
            have HEND := k_end HS.out (mb2 := mb2) (by rw [kT_top4, HTP.out]; exact HW2.out)
            rw [kT_top4, HTP.out] at HEND
            have HE3 := Lib.hid HEND
            clear HEND
            unfold endW at HE3
            clear HS a0 a1 a2 f0 f1 f2' b0 b2 c0 t0 htop HW1 HW2
            generalize (((wr.setCell ⟨h1, 0, none⟩ (.slice (some ⟨wb, 0, none⟩) 201 201)).setCell ⟨h1, 1, none⟩ (.int .i64 (tp : Nat))).setCell ⟨h1, 2, none⟩ (.map (some mb2))).drew = wz at *
            go_wp2_with fail
            go_ret2
            exact ⟨u9, e2, rfl, HE3.out.1, HE3.out.2.1, (HBW.out.mono hs1).trans HE3.out.2.2⟩
          · obtain ⟨p, k2, hbk, hp10, hk2⟩ : ∃ (p : List Int) (k2 : Nat), blkAt (kT f2 b a pt ps 4) k = some ⟨201, p⟩ ∧ p.length ≤ 10 ∧ (k2 = k + (1 + p.length) ∧ (k2 = 7 + pt.length ∨ k2 = 8 + pt.length + ps.length)) := by
              rcases hk with rfl | rfl | h
              · exact ⟨pt, 7 + pt.length, rfl, hfew.1, by omega, .inl rfl⟩
              · refine ⟨ps, 8 + pt.length + ps.length, ?_, hfew.2, by omega, .inr rfl⟩
                have := blkAt_posn (H := kT f2 b a pt ps 4) (i := 2) (by show 2 < 3; decide)
                have e : posn (kT f2 b a pt ps 4) 2 = 7 + pt.length := by unfold posn kT sumSz Blk.sz; simp; omega
                rw [e] at this
                exact this
              · exact absurd h hend
            have hlt : k < 8 + pt.length + ps.length := by omega
            obtain ⟨x1, x2, x3, x4⟩ := HS.out.wb_eq hbk
            have x5 := HS.out.row
            have HSP : Hid (Calls Try.prog 51 #[.pointer (some ⟨h2, 0, none⟩), .int .i64 k] wr (SpanAt wr wb k p.length)) := span_at HS.out.mv.dst HS.out.row hbk ⟨by show 201 ≤ 201; decide, by show p.length ≤ 60; omega⟩
            have hy := hdr_rem (b := ⟨201, p⟩) (by show 201 ≤ 201; decide)
            have hh : 0 ≤ (Blk.mk 201 p).hdr := by unfold Blk.hdr; omega
            have hh2 : (Blk.mk 201 p).hdr ≤ 20000 := by unfold Blk.hdr; show (p.length : Int) * 256 + 201 ≤ _; omega
            have hkt : k < 201 := by unfold Blk.sz at x3; omega
            clear hbk x2 x3
            dsimp only at hy
            generalize (Blk.mk 201 p).hdr = y at *
            generalize p.length = n at *
            generalize hll : 8 + pt.length + ps.length = tp at *
            have HTP := Lib.hid hll
            clear hll hend hfew
            go_wp2_with fail
            refine HSP.out.mono ?_
            rintro ee w3 ⟨ad, rfl, had, rfl⟩
            clear HSP had
            go_wp2_with fail
            go_loopw [14, 47] (fun _ i wx => ∃ q : Nat, q ≤ n ∧ i = .int .i64 q ∧ wx = wr) (fun _ i _ => n - (intOf i).toNat)
            case atStart => exact ⟨0, Nat.zero_le _, rfl, rfl⟩
            case round =>
              obtain ⟨q, hq, rfl, rfl⟩ := hrel
              by_cases hqn : q < n
              · go_wp2_with fail
                go_roundw
                case rel => exact ⟨q + 1, by omega, by go_num, by trivial⟩
                case measure => simp [intOf]; omega
              · obtain rfl : q = n := by omega
                go_wp2_with fail
                go_roundw
                case rel => exact .inr ⟨k2, by go_num, HS.out, .inr hk2.2⟩
                case measure => simp [intOf]; omega
end Go.Proofs.Ytcbehllfljjngaa
