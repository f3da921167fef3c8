/- The walk of layer 2: a block is made. -/
import Derived.Test.YtcbehllfljjngaaHWalkD
import Derived.Deep.CutBlock
import Derived.Deep.DeepCutAuto
namespace Go.Proofs.Ytcbehllfljjngaa
open Go.RowKit
set_option linter.unusedVariables false
attribute [local go_sem ↓] Go.wp_at_zero Go.wp_at_succ

theorem oddF_all (H : Hp) (zs : List Int) : oddF H zs = !zs.all (mayF H) := by
  unfold oddF
  rw [List.not_all_eq_any_not]
theorem mkOk_eq (N : Nat) (H : Hp) (tag : Int) (zs : List Int) : mkOk N H tag zs = !(decide (tag < 0) || decide (201 < tag) || decide (60 < (zs.length : Int)) || (decide (tag ≠ 201) && oddF H zs)) := by
  unfold mkOk
  rw [oddF_all]
  have e1 : decide (0 ≤ tag) = !decide (tag < 0) := by rw [← decide_not]; exact decide_eq_decide.2 (by omega)
  have e2 : decide (tag ≤ 201) = !decide (201 < tag) := by rw [← decide_not]; exact decide_eq_decide.2 (by omega)
  have e3 : decide (zs.length ≤ 60) = !decide (60 < (zs.length : Int)) := by rw [← decide_not]; exact decide_eq_decide.2 (by omega)
  have e4 : decide (tag ≠ 201) = !decide (tag = 201) := by rw [← decide_not]
  rw [e1, e2, e3, e4]
  cases decide (tag < 0) <;> cases decide (201 < tag) <;> cases decide (60 < (zs.length : Int)) <;> cases decide (tag = 201) <;> cases zs.all (mayF H) <;> rfl
theorem mk_bad {N : Nat} {H : Hp} {tag : Int} {zs : List Int} (h : mkOk N H tag zs = false) : mkH N H tag zs = H ∧ mkR N H tag zs = 0 ∧ mkE N H tag zs = 1 := by
  unfold mkH mkR mkE
  rw [h]
  exact ⟨if_neg (fun hh => by cases hh.1), if_neg (fun hh => by cases hh.1), if_neg (by decide)⟩
theorem mk_full {N : Nat} {H : Hp} {tag : Int} {zs : List Int} (h : mkOk N H tag zs = true) (hr : ¬ topN H + zs.length ≤ N) : mkH N H tag zs = H ∧ mkR N H tag zs = 0 ∧ mkE N H tag zs = 2 := by
  unfold mkH mkR mkE
  exact ⟨if_neg (fun hh => hr hh.2), if_neg (fun hh => hr hh.2), by rw [if_pos h, if_neg hr]⟩
theorem mk_good {N : Nat} {H : Hp} {tag : Int} {zs : List Int} (h : mkOk N H tag zs = true) (hr : topN H + zs.length ≤ N) : mkH N H tag zs = H ++ [⟨tag.toNat, zs⟩] ∧ mkR N H tag zs = 2 * (topN H : Nat) ∧ mkE N H tag zs = 0 := by
  unfold mkH mkR mkE
  exact ⟨if_pos ⟨h, hr⟩, if_pos ⟨h, hr⟩, by rw [if_pos h, if_pos hr]⟩
def MakePost (w : World) (s e hb N : Nat) (H : Hp) (tag : Int) (zs : List Int) (ee : Ending) (w' : World) : Prop :=
  ee = .returned (.tuple #[.int .i64 (mkR N H tag zs), .int .i64 (mkE N H tag zs)]) ∧ HeapAt w' s e hb N (mkH N H tag zs) ∧ Mid s e w w'
section
variable {w : World} {s e hb N : Nat} {H : Hp}
set_option maxRecDepth 100000 in
set_option maxHeartbeats 2000000 in
theorem make_any (h : HeapAt w s e hb N H) (tag : Int) (A : Option Addr) (n c : Nat) (zs : List Int) (hz : Ints w w.heap.size A n zs) (hn : n ≤ 1000) (hwf : ∀ z ∈ zs, WfI z) (hsep : ∀ ad, A = some ad → 0 < n → ad.block < s ∨ e ≤ ad.block) :
    Calls Try.prog 46 #[.pointer (some ⟨hb, 0, none⟩), .int .i64 tag, .slice A n c] w (MakePost w s e hb N H tag zs) := by
  have hB0 : Below w.heap.size w (w.alloc (.cells #[.pointer (some ⟨hb, 0, none⟩)] 31)) := (Below.refl _ _).alloc (Nat.le_refl _) _
  have HBX := Lib.hid (Whole.made w 31 #[.pointer (some ⟨hb, 0, none⟩)])
  have HA := Lib.hid (h.later hB0)
  have HZ := Lib.hid ((hz.below hB0).more hB0.size)
  have HM0 : Hid (Mid s e w (w.alloc (.cells #[.pointer (some ⟨hb, 0, none⟩)] 31))) := Mid.of_below hB0
  have HL : Hid (zs.length = n) := hz.1
  have HW := Lib.hid hwf
  have HS := Lib.hid hsep
  have HPL : Hid (w.heap.size < (w.alloc (.cells #[.pointer (some ⟨hb, 0, none⟩)] 31)).heap.size) := by show _ < _; simp
  have HQ := Lib.hid (mkOk_eq N H tag zs)
  rw [HL.out] at HQ
  clear h hz hwf hsep hB0
  generalize hwA : w.alloc (.cells #[.pointer (some ⟨hb, 0, none⟩)] 31) = wA at *
  have HWA := Lib.hid hwA
  clear hwA
  have HX : Hid (∀ wx : World, Below wA.heap.size wA wx → HeapAt wx s e hb N H ∧ wx.cell? ⟨w.heap.size, 0, none⟩ = some (.pointer (some ⟨hb, 0, none⟩)) ∧ Ints wx wx.heap.size A n zs ∧ Mid s e w wx) := fun wx hb' => ⟨HA.out.later hb', (HBX.out.below hb' HPL.out).cell 0, (HZ.out.below hb').more hb'.size, HM0.out.trans (Mid.of_below hb')⟩
  have HODD : Hid (tag ≠ 201 → Calls Try.prog 60 #[.slice A n c, .func (.func 71) #[] #[.pointer (some ⟨w.heap.size, 0, none⟩)]] wA fun ee w' => ee = .returned (.bool (oddF H zs)) ∧ Below wA.heap.size wA w') := fun _ =>
    containsfM_any w.heap.size A n c zs HZ.out hn HW.out (fun wx z hb' hz => makeOdd_any (HX.out wx hb').1 z hz _ (HX.out wx hb').2.1)
  have HBK := HWA.out
  go_enter Try.func46, Try.ntmps46
  go_upto_region 1 with (fail)
  clear HBK
  go_cut [8] (fun o wx => o = .bool (decide (tag ≠ 201) && oddF H zs) ∧ Below wA.heap.size wA wx)
  case first =>
    have hp := (HX.out wA (Below.refl _ _)).2.1
    by_cases htag : tag = 201
    · subst htag
      go_wp2_with fail
      go_meet
      exact ⟨rfl, Below.refl _ _⟩
    · have HO := Lib.hid (HODD.out htag)
      have hb1 : (tag != 201) = true := by rw [bne_iff_ne]; exact htag
      have HE : Hid (decide (tag ≠ 201) = true) := decide_eq_true htag
      clear htag HODD HX
      go_wp2_with (go_at_call 60; refine HO.out.mono ?_; rintro e w' ⟨rfl, hb'⟩)
      go_meet
      exact ⟨by rw [HE.out]; rfl, hb'⟩
  case rest =>
    obtain ⟨rfl, hb2⟩ := hcut
    have HR := Lib.hid (HX.out wc hb2)
    clear hb2 HX HODD HA HZ HM0 HPL HBX HWA
    generalize (decide (tag ≠ 201) && oddF H zs) = od at *
    have HBAD : Hid (mkOk N H tag zs = false → mkH N H tag zs = H ∧ mkR N H tag zs = 0 ∧ mkE N H tag zs = 1) := mk_bad
    by_cases b1 : tag < 0
    · have HBD := Lib.hid (HBAD.out (by rw [HQ.out, decide_eq_true b1]; rfl))
      have b1' : decide (tag < 0) = true := decide_eq_true b1
      go_wp2_with fail
      go_ret2
      exact ⟨by rw [HBD.out.2.1, HBD.out.2.2]; rfl, by rw [HBD.out.1]; exact HR.out.1, HR.out.2.2.2⟩
    by_cases b2 : 201 < tag
    · have HBD := Lib.hid (HBAD.out (by rw [HQ.out, decide_eq_true b2]; simp))
      have b1' : decide (tag < 0) = false := decide_eq_false b1
      have b2' : decide (201 < tag) = true := decide_eq_true b2
      go_wp2_with fail
      go_ret2
      exact ⟨by rw [HBD.out.2.1, HBD.out.2.2]; rfl, by rw [HBD.out.1]; exact HR.out.1, HR.out.2.2.2⟩
    by_cases b3 : 60 < n
    · have HBD := Lib.hid (HBAD.out (by rw [HQ.out, decide_eq_true (show 60 < (n : Int) by omega)]; simp))
      have b1' : decide (tag < 0) = false := decide_eq_false b1
      have b2' : decide (201 < tag) = false := decide_eq_false b2
      go_wp2_with fail
      go_ret2
      exact ⟨by rw [HBD.out.2.1, HBD.out.2.2]; rfl, by rw [HBD.out.1]; exact HR.out.1, HR.out.2.2.2⟩
    cases od
    · have HOK : Hid (mkOk N H tag zs = true) := by
        show _ = _
        rw [HQ.out, decide_eq_false b1, decide_eq_false b2, decide_eq_false (show ¬ 60 < (n : Int) by omega)]; rfl
      have b1' : decide (tag < 0) = false := decide_eq_false b1
      have b2' : decide (201 < tag) = false := decide_eq_false b2
      have hbx := HR.out.2.1
      have HHE := Lib.hid HR.out.1
      have htop := HR.out.1.topLe
      have hN := HR.out.1.n.2
      have htp : topN H = 1 + sumSz H := rfl
      clear HBAD HQ
      go_upto_region 4 with (fail)
      go_cut [31] (fun o wx => o = .bool (decide (N < sumSz H + 1 + n)) ∧ HeapAt wx s e hb N H ∧ wx.cell? ⟨w.heap.size, 0, none⟩ = some (.pointer (some ⟨hb, 0, none⟩)) ∧ Ints wx wx.heap.size A n zs ∧ Mid s e w wx)
      case first =>
        have CU := fun (wx : World) => used_any (w := wx) (s := s) (e := e) (hb := hb) (N := N) (H := H)
        have CH := fun (wx : World) => half_any (w := wx) (s := s) (e := e) (hb := hb) (N := N) (H := H)
        generalize hsz : sumSz H = q at *
        have HSZ := Lib.hid hsz
        clear hsz
        go_region_held3 (fun W => W.cell? ⟨w.heap.size, 0, none⟩ = some (.pointer (some ⟨hb, 0, none⟩)))
          (first | go_keep)
          (first
            | ((go_at_call 17; with_reducible refine (CU _ ?_).mono ?_); (exact HHE.out.drew); rintro e wm ⟨rfl, rfl⟩)
            | ((go_at_call 63; with_reducible refine (CH _ ?_).mono ?_); (exact HHE.out.drew); rintro e wm ⟨rfl, rfl⟩))
        all_goals
          go_wp2_with fail
          go_meet
          refine ⟨?_, HHE.out.drew, HR.out.2.1, HR.out.2.2.1, HR.out.2.2.2.drew⟩
          exact congrArg Value.bool (decide_eq_decide.2 (by rw [show IntKind.i64.wrap ((q : Int) + 1) = q + 1 from IntWalk.i64_in _ (by omega), show IntKind.i64.wrap ((q : Int) + 1 + n) = q + 1 + n from IntWalk.i64_in _ (by omega)]; omega))
      case rest =>
        obtain ⟨rfl, hh, hcl, hints, hmid⟩ := hcut
        have HH := Lib.hid hh
        have HI := Lib.hid hints
        have HMD := Lib.hid hmid
        have HTP : Hid (sumSz H + 1 + n ≤ N ↔ topN H + zs.length ≤ N) := by show _ ↔ _; rw [HL.out]; omega
        clear hh hints hmid HHE HR hbx
        by_cases hroom : N < sumSz H + 1 + n
        · have HBD := Lib.hid (mk_full HOK.out (fun hh => absurd (HTP.out.2 hh) (by omega)))
          rw [decide_eq_true hroom]
          clear hroom htp htop
          go_wp2_with fail
          go_ret2
          exact ⟨by rw [HBD.out.2.1, HBD.out.2.2]; rfl, by rw [HBD.out.1]; exact HH.out, HMD.out⟩
        · have hrm : topN H + n ≤ N := by omega
          have HBD := Lib.hid (mk_good HOK.out (by rw [HL.out]; exact hrm))
          rw [decide_eq_false hroom]
          obtain ⟨t, rfl⟩ := Int.eq_ofNat_of_zero_le (show 0 ≤ tag by omega)
          clear hroom htp
          go_wp2_with fail
          refine (lay_any HH.out t (by omega) A n c zs HI.out (by omega) HS.out hrm HW.out).mono ?_
          rintro ee w5 ⟨rfl, h5, m5⟩
          have H5 := Lib.hid h5
          have M5 := Lib.hid (HMD.out.trans m5)
          clear h5 m5 HH HI HMD
          have hq1 : 1 ≤ topN H := by unfold topN; omega
          generalize topN H = q at *
          go_wp2_with fail
          refine (I.point_in (q : Int) w5 (by omega) (by omega)).mono ?_
          rintro ee w6 ⟨rfl, rfl⟩
          go_wp2_with fail
          go_ret2
          exact ⟨by rw [HBD.out.2.1, HBD.out.2.2, Int.mul_comm]; rfl, by rw [HBD.out.1]; exact H5.out, M5.out⟩
    · have HBD := Lib.hid (HBAD.out (by rw [HQ.out]; simp))
      have b1' : decide (tag < 0) = false := decide_eq_false b1
      have b2' : decide (201 < tag) = false := decide_eq_false b2
      go_wp2_with fail
      go_ret2
      exact ⟨by rw [HBD.out.2.1, HBD.out.2.2]; rfl, by rw [HBD.out.1]; exact HR.out.1, HR.out.2.2.2⟩
end
end Go.Proofs.Ytcbehllfljjngaa
