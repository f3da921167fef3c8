/- The walk of layer 2's reference: a block is made. -/
import Derived.Test.YtcbehllfljjngaaRMemC
namespace Go.Proofs.Ytcbehllfljjngaa
open Go.RowKit
set_option linter.unusedVariables false
attribute [local go_sem ↓] Go.wp_at_zero Go.wp_at_succ

def RMakePost (w : World) (B rb N : Nat) (H : Hp) (tag : Int) (zs : List Int) (ee : Ending) (w' : World) : Prop :=
  ee = .returned (.tuple #[.int .i64 (mkR N H tag zs), .int .i64 (mkE N H tag zs)]) ∧ RefAt w' B rb N (mkH N H tag zs) ∧ Below B w w'
theorem Appended.undrew {w w' : World} {base size n : Nat} {e : TypeId} {v v' : Value} {xs : List Value} (h : Appended w.drew base e size v n xs v' w') : Appended w base e size v n xs v' w' :=
  ⟨h.1, ⟨h.2.1.os, h.2.1.tape, h.2.1.output, h.2.1.size, h.2.1.block⟩, h.2.2⟩
section
variable {w : World} {B rb N : Nat} {H : Hp}
def MkCells (w : World) (rb N : Nat) (tag : Int) (u1 u2 : Value) (wr : World) : Prop :=
  wr.cell? ⟨rb, 0, none⟩ = some (.int .i64 N) ∧ wr.cell? ⟨w.heap.size, 0, none⟩ = some (.int .i64 tag) ∧ wr.cell? ⟨w.heap.size, 1, none⟩ = some u1 ∧ wr.cell? ⟨w.heap.size, 2, none⟩ = some u2
theorem MkDone.cells {tag : Int} {zs : List Int} {u1 u2 : Value} {wr : World} (h : MkDone w B rb N H tag zs u1 u2 wr) : MkCells w rb N tag u1 u2 wr := by
  obtain ⟨A, c, x0, _⟩ := h.ref.form
  exact ⟨x0, h.box.cell 0, h.box.cell 1, h.box.cell 2⟩
theorem used_mk {tag : Int} {zs : List Int} {u1 u2 : Value} {wr : World} (h : MkDone w B rb N H tag zs u1 u2 wr) :
    Calls Try.prog 18 #[.pointer (some ⟨rb, 0, none⟩)] wr fun e w' => e = .returned (.int .i64 (sumSz H : Nat)) ∧ MkDone w B rb N H tag zs u1 u2 w' ∧ MkCells w rb N tag u1 u2 w' :=
  (rused_any h.ref).mono fun _ _ ⟨he, hb⟩ => ⟨he, h.later hb, (h.later hb).cells⟩
theorem size_mk {tag : Int} {zs : List Int} {A1 A2 : Option Addr} {n1 c1 n2 c2 : Nat} {wr : World} (h1 : n1 ≤ 100000) (h2 : n2 ≤ 100000) (h : MkDone w B rb N H tag zs (.slice A1 n1 c1) (.slice A2 n2 c2) wr) :
    Calls Try.prog 48 #[.agg #[.int .i64 tag, .slice A1 n1 c1, .slice A2 n2 c2]] wr fun e w' => e = .returned (.int .i64 (1 + n1 + n2 : Nat)) ∧ MkDone w B rb N H tag zs (.slice A1 n1 c1) (.slice A2 n2 c2) w' ∧ MkCells w rb N tag (.slice A1 n1 c1) (.slice A2 n2 c2) w' :=
  (size_any wr tag A1 A2 n1 c1 n2 c2 h1 h2).mono fun _ _ ⟨he, hb⟩ => ⟨he, h.later hb, (h.later hb).cells⟩
theorem rmake_bad {wr : World} {tag : Int} {zs : List Int} (h : RefAt w B rb N H) (hb : Below w.heap.size w wr) (hk : mkOk N H tag zs = false) : RMakePost w B rb N H tag zs (.returned (.tuple #[.int .i64 0, .int .i64 1])) wr := by
  obtain ⟨h1, h2, h3⟩ := mk_bad hk
  unfold RMakePost
  rw [h1, h2, h3]
  exact ⟨rfl, h.later hb, hb.mono (by have := h.lt; have := h.hB; omega)⟩
set_option maxRecDepth 100000 in
set_option maxHeartbeats 4000000 in
theorem rmake_any (h : RefAt w B rb N H) (tag : Int) (A : Option Addr) (n c : Nat) (zs : List Int) (hz : Ints w w.heap.size A n zs) (hn : n ≤ 1000) (hwf : ∀ z ∈ zs, WfI z) :
    Calls Try.prog 47 #[.pointer (some ⟨rb, 0, none⟩), .int .i64 tag, .slice A n c] w (RMakePost w B rb N H tag zs) := by
  have HL : Hid (zs.length = n) := hz.1
  have HH := Lib.hid h
  have HZ := Lib.hid hz
  have HW := Lib.hid hwf
  have HQ := Lib.hid (mkOk_eq N H tag zs)
  rw [HL.out] at HQ
  have HBAD : Hid (∀ wr : World, Below w.heap.size w wr → mkOk N H tag zs = false → RMakePost w B rb N H tag zs (.returned (.tuple #[.int .i64 0, .int .i64 1])) wr) := fun wr h1 h2 => rmake_bad h h1 h2
  clear h hz hwf
  by_cases b1 : tag < 0
  · have HX := Lib.hid (HBAD.out w (Below.refl _ _) (by rw [HQ.out, decide_eq_true b1]; rfl))
    clear HBAD HQ
    go_enter Try.func47, Try.ntmps47
    go_wp2_with fail
    go_ret2
    exact HX.out
  by_cases b2 : 201 < tag
  · have HX := Lib.hid (HBAD.out w (Below.refl _ _) (by rw [HQ.out, decide_eq_true b2]; simp))
    clear HBAD HQ
    go_enter Try.func47, Try.ntmps47
    go_wp2_with fail
    go_ret2
    exact HX.out
  by_cases b3 : 60 < n
  · have HX := Lib.hid (HBAD.out w (Below.refl _ _) (by rw [HQ.out, decide_eq_true (show 60 < (n : Int) by omega)]; simp))
    clear HBAD HQ
    go_enter Try.func47, Try.ntmps47
    go_wp2_with fail
    go_ret2
    exact HX.out
  have HQ2 : Hid (mkOk N H tag zs = !(decide (tag ≠ 201) && oddF H zs)) := by
    show _ = _
    rw [HQ.out, decide_eq_false b1, decide_eq_false b2, decide_eq_false (show ¬ 60 < (n : Int) by omega)]; rfl
  clear HQ
  have hn60 : n ≤ 60 := by omega
  have HBX := Lib.hid (BoxAt.made w 80 #[.int .i64 tag, .slice none 0 0, .slice none 0 0])
  go_enter Try.func47, Try.ntmps47
  go_upto_block 0 with (fail)
  generalize w.alloc (.cells #[.int .i64 tag, .slice none 0 0, .slice none 0 0] 80) = w1 at *
  go_cut [9] (fun _ wx => mkOk N H tag zs = true ∧ ∃ u1 u2, MkDone w B rb N H tag zs u1 u2 wx)
  case first =>
    by_cases htag : tag = 201
    · subst htag
      have HOK : Hid (mkOk N H 201 zs = true) := by show _ = _; rw [HQ2.out]; rfl
      clear HQ2 HBAD
      go_wp2_with fail
      go_loopw [9] (fun i wr => ∃ (k : Nat) (v2 : Value), k ≤ n ∧ i = .int .i64 k ∧ BoxAt w w.heap.size 80 #[.int .i64 201, .slice none 0 0, v2] wr ∧ wr.ownsRow (w.heap.size + 1) 3 1 v2 k ((zs.take k).map (Value.int .i64))) (fun i _ => n - (intOf i).toNat)
      case atStart => exact ⟨0, _, Nat.zero_le _, rfl, HBX.out, World.ownsRow_nil _ _ _ _⟩
      case round =>
        obtain ⟨k, v2, hk, rfl, hbx, hown⟩ := hrel
        have HB := Lib.hid hbx
        have HO := Lib.hid hown
        obtain ⟨Av, cv0, rfl, _⟩ := own_form hown
        have y2 : wr.cell? ⟨w.heap.size, 2, none⟩ = some (.slice Av k cv0) := hbx.cell 2
        have f2 := hbx.free 2
        clear hbx hown HBX
        by_cases hlt : k < n
        · obtain ⟨b, off, rfl, _, x0⟩ := (HZ.out.below HB.out.1).at_ hlt
          have HTK := Lib.hid (take_snoc' (zs := zs) (k := k) (by have := HL.out; omega))
          have hk0 : (0 : Int) ≤ k := by omega
          have hkn : (k : Int) < n := by omega
          have HSZ : Hid (w.heap.size + 1 ≤ wr.heap.size) := HB.out.2.2
          generalize zs.getD k 0 = z at *
          have y2b : (wr.alloc (.cells #[.int .i64 z] 3)).cell? ⟨w.heap.size, 2, none⟩ = some (.slice Av k cv0) := (HB.out.alloc _).cell 2
          go_wp2_with fail
          go_region_law (first
            | (refine step_app ty_ints (v := .slice Av k cv0) (by rfl) _ _ (by rfl) (by rfl) (own_drew (HO.out.alloc _)) wr.heap.size 1 [.int .i64 z] (by rfl) (Whole.made wr 3 #[.int .i64 z]) (by rfl) (by simp [Value.oneCell']) (by decide) (by omega) (by decide) (by have := HSZ.out; simp; omega) ?_; intro gv cv w7 hap; have HA := Lib.hid hap.own; have HB7 := Lib.hid ((HB.out.alloc _).app hap.undrew (HO.out.alloc _) (by decide)); have z1 := HB7.out.cell 2; have z2 := HB7.out.free 2; clear hap))
          all_goals
            have HB8 := Lib.hid (HB7.out.put 2 (.slice (some ⟨gv, 0, none⟩) (k + 1) cv))
            have HA8 := Lib.hid (HB7.out.own_put (o := 2) (u := .slice (some ⟨gv, 0, none⟩) (k + 1) cv) HA.out)
            clear z1 z2 HB7 HA y2 y2b f2 x0
            generalize w7.setCell ⟨w.heap.size, 2, none⟩ (.slice (some ⟨gv, 0, none⟩) (k + 1) cv) = w8 at *
            go_wp2_with fail
            go_roundw
            case rel => exact ⟨k + 1, _, by omega, by go_num, HB8.out, by rw [HTK.out, List.map_append]; exact HA8.out⟩
            case measure => simp [intOf]; omega
        · obtain rfl : k = n := by omega
          have HE : Hid (zs.take k = zs) := List.take_of_length_le (by have := HL.out; omega)
          go_wp2_with fail
          go_meet
          refine ⟨HOK.out, _, _, HH.out.later HB.out.1, HB.out, [], zs, World.ownsRow_nil _ _ _ _, ?_, .inl ⟨rfl, rfl, rfl⟩⟩
          have := HO.out
          rw [HE.out, ← HL.out] at this
          rw [← HL.out]
          exact this
    · have htb : (tag == 201) = false := beq_eq_false_iff_ne.2 htag
      have HTG := Lib.hid htag
      have HQ3 : Hid (mkOk N H tag zs = !oddF H zs) := by show _ = _; rw [HQ2.out, decide_eq_true htag]; rfl
      clear HQ2 htag
      go_wp2_with fail
      go_loopw [9] (fun i wr => ∃ (k : Nat) (v1 : Value) (ws : List Wd), k ≤ n ∧ i = .int .i64 k ∧ ws.length = k ∧ (∀ j, j < k → SayOk H (ws.getD j wd0) (zs.getD j 0) ∧ (!mayF H (zs.getD j 0)) = false) ∧ BoxAt w w.heap.size 80 #[.int .i64 tag, v1, .slice none 0 0] wr ∧ wr.ownsRow (w.heap.size + 1) 84 2 v1 k (wCells ws)) (fun i _ => n - (intOf i).toNat)
      case atStart => exact ⟨0, _, [], Nat.zero_le _, rfl, rfl, fun j hj => absurd hj (by omega), HBX.out, World.ownsRow_nil _ _ _ _⟩
      case round =>
        obtain ⟨k, v1, ws, hk, rfl, hwl, hws, hbx, hown⟩ := hrel
        have HB := Lib.hid hbx
        have HO := Lib.hid hown
        have HWS := Lib.hid hws
        have HWL := Lib.hid hwl
        have HR := Lib.hid (HH.out.later hbx.1)
        obtain ⟨Av, cv0, rfl, _⟩ := own_form hown
        clear hbx hown hws hwl HBX
        by_cases hlt : k < n
        · obtain ⟨b, off, rfl, _, x0⟩ := (HZ.out.below HB.out.1).at_ hlt
          have hmem : zs.getD k 0 ∈ zs := by rw [List.getD_eq_getElem?_getD, List.getElem?_eq_getElem (by have := HL.out; omega)]; exact List.getElem_mem _
          have HWZ := Lib.hid (HW.out _ hmem)
          have HMY := Lib.hid (wdF_may H (zs.getD k 0))
          have HODD : Hid ((!mayF H (zs.getD k 0)) = true → oddF H zs = true) := fun h => oddF_true (by have := HL.out; omega) h
          have HNX : Hid (∀ x : Wd, SayOk H x (zs.getD k 0) → mayF H (zs.getD k 0) = true → ∀ j, j < k + 1 → SayOk H ((ws ++ [x]).getD j wd0) (zs.getD j 0) ∧ (!mayF H (zs.getD j 0)) = false) := fun x h1 h2 j hj => by
            rcases Nat.lt_or_ge j k with h | h
            · have := HWS.out j h
              rw [List.getD_eq_getElem?_getD (l := ws ++ [x]), List.getElem?_append_left (by rw [HWL.out]; exact h), ← List.getD_eq_getElem?_getD]
              exact this
            · obtain rfl : j = k := by omega
              rw [List.getD_eq_getElem?_getD (l := ws ++ [x]), List.getElem?_append_right (by rw [HWL.out]; exact Nat.le_refl _), HWL.out, Nat.sub_self]
              exact ⟨h1, by rw [h2]; rfl⟩
          have hk0 : (0 : Int) ≤ k := by omega
          have hkn : (k : Int) < n := by omega
          generalize zs.getD k 0 = z at *
          go_wp2_with fail
          refine (find_any HR.out z HWZ.out).mono ?_
          rintro ee w2 ⟨rfl, b2⟩
          have HB2 := Lib.hid (HB.out.below b2 (by have := HB.out.2.2; omega))
          have HO2 := Lib.hid (own_below HO.out b2 (Nat.le_refl _))
          generalize hwd : wdF H z = r at *
          obtain ⟨rb1, rn, rok⟩ := r
          have HWD := Lib.hid hwd
          clear b2 hwd HB HO HR x0
          dsimp only at *
          cases rok with
          | false =>
            have HX := Lib.hid (HBAD.out (w2.alloc (.cells #[.bool rb1, .int .i64 rn] 84)) (HB2.out.alloc _).1 (by rw [HQ3.out, HODD.out (by rw [← HMY.out]; rfl)]; rfl))
            go_wp2_with fail
            go_ret2
            exact HX.out
          | true =>
            have HSO := Lib.hid (SayOk.of_wd (H := H) (z := z) (x := (rb1, rn)) HWD.out)
            have HWB := Lib.hid (Whole.made w2 84 #[.bool rb1, .int .i64 rn])
            have HB3 := Lib.hid (HB2.out.alloc (.cells #[.bool rb1, .int .i64 rn] 84))
            have HO3 := Lib.hid (HO2.out.alloc (.cells #[.bool rb1, .int .i64 rn] 84))
            have hne : w.heap.size ≠ w2.heap.size := by have := HB2.out.2.2; omega
            clear HB2 HO2
            go_upto_region 12 with (fail)
            have y1 : (w2.alloc (.cells #[.bool rb1, .int .i64 rn] 84)).cell? ⟨w.heap.size, 1, none⟩ = some (.slice Av k cv0) := HB3.out.cell 1
            have c0 : (w2.alloc (.cells #[.bool rb1, .int .i64 rn] 84)).cell? ⟨w2.heap.size, 0, none⟩ = some (.bool rb1) := HWB.out.cell 0
            have c1 : (w2.alloc (.cells #[.bool rb1, .int .i64 rn] 84)).cell? ⟨w2.heap.size, 1, none⟩ = some (.int .i64 rn) := HWB.out.cell 1
            generalize w2.alloc (.cells #[.bool rb1, .int .i64 rn] 84) = w3 at *
            have HSZ : Hid (w.heap.size + 1 ≤ w3.heap.size) := HB3.out.2.2
            go_wp2_with (at_builtin; refine list_app ty_wrd (v := .slice Av k cv0) rfl _ _ rfl rfl (HO3.out.alloc _) w3.heap.size 1 [.bool rb1, .int .i64 rn] rfl (Whole.made w3 84 _) rfl (by simp [Value.oneCell']) (by decide) (by omega) (by decide) (by have := HSZ.out; simp; omega) ?_; intro gv cv w7 hap; have HA := Lib.hid hap.own; have HB7 := Lib.hid ((HB3.out.alloc _).app hap (HO3.out.alloc _) (by decide)); have z1 := HB7.out.cell 1; have z2 := HB7.out.free 1; clear hap)
            have HB8 := Lib.hid (HB7.out.put 1 (.slice (some ⟨gv, 0, none⟩) (k + 1) cv))
            have HA8 := Lib.hid (HB7.out.own_put (o := 1) (u := .slice (some ⟨gv, 0, none⟩) (k + 1) cv) HA.out)
            clear z1 z2 HB7 HA y1 c0 c1
            go_roundw
            case rel => exact ⟨k + 1, _, ws ++ [(rb1, rn)], by omega, by go_num, by rw [List.length_append, HWL.out]; rfl, HNX.out _ HSO.out HMY.out.symm, HB8.out, by rw [wCells_snoc]; exact HA8.out⟩
            case measure => simp [intOf]; omega
        · obtain rfl : k = n := by omega
          have HNO : Hid (oddF H zs = false) := oddF_false (fun j hj => (HWS.out j (by have := HL.out; omega)).2)
          go_wp2_with fail
          go_meet
          refine ⟨by rw [HQ3.out, HNO.out]; rfl, _, _, HR.out, HB.out, ws, [], ?_, World.ownsRow_nil _ _ _ _, .inr ⟨by have := HTG.out; show tag.toNat ≠ 201; omega, rfl, by rw [HWL.out, HL.out], fun j hj => (HWS.out j (by rw [← HWL.out]; exact hj)).1⟩⟩
          rw [HWL.out]
          exact HO.out
  case rest =>
    obtain ⟨hok, u1, u2, hm⟩ := hcut
    have HOK := Lib.hid hok
    have hsum : topN H = 1 + sumSz H := rfl
    have htop := hm.ref.top
    have hN := hm.ref.n
    obtain ⟨A1, n1, c1, A2, n2, c2, rfl, rfl, hnn⟩ : ∃ A1 n1 c1 A2 n2 c2, u1 = .slice A1 n1 c1 ∧ u2 = .slice A2 n2 c2 ∧ n1 + n2 = n := by
      obtain ⟨ws, raw, h1, h2, h3⟩ := hm.var
      obtain ⟨A1, c1, e1, _⟩ := own_form h1
      obtain ⟨A2, c2, e2, _⟩ := own_form h2
      refine ⟨A1, _, c1, A2, _, c2, e1, e2, ?_⟩
      have := HL.out
      rcases h3 with ⟨_, rfl, rfl⟩ | ⟨_, rfl, h3, _⟩
      · simp only [List.length_nil]; omega
      · simp only [List.length_nil]; show ws.length + 0 = n; rw [h3]; exact this
    have HD := Lib.hid hm
    obtain ⟨x0, y0, y1, y2⟩ := hm.cells
    clear hok hm HBX HBAD HQ2 HZ
    go_upto_region 13 with (fail)
    go_cut [68] (fun o wx => o = .bool (decide (N < sumSz H + (1 + n))) ∧ MkDone w B rb N H tag zs (.slice A1 n1 c1) (.slice A2 n2 c2) wx)
    case first =>
      have CU := fun (wx : World) => used_mk (w := w) (B := B) (rb := rb) (N := N) (H := H) (tag := tag) (zs := zs) (u1 := .slice A1 n1 c1) (u2 := .slice A2 n2 c2) (wr := wx)
      have CS := fun (wx : World) => size_mk (w := w) (B := B) (rb := rb) (N := N) (H := H) (tag := tag) (zs := zs) (A1 := A1) (A2 := A2) (n1 := n1) (n2 := n2) (c1 := c1) (c2 := c2) (wr := wx) (by omega) (by omega)
      unfold MkCells at CU CS
      generalize sumSz H = q at *
      go_region_held3 (fun W => W.cell? ⟨rb, 0, none⟩ = some (.int .i64 N) ∧ W.cell? ⟨w.heap.size, 0, none⟩ = some (.int .i64 tag) ∧ W.cell? ⟨w.heap.size, 1, none⟩ = some (.slice A1 n1 c1) ∧ W.cell? ⟨w.heap.size, 2, none⟩ = some (.slice A2 n2 c2))
        (first | go_keep)
        (first
          | ((go_at_call 18; with_reducible refine (CU _ ?_).mono ?_); (exact HD.out.drew); rintro e wm ⟨rfl, s1, m1, m2, m3, m4⟩)
          | ((go_at_call 48; with_reducible refine (CS _ ?_).mono ?_); (exact s1); rintro e wm2 ⟨rfl, s2, m1, m2, m3, m4⟩))
      all_goals
        go_wp2_with fail
        go_meet
        exact ⟨congrArg Value.bool (decide_eq_decide.2 (by rw [show IntKind.i64.wrap ((q : Int) + (1 + n1 + n2)) = q + (1 + n1 + n2) from IntWalk.i64_in _ (by omega)]; omega)), s2⟩
    case rest =>
      obtain ⟨rfl, hm⟩ := hcut
      have HM := Lib.hid hm
      have HTP : Hid (sumSz H + (1 + n) ≤ N ↔ topN H + zs.length ≤ N) := by show _ ↔ _; rw [HL.out]; omega
      have HBB : Hid (Below B w wc) := hm.box.1.mono (by have := HH.out.lt; have := HH.out.hB; omega)
      clear hm HD x0 y0 y1 y2
      by_cases hroom : N < sumSz H + (1 + n)
      · have HBD := Lib.hid (mk_full HOK.out (fun hh => absurd (HTP.out.2 hh) (by omega)))
        rw [decide_eq_true hroom]
        clear hroom hsum htop
        go_wp2_with fail
        go_ret2
        exact ⟨by rw [HBD.out.2.1, HBD.out.2.2]; rfl, by rw [HBD.out.1]; exact HM.out.ref, HBB.out⟩
      · have HBD := Lib.hid (mk_good HOK.out (HTP.out.1 (by omega)))
        rw [decide_eq_false hroom]
        obtain ⟨t, rfl⟩ := Int.eq_ofNat_of_zero_le (show 0 ≤ tag by omega)
        obtain ⟨x0, y0, y1, y2⟩ := HM.out.cells
        obtain ⟨v, us, hw, ho, hl, hv⟩ := HM.out.ref.ex
        obtain ⟨A, cv0, rfl, _⟩ := own_form ho
        have x1 := hw.cell 1
        have xf := hw.free 1
        have hlen := HM.out.ref.len
        have HADD : Hid (∀ (v' : Value) (w7 : World), Appended (wc.alloc (.cells #[.int .i64 t, .slice A1 n1 c1, .slice A2 n2 c2] 80)) B 80 3 (.slice A H.length cv0) (H.length + 1) (rCells H us ++ [.int .i64 t, .slice A1 n1 c1, .slice A2 n2 c2]) v' w7 →
            RefAt (w7.setCell ⟨rb, 1, none⟩ v') B rb N (H ++ [⟨t, zs⟩]) ∧ Below B wc (w7.setCell ⟨rb, 1, none⟩ v') ∧ Whole w7 rb 42 #[.int .i64 N, .slice A H.length cv0]) := fun v' w7 ha =>
          ref_add (b := ⟨t, zs⟩) (u := (.slice A1 n1 c1, .slice A2 n2 c2)) HM.out.ref hw ho hl hv (HM.out.var.base (by have := HH.out.lt; have := HH.out.hB; omega)) ⟨by show t ≤ 201; omega, by show zs.length ≤ 60; have := HL.out; omega, HW.out⟩ (by show topN H + zs.length ≤ N; have := HL.out; omega) ha
        have HO := Lib.hid ho
        have HBs : Hid (B ≤ wc.heap.size) := by show _ ≤ _; have := hw.lt; have := HM.out.ref.hB; omega
        have HWRB := Lib.hid hw
        have x1b : (wc.alloc (.cells #[.int .i64 t, .slice A1 n1 c1, .slice A2 n2 c2] 80)).cell? ⟨rb, 1, none⟩ = some (.slice A H.length cv0) := (hw.alloc _).cell 1
        have HPT : Hid (posn (H ++ [⟨t, zs⟩]) H.length = topN H) := by show _ = _; rw [posn_app _ _ _ (Nat.le_refl _), posn_all]
        clear hroom hsum htop hw ho hl hv b3
        generalize hLL : H.length = L at *
        have HLL := Lib.hid hLL
        clear hLL
        go_upto_region 15 with (fail)
        go_region_law (first
          | (refine step_app ty_blk (v := .slice A L cv0) (by rfl) _ _ (by rfl) (by rfl) (own_drew (HO.out.alloc _)) wc.heap.size 1 [.int .i64 t, .slice A1 n1 c1, .slice A2 n2 c2] (by rfl) (Whole.made wc 80 #[.int .i64 t, .slice A1 n1 c1, .slice A2 n2 c2]) (by rfl) (by simp [Value.oneCell']) (by decide) (by omega) (by decide) (by have := HBs.out; simp; omega) ?_; intro gv cv w7 hap; have HA := Lib.hid (HADD.out _ _ hap.undrew); have z1 := HA.out.2.2.cell 1; have z2 := HA.out.2.2.free 1; clear hap))
        all_goals
          have z3 := (HA.out.2.2.put 1 (.slice (some ⟨gv, 0, none⟩) (L + 1) cv)).cell 1
          have R8 := Lib.hid HA.out.1
          have B8 := Lib.hid (HBB.out.trans HA.out.2.1)
          clear z1 z2 HA HADD HO HWRB x0 x1 x1b xf y0 y1 y2 HM
          generalize w7.setCell ⟨rb, 1, none⟩ (.slice (some ⟨gv, 0, none⟩) (L + 1) cv) = w8 at *
          go_wp2_with fail
          refine (point_any R8.out L (by rw [List.length_append, HLL.out]; omega)).mono ?_
          rintro ee w9 ⟨rfl, b9⟩
          rw [HPT.out]
          have R9 := Lib.hid (R8.out.later b9)
          have B9 := Lib.hid (B8.out.trans (b9.mono (by have := R8.out.lt; have := R8.out.hB; omega)))
          clear b9 R8 B8 z3
          go_wp2_with fail
          go_ret2
          exact ⟨by rw [HBD.out.2.1, HBD.out.2.2]; rfl, by rw [HBD.out.1]; exact R9.out, B9.out⟩
end
end Go.Proofs.Ytcbehllfljjngaa
