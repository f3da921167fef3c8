import Derived.Test.YtgjchgmlogbmmaaN4
import Derived.Deep.RegionHeld3
import Derived.KernelRfl
import Derived.Deep.RegionLawGrows
import Derived.Test.YtgjchgmlogbmmaaProg
import Derived.WalkKit
import Derived.Lib.Hide
import Derived.Maps.Keyed
import Derived.DeepKeys4
/- The walks of layer 11: all names of a node, each once. -/
namespace Go.Proofs.Ytgjchgmlogbmmaa
open Go.RowKit
set_option linter.unusedVariables false
set_option linter.unusedSimpArgs false
attribute [local go_sem ↓] Go.wp_at_zero Go.wp_at_succ

theorem allL_take (xs : List Nd) : ∀ k l, k < xs.length → allL (xs.take (k + 1)) l = allF (xs.getD k nd0) (allL (xs.take k) l) := by
  induction xs with
  | nil => intro k l h; simp at h
  | cons x xs ih =>
    intro k l h
    cases k with
    | zero => simp [allL]
    | succ k =>
      rw [List.take_succ_cons, List.take_succ_cons, allL, allL, ih k _ (by simpa using h)]; rfl
def AllC (y : Nd) : Prop := ∀ (w : World) (base : Nat) (b : Nat → Prop) (f : Fr) (L : List (List UInt8)) (A : Option Addr) (c : Nat), L.length + wtN y ≤ 100000 → OwnT w base L (.slice A L.length c) → base ≤ w.heap.size → (∀ a, b a → a < base) → NodeIn w b y f →
  Calls Try.prog 28 #[ndV y f, .slice A L.length c] w (Grown w base (.slice A L.length c) (allF y L))
theorem app_own {w1 wd : World} {base c cv gv : Nat} {A : Option Addr} {L : List (List UInt8)} {tx : List UInt8} (HOW : OwnT w1 base L (.slice A L.length c))
    (hap : Appended (w1.alloc (.cells #[strV tx] 9)) base 9 1 (.slice A L.length c) (L.length + 1) (L.map strV ++ [strV tx]) (.slice (some ⟨gv, 0, none⟩) (L.length + 1) cv) wd) :
    Grew w1 base (.slice A L.length c) (L ++ [tx]) (.slice (some ⟨gv, 0, none⟩) (L ++ [tx]).length cv) wd := by
  have e : (L ++ [tx]).length = L.length + 1 := by simp
  rw [e]
  exact ((Grew.refl HOW).later ((Below.refl _ _).alloc (Nat.le_refl _) _) (Nat.le_refl _)).app (by simp) (by rw [e, List.map_append]; exact hap)
set_option maxRecDepth 100000 in
set_option maxHeartbeats 8000000 in
theorem all_any (x : Nd) : WfN x → AllC x := by
  induction x using Nd.ind with
  | h x ih =>
    intro hw w base b f L A c hwt hown hbase hb hn
    have HA : Hid (Ag w (w.alloc (.cells zN(x, f) 25)) b w.heap.size x f) := Ag.start hn
    have HL : Hid (x.ks.length ≤ 100000) := hw.len
    have HWT : Hid (L.length + wtN x ≤ 100000) := hwt
    have HWE := Lib.hid (wtN_eq x)
    have IH := Lib.hid (fun y hy => ih y hy (hw.ks y hy))
    have HE := Lib.hid (allF_eq x L)
    have HB := Lib.hid hb
    have HOW := Lib.hid (hown.below HA.out.bel (Nat.le_refl _))
    have HOW0 := Lib.hid hown
    have HBS := Lib.hid hbase
    clear hn hw ih hb hown hbase hwt
    unfold ndV
    go_enter Try.func28, Try.ntmps28
    go_upto_region 1 with (fail)
    generalize w.alloc (.cells zN(x, f) 25) = w1 at *
    obtain ⟨G, hG⟩ : ∃ G, w.heap.size = G := ⟨_, rfl⟩
    have HG := Lib.hid hG
    rw [hG] at HA
    simp only [hG]
    clear hG
    have c0 := HA.out.c0
    have c1 := HA.out.c1
    have HNE : Hid ((Value.slice A L.length c).ownBlock ≠ some G) := HOW0.out.ne (.inr (Nat.le_of_eq HG.out))
    clear HOW0
    obtain ⟨L1, hL1⟩ : ∃ L1, (if x.kd == 4 && !L.contains x.tx then L ++ [x.tx] else L) = L1 := ⟨_, rfl⟩
    have HL1 := Lib.hid hL1
    have HM : Hid (allF x L = allL x.ks L1) := by show _ = _; rw [← hL1]; exact HE.out
    clear hL1 HE
    obtain ⟨R, hR⟩ : ∃ R, allF x L = R := ⟨_, rfl⟩
    have HRR := Lib.hid hR
    rw [hR]
    clear hR
    have i9 : L.length ≤ 100000 := by have := HWT.out; omega
    have CH := Lib.hid (rhas_any L i9 x.tx w1 _ A c (own_str HOW.out.row))
    obtain ⟨tb, hTB⟩ : ∃ tb, (x.kd == 4 && !hasB L x.tx) = tb := ⟨_, rfl⟩
    have HTB := Lib.hid hTB
    clear hTB
    go_cut [15] (fun u wx => u = .bool tb ∧ Below w1.heap.size w1 wx)
    case first =>
      by_cases h4 : x.kd = 4
      · have q4 : (x.kd == 4) = true := beq_iff_eq.2 h4
        have HQ : Hid ((!hasB L x.tx) = tb) := by show _ = _; rw [← HTB.out, q4]; rfl
        clear h4 HL1 HTB
        go_wp2_with fail
        refine CH.out.mono ?_
        rintro e w2 ⟨rfl, b2⟩
        have B2 := Lib.hid b2
        clear b2 CH
        generalize hasB L x.tx = hb at *
        go_wp2_with fail
        go_meet
        exact ⟨congrArg Value.bool HQ.out, B2.out⟩
      · have q4 : (x.kd == 4) = false := beq_eq_false_iff_ne.2 h4
        have HQ : Hid (false = tb) := by show _ = _; rw [← HTB.out, q4]; rfl
        clear h4 HL1 HTB CH
        go_wp2_with fail
        go_meet
        exact ⟨congrArg Value.bool HQ.out, Below.refl _ _⟩
    case rest =>
      obtain ⟨rfl, b2⟩ := hcut
      rename_i K0 g0
      refine g0 _ _ ?_
      clear g0 K0
      have HA2 := Lib.hid (HA.out.later b2)
      have HOW2 := Lib.hid (HOW.out.below b2 (Nat.le_refl _))
      have HGB := Lib.hid ((Grew.refl HOW.out).later b2 (Nat.le_refl _))
      have HBS2 : Hid (base ≤ wc.heap.size) := Nat.le_trans HBS.out (Nat.le_trans HA.out.bel.size b2.size)
      clear b2 CH c0 c1
      go_cut [1] (fun u wx => ∃ A1 c1, u = .slice A1 L1.length c1 ∧ Grew w1 base (.slice A L.length c) L1 (.slice A1 L1.length c1) wx)
      case first =>
        have c1 := HA2.out.c1
        rcases tb with _ | _
        · have HQ : Hid (L = L1) := by show _ = _; rw [← HL1.out, show (x.kd == 4 && !L.contains x.tx) = false from HTB.out]; rfl
          clear HL1 HTB
          go_wp2_with fail
          go_meet
          exact ⟨A, c, by rw [HQ.out], by rw [← HQ.out]; exact HGB.out⟩
        · have HQ : Hid (L ++ [x.tx] = L1) := by show _ = _; rw [← HL1.out, show (x.kd == 4 && !L.contains x.tx) = true from HTB.out]; rfl
          clear HL1 HTB
          go_wp2_with (at_builtin; refine list_app ty_str (v := .slice A L.length c) rfl _ _ rfl rfl (own_more_alloc HOW2.out.row (.cells #[strV x.tx] 9)) wc.heap.size 1 [strV x.tx] rfl (Whole.made wc 9 _) rfl (by simp [strV, Value.oneCell']) (by decide) (by omega) (by decide) (by have := HBS2.out; simp; omega) ?_; intro gv cv wd hap; have HAP := Lib.hid (app_own HOW2.out hap); clear hap)
          go_meet
          have e1 : L1.length = L.length + 1 := by rw [← HQ.out]; simp
          refine ⟨some ⟨gv, 0, none⟩, cv, by rw [e1], ?_⟩
          rw [← HQ.out]
          exact HGB.out.trans HAP.out
      case rest =>
        obtain ⟨A1, k1, rfl, hg⟩ := hcut
        have HGR := Lib.hid hg
        have HK0 : Hid (L1.length ≤ L.length + kwN x.kd) := by
          show _ ≤ _
          rw [← HL1.out]
          unfold kwN
          by_cases h4 : (x.kd == 4) = true
          · rw [if_pos (show _ = true from by rw [h4]; rfl : (x.kd == 4 || x.kd == 6 || x.kd == 8 || x.kd == 9 || x.kd == 12) = true)]
            split <;> simp
          · rw [if_neg (by rw [Bool.eq_false_iff.2 h4]; simp)]; omega
        clear HL1 HTB hg
        clear HGB HA2 HOW2 HBS2
        go_wp2_with fail
        go_loopw [1, 5] (fun u i wr => ∃ (k : Nat) (A2 : Option Addr) (k2 : Nat), u = .slice A2 (allL (x.ks.take k) L1).length k2 ∧ i = .int .i64 (k : Int) ∧ k ≤ x.ks.length ∧ Grew w1 base (.slice A L.length c) (allL (x.ks.take k) L1) (.slice A2 (allL (x.ks.take k) L1).length k2) wr) (fun _ i _ => x.ks.length - (intOf i).toNat)
        case atStart => exact ⟨0, A1, k1, by simp [allL], rfl, Nat.zero_le _, by simpa [allL] using HGR.out⟩
        case round =>
          obtain ⟨k, A2, k2, rfl, rfl, hk, hg⟩ := hrel
          have HG2 := Lib.hid hg
          clear hg HGR
          have HX := Lib.hid (HG2.out.whole HA.out.X HNE.out)
          have c5 : wr.cell? ⟨G, 5, none⟩ = some (.slice f.ka x.ks.length f.kc) := HX.out.cell 5
          clear HX
          by_cases hlt : k < x.ks.length
          · have HMT := Lib.hid (allL_take x.ks k L1 hlt)
            have HWL := Lib.hid (wtL_take x.ks k hlt)
            have HNL := Lib.hid (allL_len (x.ks.take k) (fun y _ => allF_len y) L1)
            have HN2 := Lib.hid (HG2.out.node HA.out.n (fun a ha => HOW.out.ne (.inl (HB.out a ha))))
            have HB2 : Hid (base ≤ wr.heap.size) := Nat.le_trans HBS.out (Nat.le_trans HA.out.bel.size HG2.out.size)
            obtain ⟨g, fy, e, _, ⟨x0, x1, x2, x3, x4, x5⟩, ny⟩ := HN2.out.row.any hlt
            rw [e] at c5
            clear e
            have HNY := Lib.hid ny
            have CY := Lib.hid (IH.out _ (getD_mem hlt))
            have i0 : (0 : Int) ≤ (k : Int) := by omega
            have i1 : (k : Int) < (x.ks.length : Int) := by omega
            have i2 : (k : Int) < 100000 := by have := HL.out; omega
            have HBD : Hid ((allL (x.ks.take k) L1).length + wtN (x.ks.getD k nd0) ≤ 100000) := by
              have h1 := HWL.out; have h2 := HNL.out; have h3 := HK0.out; have h4 := HWT.out; have h5 := HWE.out
              show _ ≤ _
              omega
            clear ny HWL HNL
            generalize x.ks.getD k nd0 = y at *
            obtain ⟨M, hM⟩ : ∃ M, allL (x.ks.take k) L1 = M := ⟨_, rfl⟩
            have HMM := Lib.hid hM
            rw [hM] at HG2 HBD ⊢
            clear hM
            have CY2 := Lib.hid (CY.out wr base b fy M A2 k2 HBD.out HG2.out.own HB2.out HB.out HNY.out)
            unfold ndV at CY2
            obtain ⟨N, hN⟩ : ∃ N, allF y M = N := ⟨_, rfl⟩
            have HNN := Lib.hid hN
            rw [hN] at CY2
            clear hN
            go_wp2_with fail
            refine CY2.out.mono ?_
            rintro e w3 ⟨A3, k3, rfl, hg3⟩
            have HG3 := Lib.hid (HG2.out.trans hg3)
            have HMF : Hid (allL (x.ks.take (k + 1)) L1 = N) := by show _ = _; rw [HMT.out, HMM.out, HNN.out]
            clear HG2 hg3 CY2 CY HNY x0 x1 x2 x3 x4 x5 c5
            go_wp2_with fail
            go_roundw
            case rel => exact ⟨k + 1, A3, k3, by rw [HMF.out], by go_num, by omega, by rw [HMF.out]; exact HG3.out⟩
            case measure => simp [intOf]; omega
          · have i1 : ¬ (k : Int) < (x.ks.length : Int) := by omega
            have HTK : Hid (x.ks.take k = x.ks) := List.take_of_length_le (by omega)
            rw [HTK.out] at HG2 ⊢
            go_wp2_with fail
            refine bodyPost_ret (v := .slice A2 (allL x.ks L1).length k2) (by simp [results, Try.results28, go_sem]) rfl ?_
            exact ⟨A2, k2, by rw [HM.out], by rw [HM.out]; exact HG2.out.first HA.out.bel⟩
end Go.Proofs.Ytgjchgmlogbmmaa
/- The walks of layer 11: does a pattern bind a name. -/
namespace Go.Proofs.Ytgjchgmlogbmmaa
open Go.RowKit
set_option linter.unusedVariables false
set_option linter.unusedSimpArgs false
attribute [local go_sem ↓] Go.wp_at_zero Go.wp_at_succ

theorem namesL_has : ∀ {xs : List Nd} {k : Nat} {s : List UInt8}, k < xs.length → hasB (namesF (xs.getD k nd0)) s = true → hasB (namesL xs) s = true
  | [], k, s, h, _ => absurd h (by simp)
  | x :: xs, 0, s, _, h => by
    unfold hasB at h ⊢
    rw [List.contains_iff_mem] at h ⊢
    rw [namesL]; exact List.mem_append_left _ h
  | x :: xs, k + 1, s, h, h2 => by
    have := namesL_has (xs := xs) (k := k) (s := s) (by simpa using h) h2
    unfold hasB at this ⊢
    rw [List.contains_iff_mem] at this ⊢
    rw [namesL]; exact List.mem_append_right _ this
theorem namesL_hasnt : ∀ {xs : List Nd} {s : List UInt8}, (∀ j, j < xs.length → hasB (namesF (xs.getD j nd0)) s = false) → hasB (namesL xs) s = false
  | [], s, _ => rfl
  | x :: xs, s, h => by
    have h0 := h 0 (Nat.zero_lt_succ _)
    have h1 := namesL_hasnt (xs := xs) (s := s) fun j hj => h (j + 1) (Nat.succ_lt_succ hj)
    unfold hasB at h0 h1 ⊢
    rw [Bool.eq_false_iff, Ne, List.contains_iff_mem] at h0 h1 ⊢
    rw [namesL, List.mem_append]
    rintro (h | h)
    · exact h0 h
    · exact h1 h
theorem has_names (x : Nd) (s : List UInt8) : hasB (namesF x) s = ((x.kd == 4 && x.tx == s) || hasB (namesL x.ks) s) := by
  rw [namesF_eq]
  unfold hasB
  rw [Bool.eq_iff_iff, Bool.or_eq_true, List.contains_iff_mem, List.contains_iff_mem, List.mem_append, Bool.and_eq_true]
  by_cases h : x.kd = 4
  · rw [if_pos (by simpa using h), List.mem_singleton, beq_iff_eq, beq_iff_eq]
    exact ⟨fun a => a.imp (fun b => ⟨h, b.symm⟩) id, fun a => a.imp (fun b => b.2.symm) id⟩
  · rw [if_neg (by simpa using h), beq_iff_eq]
    exact ⟨fun a => a.imp (fun b => absurd b List.not_mem_nil) id, fun a => a.imp (fun b => absurd b.1 h) id⟩
def InC (y : Nd) : Prop := ∀ (w : World) (b : Nat → Prop) (f : Fr) (s : List UInt8), NodeIn w b y f → Calls Try.prog 46 #[ndV y f, .string ⟨s.toArray⟩] w fun e w' => e = .returned (.bool (hasB (namesF y) s)) ∧ Below w.heap.size w w'
set_option maxRecDepth 100000 in
set_option maxHeartbeats 4000000 in
theorem in_any (x : Nd) : WfN x → InC x := by
  induction x using Nd.ind with
  | h x ih =>
    intro hw w b f s hn
    have HA : Hid (Ag w (w.alloc (.cells zN(x, f) 25)) b w.heap.size x f) := Ag.start hn
    have HL : Hid (x.ks.length ≤ 100000) := hw.len
    have IH := Lib.hid (fun y hy => ih y hy (hw.ks y hy))
    have HE := Lib.hid (has_names x s)
    clear hn hw ih
    unfold ndV
    obtain ⟨R, hR⟩ : ∃ R, hasB (namesF x) s = R := ⟨_, rfl⟩
    have HRR := Lib.hid hR
    rw [hR] at HE ⊢
    clear hR
    go_enter Try.func46, Try.ntmps46
    go_upto_region 1 with (fail)
    generalize w.alloc (.cells zN(x, f) 25) = w1 at *
    generalize w.heap.size = G at HA ⊢
    have c0 := HA.out.c0
    have c1 := HA.out.c1
    go_cut [15] (fun u wx => u = .bool (x.kd == 4 && x.tx == s) ∧ wx = w1)
    case first =>
      by_cases h4 : x.kd = 4
      · have q4 : (x.kd == 4) = true := beq_iff_eq.2 h4
        have HQ : Hid ((x.tx == s) = (x.kd == 4 && x.tx == s)) := by show _ = _; rw [q4]; rfl
        clear h4 HE
        go_wp2_with fail
        go_meet
        exact ⟨congrArg Value.bool HQ.out, rfl⟩
      · have q4 : (x.kd == 4) = false := beq_eq_false_iff_ne.2 h4
        have HQ : Hid (false = (x.kd == 4 && x.tx == s)) := by show _ = _; rw [q4]; rfl
        clear h4 HE
        go_wp2_with fail
        go_meet
        exact ⟨congrArg Value.bool HQ.out, rfl⟩
    case rest =>
      obtain ⟨rfl, rfl⟩ := hcut
      rename_i K0 g0
      refine g0 _ _ ?_
      clear g0 K0 c0 c1
      obtain ⟨tb, hTB⟩ : ∃ tb, (x.kd == 4 && x.tx == s) = tb := ⟨_, rfl⟩
      rw [hTB] at HE ⊢
      clear hTB
      rcases tb with _ | _
      · have HE2 : Hid (R = hasB (namesL x.ks) s) := by show _ = _; rw [HE.out]; rfl
        clear HE
        go_wp2_with fail
        go_loopw [5] (fun i wr => ∃ k : Nat, i = .int .i64 (k : Int) ∧ k ≤ x.ks.length ∧ (∀ j, j < k → hasB (namesF (x.ks.getD j nd0)) s = false) ∧ Ag w wr b G x f) (fun i _ => x.ks.length - (intOf i).toNat)
        case atStart => exact ⟨0, rfl, Nat.zero_le _, fun j hj => absurd hj (by omega), HA.out⟩
        case round =>
          obtain ⟨k, rfl, hk, hall, ha⟩ := hrel
          have HR := Lib.hid ha
          have HALL := Lib.hid hall
          have c5 := ha.c5
          clear ha hall HA
          by_cases hlt : k < x.ks.length
          · obtain ⟨g, fy, e, _, ⟨x0, x1, x2, x3, x4, x5⟩, ny⟩ := HR.out.n.row.any hlt
            rw [e] at c5
            clear e
            have CY := Lib.hid (IH.out _ (getD_mem hlt) wr b fy s ny)
            have HN : Hid (hasB (namesF (x.ks.getD k nd0)) s = true → hasB (namesL x.ks) s = true) := fun h => namesL_has hlt h
            have i0 : (0 : Int) ≤ (k : Int) := by omega
            have i1 : (k : Int) < (x.ks.length : Int) := by omega
            have i2 : (k : Int) < 100000 := by have := HL.out; omega
            have HD : Hid (hasB (namesF (x.ks.getD k nd0)) s = false → ∀ j, j < k + 1 → hasB (namesF (x.ks.getD j nd0)) s = false) := fun h j hj => by
              rcases (by omega : j < k ∨ j = k) with h' | rfl
              · exact HALL.out j h'
              · exact h
            clear HALL ny
            generalize x.ks.getD k nd0 = y at *
            unfold ndV at CY
            go_wp2_with fail
            refine CY.out.mono ?_
            rintro e w3 ⟨rfl, b3⟩
            have HR3 := Lib.hid (HR.out.later b3)
            clear HR b3 CY x0 x1 x2 x3 x4 x5 c5
            obtain ⟨sb, hsb⟩ : ∃ sb, hasB (namesF y) s = sb := ⟨_, rfl⟩
            have HSB := Lib.hid hsb
            rw [hsb]
            clear hsb
            rcases sb with _ | _
            · go_wp2_with fail
              go_roundw
              case rel => exact ⟨k + 1, by go_num, by omega, HD.out HSB.out, HR3.out⟩
              case measure => simp [intOf]; omega
            · have HS : Hid (R = true) := HE2.out.trans (HN.out HSB.out)
              go_wp2_with fail
              go_ret
              exact ⟨ret_bq HS.out.symm, HR3.out.bel⟩
          · have i1 : ¬ (k : Int) < (x.ks.length : Int) := by omega
            have HS : Hid (R = false) := HE2.out.trans (namesL_hasnt fun j hj => HALL.out j (by omega))
            go_wp2_with fail
            go_ret
            exact ⟨ret_bq HS.out.symm, HR.out.bel⟩
      · have HS : Hid (R = true) := by show _ = _; rw [HE.out]; rfl
        go_wp2_with fail
        go_ret
        exact ⟨ret_bq HS.out.symm, HA.out.bel⟩
end Go.Proofs.Ytgjchgmlogbmmaa
/- The walks of layer 11: the names that a node binds in a kid. -/
namespace Go.Proofs.Ytgjchgmlogbmmaa
open Go.RowKit
set_option linter.unusedVariables false
set_option linter.unusedSimpArgs false
attribute [local go_sem ↓] Go.wp_at_zero Go.wp_at_succ

theorem OwnT.up {w : World} {b b' : Nat} {L : List (List UInt8)} {v : Value} (h : OwnT w b L v) (hb : b' ≤ b) : OwnT w b' L v := by
  refine ⟨⟨h.row.1, ?_⟩, h.nil⟩
  rcases h.row.2 with e | ⟨g, c, cur, e1, e2, e3⟩
  · exact .inl e
  · exact .inr ⟨g, c, cur, e1, Nat.le_trans hb e2, e3⟩
theorem lit_own (w : World) (tx : List UInt8) : OwnT (w.alloc (.cells #[strV tx] 9)) w.heap.size [tx] (.slice (some ⟨w.heap.size, 0, none⟩) 1 1) :=
  ⟨World.ownsRow_lit w #[strV tx] 1 (Nat.le_refl _) (by decide) rfl, fun h => by cases h⟩
set_option maxRecDepth 100000 in
set_option maxHeartbeats 8000000 in
theorem binds_any (x : Nd) (hw : WfN x) (hwt : wtN x ≤ 100000) (w : World) (b : Nat → Prop) (f : Fr) (i : Nat) (hi : i < x.ks.length) (hb : ∀ a, b a → a < w.heap.size) (hn : NodeIn w b x f) :
    Calls Try.prog 22 #[ndV x f, .int .i64 (i : Int)] w fun e w' => ∃ A c, e = .returned (.tuple #[.slice A (bindsF x.kd x.tx (x.ks.getD (i - 1) nd0) i).length c, .bool (bindsB x.kd i)]) ∧ OwnT w' w.heap.size (bindsF x.kd x.tx (x.ks.getD (i - 1) nd0) i) (.slice A (bindsF x.kd x.tx (x.ks.getD (i - 1) nd0) i).length c) ∧ Below w.heap.size w w' := by
  have HA : Hid (Ag w (w.alloc (.cells zN(x, f) 25)) b w.heap.size x f) := Ag.start hn
  have HL : Hid (x.ks.length ≤ 100000) := hw.len
  have HWK := Lib.hid (fun y (hy : y ∈ x.ks) => names_any y (hw.ks y hy))
  have HWT : Hid (wtN x ≤ 100000) := hwt
  have HI : Hid (i < x.ks.length) := hi
  have HBB := Lib.hid hb
  obtain ⟨p, hp⟩ : ∃ p, x.ks.getD (i - 1) nd0 = p := ⟨_, rfl⟩
  have HP := Lib.hid hp
  rw [hp]
  have i0 : (0 : Int) ≤ (i : Int) := by omega
  have i2 : (i : Int) < 100000 := by have := hw.len; omega
  clear hn hw hwt hi hb hp
  unfold ndV
  go_enter Try.func22, Try.ntmps22
  go_upto_region 1 with (fail)
  generalize w.alloc (.cells zN(x, f) 25) = w1 at *
  obtain ⟨G, hG⟩ : ∃ G, w.heap.size = G := ⟨_, rfl⟩
  have HG := Lib.hid hG
  rw [hG] at HA
  simp only [hG]
  clear hG
  have c0 := HA.out.c0
  have c1 := HA.out.c1
  by_cases h6 : x.kd = 6
  · have HQ : Hid (bindsF x.kd x.tx p i = [x.tx]) := by show _ = _; rw [h6]; rfl
    have HB2 : Hid (bindsB x.kd i = true) := by show _ = _; rw [h6]; rfl
    have HK : Hid (x.kd = 6) := h6
    rw [h6] at c0
    clear h6
    have HO := Lib.hid (lit_own w1 x.tx)
    have HBL := Lib.hid (HA.out.bel.trans (((Below.refl w1.heap.size w1).alloc (Nat.le_refl _) (.cells #[strV x.tx] 9)).mono HA.out.bel.size))
    go_wp2_with fail
    refine bodyPost_ret (v := .tuple #[.slice (some ⟨w1.heap.size, 0, none⟩) 1 1, .bool true]) (by simp [results, Try.results22, go_sem]) rfl ?_
    refine ⟨_, _, by rw [HQ.out, HB2.out]; rfl, ?_, HBL.out⟩
    rw [HQ.out]
    exact HO.out.up HA.out.bel.size
  by_cases h9 : x.kd = 9
  · have HQ : Hid (bindsF x.kd x.tx p i = [x.tx]) := by show _ = _; rw [h9]; rfl
    have HB2 : Hid (bindsB x.kd i = true) := by show _ = _; rw [h9]; rfl
    have HK : Hid (x.kd = 9) := h9
    rw [h9] at c0
    clear h9
    have HO := Lib.hid (lit_own w1 x.tx)
    have HBL := Lib.hid (HA.out.bel.trans (((Below.refl w1.heap.size w1).alloc (Nat.le_refl _) (.cells #[strV x.tx] 9)).mono HA.out.bel.size))
    go_wp2_with fail
    refine bodyPost_ret (v := .tuple #[.slice (some ⟨w1.heap.size, 0, none⟩) 1 1, .bool true]) (by simp [results, Try.results22, go_sem]) rfl ?_
    refine ⟨_, _, by rw [HQ.out, HB2.out]; rfl, ?_, HBL.out⟩
    rw [HQ.out]
    exact HO.out.up HA.out.bel.size
  by_cases h8 : x.kd = 8
  · have HB2 : Hid (bindsB x.kd i = true) := by show _ = _; rw [h8]; rfl
    have HQ0 : Hid (bindsF x.kd x.tx p i = if i == 1 then [x.tx] else []) := by show _ = _; rw [h8]; rfl
    rw [h8] at c0
    clear h8
    by_cases hi : i = 1
    · subst hi
      have HQ : Hid (bindsF x.kd x.tx p 1 = [x.tx]) := HQ0.out
      have i1 : ((1 : Nat) : Int) = 1 := rfl
      clear HQ0
      have HO := Lib.hid (lit_own w1 x.tx)
      have HBL := Lib.hid (HA.out.bel.trans (((Below.refl w1.heap.size w1).alloc (Nat.le_refl _) (.cells #[strV x.tx] 9)).mono HA.out.bel.size))
      go_wp2_with fail
      refine bodyPost_ret (v := .tuple #[.slice (some ⟨w1.heap.size, 0, none⟩) 1 1, .bool true]) (by simp [results, Try.results22, go_sem]) rfl ?_
      refine ⟨_, _, by rw [HQ.out, HB2.out]; rfl, ?_, HBL.out⟩
      rw [HQ.out]
      exact HO.out.up HA.out.bel.size
    · have q1 : ((i : Int) == 1) = false := beq_eq_false_iff_ne.2 (by omega)
      have HQ : Hid (bindsF x.kd x.tx p i = []) := by show _ = _; rw [HQ0.out, if_neg (by simpa using hi)]
      clear HQ0 hi
      go_wp2_with fail
      refine bodyPost_ret (v := .tuple #[.slice none 0 0, .bool true]) (by simp [results, Try.results22, go_sem]) rfl ?_
      exact ⟨none, 0, by rw [HQ.out, HB2.out]; rfl, by rw [HQ.out]; exact OwnT.none _ _, HA.out.bel⟩
  by_cases h12 : x.kd = 12
  · have HB2 : Hid (bindsB x.kd i = true) := by show _ = _; rw [h12]; rfl
    have HQ0 : Hid (bindsF x.kd x.tx p i = if i == 1 then [x.tx] else []) := by show _ = _; rw [h12]; rfl
    rw [h12] at c0
    clear h12
    by_cases hi : i = 1
    · subst hi
      have HQ : Hid (bindsF x.kd x.tx p 1 = [x.tx]) := HQ0.out
      have i1 : ((1 : Nat) : Int) = 1 := rfl
      clear HQ0
      have HO := Lib.hid (lit_own w1 x.tx)
      have HBL := Lib.hid (HA.out.bel.trans (((Below.refl w1.heap.size w1).alloc (Nat.le_refl _) (.cells #[strV x.tx] 9)).mono HA.out.bel.size))
      go_wp2_with fail
      refine bodyPost_ret (v := .tuple #[.slice (some ⟨w1.heap.size, 0, none⟩) 1 1, .bool true]) (by simp [results, Try.results22, go_sem]) rfl ?_
      refine ⟨_, _, by rw [HQ.out, HB2.out]; rfl, ?_, HBL.out⟩
      rw [HQ.out]
      exact HO.out.up HA.out.bel.size
    · have q1 : ((i : Int) == 1) = false := beq_eq_false_iff_ne.2 (by omega)
      have HQ : Hid (bindsF x.kd x.tx p i = []) := by show _ = _; rw [HQ0.out, if_neg (by simpa using hi)]
      clear HQ0 hi
      go_wp2_with fail
      refine bodyPost_ret (v := .tuple #[.slice none 0 0, .bool true]) (by simp [results, Try.results22, go_sem]) rfl ?_
      exact ⟨none, 0, by rw [HQ.out, HB2.out]; rfl, by rw [HQ.out]; exact OwnT.none _ _, HA.out.bel⟩
  by_cases h11 : x.kd = 11
  · have HQ0 : Hid (bindsF x.kd x.tx p i = if 0 < i ∧ i % 2 = 0 then namesF p else []) := by show _ = _; rw [h11]; rfl
    have HB0 : Hid (bindsB x.kd i = (i % 2 == 0)) := by show _ = _; rw [h11]; rfl
    rw [h11] at c0
    clear h11
    have c5 := HA.out.c5
    by_cases hz : i = 0
    · subst hz
      have HQ : Hid (bindsF x.kd x.tx p 0 = []) := HQ0.out
      have HB2 : Hid (bindsB x.kd 0 = true) := HB0.out
      clear HQ0 HB0
      go_wp2_with fail
      refine bodyPost_ret (v := .tuple #[.slice none 0 0, .bool true]) (by simp [results, Try.results22, go_sem]) rfl ?_
      exact ⟨none, 0, by rw [HQ.out, HB2.out]; rfl, by rw [HQ.out]; exact OwnT.none _ _, HA.out.bel⟩
    by_cases hev : i % 2 = 0
    · have HQ : Hid (bindsF x.kd x.tx p i = namesF p) := by show _ = _; rw [HQ0.out, if_pos ⟨by omega, hev⟩]
      have HB2 : Hid (bindsB x.kd i = true) := by show _ = _; rw [HB0.out, hev]; rfl
      obtain ⟨j, hj⟩ : ∃ j, i = j + 1 := ⟨i - 1, by omega⟩
      have HJ := Lib.hid hj
      have j1 : ((i : Int) - 1) = (j : Int) := by omega
      have j2 : (0 : Int) ≤ (j : Int) := by omega
      have j3 : (j : Int) < (x.ks.length : Int) := by have := HI.out; omega
      have q1 : (((i : Int) % 2) == 0) = true := beq_iff_eq.2 (by omega)
      have q2 : (0 : Int) < (i : Int) := by omega
      have hjl : j < x.ks.length := by have := HI.out; omega
      obtain ⟨g, fy, e, _, ⟨x0, x1, x2, x3, x4, x5⟩, ny⟩ := HA.out.n.row.any hjl
      have hpj : x.ks.getD j nd0 = p := by have := HP.out; rw [hj] at this; simpa using this
      rw [hpj] at x0 x1 x2 x3 x4 x5 ny
      rw [e] at c5
      have hpm : p ∈ x.ks := by rw [← hpj]; exact getD_mem hjl
      have CN := Lib.hid (HWK.out p hpm w1 w.heap.size b fy [] none 0 (by have := wt_kid hpm; have := HWT.out; simp; omega) (OwnT.none _ _) HA.out.bel.size HBB.out ny)
      unfold ndV at CN
      clear e hj hpj hpm ny hjl hz hev HQ0 HB0 HP
      obtain ⟨N, hN⟩ : ∃ N, namesF p = N := ⟨_, rfl⟩
      rw [hN] at HQ
      rw [List.nil_append, hN] at CN
      clear hN
      have HJS := Lib.hid (And.intro j1 (And.intro j2 (And.intro j3 (show (j : Int) < 100000 by omega))))
      clear j1 j2 j3 i2
      go_upto_region 11 with (fail)
      obtain ⟨j1, j2, j3, j4⟩ := HJS.out
      clear q1 q2 HJS i0
      go_wp2_with fail
      refine CN.out.mono ?_
      rintro e w3 ⟨A3, k3, rfl, hg3⟩
      have HG3 := Lib.hid hg3
      clear hg3 CN x0 x1 x2 x3 x4 x5 c5 c0 c1 j1 j2 j3
      go_wp2_with fail
      refine bodyPost_ret (v := .tuple #[.slice A3 N.length k3, .bool true]) (by simp [results, Try.results22, go_sem]) rfl ?_
      refine ⟨A3, k3, by rw [HQ.out, HB2.out], by rw [HQ.out]; exact HG3.out.own, ?_⟩
      exact (HG3.out.first HA.out.bel).below (fun g h => by cases h) (Nat.le_refl _)
    · have HQ : Hid (bindsF x.kd x.tx p i = []) := by show _ = _; rw [HQ0.out, if_neg (fun h => hev h.2)]
      have HB2 : Hid (bindsB x.kd i = false) := by show _ = _; rw [HB0.out]; exact beq_eq_false_iff_ne.2 hev
      have q1 : (((i : Int) % 2) == 0) = false := beq_eq_false_iff_ne.2 (by omega)
      have q2 : (0 : Int) < (i : Int) := by omega
      have q3 : ((i : Int) == 0) = false := beq_eq_false_iff_ne.2 (by omega)
      clear hev hz HQ0 HB0 HP i2
      go_wp2_with fail
      refine bodyPost_ret (v := .tuple #[.slice none 0 0, .bool false]) (by simp [results, Try.results22, go_sem]) rfl ?_
      exact ⟨none, 0, by rw [HQ.out, HB2.out]; rfl, by rw [HQ.out]; exact OwnT.none _ _, HA.out.bel⟩
  · have e6 : (x.kd == 6) = false := beq_eq_false_iff_ne.2 h6
    have e9 : (x.kd == 9) = false := beq_eq_false_iff_ne.2 h9
    have e8 : (x.kd == 8) = false := beq_eq_false_iff_ne.2 h8
    have e12 : (x.kd == 12) = false := beq_eq_false_iff_ne.2 h12
    have e11 : (x.kd == 11) = false := beq_eq_false_iff_ne.2 h11
    have HQ : Hid (bindsF x.kd x.tx p i = []) := by show _ = _; unfold bindsF; rw [e6, e9, e8, e12, e11]; rfl
    have HB2 : Hid (bindsB x.kd i = true) := by show _ = _; unfold bindsB; rw [e11]; rfl
    clear h6 h9 h8 h12 h11
    go_wp2_with fail
    refine bodyPost_ret (v := .tuple #[.slice none 0 0, .bool true]) (by simp [results, Try.results22, go_sem]) rfl ?_
    exact ⟨none, 0, by rw [HQ.out, HB2.out]; rfl, by rw [HQ.out]; exact OwnT.none _ _, HA.out.bel⟩
end Go.Proofs.Ytgjchgmlogbmmaa
/- A region that draws its order, whose last operations may end what was held of the world: loads are taken first under S; behind each operation but those last ones S is shown anew. -/
namespace Go.Proofs.Ytgjchgmlogbmmaa
set_option linter.unusedVariables false

section
variable {P : Program} {ops : Array Oper} {Q : Exit → Act → World → Prop} {md : Region.Mode} {S : World → Prop} {z : Nat → Bool}

/-- Does x wait for i, by others? -/
def waitsB (md : Region.Mode) (ops : Array Oper) : Nat → Nat → Nat → Bool
  | 0, _, _ => false
  | f + 1, x, i => match ops[x]? with
    | some o => o.after.any fun e => Region.binds md e && (e.on == i || waitsB md ops f e.on i)
    | none => false
def Clo (md : Region.Mode) (ops : Array Oper) (listed : Array Bool) : Prop :=
  ∀ j oj, ops[j]? = some oj → listed.getD j false = true → ∀ e ∈ oj.after, Region.binds md e = true → listed.getD e.on false = true
def cloB (md : Region.Mode) (ops : Array Oper) (listed : Array Bool) : Bool :=
  (List.range ops.size).all fun j => match ops[j]? with | some oj => !listed.getD j false || oj.after.all fun e => !Region.binds md e || listed.getD e.on false | none => true
theorem clo_of {listed : Array Bool} (h : cloB md ops listed = true) : Clo md ops listed := fun j oj ho hl e he hb => by
  have h1 := List.all_eq_true.1 h j (List.mem_range.2 (Array.getElem?_eq_some_iff.1 ho).1)
  simp only [ho, hl, Bool.not_true, Bool.false_or] at h1
  have h2 := Array.all_eq_true_iff_forall_mem.1 h1 e he
  simpa [hb] using h2
theorem waits_step {listed : Array Bool} : ∀ (f x i : Nat) (o : Oper), ops[x]? = some o → Clo md ops listed → (∀ e ∈ o.after, Region.binds md e = true → listed.getD e.on false = true) → waitsB md ops f x i = true → listed.getD i false = true
  | 0, x, i, o, _, _, _, h => by simp [waitsB] at h
  | f + 1, x, i, o, ho, hc, ha, h => by
    simp only [waitsB, ho] at h
    obtain ⟨e, he, hb⟩ := Array.any_eq_true'.1 h
    simp only [Bool.and_eq_true, Bool.or_eq_true, beq_iff_eq] at hb
    have h1 := ha e he hb.1
    rcases hb.2 with h2 | h2
    · rw [← h2]; exact h1
    · rcases ho' : ops[e.on]? with _ | o'
      · cases f with
        | zero => simp [waitsB] at h2
        | succ f => simp [waitsB, ho'] at h2
      · exact waits_step f e.on i o' ho' hc (fun e' he' hb' => hc e.on o' ho' h1 e' he' hb') h2
theorem waits_ready {listed : Array Bool} {f x i : Nat} (hc : Clo md ops listed) (hx : x ∈ Region.ready md ops listed) (h : waitsB md ops f x i = true) (hi : listed.getD i true = false) : False := by
  obtain ⟨_, o, ho, hall⟩ := mem_ready.1 hx
  have h1 := waits_step f x i o ho hc hall h
  rcases Nat.lt_or_ge i listed.size with h' | h'
  · simp [h'] at h1 hi; rw [hi] at h1; cases h1
  · simp [Array.getElem?_eq_none h'] at h1
theorem Clo.set {listed : Array Bool} {i : Nat} (h : Clo md ops listed) (hi : i ∈ Region.ready md ops listed) : Clo md ops (listed.setIfInBounds i true) := fun j oj ho hl e he hb => by
  obtain ⟨_, oi, hoi, hall⟩ := mem_ready.1 hi
  by_cases hij : i = j
  · subst hij
    rw [hoi] at ho; cases ho
    exact getD_set_true (hall e he hb)
  · rw [getD_set_ne false hij] at hl
    exact getD_set_true (h j oj ho hl e he hb)
/-- Whatever order is picked: behind each operation but z S holds. -/
def anyZ (P : Program) (md : Region.Mode) (ops : Array Oper) (Q : Exit → Act → World → Prop) (S : World → Prop) (z : Nat → Bool) : Nat → Array Bool → Act → World → Prop
  | 0, listed, a, w => Region.ready md ops listed = [] ∧ Q .normal a w
  | fuel + 1, listed, a, w =>
    (Region.ready md ops listed = [] → Q .normal a w) ∧
    ∀ i ∈ Region.ready md ops listed, wpOp P ops Q i (fun a' w' => (z i = false → S w') ∧ anyZ P md ops Q S z fuel (listed.setIfInBounds i true) a' w') a w
theorem any_of_Z : ∀ (fuel : Nat) (listed : Array Bool) (a : Act) (w : World), anyZ P md ops Q S z fuel listed a w → wpAny P md ops Q fuel listed a w
  | 0, _, _, _, h => h
  | fuel + 1, _, _, _, h => ⟨h.1, fun i hi => wpOp_mono (fun a' w' h' => any_of_Z fuel _ a' w' h'.2) (h.2 i hi)⟩
theorem anyZ_first {i f : Nat} {oi : Oper} {v : Value} (hi : ops[i]? = some oi) (hsel : ∀ (j : Nat) (o : Oper) cs b, ops[j]? = some o → o.op ≠ .select cs b)
    (hQ : ∀ c a w, Q (.panic c) (a.put oi.dst v) w → Q (.panic c) a w) (hz : ∀ k, z k = true → waitsB md ops f k i = true) :
    ∀ (fuel : Nat) (listed : Array Bool) (a : Act) (w : World), Clo md ops listed →
      (∀ j oj, ops[j]? = some oj → j ≠ i → listed.getD j true = false → (∀ e ∈ oj.after, Region.binds md e = true → e.on ≠ i) → oi.apart ops oj = true) →
      i ∈ Region.ready md ops listed → YieldsIf P ops S oi v a → S w →
      anyZ P md ops Q S z fuel (listed.setIfInBounds i true) (a.put oi.dst v) w → anyZ P md ops Q S z (fuel + 1) listed a w := by
  intro fuel
  induction fuel with
  | zero =>
    intro listed a w _ _ hr hy hS H
    refine ⟨fun h => (by rw [h] at hr; cases hr), fun j hj => ?_⟩
    by_cases hji : j = i
    · subst hji; exact hy.wpOp hi hS ⟨fun _ => hS, H⟩
    · have := ready_mono hj hji
      rw [H.1] at this; cases this
  | succ fuel ih =>
    intro listed a w hc hfree hr hy hS H
    refine ⟨fun h => (by rw [h] at hr; cases hr), fun j hj => ?_⟩
    by_cases hji : j = i
    · subst hji; exact hy.wpOp hi hS ⟨fun _ => hS, H⟩
    · have hun := (mem_ready.1 hr).1
      have hjz : z j = false := by
        rcases hq : z j with _ | _
        · rfl
        · exact (waits_ready hc hj (hz j hq) hun).elim
      obtain ⟨hjun, oj, hoj, hall⟩ := mem_ready.1 hj
      have hnot : ∀ e ∈ oj.after, Region.binds md e = true → e.on ≠ i := fun e he hb heq => by
        have h1 := hall e he hb
        rw [heq] at h1
        rcases Nat.lt_or_ge i listed.size with h' | h'
        · simp [h'] at h1 hun; rw [hun] at h1; cases h1
        · simp [Array.getElem?_eq_none h'] at h1
      have h2 := wpOp_putIf hoj (hfree j oj hoj hji hjun hnot) (fun cs b => hsel i oi cs b hi) (fun cs b => hsel j oj cs b hoj) hQ hy (H.2 j (ready_mono hj hji))
      have hfree' : ∀ k ok, ops[k]? = some ok → k ≠ i → (listed.setIfInBounds j true).getD k true = false →
          (∀ e ∈ ok.after, Region.binds md e = true → e.on ≠ i) → oi.apart ops ok = true := fun k ok hk hki hun2 hno => by
        refine hfree k ok hk hki ?_ hno
        by_cases hjk : j = k
        · subst hjk; exact hjun
        · rw [getD_set_ne true hjk] at hun2; exact hun2
      refine wpOp_mono (fun a' w' h3 => ⟨h3.2.1, ih (listed.setIfInBounds j true) a' w' (hc.set hj) hfree' (ready_mono hr (Ne.symm hji)) h3.1 (h3.2.1 hjz) ?_⟩) h2
      rw [Array.setIfInBounds_comm _ _ hji]
      exact h3.2.2
theorem anyZ_take {i : Nat} {oi : Oper} {v : Value} {fuel : Nat} {listed : Array Bool} {a : Act} {w : World} (hi : ops[i]? = some oi)
    (hs : Region.noSelect ops = true) (hf : Region.free md ops listed i = true) (hr : (Region.ready md ops listed).contains i = true) (hc : cloB md ops listed = true) (hz : ((List.range ops.size).all fun k => !z k || waitsB md ops ops.size k i) = true) (hzo : ∀ k, ops.size ≤ k → z k = false)
    (hQ : ∀ c a w, Q (.panic c) (a.put oi.dst v) w → Q (.panic c) a w) (hy : YieldsIf P ops S oi v a) (hS : S w)
    (h : anyZ P md ops Q S z fuel (listed.setIfInBounds i true) (a.put oi.dst v) w) : anyZ P md ops Q S z (fuel + 1) listed a w :=
  anyZ_first hi (Region.noSelect_spec hs) hQ (fun k hk => by
    rcases Nat.lt_or_ge k ops.size with h | h
    · have := List.all_eq_true.1 hz k (List.mem_range.2 h)
      simpa [hk] using this
    · rw [hzo k h] at hk; cases hk) fuel listed a w (clo_of hc) (Region.free_spec hi hf) (by simpa using hr) hy hS h
theorem anyZ_step {i : Nat} {o : Oper} {fuel : Nat} {listed : Array Bool} {a : Act} {w : World} (hr : Region.ready md ops listed = [i]) (ho : ops[i]? = some o)
    (h : ∀ K' : Act → World → Prop, Shut (∀ a w, (z i = false → S w) → ((z i = false → S w) → anyZ P md ops Q S z fuel (listed.setIfInBounds i true) a w) → K' a w) → if Region.wanted o (yielded ops a.tmps) = true then Oper.wp P o a w K' Q else K' (a.put o.dst undef) w) :
    anyZ P md ops Q S z (fuel + 1) listed a w := by
  refine ⟨fun h0 => (by rw [hr] at h0; cases h0), fun j hj => ?_⟩
  rw [hr] at hj
  obtain rfl : j = i := by simpa using hj
  exact wpOp_step ho (fun K' hK => h K' (fun a w hS hW => hK a w ⟨hS, hW hS⟩))
theorem anyZ_split {i j : Nat} {o o2 : Oper} {fuel : Nat} {listed : Array Bool} {a : Act} {w : World} (hr : Region.ready md ops listed = [i, j]) (ho : ops[i]? = some o) (ho2 : ops[j]? = some o2)
    (h : ∀ K' : Act → World → Prop, Shut (∀ a w, (z i = false → S w) → ((z i = false → S w) → anyZ P md ops Q S z fuel (listed.setIfInBounds i true) a w) → K' a w) → if Region.wanted o (yielded ops a.tmps) = true then Oper.wp P o a w K' Q else K' (a.put o.dst undef) w)
    (h2 : ∀ K' : Act → World → Prop, Shut (∀ a w, (z j = false → S w) → ((z j = false → S w) → anyZ P md ops Q S z fuel (listed.setIfInBounds j true) a w) → K' a w) → if Region.wanted o2 (yielded ops a.tmps) = true then Oper.wp P o2 a w K' Q else K' (a.put o2.dst undef) w) :
    anyZ P md ops Q S z (fuel + 1) listed a w := by
  refine ⟨fun h0 => (by rw [hr] at h0; cases h0), fun k hk => ?_⟩
  rw [hr] at hk
  simp only [List.mem_cons, List.not_mem_nil, or_false] at hk
  rcases hk with rfl | rfl
  · exact wpOp_step ho (fun K' hK => h K' (fun a w hS hW => hK a w ⟨hS, hW hS⟩))
  · exact wpOp_step ho2 (fun K' hK => h2 K' (fun a w hS hW => hK a w ⟨hS, hW hS⟩))
/-- Where all that is left may end what is held, nothing is held any more. -/
theorem anyZ_free : ∀ (fuel : Nat) (listed : Array Bool) (a : Act) (w : World), (∀ i, i < ops.size → listed.getD i true = false → z i = true) → anyZ P md ops Q (fun _ => True) (fun _ => false) fuel listed a w → anyZ P md ops Q S z fuel listed a w
  | 0, _, _, _, _, h => h
  | fuel + 1, listed, a, w, hz, h => ⟨h.1, fun i hi => by
    have hm := mem_ready.1 hi
    obtain ⟨hun, o, ho, _⟩ := hm
    have hlt : i < ops.size := (Array.getElem?_eq_some_iff.1 ho).1
    refine wpOp_mono (fun a' w' h' => ⟨fun hf => ?_, anyZ_free fuel _ a' w' (fun k hk hl => hz k hk ?_) h'.2⟩) (h.2 i hi)
    · rw [hz i hlt hun] at hf; cases hf
    · by_cases hik : i = k
      · subst hik; exact hun
      · rw [getD_set_ne true hik] at hl; exact hl⟩
theorem anyZ_done {listed : Array Bool} {a : Act} {w : World} (hr : Region.ready md ops listed = []) (h : Q .normal a w) : ∀ fuel, anyZ P md ops Q S z fuel listed a w
  | 0 => ⟨hr, h⟩
  | _ + 1 => ⟨fun _ => h, by rw [hr]; simp⟩
theorem region_Z (S : World → Prop) (z : Nat → Bool) {id : Nat} {a : Act} {w : World} (hm : P.follows .mixedOrders = true) (hS : S w.drew)
    (h : S w.drew → anyZ P .any ops Q S z ops.size (Array.replicate ops.size false) a w.drew) : (Code.region id ops true).wp P Q a w :=
  wp_region_any hm (any_of_Z _ _ _ _ (h hS))
end
end Go.Proofs.Ytgjchgmlogbmmaa
/- The walks of layer 11: the names free. -/
namespace Go.Proofs.Ytgjchgmlogbmmaa
open Go.RowKit
set_option linter.unusedVariables false
set_option linter.unusedSimpArgs false
attribute [local go_sem ↓] Go.wp_at_zero Go.wp_at_succ

theorem binds_zero (kd : Int) (tx : List UInt8) (p q : Nd) : bindsF kd tx p 0 = bindsF kd tx q 0 := by
  unfold bindsF
  simp
theorem freeL_take (kd : Int) (tx : List UInt8) (b : List (List UInt8)) : ∀ (xs : List Nd) (p : Nd) (i : Nat) (l : List (List UInt8)) (k : Nat), k < xs.length →
    freeL (xs.take (k + 1)) kd tx p i b l = (if bindsB kd (i + k) = true then freeF (xs.getD k nd0) (b ++ bindsF kd tx (if k = 0 then p else xs.getD (k - 1) nd0) (i + k)) (freeL (xs.take k) kd tx p i b l) else freeL (xs.take k) kd tx p i b l)
  | [], p, i, l, k, h => absurd h (by simp)
  | x :: xs, p, i, l, 0, h => by simp [freeL]
  | x :: xs, p, i, l, k + 1, h => by
    rw [List.take_succ_cons, List.take_succ_cons, freeL, freeL, freeL_take kd tx b xs x (i + 1) _ k (by simpa using h), show i + 1 + k = i + (k + 1) by omega]
    have e : (if k = 0 then x else xs.getD (k - 1) nd0) = (if k + 1 = 0 then p else (x :: xs).getD (k + 1 - 1) nd0) := by
      cases k with
      | zero => simp
      | succ k => simp
    rw [e]; rfl
theorem freeL_step (kd : Int) (tx : List UInt8) (b : List (List UInt8)) (xs : List Nd) (l : List (List UInt8)) (k : Nat) (h : k < xs.length) :
    freeL (xs.take (k + 1)) kd tx nd0 0 b l = (if bindsB kd k = true then freeF (xs.getD k nd0) (b ++ bindsF kd tx (xs.getD (k - 1) nd0) k) (freeL (xs.take k) kd tx nd0 0 b l) else freeL (xs.take k) kd tx nd0 0 b l) := by
  rw [freeL_take kd tx b xs nd0 0 l k h, Nat.zero_add]
  cases k with
  | zero => rw [if_pos rfl, binds_zero kd tx nd0 (xs.getD (0 - 1) nd0)]
  | succ k => rw [if_neg (Nat.succ_ne_zero k)]
theorem binds_lt (xs : List Nd) (kd : Int) (tx : List UInt8) (k : Nat) (h : k < xs.length) : (bindsF kd tx (xs.getD (k - 1) nd0) k).length + wtN (xs.getD k nd0) ≤ kwN kd + wtL xs := by
  cases k with
  | zero =>
    rw [binds_zero kd tx _ nd0]
    have h1 := binds_len kd tx nd0 0
    have h2 := wtL_take xs 0 h
    rw [show wtN nd0 = 0 from rfl] at h1; omega
  | succ k =>
    have h1 := binds_len kd tx (xs.getD k nd0) (k + 1)
    have h2 := wtL_take xs (k + 1) h
    have h3 := wtL_take xs k (by omega)
    have h4 : wtL (xs.take k) + wtN (xs.getD k nd0) ≤ wtL (xs.take (k + 1)) := by
      have := wtL_app (xs.take k) [xs.getD k nd0]
      have e : xs.take (k + 1) = xs.take k ++ [xs.getD k nd0] := by
        rw [List.take_add_one, List.getD_eq_getElem?_getD, List.getElem?_eq_getElem (by omega)]; rfl
      rw [e, this]; simp [wtL]
    simp only [Nat.add_sub_cancel]
    omega
/-- The bound names, handed in. -/
structure BndT (w : World) (g0 : Option Nat) (bs : List (List UInt8)) (A : Option Addr) (c : Nat) : Prop where
  str : StrIn w (fun a => g0 ≠ some a) bs A
  le : bs.length ≤ c
  nil : bs = [] → A = none ∧ c = 0
theorem BndT.below {w w' : World} {g0 : Option Nat} {bs : List (List UInt8)} {A : Option Addr} {c B : Nat} (h : BndT w g0 bs A c) (hb : Below B w w') (hB : w.heap.size ≤ B) : BndT w' g0 bs A c := ⟨h.str.below hb hB, h.le, h.nil⟩
/-- Texts appended behind a slice that is full. -/
theorem step_bnd {ops : Array Oper} {o : Oper} {a : Act} {w : World} {K : Act → World → Prop} {Q : Exit → Act → World → Prop} {E : Prop} (hg : o.guard = none) (s x : Operand)
    (hop : o.op = Op.call { callee := Callee.builtin Builtin.append, args := #[s, x], argTypes := #[22, 22] }) {g0 : Option Nat} {bs own : List (List UInt8)} {Ab A9 : Option Addr} {cb k9 base : Nat}
    (hs : a.eval s = .slice Ab bs.length bs.length) (hx : a.eval x = .slice A9 own.length k9) (hb : BndT w g0 bs Ab cb) (ho : OwnT w base own (.slice A9 own.length k9)) (h1 : bs.length ≤ 100000) (h2 : own.length ≤ 100000) (hg0 : ∀ g, g0 = some g → g < w.heap.size) {bo : List (List UInt8)} (hbo : bs ++ own = bo)
    (hK : ∀ A' c' w', BndT w' g0 bo A' c' → Below w.heap.size w w' → K (a.put o.dst (.slice A' bo.length c')) w') :
    if Region.wanted o (yielded ops a.tmps) = true then Oper.wp Try.prog o a w K Q else E := by
  subst hbo
  obtain ⟨i, z, hi, hz, hsz, hby, hzs⟩ := ty_str.info
  by_cases h0 : own = []
  · subst h0
    have e := ho.nil rfl
    simp only [Value.slice.injEq] at e
    obtain ⟨rfl, _, rfl⟩ := e
    have hw : Region.wanted o (yielded ops a.tmps) = true := by simp [Region.wanted, hg]
    rw [if_pos hw]
    have hrun : (Builtin.append_ #[22, 22] o.type #[.slice Ab bs.length bs.length, .slice none 0 0]).run Try.prog w = .ok (.slice Ab bs.length bs.length) w := by
      rcases Ab with _ | ⟨g, off, p⟩
      · have hb0 : bs = [] := by
          by_cases hb0 : bs = []
          · exact hb0
          · obtain ⟨g, e, _⟩ := hb.str hb0; cases e
        subst hb0
        simp [Builtin.append_, run_underlying ty_str.under, sizeOf, typeInfo, hi, Builtin.lenOf, Builtin.firstCells]
      · simp [Builtin.append_, run_underlying ty_str.under, sizeOf, typeInfo, hi, Builtin.lenOf, Builtin.firstCells, storeCells]
    unfold Oper.wp
    simp [execOp, hop, resolve, invoke, builtin, hs, hx, hrun, Result.andThen]
    have := hK Ab bs.length w ⟨by rw [List.append_nil]; exact hb.str, by simp, fun e => ⟨(hb.nil (by simpa using e)).1, by simpa using e⟩⟩ (Below.refl _ _)
    rw [show (bs ++ ([] : List (List UInt8))).length = bs.length by simp] at this
    exact this
  · obtain ⟨g9, c9, e9, hbg, hl9, _⟩ := own_cell ho.row (k := 0) (by have := List.length_pos_iff.2 h0; omega)
    simp only [Value.slice.injEq] at e9
    obtain ⟨rfl, _, _⟩ := e9
    refine step_append_grows hg s x 22 hop 9 i z 1 16 ty_str.under hi hz hsz hby hzs (by decide) Ab bs.length bs.length (bs.map strV) hs (fun e => ?_) (by simp) (fun q e j u hj => ?_) ⟨g9, 0, none⟩ own.length k9 (own.map strV) hx (by simp) (fun j u hj => ?_) (fun u hu => ?_) (by have := List.length_pos_iff.2 h0; omega) (by unfold maxLen; omega) (by omega) (fun v' w' hown hgrow => ?_)
    · have hb0 : bs = [] := by
        by_cases hb0 : bs = []
        · exact hb0
        · obtain ⟨g, e', _⟩ := hb.str hb0; rw [e] at e'; cases e'
      rw [hb0]; exact ⟨rfl, rfl⟩
    · have hj2 := (List.getElem?_eq_some_iff.1 hj).1
      rw [List.length_map] at hj2
      obtain ⟨g, e1, _, _, e4⟩ := hb.str (fun e => by rw [e] at hj2; simp at hj2)
      rw [e] at e1
      have : q = ⟨g, 0, none⟩ := by simpa using e1
      subst this
      have ea : (⟨g, 0, none⟩ : Addr).add j = ⟨g, j, none⟩ := by unfold Addr.add; split <;> simp_all
      rw [ea, e4 j hj2, ← hj, List.getElem?_map, List.getElem?_eq_getElem hj2]; rfl
    · have hj2 := (List.getElem?_eq_some_iff.1 hj).1
      rw [List.length_map] at hj2
      obtain ⟨g', c', e', _, _, hcell, _⟩ := own_cell ho.row (k := j) (by omega)
      simp only [Value.slice.injEq] at e'
      have eg : g9 = g' := by have := e'.1; simpa using this
      subst eg
      have ea : (⟨g9, 0, none⟩ : Addr).add j = ⟨g9, j, none⟩ := by unfold Addr.add; split <;> simp_all
      rw [ea, hcell, hj]
    · obtain ⟨t, _, rfl⟩ := List.mem_map.1 hu
      simp [strV, Value.oneCell']
    · have hlen : bs.length + own.length = (bs ++ own).length := by simp
      rw [hlen, ← List.map_append] at hown
      have hne : bs ++ own ≠ [] := by simp [h0]
      obtain ⟨gn, cn, en, hbn, hln, _⟩ := own_cell hown (k := 0) (by have := List.length_pos_iff.2 hne; omega)
      subst en
      have hle : (bs ++ own).length ≤ cn := by
        rcases hown.2 with ⟨e, _⟩ | ⟨g, cap, cur, e, _, _, hc, _⟩
        · cases e
        · simp only [Value.slice.injEq] at e
          obtain ⟨_, _, rfl⟩ := e
          exact hc
      refine hK (some ⟨gn, 0, none⟩) cn w' ⟨(own_str hown).mono fun a ha hl e => ?_, hle, fun e => absurd e hne⟩ ⟨hgrow.os, hgrow.tape, hgrow.output, hgrow.size, fun k hk => hgrow.block k hk (by simp)⟩
      have := hg0 a e; omega
theorem BndT.frame {w w' : World} {base : Nat} {v v' : Value} {L bs : List (List UInt8)} {A : Option Addr} {c : Nat} (h : BndT w v.ownBlock bs A c) (k : Grew w base v L v' w') : BndT w' v'.ownBlock bs A c := by
  refine ⟨fun hl => ?_, h.le, h.nil⟩
  obtain ⟨g, e1, e2, e3, e4⟩ := (k.str h.str fun a ha => ha) hl
  refine ⟨g, e1, fun e => ?_, e3, e4⟩
  obtain ⟨g', e1', _, e3', _⟩ := h.str hl
  have eg : g = g' := by have := e1.symm.trans e1'; simpa using this
  subst eg
  rcases k.blk g e with h1 | h1
  · exact e2 h1
  · omega
def FreeC (y : Nd) : Prop := ∀ (w : World) (base : Nat) (b : Nat → Prop) (f : Fr) (bs : List (List UInt8)) (Ab : Option Addr) (cb : Nat) (L : List (List UInt8)) (A : Option Addr) (c : Nat), bs.length + wtN y ≤ 100000 → L.length + wtN y ≤ 100000 → BndT w (Value.slice A L.length c).ownBlock bs Ab cb → OwnT w base L (.slice A L.length c) → base ≤ w.heap.size → (∀ a, b a → a < base) → NodeIn w b y f →
  Calls Try.prog 27 #[ndV y f, .slice Ab bs.length cb, .slice A L.length c] w (Grown w base (.slice A L.length c) (freeF y bs L))
set_option maxRecDepth 100000 in
set_option maxHeartbeats 16000000 in
theorem free_any (x : Nd) : WfN x → FreeC x := by
  induction x using Nd.ind with
  | h x ih =>
    intro hw w base b f bs Ab cb L A c hwb hwt hbn hown hbase hb hn
    have HA : Hid (Ag w (w.alloc (.cells zN(x, f) 25)) b w.heap.size x f) := Ag.start hn
    have HL : Hid (x.ks.length ≤ 100000) := hw.len
    have HW := Lib.hid hw
    have HWT : Hid (L.length + wtN x ≤ 100000) := hwt
    have HWB : Hid (bs.length + wtN x ≤ 100000) := hwb
    have HWE := Lib.hid (wtN_eq x)
    have IH := Lib.hid (fun y hy => ih y hy (hw.ks y hy))
    have HE := Lib.hid (freeF_eq x bs L)
    have HB := Lib.hid hb
    have HOW := Lib.hid (hown.below HA.out.bel (Nat.le_refl _))
    have HOW0 := Lib.hid hown
    have HBN := Lib.hid (hbn.below HA.out.bel (Nat.le_refl _))
    have HBS := Lib.hid hbase
    clear hn hw ih hb hown hbase hwt hwb hbn
    unfold ndV
    go_enter Try.func27, Try.ntmps27
    go_upto_region 1 with (fail)
    generalize w.alloc (.cells zN(x, f) 25) = w1 at *
    obtain ⟨G, hG⟩ : ∃ G, w.heap.size = G := ⟨_, rfl⟩
    have HG := Lib.hid hG
    rw [hG] at HA
    simp only [hG]
    clear hG
    have c0 := HA.out.c0
    have c1 := HA.out.c1
    have HNE : Hid ((Value.slice A L.length c).ownBlock ≠ some G) := HOW0.out.ne (.inr (Nat.le_of_eq HG.out))
    clear HOW0
    obtain ⟨L1, hL1⟩ : ∃ L1, (if x.kd == 4 && !bs.contains x.tx && !L.contains x.tx then L ++ [x.tx] else L) = L1 := ⟨_, rfl⟩
    have HL1 := Lib.hid hL1
    have HM : Hid (freeF x bs L = freeL x.ks x.kd x.tx nd0 0 bs L1) := by show _ = _; rw [← hL1]; exact HE.out
    clear hL1 HE
    have i9 : L.length ≤ 100000 := by have := HWT.out; omega
    have i8 : bs.length ≤ 100000 := by have := HWB.out; omega
    have CH := Lib.hid (fun wx (h : Below w1.heap.size w1 wx) => contains_any L i9 x.tx wx _ A c (own_str (HOW.out.below h (Nat.le_refl _)).row))
    have CB := Lib.hid (contains_any bs i8 x.tx w1 _ Ab cb HBN.out.str)
    clear i8
    obtain ⟨tb, hTB⟩ : ∃ tb, (x.kd == 4 && !hasB bs x.tx && !hasB L x.tx) = tb := ⟨_, rfl⟩
    have HTB := Lib.hid hTB
    clear hTB
    go_cut [27] (fun u wx => u = .bool tb ∧ Below w1.heap.size w1 wx)
    case first =>
      by_cases h4 : x.kd = 4
      · have q4 : (x.kd == 4) = true := beq_iff_eq.2 h4
        have HQ : Hid ((!hasB bs x.tx && !hasB L x.tx) = tb) := by show _ = _; rw [← HTB.out, q4]; rfl
        clear h4 HL1 HTB
        go_wp2_with fail
        refine CB.out.mono ?_
        rintro e w2 ⟨rfl, b2⟩
        have B2 := Lib.hid b2
        have CH2 := Lib.hid (CH.out w2 b2)
        have c12 := (HA.out.later b2).c1
        clear b2 CB CH
        generalize hasB bs x.tx = hb at *
        rcases hb with _ | _
        · go_wp2_with fail
          refine CH2.out.mono ?_
          rintro e w3 ⟨rfl, b3⟩
          have B3 := Lib.hid (B2.out.trans (b3.mono B2.out.size))
          clear b3 CH2 B2
          generalize hasB L x.tx = hb at *
          go_wp2_with fail
          go_meet
          exact ⟨congrArg Value.bool HQ.out, B3.out⟩
        · clear CH2
          go_wp2_with fail
          go_meet
          exact ⟨congrArg Value.bool HQ.out, B2.out⟩
      · have q4 : (x.kd == 4) = false := beq_eq_false_iff_ne.2 h4
        have HQ : Hid (false = tb) := by show _ = _; rw [← HTB.out, q4]; rfl
        clear h4 HL1 HTB CH CB
        go_wp2_with fail
        go_meet
        exact ⟨congrArg Value.bool HQ.out, Below.refl _ _⟩
    case rest =>
      obtain ⟨rfl, b2⟩ := hcut
      rename_i K0 g0
      refine g0 _ _ ?_
      clear g0 K0
      have HA2 := Lib.hid (HA.out.later b2)
      have HOW2 := Lib.hid (HOW.out.below b2 (Nat.le_refl _))
      have HGB := Lib.hid ((Grew.refl HOW.out).later b2 (Nat.le_refl _))
      have HBS2 : Hid (base ≤ wc.heap.size) := Nat.le_trans HBS.out (Nat.le_trans HA.out.bel.size b2.size)
      clear b2 CH CB c0 c1
      go_cut [2] (fun u wx => ∃ A1 c1, u = .slice A1 L1.length c1 ∧ Grew w1 base (.slice A L.length c) L1 (.slice A1 L1.length c1) wx)
      case first =>
        have c1 := HA2.out.c1
        rcases tb with _ | _
        · have HQ : Hid (L = L1) := by show _ = _; rw [← HL1.out, show (x.kd == 4 && !bs.contains x.tx && !L.contains x.tx) = false from HTB.out]; rfl
          clear HL1 HTB
          go_wp2_with fail
          go_meet
          exact ⟨A, c, by rw [HQ.out], by rw [← HQ.out]; exact HGB.out⟩
        · have HQ : Hid (L ++ [x.tx] = L1) := by show _ = _; rw [← HL1.out, show (x.kd == 4 && !bs.contains x.tx && !L.contains x.tx) = true from HTB.out]; rfl
          clear HL1 HTB
          go_wp2_with (at_builtin; refine list_app ty_str (v := .slice A L.length c) rfl _ _ rfl rfl (own_more_alloc HOW2.out.row (.cells #[strV x.tx] 9)) wc.heap.size 1 [strV x.tx] rfl (Whole.made wc 9 _) rfl (by simp [strV, Value.oneCell']) (by decide) (by omega) (by decide) (by have := HBS2.out; simp; omega) ?_; intro gv cv wd hap; have HAP := Lib.hid (app_own HOW2.out hap); clear hap)
          go_meet
          have e1 : L1.length = L.length + 1 := by rw [← HQ.out]; simp
          refine ⟨some ⟨gv, 0, none⟩, cv, by rw [e1], ?_⟩
          rw [← HQ.out]
          exact HGB.out.trans HAP.out
      case rest =>
        obtain ⟨A1, k1, rfl, hg⟩ := hcut
        have HGR := Lib.hid hg
        have HK0 : Hid (L1.length ≤ L.length + kwN x.kd) := by
          show _ ≤ _
          rw [← HL1.out]
          unfold kwN
          by_cases h4 : (x.kd == 4) = true
          · rw [if_pos (show _ = true from by rw [h4]; rfl : (x.kd == 4 || x.kd == 6 || x.kd == 8 || x.kd == 9 || x.kd == 12) = true)]
            split <;> simp
          · rw [if_neg (by rw [Bool.eq_false_iff.2 h4]; simp)]; omega
        clear HL1 HTB hg
        clear HGB HA2 HOW2 HBS2
        have HX := Lib.hid (HGR.out.whole HA.out.X HNE.out)
        have c5 : wc.cell? ⟨G, 5, none⟩ = some (.slice f.ka x.ks.length f.kc) := HX.out.cell 5
        clear HX
        go_wp2_with fail
        clear c5
        go_loopw [2, 36] (fun u i wr => ∃ (k : Nat) (A2 : Option Addr) (k2 : Nat), u = .slice A2 (freeL (x.ks.take k) x.kd x.tx nd0 0 bs L1).length k2 ∧ i = .int .i64 (k : Int) ∧ k ≤ x.ks.length ∧ Grew w1 base (.slice A L.length c) (freeL (x.ks.take k) x.kd x.tx nd0 0 bs L1) (.slice A2 (freeL (x.ks.take k) x.kd x.tx nd0 0 bs L1).length k2) wr) (fun _ i _ => x.ks.length - (intOf i).toNat)
        case atStart => exact ⟨0, A1, k1, by simp [freeL], rfl, Nat.zero_le _, by simpa [freeL] using HGR.out⟩
        case round =>
          obtain ⟨k, A2, k2, rfl, rfl, hk, hg⟩ := hrel
          have HG2 := Lib.hid hg
          clear hg HGR
          have HX := Lib.hid (HG2.out.whole HA.out.X HNE.out)
          by_cases hlt : k < x.ks.length
          · have HMT := Lib.hid (freeL_step x.kd x.tx bs x.ks L1 k hlt)
            have HWL := Lib.hid (wtL_take x.ks k hlt)
            have HWO := Lib.hid (binds_lt x.ks x.kd x.tx k hlt)
            have HNL := Lib.hid (freeL_len x.kd x.tx (x.ks.take k) (fun y _ => freeF_len y) nd0 0 bs L1)
            have HN2 := Lib.hid (HG2.out.node HA.out.n (fun a ha => HOW.out.ne (.inl (HB.out a ha))))
            have HB2 : Hid (base ≤ wr.heap.size) := Nat.le_trans HBS.out (Nat.le_trans HA.out.bel.size HG2.out.size)
            obtain ⟨g, fy, e, _, ⟨x0, x1, x2, x3, x4, x5⟩, ny⟩ := HN2.out.row.any hlt
            have HE2 := Lib.hid e
            have HNY := Lib.hid ny
            have CY := Lib.hid (IH.out _ (getD_mem hlt))
            have i0 : (0 : Int) ≤ (k : Int) := by omega
            have i1 : (k : Int) < (x.ks.length : Int) := by omega
            have i2 : (k : Int) < 100000 := by have := HL.out; omega
            have HBD : Hid ((freeL (x.ks.take k) x.kd x.tx nd0 0 bs L1).length + wtN (x.ks.getD k nd0) ≤ 100000) := by
              have h1 := HWL.out; have h2 := HNL.out; have h3 := HK0.out; have h4 := HWT.out; have h5 := HWE.out
              show _ ≤ _
              omega
            have HBD2 : Hid ((bs ++ bindsF x.kd x.tx (x.ks.getD (k - 1) nd0) k).length + wtN (x.ks.getD k nd0) ≤ 100000) := by
              have h1 := HWO.out; have h4 := HWB.out; have h5 := HWE.out
              show _ ≤ _
              rw [List.length_append]; omega
            have HBL : Hid (Below wr.heap.size wr (wr.alloc (.cells #[.int .i64 (x.ks.getD k nd0).kd, .string ⟨(x.ks.getD k nd0).tx.toArray⟩, .int .i64 (x.ks.getD k nd0).nm, .int .i64 ((x.ks.getD k nd0).at_ : Int), .slice fy.na (x.ks.getD k nd0).ns.length fy.nc, .slice fy.ka (x.ks.getD k nd0).ks.length fy.kc] 25))) := (Below.refl _ _).alloc (Nat.le_refl _) _
            have HKY : Hid (Whole (wr.alloc (.cells #[.int .i64 (x.ks.getD k nd0).kd, .string ⟨(x.ks.getD k nd0).tx.toArray⟩, .int .i64 (x.ks.getD k nd0).nm, .int .i64 ((x.ks.getD k nd0).at_ : Int), .slice fy.na (x.ks.getD k nd0).ns.length fy.nc, .slice fy.ka (x.ks.getD k nd0).ks.length fy.kc] 25)) wr.heap.size 25 (ndL (x.ks.getD k nd0) fy).toArray) := Whole.made _ _ _
            have CBI := Lib.hid (binds_any x HW.out (by have := HWT.out; omega) (wr.alloc (.cells #[.int .i64 (x.ks.getD k nd0).kd, .string ⟨(x.ks.getD k nd0).tx.toArray⟩, .int .i64 (x.ks.getD k nd0).nm, .int .i64 ((x.ks.getD k nd0).at_ : Int), .slice fy.na (x.ks.getD k nd0).ns.length fy.nc, .slice fy.ka (x.ks.getD k nd0).ks.length fy.kc] 25)) b f k hlt (fun a ha => by have := HB.out a ha; have := HB2.out; simp; omega) (HN2.out.later HBL.out (Nat.le_refl _)))
            clear ny e HWL HNL HWO
            generalize bindsF x.kd x.tx (x.ks.getD (k - 1) nd0) k = own at *
            generalize x.ks.getD k nd0 = y at *
            obtain ⟨M, hM⟩ : ∃ M, freeL (x.ks.take k) x.kd x.tx nd0 0 bs L1 = M := ⟨_, rfl⟩
            have HMM := Lib.hid hM
            rw [hM] at HG2 HBD ⊢
            clear hM
            have HXA := Lib.hid (HX.out.below HBL.out HX.out.lt)
            have c0 : (wr.alloc (.cells zN(y, fy) 25)).cell? ⟨G, 0, none⟩ = some (.int .i64 x.kd) := HXA.out.cell 0
            have c1 : (wr.alloc (.cells zN(y, fy) 25)).cell? ⟨G, 1, none⟩ = some (.string ⟨x.tx.toArray⟩) := HXA.out.cell 1
            have c2 : (wr.alloc (.cells zN(y, fy) 25)).cell? ⟨G, 2, none⟩ = some (.int .i64 x.nm) := HXA.out.cell 2
            have c3 : (wr.alloc (.cells zN(y, fy) 25)).cell? ⟨G, 3, none⟩ = some (.int .i64 (x.at_ : Int)) := HXA.out.cell 3
            have c4 : (wr.alloc (.cells zN(y, fy) 25)).cell? ⟨G, 4, none⟩ = some (.slice f.na x.ns.length f.nc) := HXA.out.cell 4
            have c5 : (wr.alloc (.cells zN(y, fy) 25)).cell? ⟨G, 5, none⟩ = some (.slice f.ka x.ks.length f.kc) := HXA.out.cell 5
            unfold ndV at CBI
            rw [HE2.out] at CBI c5 ⊢
            go_wp2_with fail
            refine CBI.out.mono ?_
            rintro e w3 ⟨A9, k9, rfl, ho9, hb9⟩
            have HO9 := Lib.hid ho9
            have HBL3 := Lib.hid (HBL.out.trans (hb9.mono HBL.out.size))
            have HK3 := Lib.hid (HKY.out.below hb9 HKY.out.lt)
            have HG4 := Lib.hid (HG2.out.later HBL3.out (Nat.le_refl _))
            have HNY3 := Lib.hid (HNY.out.later HBL3.out (Nat.le_refl _))
            have HSZ3 : Hid (wr.heap.size < w3.heap.size) := Nat.lt_of_lt_of_le (show wr.heap.size < (wr.alloc (.cells zN(y, fy) 25)).heap.size by simp) hb9.size
            have HUP : Hid ((wr.alloc (.cells zN(y, fy) 25)).heap.size = wr.heap.size + 1) := by show _ = _; simp
            have HKN : Hid ((Value.slice A2 M.length k2).ownBlock ≠ some wr.heap.size) := HG2.out.own.ne (.inr (Nat.le_refl _))
            clear ho9 hb9 CBI c0 c1 c2 c3 c4 c5 x0 x1 x2 x3 x4 x5 HKY HBL HXA HX HN2 HG2 HNY
            generalize wr.alloc (.cells zN(y, fy) 25) = wa at *
            generalize wr.heap.size = KB at *
            obtain ⟨tb, hTB⟩ : ∃ tb, bindsB x.kd k = tb := ⟨_, rfl⟩
            have HTB := Lib.hid hTB
            rw [hTB]
            clear hTB
            rcases tb with _ | _
            · have HMF : Hid (freeL (x.ks.take (k + 1)) x.kd x.tx nd0 0 bs L1 = M) := by show _ = _; rw [HMT.out, HTB.out, HMM.out]; rfl
              go_wp2_with fail
              go_roundw
              case rel => exact ⟨k + 1, A2, k2, by rw [HMF.out], by go_num, by omega, by rw [HMF.out]; exact HG4.out⟩
              case measure => simp [intOf]; omega
            · obtain ⟨bo, hbo⟩ : ∃ bo, bs ++ own = bo := ⟨_, rfl⟩
              have HBO := Lib.hid hbo
              rw [hbo] at HBD2
              have HMF : Hid (freeL (x.ks.take (k + 1)) x.kd x.tx nd0 0 bs L1 = freeF y bo M) := by show _ = _; rw [HMT.out, HTB.out, HMM.out, ← hbo]; rfl
              clear hbo
              obtain ⟨N, hN⟩ : ∃ N, freeF y bo M = N := ⟨_, rfl⟩
              have HNN := Lib.hid hN
              rw [hN] at HMF
              clear hN HMT HTB HMM
              go_upto_region 8 with (fail)
              have HBN3 := Lib.hid (fun (W : World) (h : Below w3.heap.size w3 W) => (BndT.frame HBN.out HG4.out).below h (Nat.le_refl _))
              have hcb : bs.length ≤ cb := HBN.out.le
              refine region_Z (fun W => Whole W KB 25 (ndL y fy).toArray) (fun i => false) (by kernel_rfl) (HK3.out.below (Below.refl _ _).drew HK3.out.lt) (fun hHeld => ?_)
              ztki 0 12
              · zcells
              zput
              ztki 1 12
              · zcells
              zput
              ztki 2 12
              · zcells
              zput
              ztki 3 12
              · zcells
              zput
              ztki 4 12
              · zcells
              zput
              ztki 5 12
              · zcells
              zput
              ztki 6 12
              · zcells
              zput
              ztki 7 12
              · zcells
              zput
              ztki 9 12
              · zcells
              zput
              clear hcb
              zstep 8
              refine step_bnd (g0 := (Value.slice A2 M.length k2).ownBlock) (bs := bs) (own := own) (Ab := Ab) (A9 := A9) (cb := cb) (k9 := k9) (base := wa.heap.size) (by rfl) _ _ (by rfl) (by rfl) (by rfl) (HBN3.out _ (Below.refl _ _).drew) (HO9.out.below (Below.refl _ _).drew (Nat.le_refl _)) (by have := HWB.out; omega) (by have := HBD2.out; rw [← HBO.out, List.length_append] at this; omega) (fun g hg => (World.ownsRow.lt HG4.out.own.row g hg).2) (bo := bo) HBO.out (fun A5 k5 w5 hb5 hbl5 => ?_)
              have HBN5 := Lib.hid hb5
              have HBL5 := Lib.hid ((Below.refl w3.heap.size w3).drew.trans hbl5)
              have HK5 := Lib.hid (HK3.out.below HBL5.out HK3.out.lt)
              refine hK.out _ _ (fun _ => HK5.out) (fun _ => ?_)
              clear hK K hHeld hb5 hbl5
              zput
              have HG5 := Lib.hid (HG4.out.later HBL5.out (Nat.le_refl _))
              have CY2 := Lib.hid (CY.out w5 base b fy bo A5 k5 M A2 k2 HBD2.out HBD.out HBN5.out HG5.out.own (Nat.le_trans (Nat.le_trans HBS.out HA.out.bel.size) HG5.out.size) HB.out (HNY3.out.later HBL5.out (Nat.le_refl _)))
              unfold ndV at CY2
              rw [HNN.out] at CY2
              zstep 10
              go_simp
              go_at_call 27
              refine CY2.out.mono ?_
              rintro e w6 ⟨A6, k6, rfl, hg6⟩
              have HG6 := Lib.hid (HG5.out.trans hg6)
              have HK6 := Lib.hid (hg6.whole HK5.out HKN.out)
              refine hK.out _ _ (fun _ => HK6.out) (fun _ => ?_)
              clear hK K hg6
              zput
              zstep 11
              go_simp
              refine hK.out _ _ (fun _ => HK6.out) (fun _ => ?_)
              clear hK K
              zput
              zdone
              go_wp2_with fail
              go_roundw
              case rel => exact ⟨k + 1, A6, k6, by rw [HMF.out], by go_num, by omega, by rw [HMF.out]; exact HG6.out⟩
              case measure => simp [intOf]; omega
          · have i1 : ¬ (k : Int) < (x.ks.length : Int) := by omega
            have HTK : Hid (x.ks.take k = x.ks) := List.take_of_length_le (by omega)
            rw [HTK.out] at HG2 ⊢
            go_wp2_with fail
            refine bodyPost_ret (v := .slice A2 (freeL x.ks x.kd x.tx nd0 0 bs L1).length k2) (by simp [results, Try.results27, go_sem]) rfl ?_
            exact ⟨A2, k2, by rw [HM.out], by rw [HM.out]; exact HG2.out.first HA.out.bel⟩
end Go.Proofs.Ytgjchgmlogbmmaa
/- The walks of layer 11: the names free in an exp, whether one is. -/
namespace Go.Proofs.Ytgjchgmlogbmmaa
open Go.RowKit
set_option linter.unusedVariables false
set_option linter.unusedSimpArgs false
attribute [local go_sem ↓] Go.wp_at_zero Go.wp_at_succ

/-- A list of texts that a call hands back. -/
def Texts (w : World) (M : List (List UInt8)) (e : Ending) (w' : World) : Prop := ∃ A c, e = .returned (.slice A M.length c) ∧ OwnT w' w.heap.size M (.slice A M.length c) ∧ Below w.heap.size w w'
theorem frees_any (x : Nd) (hw : WfN x) (hwt : wtN x ≤ 100000) (w : World) (b : Nat → Prop) (f : Fr) (hb : ∀ a, b a → a < w.heap.size) (hn : NodeIn w b x f) :
    Calls Try.prog 13 #[ndV x f] w (Texts w (freeF x [] [])) := by
  have HA : Hid (Ag w (w.alloc (.cells zN(x, f) 25)) b w.heap.size x f) := Ag.start hn
  have CF := Lib.hid (fun (wx : World) (h : Below w.heap.size w wx) (n : NodeIn wx b x f) => free_any x hw wx w.heap.size b f [] none 0 [] none 0 (by simpa using hwt) (by simpa using hwt) ⟨StrIn.nil _ _ _, Nat.le_refl _, fun _ => ⟨rfl, rfl⟩⟩ (OwnT.none _ _) h.size hb n)
  clear hn hb
  unfold ndV
  go_enter Try.func13, Try.ntmps13
  go_upto_region 1 with (fail)
  generalize w.alloc (.cells zN(x, f) 25) = w1 at *
  have CF2 := Lib.hid (CF.out w1 HA.out.bel HA.out.n)
  unfold ndV at CF2
  have HBL := Lib.hid HA.out.bel
  obtain ⟨G, hG⟩ : ∃ G, w.heap.size = G := ⟨_, rfl⟩
  have HG := Lib.hid hG
  rw [hG] at HA
  simp only [hG]
  clear hG
  have c0 := HA.out.c0
  have c1 := HA.out.c1
  have c2 := HA.out.c2
  have c3 := HA.out.c3
  have c4 := HA.out.c4
  have c5 := HA.out.c5
  obtain ⟨M, hM⟩ : ∃ M, freeF x [] [] = M := ⟨_, rfl⟩
  have HMM := Lib.hid hM
  rw [hM] at CF2
  clear hM CF
  go_wp2_with fail
  refine CF2.out.mono ?_
  rintro e w2 ⟨A, c, rfl, hg⟩
  have HG2 := Lib.hid hg
  clear hg CF2 c0 c1 c2 c3 c4 c5
  go_wp2_with fail
  refine bodyPost_ret (v := .slice A M.length c) (by simp [results, Try.results13, go_sem]) rfl ?_
  exact ⟨A, c, by rw [HMM.out], by rw [HMM.out]; exact HG2.out.own, (HG2.out.first HBL.out).below (fun g h => by cases h) (Nat.le_refl _)⟩

theorem has_binds (kd : Int) (tx s : List UInt8) (p : Nd) (k : Nat) :
    (bindsB kd k && !hasB (bindsF kd tx p k) s) = !((kd == 11 && k % 2 == 1) || (if kd == 11 && decide (0 < k) && k % 2 == 0 then hasB (namesF p) s else tx == s && (kd == 6 || kd == 9 || (k == 1 && (kd == 8 || kd == 12))))) := by
  unfold bindsB bindsF hasB
  have hc : ∀ t : List UInt8, [t].contains s = (t == s) := fun t => by
    rw [Bool.eq_iff_iff, List.contains_iff_mem, List.mem_singleton, beq_iff_eq]; exact eq_comm
  have hk2 : k % 2 = 0 ∨ k % 2 = 1 := by omega
  by_cases h11 : kd = 11
  · subst h11
    rcases hk2 with h | h
    · by_cases h0 : 0 < k
      · simp [h, h0]
      · have : k = 0 := by omega
        subst this; simp
    · simp [h]
  · have e11 : (kd == 11) = false := beq_eq_false_iff_ne.2 h11
    simp only [e11, Bool.not_false, Bool.true_or, Bool.true_and, Bool.false_and, Bool.false_or, Bool.false_eq_true, if_false]
    by_cases h6 : (kd == 6 || kd == 9) = true
    · simp only [h6, if_true, hc, Bool.true_or, Bool.and_true]
    · have h6' : (kd == 6 || kd == 9) = false := by simpa using h6
      simp only [h6', Bool.false_eq_true, if_false, Bool.false_or]
      by_cases h8 : (kd == 8 || kd == 12) = true
      · simp only [h8, if_true, Bool.and_true]
        by_cases h1 : (k == 1) = true
        · simp only [h1, if_true, hc, Bool.and_true]
        · have h1' : (k == 1) = false := by simpa using h1
          simp [h1']
      · have h8' : (kd == 8 || kd == 12) = false := by simpa using h8
        simp [h8']
theorem occL_has (kd : Int) (tx s : List UInt8) : ∀ (xs : List Nd) (p : Nd) (i k : Nat), k < xs.length → (bindsB kd (i + k) && !hasB (bindsF kd tx (if k = 0 then p else xs.getD (k - 1) nd0) (i + k)) s && occF (xs.getD k nd0) s) = true → occL xs kd tx p i s = true
  | [], p, i, k, h, _ => absurd h (by simp)
  | x :: xs, p, i, 0, _, h => by rw [occL, Bool.or_eq_true]; exact .inl h
  | x :: xs, p, i, k + 1, h, h2 => by
    rw [occL, Bool.or_eq_true]
    refine .inr (occL_has kd tx s xs x (i + 1) k (by simpa using h) ?_)
    rw [show i + 1 + k = i + (k + 1) by omega]
    have e : (if k = 0 then x else xs.getD (k - 1) nd0) = (if k + 1 = 0 then p else (x :: xs).getD (k + 1 - 1) nd0) := by
      cases k with
      | zero => simp
      | succ k => simp
    rw [e]; exact h2
theorem occL_hasnt (kd : Int) (tx s : List UInt8) : ∀ (xs : List Nd) (p : Nd) (i : Nat), (∀ k, k < xs.length → (bindsB kd (i + k) && !hasB (bindsF kd tx (if k = 0 then p else xs.getD (k - 1) nd0) (i + k)) s && occF (xs.getD k nd0) s) = false) → occL xs kd tx p i s = false
  | [], p, i, _ => rfl
  | x :: xs, p, i, h => by
    rw [occL, show (bindsB kd i && !(bindsF kd tx p i).contains s && occF x s) = false from h 0 (Nat.zero_lt_succ _), Bool.false_or]
    refine occL_hasnt kd tx s xs x (i + 1) fun k hk => ?_
    have := h (k + 1) (Nat.succ_lt_succ hk)
    rw [show i + 1 + k = i + (k + 1) by omega]
    have e : (if k = 0 then x else xs.getD (k - 1) nd0) = (if k + 1 = 0 then p else (x :: xs).getD (k + 1 - 1) nd0) := by
      cases k with
      | zero => simp
      | succ k => simp
    rw [e]; exact this
/-- Is s free in the kid number k? -/
def kidB (kd : Int) (tx s : List UInt8) (xs : List Nd) (k : Nat) : Bool := bindsB kd k && !hasB (bindsF kd tx (xs.getD (k - 1) nd0) k) s && occF (xs.getD k nd0) s
theorem kidB_eq (kd : Int) (tx s : List UInt8) (xs : List Nd) (k : Nat) : kidB kd tx s xs k = (bindsB kd (0 + k) && !hasB (bindsF kd tx (if k = 0 then nd0 else xs.getD (k - 1) nd0) (0 + k)) s && occF (xs.getD k nd0) s) := by
  unfold kidB
  rw [Nat.zero_add]
  cases k with
  | zero => rw [if_pos rfl, binds_zero kd tx nd0 (xs.getD (0 - 1) nd0)]
  | succ k => rw [if_neg (Nat.succ_ne_zero k)]
def OccC (y : Nd) : Prop := ∀ (w : World) (b : Nat → Prop) (f : Fr) (s : List UInt8), NodeIn w b y f → Calls Try.prog 26 #[ndV y f, .string ⟨s.toArray⟩] w fun e w' => e = .returned (.bool (occF y s)) ∧ Below w.heap.size w w'
set_option maxRecDepth 100000 in
set_option maxHeartbeats 16000000 in
theorem occ_any (x : Nd) : WfN x → OccC x := by
  induction x using Nd.ind with
  | h x ih =>
    intro hw w b f s hn
    have HA : Hid (Ag w (w.alloc (.cells zN(x, f) 25)) b w.heap.size x f) := Ag.start hn
    have HL : Hid (x.ks.length ≤ 100000) := hw.len
    have IH := Lib.hid (fun y hy => ih y hy (hw.ks y hy))
    have HIN := Lib.hid (fun y hy => in_any y (hw.ks y hy))
    have HE := Lib.hid (occF_eq x s)
    clear hn hw ih
    unfold ndV
    obtain ⟨R, hR⟩ : ∃ R, occF x s = R := ⟨_, rfl⟩
    rw [hR] at HE ⊢
    clear hR
    go_enter Try.func26, Try.ntmps26
    go_upto_region 1 with (fail)
    generalize w.alloc (.cells zN(x, f) 25) = w1 at *
    generalize w.heap.size = G at HA ⊢
    have c0 := HA.out.c0
    have c1 := HA.out.c1
    by_cases h4 : x.kd = 4
    · have q4 : (x.kd == 4) = true := beq_iff_eq.2 h4
      have HQ : Hid (R = (x.tx == s)) := by show _ = _; rw [HE.out, if_pos q4]
      clear h4 HE
      go_wp2_with fail
      go_ret
      exact ⟨ret_bq HQ.out.symm, HA.out.bel⟩
    · have q4 : (x.kd == 4) = false := beq_eq_false_iff_ne.2 h4
      have HQ : Hid (R = occL x.ks x.kd x.tx nd0 0 s) := by show _ = _; rw [HE.out, q4]; rfl
      clear h4 HE
      go_wp2_with fail
      clear c0 c1
      go_loopw [5] (fun i wr => ∃ k : Nat, i = .int .i64 (k : Int) ∧ k ≤ x.ks.length ∧ (∀ j, j < k → kidB x.kd x.tx s x.ks j = false) ∧ Ag w wr b G x f) (fun i _ => x.ks.length - (intOf i).toNat)
      case atStart => exact ⟨0, rfl, Nat.zero_le _, fun j hj => absurd hj (by omega), HA.out⟩
      case round =>
        obtain ⟨k, rfl, hk, hall, ha⟩ := hrel
        have HR := Lib.hid ha
        have HALL := Lib.hid hall
        have c5 := ha.c5
        clear ha hall HA
        by_cases hlt : k < x.ks.length
        · have HN : Hid (kidB x.kd x.tx s x.ks k = true → R = true) := fun h => HQ.out.trans (occL_has _ _ _ _ _ _ _ hlt (by rw [← kidB_eq]; exact h))
          have HD : Hid (kidB x.kd x.tx s x.ks k = false → ∀ j, j < k + 1 → kidB x.kd x.tx s x.ks j = false) := fun h j hj => by
            rcases (by omega : j < k ∨ j = k) with h' | rfl
            · exact HALL.out j h'
            · exact h
          have i0 : (0 : Int) ≤ (k : Int) := by omega
          have i1 : (k : Int) < (x.ks.length : Int) := by omega
          have I2 : Hid ((k : Int) < 100000) := by show _ < _; have := HL.out; omega
          have HKB : Hid (kidB x.kd x.tx s x.ks k = ((bindsB x.kd k && !hasB (bindsF x.kd x.tx (x.ks.getD (k - 1) nd0) k) s) && occF (x.ks.getD k nd0) s)) := rfl
          rw [has_binds] at HKB
          have HLT : Hid (k < x.ks.length) := hlt
          clear HALL
          go_upto_region 6 with (fail)
          clear c5 i1 hk hlt
          have c0 := HR.out.c0
          have c1 := HR.out.c1
          obtain ⟨pat, hpat⟩ : ∃ pat, (x.kd == 11 && k % 2 == 1) = pat := ⟨_, rfl⟩
          rw [hpat] at HKB
          have HPAT := Lib.hid hpat
          clear hpat
          go_cut [6] (fun u wx => u = .bool pat ∧ wx = wr)
          case first =>
            by_cases h11 : x.kd = 11
            · have q : (x.kd == 11) = true := beq_iff_eq.2 h11
              have q0 : Hid ((((k : Int) % 2) == 1) = (k % 2 == 1)) := by
                show _ = _; rw [Bool.eq_iff_iff, beq_iff_eq, beq_iff_eq]; omega
              clear h11
              go_wp2_with fail
              go_meet
              exact ⟨congrArg Value.bool (by rw [← HPAT.out, q, Bool.true_and]; exact q0.out), rfl⟩
            · have q : (x.kd == 11) = false := beq_eq_false_iff_ne.2 h11
              clear h11
              go_wp2_with fail
              go_meet
              exact ⟨congrArg Value.bool (by rw [← HPAT.out, q]; rfl), rfl⟩
          case rest =>
            obtain ⟨rfl, rfl⟩ := hcut
            clear c0 c1
            have c0 := HR.out.c0
            have c1 := HR.out.c1
            obtain ⟨bnd, hbnd⟩ : ∃ bnd, (x.tx == s && (x.kd == 6 || x.kd == 9 || (k == 1 && (x.kd == 8 || x.kd == 12)))) = bnd := ⟨_, rfl⟩
            rw [hbnd] at HKB
            have HBE : Hid ((x.tx == s && (x.kd == 6 || x.kd == 9 || ((k : Int) == 1 && (x.kd == 8 || x.kd == 12)))) = bnd) := by
              show _ = _
              rw [← hbnd]
              have e : ((k : Int) == 1) = (k == 1) := by rw [Bool.eq_iff_iff, beq_iff_eq, beq_iff_eq]; omega
              rw [e]
            clear hbnd
            go_upto_region 7 with (fail)
            go_cut [7] (fun u wx => u = .bool bnd ∧ wx = wc)
            case first =>
              obtain ⟨t1, q1⟩ : ∃ t1, (x.tx == s) = t1 := ⟨_, rfl⟩
              obtain ⟨t6, q6⟩ : ∃ t6, (x.kd == 6) = t6 := ⟨_, rfl⟩
              obtain ⟨t9, q9⟩ : ∃ t9, (x.kd == 9) = t9 := ⟨_, rfl⟩
              obtain ⟨tk, qk⟩ : ∃ tk, ((k : Int) == 1) = tk := ⟨_, rfl⟩
              obtain ⟨t8, q8⟩ : ∃ t8, (x.kd == 8) = t8 := ⟨_, rfl⟩
              obtain ⟨tz, qz⟩ : ∃ tz, (x.kd == 12) = tz := ⟨_, rfl⟩
              have HF := HBE.out
              rw [q1, q6, q9, qk, q8, qz] at HF
              have HF2 := Lib.hid HF
              clear HF
              clear HBE
              rcases t1 with _ | _
              · go_wp2_with fail
                go_meet
                exact ⟨congrArg Value.bool HF2.out, rfl⟩
              rcases t6 with _ | _
              · rcases t9 with _ | _
                · rcases tk with _ | _
                  · go_wp2_with fail
                    go_meet
                    exact ⟨congrArg Value.bool HF2.out, rfl⟩
                  · rcases t8 with _ | _
                    · go_wp2_with fail
                      go_meet
                      exact ⟨congrArg Value.bool HF2.out, rfl⟩
                    · go_wp2_with fail
                      go_meet
                      exact ⟨congrArg Value.bool HF2.out, rfl⟩
                · go_wp2_with fail
                  go_meet
                  exact ⟨congrArg Value.bool HF2.out, rfl⟩
              · go_wp2_with fail
                go_meet
                exact ⟨congrArg Value.bool HF2.out, rfl⟩
            case rest =>
              obtain ⟨rfl, rfl⟩ := hcut
              clear HBE c0 c1
              have c0 := HR.out.c0
              have c5 := HR.out.c5
              obtain ⟨b2, hb2⟩ : ∃ b2, (if x.kd == 11 && decide (0 < k) && k % 2 == 0 then hasB (namesF (x.ks.getD (k - 1) nd0)) s else bnd) = b2 := ⟨_, rfl⟩
              rw [hb2] at HKB
              have HB2 := Lib.hid hb2
              clear hb2
              go_upto_region 8 with (fail)
              have HTE : Hid ((x.kd == 11 && (decide ((0 : Int) < (k : Int)) && ((k : Int) % 2 == 0))) = (x.kd == 11 && decide (0 < k) && k % 2 == 0)) := by
                show _ = _
                have e1 : decide ((0 : Int) < (k : Int)) = decide (0 < k) := by
                  rw [Bool.eq_iff_iff, decide_eq_true_eq, decide_eq_true_eq]; omega
                have e2 : ((k : Int) % 2 == 0) = (k % 2 == 0) := by rw [Bool.eq_iff_iff, beq_iff_eq, beq_iff_eq]; omega
                rw [e1, e2, Bool.and_assoc]
              obtain ⟨t3, h3⟩ : ∃ t3, (x.kd == 11 && decide (0 < k) && k % 2 == 0) = t3 := ⟨_, rfl⟩
              rw [h3] at HB2 HTE
              have H3 := Lib.hid h3
              clear h3
              go_cut [70] (fun u wx => u = .bool t3 ∧ wx = wc)
              case first =>
                have HF := HTE.out
                obtain ⟨q1, e1⟩ : ∃ q1, (x.kd == 11) = q1 := ⟨_, rfl⟩
                rw [e1] at HF
                clear HTE c5
                rcases q1 with _ | _
                · have HF2 := Lib.hid HF
                  clear HF
                  go_wp2_with fail
                  go_meet
                  exact ⟨congrArg Value.bool HF2.out, rfl⟩
                by_cases p2 : 0 < k
                · rw [decide_eq_true (show (0 : Int) < (k : Int) by omega)] at HF
                  have HF2 := Lib.hid HF
                  clear HF
                  go_wp2_with fail
                  go_meet
                  exact ⟨congrArg Value.bool HF2.out, rfl⟩
                · rw [decide_eq_false (show ¬ (0 : Int) < (k : Int) by omega)] at HF
                  have HF2 := Lib.hid HF
                  clear HF
                  go_wp2_with fail
                  go_meet
                  exact ⟨congrArg Value.bool HF2.out, rfl⟩
              case rest =>
                obtain ⟨rfl, rfl⟩ := hcut
                rename_i K0 g0
                refine g0 _ _ ?_
                clear g0 K0 HTE c0
                go_cut [7] (fun u wx => u = .bool b2 ∧ Ag w wx b G x f)
                case first =>
                  rcases t3 with _ | _
                  · have HF : Hid (bnd = b2) := HB2.out
                    go_wp2_with fail
                    go_meet
                    exact ⟨congrArg Value.bool HF.out, HR.out⟩
                  · have HF : Hid (hasB (namesF (x.ks.getD (k - 1) nd0)) s = b2) := HB2.out
                    have p2 : 0 < k := by
                      have := H3.out
                      simp only [Bool.and_eq_true, decide_eq_true_eq] at this
                      exact this.1.2
                    obtain ⟨j, hj⟩ : ∃ j, k = j + 1 := ⟨k - 1, by omega⟩
                    have hjl : j < x.ks.length := by have := HLT.out; omega
                    obtain ⟨g, fy, e, _, ⟨x0, x1, x2, x3, x4, x5⟩, ny⟩ := HR.out.n.row.any hjl
                    rw [e] at c5
                    have j1 : ((k : Int) - 1) = (j : Int) := by omega
                    have j2 : (0 : Int) ≤ (j : Int) := by omega
                    have j3 : (j : Int) < (x.ks.length : Int) := by omega
                    have j4 : (j : Int) < 100000 := by have := HL.out; omega
                    have CY := Lib.hid (HIN.out _ (getD_mem hjl) wc b fy s ny)
                    rw [hj, Nat.add_sub_cancel] at HF
                    clear e ny hj hjl p2 i0
                    generalize x.ks.getD j nd0 = y at *
                    unfold ndV at CY
                    go_wp2_with fail
                    refine CY.out.mono ?_
                    rintro e w3 ⟨rfl, b3⟩
                    have HR3 := Lib.hid (HR.out.later b3)
                    clear HR b3 CY x0 x1 x2 x3 x4 x5 c5 j1 j2 j3 j4
                    go_wp2_with fail
                    go_meet
                    exact ⟨congrArg Value.bool HF.out, HR3.out⟩
                case rest =>
                  obtain ⟨rfl, ha⟩ := hcut
                  have HR4 := Lib.hid ha
                  clear ha HR c5 HB2 H3
                  have c5 := HR4.out.c5
                  have i1 : (k : Int) < (x.ks.length : Int) := by have := HLT.out; omega
                  have i2 : (k : Int) < 100000 := I2.out
                  rcases pat with _ | _
                  · rcases b2 with _ | _
                    · have hlt : k < x.ks.length := HLT.out
                      obtain ⟨g, fy, e, _, ⟨x0, x1, x2, x3, x4, x5⟩, ny⟩ := HR4.out.n.row.any hlt
                      rw [e] at c5
                      clear e
                      have CY := Lib.hid (IH.out _ (getD_mem hlt) wc b fy s ny)
                      have HKC : Hid (kidB x.kd x.tx s x.ks k = occF (x.ks.getD k nd0) s) := by show _ = _; rw [HKB.out]; rfl
                      clear ny hlt HKB
                      generalize x.ks.getD k nd0 = y at *
                      unfold ndV at CY
                      go_wp2_with fail
                      refine CY.out.mono ?_
                      rintro e w3 ⟨rfl, b3⟩
                      have HR5 := Lib.hid (HR4.out.later b3)
                      clear HR4 b3 CY x0 x1 x2 x3 x4 x5 c5
                      obtain ⟨sb, hsb⟩ : ∃ sb, occF y s = sb := ⟨_, rfl⟩
                      rw [hsb] at HKC ⊢
                      clear hsb
                      rcases sb with _ | _
                      · have HD2 := Lib.hid (HD.out HKC.out)
                        go_wp2_with fail
                        go_roundw
                        case rel => exact ⟨k + 1, by go_num, by have := HLT.out; omega, HD2.out, HR5.out⟩
                        case measure => simp [intOf]; have := HLT.out; omega
                      · have HS := Lib.hid (HN.out HKC.out)
                        go_wp2_with fail
                        go_ret
                        exact ⟨ret_bq HS.out.symm, HR5.out.bel⟩
                    · have HD2 := Lib.hid (HD.out (by rw [HKB.out]; rfl))
                      go_wp2_with fail
                      go_roundw
                      case rel => exact ⟨k + 1, by go_num, by have := HLT.out; omega, HD2.out, HR4.out⟩
                      case measure => simp [intOf]; have := HLT.out; omega
                  · have HD2 := Lib.hid (HD.out (by rw [HKB.out]; rfl))
                    go_wp2_with fail
                    go_roundw
                    case rel => exact ⟨k + 1, by go_num, by have := HLT.out; omega, HD2.out, HR4.out⟩
                    case measure => simp [intOf]; have := HLT.out; omega
        · have i1 : ¬ (k : Int) < (x.ks.length : Int) := by omega
          have HS : Hid (R = false) := HQ.out.trans (occL_hasnt _ _ _ _ _ _ fun j hj => by rw [← kidB_eq]; exact HALL.out j (by omega))
          go_wp2_with fail
          go_ret
          exact ⟨ret_bq HS.out.symm, HR.out.bel⟩
end Go.Proofs.Ytgjchgmlogbmmaa
/- The walks of layer 11: the document's names free. -/
namespace Go.Proofs.Ytgjchgmlogbmmaa
open Go.RowKit
set_option linter.unusedVariables false
set_option linter.unusedSimpArgs false
attribute [local go_sem ↓] Go.wp_at_zero Go.wp_at_succ

theorem filter_step (p : List UInt8 → Bool) (l : List (List UInt8)) (k : Nat) (h : k < l.length) : (l.take (k + 1)).filter p = if p (l.getD k []) = true then (l.take k).filter p ++ [l.getD k []] else (l.take k).filter p := by
  have e : l.take (k + 1) = l.take k ++ [l.getD k []] := by
    rw [List.take_add_one, List.getD_eq_getElem?_getD, List.getElem?_eq_getElem h]; rfl
  rw [e, List.filter_append]
  by_cases hp : p (l.getD k []) = true
  · rw [if_pos hp, List.filter_cons_of_pos hp]; rfl
  · rw [if_neg hp, List.filter_cons_of_neg hp]; simp
theorem drew_cell2 (w : World) (q : Addr) : w.drew.cell? q = w.cell? q := World.cell?_of_block ((Below.refl (q.block + 1) w).drew.block _ (Nat.lt_succ_self _))
set_option maxRecDepth 100000 in
set_option maxHeartbeats 8000000 in
theorem rfrees_any (x : Nd) (hw : WfN x) (hwt : wtN x ≤ 100000) (w : World) (b : Nat → Prop) (f : Fr) (hb : ∀ a, b a → a < w.heap.size) (hn : NodeIn w b x f) :
    Calls Try.prog 14 #[ndV x f] w (Texts w (rfreeF x)) := by
  have HA : Hid (Ag w (w.alloc (.cells zN(x, f) 25)) b w.heap.size x f) := Ag.start hn
  have CF := Lib.hid (fun (wx : World) (h : Below w.heap.size w wx) (n : NodeIn wx b x f) => all_any x hw wx w.heap.size b f [] none 0 (by simpa using hwt) (OwnT.none _ _) h.size hb n)
  have CO := Lib.hid (occ_any x hw)
  have HLB := Lib.hid (allF_len x [])
  have HWT : Hid (wtN x ≤ 100000) := hwt
  clear hn hb hw hwt
  unfold ndV
  go_enter Try.func14, Try.ntmps14
  go_upto_region 1 with (fail)
  generalize w.alloc (.cells zN(x, f) 25) = w1 at *
  have CF2 := Lib.hid (CF.out w1 HA.out.bel HA.out.n)
  unfold ndV at CF2
  have HBL := Lib.hid HA.out.bel
  obtain ⟨G, hG⟩ : ∃ G, w.heap.size = G := ⟨_, rfl⟩
  have HG := Lib.hid hG
  rw [hG] at HA
  simp only [hG]
  clear hG
  have c0 := HA.out.c0
  have c1 := HA.out.c1
  have c2 := HA.out.c2
  have c3 := HA.out.c3
  have c4 := HA.out.c4
  have c5 := HA.out.c5
  obtain ⟨M, hM⟩ : ∃ M, allF x [] = M := ⟨_, rfl⟩
  rw [hM] at CF2 HLB
  have HR : Hid (rfreeF x = M.filter (occF x)) := by show _ = _; rw [← hM]; rfl
  have HML : Hid (M.length ≤ 100000) := by
    have h1 := HLB.out
    have h2 := HWT.out
    show _ ≤ _
    simp only [List.length_nil] at h1; omega
  clear hM CF HLB
  go_wp2_with fail
  refine CF2.out.mono ?_
  rintro e w2 ⟨A, c, rfl, hg⟩
  have HG2 := Lib.hid hg
  have HST := Lib.hid (own_str hg.own.row)
  have HX2 := Lib.hid (hg.whole HA.out.X (by intro e; cases e))
  have HN2 := Lib.hid (hg.node HA.out.n (fun a _ e => by cases e))
  have HB2 := Lib.hid ((hg.first HBL.out).below (fun g h => by cases h) (Nat.le_refl _))
  clear hg CF2 c0 c1 c2 c3 c4 c5
  go_wp2_with fail
  go_loopw [4, 5] (fun u i wr => ∃ (k : Nat) (A2 : Option Addr) (k2 : Nat), u = .slice A2 ((M.take k).filter (occF x)).length k2 ∧ i = .int .i64 (k : Int) ∧ k ≤ M.length ∧ Grew w2 w.heap.size (.slice none 0 0) ((M.take k).filter (occF x)) (.slice A2 ((M.take k).filter (occF x)).length k2) wr) (fun _ i _ => M.length - (intOf i).toNat)
  case atStart => exact ⟨0, none, 0, by simp, rfl, Nat.zero_le _, by simpa using Grew.refl (OwnT.none w2 w.heap.size)⟩
  case round =>
    obtain ⟨k, A2, k2, rfl, rfl, hk, hg⟩ := hrel
    have HG3 := Lib.hid hg
    clear hg
    by_cases hlt : k < M.length
    · have HFS := Lib.hid (filter_step (occF x) M k hlt)
      have HXR := Lib.hid (HG3.out.whole HX2.out (by intro e; cases e))
      have HNR := Lib.hid (HG3.out.node HN2.out (fun a _ e => by cases e))
      obtain ⟨g, rfl, hgl, x0⟩ := (HG3.out.str HST.out (fun a _ e => by cases e)).at_ hlt
      have i0 : (0 : Int) ≤ (k : Int) := by omega
      have i1 : (k : Int) < (M.length : Int) := by omega
      have I2 : Hid ((k : Int) < 100000) := by show _ < _; have := HML.out; omega
      have HFL : Hid (((M.take k).filter (occF x)).length ≤ 100000) := by
        have h1 := List.length_filter_le (occF x) (M.take k)
        have h2 := HML.out
        show _ ≤ _
        rw [List.length_take] at h1; omega
      obtain ⟨N, hN⟩ : ∃ N, (M.take k).filter (occF x) = N := ⟨_, rfl⟩
      rw [hN] at HFS HG3 HFL ⊢
      have HNN := Lib.hid hN
      clear hN
      have X0 := Lib.hid x0
      have HTX : Hid (∀ t, M.getD k [] = t → (M.take (k + 1)).filter (occF x) = if occF x t = true then N ++ [t] else N) := fun t ht => by rw [← ht]; exact HFS.out
      generalize M.getD k [] = t at *
      have HTX2 := Lib.hid (HTX.out t rfl)
      clear x0 HFS HTX
      go_upto_region 6 with (fail)
      go_cut [6] (fun u wx => u = .bool (occF x t) ∧ Below wr.heap.size wr wx)
      case first =>
        refine region_Z (fun W => Whole W G 25 (ndL x f).toArray ∧ W.cell? ⟨g, k, none⟩ = some (.string ⟨t.toArray⟩)) (fun i => false) (by kernel_rfl) ⟨HXR.out.below (Below.refl _ _).drew HXR.out.lt, (drew_cell2 _ _).trans X0.out⟩ (fun hHeld => ?_)
        ztki 0 7
        · (intro w hSw; (try dsimp only at hSw); have u0 := hSw.1.cell 0; have u1 := hSw.1.cell 1; have u2 := hSw.1.cell 2; have u3 := hSw.1.cell 3; have u4 := hSw.1.cell 4; have u5 := hSw.1.cell 5; have u6 := hSw.2; simp only [ndL, List.getElem?_toArray, List.getElem?_cons_zero, List.getElem?_cons_succ] at u0 u1 u2 u3 u4 u5; clear hSw; go_simp; try with_reducible rfl)
        zput
        ztki 1 7
        · (intro w hSw; (try dsimp only at hSw); have u0 := hSw.1.cell 0; have u1 := hSw.1.cell 1; have u2 := hSw.1.cell 2; have u3 := hSw.1.cell 3; have u4 := hSw.1.cell 4; have u5 := hSw.1.cell 5; have u6 := hSw.2; simp only [ndL, List.getElem?_toArray, List.getElem?_cons_zero, List.getElem?_cons_succ] at u0 u1 u2 u3 u4 u5; clear hSw; go_simp; try with_reducible rfl)
        zput
        ztki 2 7
        · (intro w hSw; (try dsimp only at hSw); have u0 := hSw.1.cell 0; have u1 := hSw.1.cell 1; have u2 := hSw.1.cell 2; have u3 := hSw.1.cell 3; have u4 := hSw.1.cell 4; have u5 := hSw.1.cell 5; have u6 := hSw.2; simp only [ndL, List.getElem?_toArray, List.getElem?_cons_zero, List.getElem?_cons_succ] at u0 u1 u2 u3 u4 u5; clear hSw; go_simp; try with_reducible rfl)
        zput
        ztki 3 7
        · (intro w hSw; (try dsimp only at hSw); have u0 := hSw.1.cell 0; have u1 := hSw.1.cell 1; have u2 := hSw.1.cell 2; have u3 := hSw.1.cell 3; have u4 := hSw.1.cell 4; have u5 := hSw.1.cell 5; have u6 := hSw.2; simp only [ndL, List.getElem?_toArray, List.getElem?_cons_zero, List.getElem?_cons_succ] at u0 u1 u2 u3 u4 u5; clear hSw; go_simp; try with_reducible rfl)
        zput
        ztki 4 7
        · (intro w hSw; (try dsimp only at hSw); have u0 := hSw.1.cell 0; have u1 := hSw.1.cell 1; have u2 := hSw.1.cell 2; have u3 := hSw.1.cell 3; have u4 := hSw.1.cell 4; have u5 := hSw.1.cell 5; have u6 := hSw.2; simp only [ndL, List.getElem?_toArray, List.getElem?_cons_zero, List.getElem?_cons_succ] at u0 u1 u2 u3 u4 u5; clear hSw; go_simp; try with_reducible rfl)
        zput
        zstep 5
        go_simp
        go_at_call 26
        have CO2 := Lib.hid (CO.out wr.drew b f t (HNR.out.later (Below.refl _ _).drew (Nat.le_refl _)))
        unfold ndV at CO2
        refine CO2.out.mono ?_
        rintro e w4 ⟨rfl, b4⟩
        have B4 := Lib.hid ((Below.refl wr.heap.size wr).drew.trans b4)
        have HX4 := Lib.hid (HXR.out.below B4.out HXR.out.lt)
        have X4 : Hid (w4.cell? ⟨g, k, none⟩ = some (.string ⟨t.toArray⟩)) := (World.cell?_of_block (B4.out.block g hgl)).trans X0.out
        refine hK.out _ _ (fun _ => ⟨HX4.out, X4.out⟩) (fun _ => ?_)
        clear hK K b4 CO2
        zput
        zstep 6
        go_simp
        refine hK.out _ _ (fun _ => ⟨HX4.out, X4.out⟩) (fun _ => ?_)
        clear hK K
        zput
        zdone
        go_wp2_with fail
        go_meet
        exact ⟨rfl, B4.out⟩
      case rest =>
        obtain ⟨rfl, b5⟩ := hcut
        have HG5 := Lib.hid (HG3.out.later b5 (Nat.le_refl _))
        have x0 : wc.cell? ⟨g, k, none⟩ = some (.string ⟨t.toArray⟩) := (World.cell?_of_block (b5.block g hgl)).trans X0.out
        clear b5 HG3
        have i2 : (k : Int) < 100000 := I2.out
        obtain ⟨ob, hob⟩ : ∃ ob, occF x t = ob := ⟨_, rfl⟩
        rw [hob] at HTX2 ⊢
        clear hob
        rcases ob with _ | _
        · have HTX3 : Hid ((M.take (k + 1)).filter (occF x) = N) := HTX2.out
          go_wp2_with fail
          go_roundw
          case rel => exact ⟨k + 1, A2, k2, by rw [HTX3.out], by go_num, by omega, by rw [HTX3.out]; exact HG5.out⟩
          case measure => simp [intOf]; omega
        · have HTX3 : Hid ((M.take (k + 1)).filter (occF x) = N ++ [t]) := HTX2.out
          have i9 : N.length ≤ 100000 := HFL.out
          go_wp2_with (at_builtin; refine list_app ty_str (v := .slice A2 N.length k2) rfl _ _ rfl rfl (own_more_alloc HG5.out.own.row (.cells #[strV t] 9)) wc.heap.size 1 [strV t] rfl (Whole.made wc 9 _) rfl (by simp [strV, Value.oneCell']) (by decide) (by omega) (by decide) (by have := HB2.out.size; have := HG5.out.size; simp; omega) ?_; intro gv cv wd hap; have HAP := Lib.hid (app_own HG5.out.own hap); clear hap)
          have HG7 := Lib.hid (HG5.out.trans HAP.out)
          have e1 : (N ++ [t]).length = N.length + 1 := by simp
          go_roundw
          case rel => exact ⟨k + 1, some ⟨gv, 0, none⟩, cv, by rw [HTX3.out, e1], by go_num, by omega, by rw [HTX3.out]; exact HG7.out⟩
          case measure => simp [intOf]; omega
    · have i1 : ¬ (k : Int) < (M.length : Int) := by omega
      have HTK : Hid (M.take k = M) := List.take_of_length_le (by omega)
      rw [HTK.out] at HG3 ⊢
      go_wp2_with fail
      refine bodyPost_ret (v := .slice A2 (M.filter (occF x)).length k2) (by simp [results, Try.results14, go_sem]) rfl ?_
      exact ⟨A2, k2, by rw [HR.out], by rw [HR.out]; exact HG3.out.own, HB2.out.trans (HG3.out.below (fun g h => by cases h) HB2.out.size)⟩
end Go.Proofs.Ytgjchgmlogbmmaa
/- The map from kinds and numbers of kids to functions. -/
namespace Go.Proofs.Ytgjchgmlogbmmaa
open Go.RowKit
open Go.Maps (Keyed)
open Go.ChangeMaps Go.MapKept
set_option linter.unusedVariables false

theorem laidOut11 : laidOutB Try.prog = true := by kernel_rfl
theorem row48 : (48 : TypeId) < Try.prog.types.size := of_decide_eq_true (by kernel_rfl)
theorem wide48 : (match Try.prog.underlying 48 with | some (.array _ _) | some (.struct _) => true | _ => false) = true := by rw [Try.underlying48]
theorem keyed48 : Keyed Try.prog 48 := Keyed.of_law (deep_law_laid laidOut11 (m := 2) (by omega) row48 (by kernel_rfl) wide48)
def pairV (p q : Int) : Value := .agg #[.int .i64 p, .int .i64 q]
theorem key48 (p q : Int) (hp : 0 ≤ p ∧ p ≤ 1000000) (hq : 0 ≤ q ∧ q ≤ 1000000) : ∃ l, keyOf Try.prog 48 (pairV p q) = some l := by
  have e1 : Try.prog.keyType 48 = true := by kernel_rfl
  have e2 : Try.prog.cellsOf 48 = 2 := by kernel_rfl
  have e3 : Try.prog.cellsOf 3 = 1 := by kernel_rfl
  have h1 : (Lit.int .i64 p).wf = true := by
    have a : IntKind.i64.min = -9223372036854775808 := rfl
    have b : IntKind.i64.max = 9223372036854775807 := rfl
    simp [Lit.wf, a, b]; omega
  have h2 : (Lit.int .i64 q).wf = true := by
    have a : IntKind.i64.min = -9223372036854775808 := rfl
    have b : IntKind.i64.max = 9223372036854775807 := rfl
    simp [Lit.wf, a, b]; omega
  have e4 : (pairV p q).formed Try.prog 48 = true := by simp [pairV, Value.formed, Try.underlying48, e2]
  unfold keyOf
  simp only [Try.underlying48, e1, e4, Bool.true_and, if_true]
  obtain ⟨n, hn⟩ : ∃ n, Try.prog.types.size = n + 1 := ⟨Try.prog.types.size - 1, by have h : (48 : Nat) < Try.prog.types.size := row48; omega⟩
  rw [hn]
  simp [Program.keyLits, Try.underlying48, Try.underlying3, e2, e3, pairV, Value.cells, h1, h2, List.range_succ]
def fnV (n : Nat) : Value := .func (.func n) #[] #[]
/-- Block r is a map of just these. -/
def MapIs (w : World) (r : Nat) (L : List (Int × Int × Nat)) : Prop := ∃ es clock, w.heap[r]? = some (.map es clock) ∧ es.toList.map (fun e => (e.key, e.val)) = L.map fun t => (pairV t.1 t.2.1, fnV t.2.2)
def SmallK (L : List (Int × Int × Nat)) : Prop := ∀ t ∈ L, (0 ≤ t.1 ∧ t.1 ≤ 1000000) ∧ 0 ≤ t.2.1 ∧ t.2.1 ≤ 1000000
theorem pair_inj {p q a b : Int} (h : pairV p q = pairV a b) : p = a ∧ q = b := by
  unfold pairV at h
  simpa using h
theorem keys_of {es : Array MapEntry} {L : List (Int × Int × Nat)} (h : es.toList.map (fun e => (e.key, e.val)) = L.map fun t => (pairV t.1 t.2.1, fnV t.2.2)) (hs : SmallK L) : ∀ e ∈ es.toList, ∃ t ∈ L, e.key = pairV t.1 t.2.1 ∧ e.val = fnV t.2.2 := fun e he => by
  have : (e.key, e.val) ∈ es.toList.map (fun e => (e.key, e.val)) := List.mem_map.2 ⟨e, he, rfl⟩
  rw [h] at this
  obtain ⟨t, ht, e2⟩ := List.mem_map.1 this
  simp only [Prod.mk.injEq] at e2
  exact ⟨t, ht, e2.1.symm, e2.2.symm⟩
/-- What a key means. -/
theorem MapIs.look {w : World} {r : Nat} {L : List (Int × Int × Nat)} (h : MapIs w r L) (hs : SmallK L) (p q : Int) (hp : 0 ≤ p ∧ p ≤ 1000000) (hq : 0 ≤ q ∧ q ≤ 1000000) :
    ((Instr.lookup 46 (.map (some r)) (pairV p q) false).run Try.prog w = .ok .nilFunc w ∧ ∀ t ∈ L, ¬ (t.1 = p ∧ t.2.1 = q)) ∨ ∃ t ∈ L, t.1 = p ∧ t.2.1 = q ∧ (Instr.lookup 46 (.map (some r)) (pairV p q) false).run Try.prog w = .ok (fnV t.2.2) w := by
  obtain ⟨es, clock, hb, hL⟩ := h
  obtain ⟨lk, hk⟩ := key48 p q hp hq
  have hz : (zeroValue 45).run Try.prog w = .ok .nilFunc w := by kernel_rfl
  have hks := keys_of hL hs
  rcases keyed48.find w hk es.toList (fun e he => by
    obtain ⟨t, ht, e1, _⟩ := hks e he
    rw [e1]; exact key48 _ _ (hs t ht).1 (hs t ht).2) with ⟨h1, h2⟩ | ⟨j, e0, h1, h2, h3⟩
  · refine .inl ⟨by simp [Instr.lookup, run_underlying Try.underlying46, MapKept.run_getObj_map hb, keyed48.check w _ hk, h1, hz, Result.andThen], fun t ht e => ?_⟩
    have : (pairV t.1 t.2.1, fnV t.2.2) ∈ L.map fun t => (pairV t.1 t.2.1, fnV t.2.2) := List.mem_map.2 ⟨t, ht, rfl⟩
    rw [← hL] at this
    obtain ⟨x, hx, e2⟩ := List.mem_map.1 this
    simp only [Prod.mk.injEq] at e2
    exact h2 x hx (by rw [e2.1, e.1, e.2])
  · have hm := List.mem_of_getElem? h2
    obtain ⟨t, ht, e1, e2⟩ := hks e0 hm
    have hpq := pair_inj (e1.symm.trans h3)
    exact .inr ⟨t, ht, hpq.1, hpq.2, by simp [Instr.lookup, run_underlying Try.underlying46, MapKept.run_getObj_map hb, keyed48.check w _ hk, h1, e2, Result.andThen]⟩
/-- A key more. -/
theorem MapIs.store {w : World} {r : Nat} {L : List (Int × Int × Nat)} (h : MapIs w r L) (hs : SmallK L) (p q : Int) (n : Nat) (hp : 0 ≤ p ∧ p ≤ 1000000) (hq : 0 ≤ q ∧ q ≤ 1000000) (hnew : ∀ t ∈ L, ¬ (t.1 = p ∧ t.2.1 = q)) :
    ∃ w', (Instr.mapUpdate 46 (.map (some r)) (pairV p q) (fnV n)).run Try.prog w = .ok () w' ∧ MapIs w' r (L ++ [(p, q, n)]) ∧ w.grownBy w' (some r) := by
  obtain ⟨es, clock, hb, hL⟩ := h
  obtain ⟨lk, hk⟩ := key48 p q hp hq
  have hks := keys_of hL hs
  rcases keyed48.find w hk es.toList (fun e he => by
    obtain ⟨t, ht, e1, _⟩ := hks e he
    rw [e1]; exact key48 _ _ (hs t ht).1 (hs t ht).2) with ⟨h1, h2⟩ | ⟨j, e0, h1, h2, h3⟩
  · refine ⟨setBlock w r (.map (es.push { key := pairV p q, val := fnV n, born := clock }) (clock + 1)), ?_, ⟨_, _, heap_setBlock_same hb _, ?_⟩, ⟨rfl, rfl, rfl, by simp [setBlock], fun i _ hi => heap_setBlock_other hb _ (fun e => hi (by rw [e]))⟩⟩
    · simp [Instr.mapUpdate, run_underlying Try.underlying46, MapKept.run_getObj_map hb, keyed48.check w _ hk, h1, MapKept.run_setObj_map _ hb, Result.andThen, setBlock]
    · simp [hL]
  · have hm := List.mem_of_getElem? h2
    obtain ⟨t, ht, e1, e2⟩ := hks e0 hm
    exact absurd (pair_inj (e1.symm.trans h3)) (hnew t ht)
def subL : List Nat → List (List Nat)
  | [] => [[]]
  | x :: xs => subL xs ++ (subL xs).map (x :: ·)
def insI : List Nat := [2, 4, 6, 8, 10]
/-- Which operations are done, where those of rem are left. -/
def insB (rem : List Nat) : Array Bool := #[true, true, !rem.contains 2, true, !rem.contains 4, true, !rem.contains 6, true, !rem.contains 8, true, !rem.contains 10, false, false]
def insT : Nat → Int × Int × Nat
  | 2 => (13, 2, 42) | 4 => (10, 3, 43) | 6 => (8, 2, 44) | 8 => (9, 2, 44) | _ => (14, 2, 45)
theorem ins_sub : ∀ rem ∈ subL insI, ∀ i ∈ rem, rem.erase i ∈ subL insI ∧ i ∈ insI ∧ (rem.erase i).length + 1 = rem.length ∧ (insB rem).setIfInBounds i true = insB (rem.erase i) ∧ (insB rem).getD i true = false := by decide
theorem ins_mem : ∀ rem ∈ subL insI, ∀ i ∈ rem, ∀ j ∈ insI, j ∉ rem.erase i ↔ (j ∉ rem ∨ j = i) := by decide
theorem ins_key : ∀ i ∈ insI, ∀ j ∈ insI, (insT i).1 = (insT j).1 ∧ (insT i).2.1 = (insT j).2.1 → i = j := by decide
theorem ins_small : ∀ i ∈ insI, (0 ≤ (insT i).1 ∧ (insT i).1 ≤ 1000000) ∧ 0 ≤ (insT i).2.1 ∧ (insT i).2.1 ≤ 1000000 := by decide
section
variable {ops : Array Oper} {Q : Exit → Act → World → Prop} {md : Region.Mode} {S : World → Prop} {z : Nat → Bool}
/-- The stores into the map, in any order. -/
theorem ins_loop {a : Act} {r B m : Nat} {w0 : World} (hS : ∀ w, S w) (hB : B ≤ r)
    (hop : ∀ i ∈ insI, ∃ o x y v, ops[i]? = some o ∧ o.guard = none ∧ o.dst = none ∧ o.op = .insert 46 x y v ∧ a.eval x = .map (some r) ∧ a.eval y = pairV (insT i).1 (insT i).2.1 ∧ a.eval v = fnV (insT i).2.2)
    (hr : ∀ rem ∈ subL insI, rem ≠ [] → Region.ready md ops (insB rem) = rem)
    (done : ∀ L w, MapIs w r L → (∀ t, t ∈ L ↔ ∃ i ∈ insI, t = insT i) → Below B w0 w → anyZ Try.prog md ops Q S z m (insB []) a w) :
    ∀ n rem, rem.length = n → rem ∈ subL insI → ∀ L w, MapIs w r L → (∀ t, t ∈ L ↔ ∃ i ∈ insI, i ∉ rem ∧ t = insT i) → Below B w0 w → anyZ Try.prog md ops Q S z (m + n) (insB rem) a w
  | 0, rem, hn, hm, L, w, hM, hL, hb => by
    have : rem = [] := List.length_eq_zero_iff.1 hn
    subst this
    exact done L w hM (fun t => by rw [hL t]; simp) hb
  | n + 1, rem, hn, hm, L, w, hM, hL, hb => by
    have hne : rem ≠ [] := fun e => by rw [e] at hn; cases hn
    refine ⟨fun e => absurd ((hr rem hm hne).symm.trans e) hne, fun i hi => ?_⟩
    rw [hr rem hm hne] at hi
    obtain ⟨s1, s2, s3, s4, _⟩ := ins_sub rem hm i hi
    obtain ⟨o, x, y, v, ho, hg, hd, hop2, hx, hy, hv⟩ := hop i s2
    have hsm : SmallK L := fun t ht => by
      obtain ⟨j, hj, _, rfl⟩ := (hL t).1 ht
      exact ins_small j hj
    have hnew : ∀ t ∈ L, ¬ (t.1 = (insT i).1 ∧ t.2.1 = (insT i).2.1) := fun t ht e => by
      obtain ⟨j, hj, hjr, rfl⟩ := (hL t).1 ht
      have := ins_key j hj i s2 e
      subst this
      exact hjr hi
    obtain ⟨w', hrun, hM', hgr⟩ := hM.store hsm (insT i).1 (insT i).2.1 (insT i).2.2 (ins_small i s2).1 (ins_small i s2).2 hnew
    refine wpOp_step ho (fun K' hK => ?_)
    have hw : Region.wanted o (yielded ops a.tmps) = true := by simp [Region.wanted, hg]
    rw [if_pos hw]
    unfold Oper.wp
    simp [execOp, hop2, hx, hy, hv, hrun, Result.andThen]
    refine hK _ _ ⟨fun _ => hS _, ?_⟩
    rw [s4, hd]
    refine ins_loop hS hB hop hr done n (rem.erase i) (by omega) s1 _ w' hM' (fun t => ?_) (hb.trans ⟨hgr.os, hgr.tape, hgr.output, hgr.size, fun k hk => hgr.block k (Nat.lt_of_lt_of_le hk (Nat.le_of_lt (Nat.lt_of_le_of_lt hB ?_))) (by simp; omega)⟩)
    · rw [List.mem_append, List.mem_singleton, hL t]
      constructor
      · rintro (⟨j, hj, hjr, rfl⟩ | rfl)
        · exact ⟨j, hj, (ins_mem rem hm i hi j hj).2 (.inl hjr), rfl⟩
        · exact ⟨i, s2, (ins_mem rem hm i hi i s2).2 (.inr rfl), rfl⟩
      · rintro ⟨j, hj, hjr, rfl⟩
        rcases (ins_mem rem hm i hi j hj).1 hjr with h | rfl
        · exact .inl ⟨j, hj, h, rfl⟩
        · exact .inr rfl
    · obtain ⟨es, clock, hbk, _⟩ := hM
      exact (Array.getElem?_eq_some_iff.1 hbk).1
end
end Go.Proofs.Ytgjchgmlogbmmaa
/- The walks of layer 11: the map of folders. -/
namespace Go.Proofs.Ytgjchgmlogbmmaa
open Go.RowKit
set_option linter.unusedVariables false
set_option linter.unusedSimpArgs false
attribute [local go_sem ↓] Go.wp_at_zero Go.wp_at_succ

theorem heap_made (w : World) : ((w.drew).alloc (.map #[] 0)).heap[w.heap.size]? = some (.map #[] 0) := heap_alloc_new w.drew _
theorem ready_all {md : Region.Mode} {ops : Array Oper} (h : ((subL insI).all fun rem => rem.isEmpty || (Region.ready md ops (insB rem) == rem)) = true) (rem : List Nat) (hr : rem ∈ subL insI) (hne : rem ≠ []) : Region.ready md ops (insB rem) = rem := by
  have := List.all_eq_true.1 h rem hr
  simp only [Bool.or_eq_true, List.isEmpty_iff, beq_iff_eq] at this
  exact this.resolve_left hne
def Folders (w w' : World) (r : Nat) : Prop := (∃ L, MapIs w' r L ∧ ∀ t, t ∈ L ↔ ∃ i ∈ insI, t = insT i) ∧ Below w.heap.size w w'
set_option maxRecDepth 100000 in
set_option maxHeartbeats 8000000 in
theorem folders_any (w : World) : Calls Try.prog 23 #[] w fun e w' => ∃ r, e = .returned (.map (some r)) ∧ Folders w w' r := by
  go_enter Try.func23, Try.ntmps23
  go_upto_region 1 with (fail)
  refine region_Z (fun W => True) (fun i => false) (by kernel_rfl) trivial (fun hHeld => ?_)
  ztaki 1 13
  ztaki 3 13
  ztaki 5 13
  ztaki 7 13
  ztaki 9 13
  zstep 0
  go_simp
  zgo
  clear hK K
  zput
  show anyZ _ _ _ _ _ _ (2 + 5) (insB insI) _ _
  refine ins_loop (m := 2) (r := w.heap.size) (B := w.heap.size) (w0 := w) (fun _ => trivial) (Nat.le_refl _) (fun i hi => ?_) (fun rem hr hne => ?_) (fun L wf hM hL hb => ?_) 5 insI rfl (by decide) [] _ ⟨#[], 0, heap_made w, rfl⟩ (fun t => ?_) ((Below.refl _ _).drew.alloc (Nat.le_refl _) _)
  · simp only [insI, List.mem_cons, List.not_mem_nil, or_false] at hi
    rcases hi with rfl | rfl | rfl | rfl | rfl
    all_goals exact ⟨_, _, _, _, rfl, rfl, rfl, rfl, rfl, rfl, rfl⟩
  · exact ready_all (by kernel_rfl) rem hr hne
  · zstep 11
    go_simp
    zgo
    clear hK K
    zput
    zstep 12
    go_simp
    zgo
    clear hK K
    zput
    zdone
    go_wp2_with fail
    refine bodyPost_ret (v := .map (some w.heap.size)) (by simp [results, Try.results23, go_sem]) rfl ?_
    exact ⟨_, rfl, ⟨L, hM, hL⟩, hb⟩
  · constructor
    · intro h; cases h
    · rintro ⟨i, hi, hn, _⟩; exact absurd hi hn
end Go.Proofs.Ytgjchgmlogbmmaa
