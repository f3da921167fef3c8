/- The walks of layer 13: the code of bytes, by the document. -/
import Derived.Test.YtffpkmoaahkfmaaPlainD
import Derived.Test.YtffpkmoaahkfmaaWalkP
namespace Go.Proofs.Ytffpkmoaahkfmaa
open Go.RowKit
set_option linter.unusedVariables false
attribute [local go_sem ↓] Go.wp_at_zero Go.wp_at_succ

theorem mag_iff (l : List UInt8) : (nv 1 ((l, false) : St) = 83 ∧ nv 1 (nx 1 ((l, false) : St)) = 77 ∧ nv 1 (nx 1 (nx 1 ((l, false) : St))) = 49) ↔ l.take 3 = magL := by
  match l with
  | [] => exact ⟨fun h => absurd h.1 (by decide), fun h => absurd h (by decide)⟩
  | [a] => exact ⟨fun h => by have h2 : (0 : Int) = 77 := h.2.1; omega, fun h => by have := congrArg List.length h; simp [magL] at this⟩
  | [a, b] => exact ⟨fun h => by have h2 : (0 : Int) = 49 := h.2.2; omega, fun h => by have := congrArg List.length h; simp [magL] at this⟩
  | a :: b :: d :: t =>
    have h0 := nx1_cons (l := a :: b :: d :: t) (i := 0) (sh := false) (by simp)
    have h1 := nx1_cons (l := a :: b :: d :: t) (i := 1) (sh := false) (by simp)
    have h2 := nx1_cons (l := a :: b :: d :: t) (i := 2) (sh := false) (by simp)
    change nx 1 (a :: b :: d :: t, false) = _ ∧ nv 1 (a :: b :: d :: t, false) = _ at h0
    rw [h0.1, h0.2]
    rw [h1.1, h1.2, h2.2]
    show (((a.toNat : Int) = 83) ∧ ((b.toNat : Int) = 77) ∧ ((d.toNat : Int) = 49)) ↔ [a, b, d] = magL
    have ha : (a.toNat : Int) = 83 ↔ a = 83 := ⟨fun h => UInt8.toNat_inj.1 (by show a.toNat = 83; omega), fun h => by rw [h]; rfl⟩
    have hb : (b.toNat : Int) = 77 ↔ b = 77 := ⟨fun h => UInt8.toNat_inj.1 (by show b.toNat = 77; omega), fun h => by rw [h]; rfl⟩
    have hd : (d.toNat : Int) = 49 ↔ d = 49 := ⟨fun h => UInt8.toNat_inj.1 (by show d.toNat = 49; omega), fun h => by rw [h]; rfl⟩
    rw [ha, hb, hd]
    simp [magL]
theorem mag_rest {l : List UInt8} (h : l.take 3 = magL) : nx 1 (nx 1 (nx 1 ((l, false) : St))) = (l.drop 3, false) := by
  have hl : 3 ≤ l.length := by
    have := congrArg List.length h
    rw [List.length_take] at this; simp [magL] at this; omega
  have h0 := (nx1_cons (l := l) (i := 0) (sh := false) (by omega)).1
  have h1 := (nx1_cons (l := l) (i := 1) (sh := false) (by omega)).1
  have h2 := (nx1_cons (l := l) (i := 2) (sh := false) (by omega)).1
  rw [List.drop_zero] at h0
  rw [h0, h1, h2]
theorem hInt_len (s : List Int × St) (n : Nat) : (iter hInt n s).1.length = s.1.length + n := by
  induction n with
  | zero => rfl
  | succ n ih => show ((iter hInt n s).1 ++ [_]).length = _; rw [List.length_append, ih]; rfl
theorem hBdy_code {s : St} {n : Nat} {b : Bdy} (h : b ∈ (iter hBdy n ([], s)).1) : b.code.length ≤ 9223372036854775807 := by
  induction n with
  | zero => cases h
  | succ n ih =>
    have h' : b ∈ (iter hBdy n ([], s)).1 ++ [_] := h
    rcases List.mem_append.1 h' with h1 | h1
    · exact ih h1
    · simp at h1; rw [h1]
      have := hIns_len ([], nx 2 (s3 (iter hBdy n ([], s)).2)) (pv (s3 (iter hBdy n ([], s)).2)).toNat
      have hb := pv_bd (s3 (iter hBdy n ([], s)).2)
      show (hCode _).1.length ≤ _
      unfold hCode
      simp at this; omega
theorem drop_empty {l : List UInt8} {n i : Nat} (hl : l.length = n) (hi : i ≤ n) : (l.drop i).isEmpty = decide (i = n) := by
  by_cases h : i = n
  · rw [decide_eq_true h, List.drop_eq_nil_of_le (by omega)]; rfl
  · rw [decide_eq_false h, List.isEmpty_eq_false_iff]
    intro h'
    have := congrArg List.length h'
    rw [List.length_drop] at this; simp at this; omega
theorem decB_mag {l : List UInt8} (h : l.take 3 ≠ magL) : decB l = false := by
  have hs : short0 l = true := by
    have hb : (l.take 3 != magL) = true := by simpa using h
    unfold short0; rw [hb, Bool.or_true]
  have h1 : (gCod l).2.2 = true := by
    unfold gCod
    dsimp only
    have hst : (st0 l).2 = true := hs
    have h2 : (nx 1 (st0 l)).2 = true := by
      rcases hq : (nx 1 (st0 l)).2 with _ | _
      · have := (nx_false (wd := 1) hq).1; rw [hst] at this; cases this
      · rfl
    exact gBdys_true (gTexts_true (gInts_true h2))
  unfold decB; rw [h1]; simp
section
variable {w0 wo w w' : World} {B : Nat} {g : Arg} {s s' : St} {cs : Array Value} {k l st cv : Value} {is : List Ins}
theorem DecR.far (h : DecR w0 B g s cs w) {p : Addr} (hp : B + 1 + 1 + 1 ≤ p.block) (u : Value) : DecR w0 B g s cs (w.setCell p u) :=
  ⟨h.rd.keep (fun _ k => k.far (by omega) _) ((Below.refl _ _).setCell (by omega) _),
    h.below.setCell (by omega) _, h.res.far (by omega) _, h.box.far (by omega) _, by have := h.size; simp [World.setCell]; omega⟩
theorem InR.put (h : InR w0 wo B g s cs k l st cv is w) (i : Nat) (u : Value) {k' l' st' : Value} (hc : (#[k, l, st, cv] : Array Value).setIfInBounds i u = #[k', l', st', cv]) : InR w0 wo B g s cs k' l' st' cv is (w.setCell ⟨wo.heap.size, i, none⟩ u) :=
  ⟨h.dec.far (p := ⟨wo.heap.size, i, none⟩) h.low _, h.kept.put (p := ⟨wo.heap.size, i, none⟩) (Nat.le_refl _) _, by rw [← hc]; exact h.box.put i u, own_setCell h.own (fun hh => by have := (h.own.lt _ hh).1; simp at this; omega) u, by simpa [World.setCell] using h.size, h.low⟩
end
set_option maxRecDepth 100000 in
set_option maxHeartbeats 4000000 in
theorem rdecode_any (w : World) (A : Option Addr) (n c : Nat) (l : List UInt8) (hn : n ≤ c) (hc : c ≤ maxLen) (hb : BytesAt w w.heap.size A n l) :
    Calls Try.prog 20 #[.slice A n c] w fun e w' => ∃ FA fn fc IA inn ic TA tn tc z, e = .returned (.tuple #[.agg #[.slice FA fn fc, .slice IA inn ic, .slice TA tn tc, .int .i64 z], .int .i64 (decE l)]) ∧ CodAt w' w'.heap.size (.agg #[.slice FA fn fc, .slice IA inn ic, .slice TA tn tc, .int .i64 z]) (decC l) ∧ Below w.heap.size w w' := by
  have HBY := Lib.hid hb
  have HL := Lib.hid hb.1
  have HCM := Lib.hid hc
  have hcm : c ≤ 9223372036854775807 := by unfold maxLen at hc; exact hc
  clear hc hb
  have HS0 : Hid (((w.alloc (.cells #[.slice none 0 0, .slice none 0 0, .slice none 0 0, .int .i64 0] 26)).alloc (.cells #[.slice A n c, .int .i64 0, .bool false] 60)).heap.size = w.heap.size + 1 + 1) := by show _ = _; simp
  have HB0 : Hid (Below w.heap.size w ((w.alloc (.cells #[.slice none 0 0, .slice none 0 0, .slice none 0 0, .int .i64 0] 26)).alloc (.cells #[.slice A n c, .int .i64 0, .bool false] 60))) := ((Below.refl _ _).alloc (Nat.le_refl _) _).alloc (by simp) _
  have HR0 : Hid (Whole ((w.alloc (.cells #[.slice none 0 0, .slice none 0 0, .slice none 0 0, .int .i64 0] 26)).alloc (.cells #[.slice A n c, .int .i64 0, .bool false] 60)) w.heap.size 26 #[.slice none 0 0, .slice none 0 0, .slice none 0 0, .int .i64 0]) := (Whole.made _ _ _).alloc _
  have HRD0 : Hid (RdR w.heap.size ⟨A, n, c, l⟩ (l, false) ((w.alloc (.cells #[.slice none 0 0, .slice none 0 0, .slice none 0 0, .int .i64 0] 26)).alloc (.cells #[.slice A n c, .int .i64 0, .bool false] 60))) := by
    refine ⟨⟨0, ?_, bytes_below HBY.out HB0.out, Nat.zero_le _, by simp, hn, HCM.out⟩, by omega⟩
    have := Whole.made (w.alloc (.cells #[.slice none 0 0, .slice none 0 0, .slice none 0 0, .int .i64 0] 26)) 60 #[.slice A n c, .int .i64 0, .bool false]
    simpa using this
  clear HBY
  go_enter Try.func20, Try.ntmps20
  go_wp2_with fail
  generalize ((w.alloc (.cells #[.slice none 0 0, .slice none 0 0, .slice none 0 0, .int .i64 0] 26)).alloc (.cells #[.slice A n c, .int .i64 0, .bool false] 60)) = wz at *
  refine (one_any _ _ _ _ _ _ _ _ HRD0.out).mono ?_
  rintro e w1 ⟨rfl, hr1, ho1⟩
  have H1 := Lib.hid hr1
  have O1 := Lib.hid ho1
  clear hr1 ho1 HRD0
  go_wp2_with fail
  refine (one_any _ _ _ _ _ _ _ _ H1.out).mono ?_
  rintro e w2 ⟨rfl, hr2, ho2⟩
  have H2 := Lib.hid hr2
  have O2 := Lib.hid (O1.out.trans ho2)
  clear hr2 ho2 H1 O1
  go_wp2_with fail
  refine (one_any _ _ _ _ _ _ _ _ H2.out).mono ?_
  rintro e w3 ⟨rfl, hr3, ho3⟩
  have H3 := Lib.hid hr3
  have O3 := Lib.hid (O2.out.trans ho3)
  clear hr3 ho3 H2 O2
  have HMG := Lib.hid (mag_iff l)
  have HS3 : Hid (w3.heap.size = w.heap.size + 1 + 1) := by show _ = _; rw [O3.out.size]; exact HS0.out
  have HB3 := Lib.hid (HB0.out.trans (O3.out.below (by omega) (by omega)))
  have HR3 := Lib.hid (O3.out.whole HR0.out (by omega) (by omega))
  have HG3 := fun h => Lib.hid (mag_rest (l := l) h)
  have HGG := Lib.hid HG3
  clear O3 HS0 HB0 HR0 HG3
  generalize nv 1 ((l, false) : St) = x1 at *
  generalize nv 1 (nx 1 ((l, false) : St)) = x2 at *
  generalize nv 1 (nx 1 (nx 1 ((l, false) : St))) = x3 at *
  generalize nx 1 (nx 1 (nx 1 ((l, false) : St))) = sm at *
  by_cases hbad : x1 = 83 ∧ x2 = 77 ∧ x3 = 49
  · obtain ⟨rfl, rfl, rfl⟩ := hbad
    have HML : Hid (l.take 3 = magL) := HMG.out.1 ⟨rfl, rfl, rfl⟩
    obtain rfl : sm = (l.drop 3, false) := (HGG.out HML.out).out
    clear HMG HGG
    have HN3 : Hid (RdR w.heap.size ⟨A, n, c, l⟩ (l.drop 3, false) w3) := H3.out
    generalize hs0 : ((l.drop 3, false) : St) = s0 at *
    have HS0 := Lib.hid hs0
    clear hs0 H3
    go_wp2_with fail
    refine (one_any _ _ _ _ _ _ _ _ HN3.out).mono ?_
    rintro e w4 ⟨rfl, hr4, ho4⟩
    have hsz4 : w4.heap.size = w.heap.size + 1 + 1 := by rw [ho4.size]; exact HS3.out
    have HD : Hid (DecR w w.heap.size ⟨A, n, c, l⟩ (nx 1 s0) #[.slice none 0 0, .slice none 0 0, .slice none 0 0, .int .i64 (nv 1 s0)] (w4.alloc (.cells #[.slice none 0 0, .slice none 0 0, .slice none 0 0, .int .i64 (nv 1 s0)] 26))) := by
      have hbx := Whole.made w4 26 #[.slice none 0 0, .slice none 0 0, .slice none 0 0, .int .i64 (nv 1 s0)]
      rw [hsz4] at hbx
      have hrd : RdR w.heap.size ⟨A, n, c, l⟩ (nx 1 s0) w4 := hr4
      exact ⟨hrd.keep (fun _ k => k.alloc _) ((Below.refl _ _).alloc (by omega) _), (HB3.out.trans (ho4.below (by omega) (by omega))).alloc (by omega) _, (ho4.whole HR3.out (by omega) (by omega)).alloc _, hbx, by simp [hsz4]⟩
    have HS4 := Lib.hid hsz4
    clear hr4 ho4 hsz4 HN3 HS3 HB3 HR3
    go_wp2_with fail
    rw [HS4.out]
    generalize w4.alloc (.cells #[.slice none 0 0, .slice none 0 0, .slice none 0 0, .int .i64 (nv 1 s0)] 26) = wb at *
    clear HS4
    refine (one_dec HD.out).mono ?_
    rintro e w5 ⟨rfl, hd3, _⟩
    have HD3 := Lib.hid hd3
    have HC1 := Lib.hid (cnt_eq 1 (nx 1 s0) (by decide)).1
    have hc1 := cnt1_le (nx 1 s0)
    rw [HC1.out]
    clear hd3 HD
    generalize hlets : nv 1 s0 = lets at *
    have HLT := Lib.hid hlets
    generalize hs1 : nx 1 s0 = s1 at *
    have HST1 := Lib.hid hs1
    clear hlets hs1 HC1
    generalize hq1 : cnt 1 s1 = n1 at *
    have HQ1 := Lib.hid hq1
    clear hq1
    go_wp2_with fail
    go_loopw [10, 11, 12, 13, 14] (fun i _ _ _ _ wr => ∃ (k : Nat) (iv : Value), i = .int .i64 (k : Int) ∧ k ≤ n1 ∧ DecR w w.heap.size ⟨A, n, c, l⟩ (iter hInt k ([], nx 1 s1)).2 #[.slice none 0 0, iv, .slice none 0 0, .int .i64 lets] wr ∧ wr.ownsRow (w.heap.size + 1 + 1 + 1) 3 1 iv k ((iter hInt k ([], nx 1 s1)).1.map (Value.int .i64))) (fun i _ _ _ _ _ => n1 - (intOf i).toNat)
    case atStart => exact ⟨0, .slice none 0 0, rfl, by omega, HD3.out, World.ownsRow_nil _ _ _ _⟩
    case round =>
      obtain ⟨k, iv, rfl, hk, hd, hn'⟩ := hrel
      have HD := Lib.hid hd
      have HN := Lib.hid hn'
      have HIT : Hid (iter hInt (k + 1) ([], nx 1 s1) = hInt (iter hInt k ([], nx 1 s1))) := rfl
      clear hd hn'
      generalize hpp : iter hInt k ([], nx 1 s1) = pp at *
      have HPP := Lib.hid hpp
      clear hpp
      obtain ⟨is, s2⟩ := pp
      dsimp only at HD HN
      by_cases hlt : k < n1
      · go_wp2_with fail
        go_loopw [13, 11, 12] (fun i v m wr => ∃ (j : Nat), i = .int .i64 (j : Int) ∧ j ≤ 7 ∧ v = .int .i64 (hv j s2) ∧ m = .int .i64 (256 ^ j) ∧ DecR w w.heap.size ⟨A, n, c, l⟩ (nxs j s2) #[.slice none 0 0, iv, .slice none 0 0, .int .i64 lets] wr ∧ wr.ownsRow (w.heap.size + 1 + 1 + 1) 3 1 iv k (is.map (Value.int .i64))) (fun i _ _ _ => 7 - (intOf i).toNat)
        case atStart => exact ⟨0, rfl, by omega, rfl, rfl, HD.out, HN.out⟩
        case round =>
          obtain ⟨j, rfl, hj, rfl, rfl, hd, hn'⟩ := hrel
          have HDJ := Lib.hid hd
          have HNJ := Lib.hid hn'
          clear hd hn' HD HN HD3
          by_cases hlj : j < 7
          · have hb1 := nv1_bd (nxs j s2)
            have hb2 := hv_bd s2 j
            have hp := pow7 j (by omega)
            have hp6 : (256 : Int) ^ j ≤ 281474976710656 := by
              rcases (by omega : j = 0 ∨ j = 1 ∨ j = 2 ∨ j = 3 ∨ j = 4 ∨ j = 5 ∨ j = 6) with rfl | rfl | rfl | rfl | rfl | rfl | rfl <;> decide
            have HV : Hid (hv (j + 1) s2 = hv j s2 + nv 1 (nxs j s2) * 256 ^ j) := rfl
            have HP : Hid ((256 : Int) ^ (j + 1) = 256 ^ j * 256) := Int.pow_succ _ _
            have hm1 : 0 ≤ nv 1 (nxs j s2) * 256 ^ j := Int.mul_nonneg hb1.1 (by omega)
            have hm2 : nv 1 (nxs j s2) * 256 ^ j ≤ 255 * 256 ^ j := Int.mul_le_mul_of_nonneg_right hb1.2 (by omega)
            generalize hgx : (256 : Int) ^ j = mm at *
            have hw1 : IntKind.i64.wrap (nv 1 (nxs j s2) * mm) = nv 1 (nxs j s2) * mm := by rw [wrap_eq]; unfold wrap64; omega
            have hw2 : IntKind.i64.wrap (hv j s2 + nv 1 (nxs j s2) * mm) = hv j s2 + nv 1 (nxs j s2) * mm := by rw [wrap_eq]; unfold wrap64; omega
            have hw3 : IntKind.i64.wrap (mm * 256) = mm * 256 := by rw [wrap_eq]; unfold wrap64; omega
            go_wp2_with fail
            refine (one_dec HDJ.out).mono ?_
            rintro e w6 ⟨rfl, hd6, ho6⟩
            have HD6 := Lib.hid hd6
            have HN6 := Lib.hid (ho6.own HNJ.out (by omega) (by omega))
            clear hd6 ho6
            go_wp2_with fail
            exact ⟨⟨j + 1, by go_num, by omega, by rw [HV.out], by rw [HP.out], HD6.out, HN6.out⟩, by simp [intOf]; omega⟩
          · obtain rfl : j = 7 := by omega
            have hb1 := nv1_bd (nxs 7 s2)
            have hb2 := hv_bd s2 7
            have hp7 : (256 : Int) ^ 7 = 72057594037927936 := rfl
            rw [hp7] at hb2
            have HGI : Hid (hInt (is, s2) = (is ++ [v8 s2], nx 1 (nxs 7 s2))) := rfl
            have HV8 : Hid (v8 s2 = hv 7 s2 + hTop s2 * 72057594037927936) := rfl
            have HTP : Hid (hTop s2 = if 127 < nv 1 (nxs 7 s2) then nv 1 (nxs 7 s2) - 256 else nv 1 (nxs 7 s2)) := rfl
            rw [hp7]
            go_wp2_with fail
            refine (one_dec HDJ.out).mono ?_
            rintro e w6 ⟨rfl, hd6, ho6⟩
            have HD6 := Lib.hid hd6
            have HN6 := Lib.hid (ho6.own HNJ.out (by omega) (by omega))
            clear hd6 ho6 HDJ HNJ
            have o1 : w6.cell? ⟨w.heap.size + 1 + 1, 1, none⟩ = some iv := HD6.out.box.cell 1
            have o1b : ∀ ob, (w6.alloc ob).cell? ⟨w.heap.size + 1 + 1, 1, none⟩ = some iv := fun ob => (HD6.out.alloc ob).box.cell 1
            generalize hv 7 s2 = vv at *
            generalize nv 1 (nxs 7 s2) = tt at *
            generalize nx 1 (nxs 7 s2) = s8 at *
            by_cases ht : 127 < tt
            · have HZ : Hid (v8 s2 = vv + (tt - 256) * 72057594037927936) := by show _ = _; rw [HV8.out, HTP.out, if_pos ht]
              have hw1 : IntKind.i64.wrap ((tt - 256) * 72057594037927936) = (tt - 256) * 72057594037927936 := by rw [wrap_eq]; unfold wrap64; omega
              have hw2 : IntKind.i64.wrap (vv + (tt - 256) * 72057594037927936) = vv + (tt - 256) * 72057594037927936 := by rw [wrap_eq]; unfold wrap64; omega
              clear HV8 HTP
              go_wp2_with (at_builtin; go_must (refine list_app ty_ints (v := iv) rfl _ _ rfl rfl (HN6.out.alloc _) w6.heap.size 1 [.int .i64 (vv + (tt - 256) * 72057594037927936)] rfl (Whole.made w6 3 _) rfl (by simp [Value.oneCell']) (by decide) (by omega) (by decide) (by have := HD6.out.size; simp; omega) ?_); intro gv cv w7 hap; have HA := Lib.hid hap.own; have HD7 := Lib.hid ((HD6.out.alloc _).app hap (HN6.out.alloc _) (Nat.le_refl _) (by have := HD6.out.size; simp; omega)); have z1 : w7.cell? ⟨w.heap.size + 1 + 1, 1, none⟩ = some iv := HD7.out.box.cell 1; have z2 := HD7.out.box.free 1; clear hap)
              have HD8 := Lib.hid (HD7.out.put 1 (.slice (some ⟨gv, 0, none⟩) (k + 1) cv))
              have HN8 := Lib.hid (HD7.out.own_put (o := 1) (u := .slice (some ⟨gv, 0, none⟩) (k + 1) cv) HA.out (Nat.le_refl _))
              exact ⟨⟨k + 1, _, by go_num, by omega, by rw [HIT.out, HGI.out]; exact HD8.out, by rw [HIT.out, HGI.out]; show World.ownsRow _ _ _ _ _ _ ((is ++ [v8 s2]).map _); rw [List.map_append, HZ.out]; exact HN8.out⟩, by simp [intOf]; omega⟩
            · have HZ : Hid (v8 s2 = vv + tt * 72057594037927936) := by show _ = _; rw [HV8.out, HTP.out, if_neg ht]
              have hw1 : IntKind.i64.wrap (tt * 72057594037927936) = tt * 72057594037927936 := by rw [wrap_eq]; unfold wrap64; omega
              have hw2 : IntKind.i64.wrap (vv + tt * 72057594037927936) = vv + tt * 72057594037927936 := by rw [wrap_eq]; unfold wrap64; omega
              clear HV8 HTP
              go_wp2_with (at_builtin; go_must (refine list_app ty_ints (v := iv) rfl _ _ rfl rfl (HN6.out.alloc _) w6.heap.size 1 [.int .i64 (vv + tt * 72057594037927936)] rfl (Whole.made w6 3 _) rfl (by simp [Value.oneCell']) (by decide) (by omega) (by decide) (by have := HD6.out.size; simp; omega) ?_); intro gv cv w7 hap; have HA := Lib.hid hap.own; have HD7 := Lib.hid ((HD6.out.alloc _).app hap (HN6.out.alloc _) (Nat.le_refl _) (by have := HD6.out.size; simp; omega)); have z1 : w7.cell? ⟨w.heap.size + 1 + 1, 1, none⟩ = some iv := HD7.out.box.cell 1; have z2 := HD7.out.box.free 1; clear hap)
              have HD8 := Lib.hid (HD7.out.put 1 (.slice (some ⟨gv, 0, none⟩) (k + 1) cv))
              have HN8 := Lib.hid (HD7.out.own_put (o := 1) (u := .slice (some ⟨gv, 0, none⟩) (k + 1) cv) HA.out (Nat.le_refl _))
              exact ⟨⟨k + 1, _, by go_num, by omega, by rw [HIT.out, HGI.out]; exact HD8.out, by rw [HIT.out, HGI.out]; show World.ownsRow _ _ _ _ _ _ ((is ++ [v8 s2]).map _); rw [List.map_append, HZ.out]; exact HN8.out⟩, by simp [intOf]; omega⟩
      · obtain rfl : k = n1 := by omega
        clear HD3 HIT
        have HISZ : Hid ((iter hInt k ([], nx 1 s1)).1.length = k) := by have := hInt_len ([], nx 1 s1) k; show _ = _; simpa using this
        go_wp2_with fail
        refine (one_dec HD.out).mono ?_
        rintro e w3 ⟨rfl, hd3, ho3⟩
        have HD3 := Lib.hid hd3
        have HI3 := Lib.hid (ho3.own HN.out (by omega) (by omega))
        have HC1 := Lib.hid (cnt_eq 1 s2 (by decide)).1
        have hc2 := cnt1_le s2
        rw [HC1.out]
        clear hd3 ho3 HD HN HC1
        generalize hq1 : cnt 1 s2 = n2 at *
        have HQ2 := Lib.hid hq1
        clear hq1
        go_wp2_with fail
        go_loopw [15, 16, 17, 18] (fun i _ _ _ wr => ∃ (q : Nat) (tv : Value), i = .int .i64 (q : Int) ∧ q ≤ n2 ∧ DecR w w.heap.size ⟨A, n, c, l⟩ (iter gText q ([], nx 1 s2)).2 #[.slice none 0 0, iv, tv, .int .i64 lets] wr ∧ wr.ownsRow (w.heap.size + 1 + 1 + 1) 3 1 iv k (is.map (Value.int .i64)) ∧ wr.ownsRow (w.heap.size + 1 + 1 + 1) 9 1 tv q ((iter gText q ([], nx 1 s2)).1.map Value.string)) (fun i _ _ _ _ => n2 - (intOf i).toNat)
        case atStart => exact ⟨0, .slice none 0 0, rfl, by omega, HD3.out, HI3.out, World.ownsRow_nil _ _ _ _⟩
        case round =>
          obtain ⟨q, tv, rfl, hq, hd, hi', hn'⟩ := hrel
          have HD := Lib.hid hd
          have HI := Lib.hid hi'
          have HN := Lib.hid hn'
          have HIT : Hid (iter gText (q + 1) ([], nx 1 s2) = gText (iter gText q ([], nx 1 s2))) := rfl
          clear hd hn' hi' HD3 HI3
          generalize hpp : iter gText q ([], nx 1 s2) = pp at *
          have HPT := Lib.hid hpp
          clear hpp
          obtain ⟨ts, s3'⟩ := pp
          dsimp only at HD HN
          by_cases hlt : q < n2
          · go_wp2_with fail
            refine (one_dec HD.out).mono ?_
            rintro e w5 ⟨rfl, hd5, ho5⟩
            have HD5 := Lib.hid hd5
            have HI5 := Lib.hid (ho5.own HI.out (by omega) (by omega))
            have HT5 := Lib.hid (ho5.own HN.out (by omega) (by omega))
            have HC1 := Lib.hid (cnt_eq 1 s3' (by decide)).1
            have hc3 := cnt1_le s3'
            rw [HC1.out]
            clear hd5 ho5 HD HI HN HC1
            generalize hq1 : cnt 1 s3' = m at *
            have HQ3 := Lib.hid hq1
            clear hq1
            go_wp2_with fail
            go_loopw [18, 17] (fun i sv wr => ∃ (j : Nat), i = .int .i64 (j : Int) ∧ j ≤ m ∧ DecR w w.heap.size ⟨A, n, c, l⟩ (iter gByte j ([], nx 1 s3')).2 #[.slice none 0 0, iv, tv, .int .i64 lets] wr ∧ wr.ownsRow (w.heap.size + 1 + 1 + 1) 3 1 iv k (is.map (Value.int .i64)) ∧ wr.ownsRow (w.heap.size + 1 + 1 + 1) 9 1 tv q (ts.map Value.string) ∧ wr.ownsRow (w.heap.size + 1 + 1 + 1) 5 1 sv j ((iter gByte j ([], nx 1 s3')).1.map u8v)) (fun i _ _ => m - (intOf i).toNat)
            case atStart => exact ⟨0, rfl, by omega, HD5.out, HI5.out, HT5.out, World.ownsRow_nil _ _ _ _⟩
            case round =>
              obtain ⟨j, rfl, hj, hd, hi', ht', hn'⟩ := hrel
              have HD := Lib.hid hd
              have HI := Lib.hid hi'
              have HT := Lib.hid ht'
              have HN := Lib.hid hn'
              have HIB : Hid (iter gByte (j + 1) ([], nx 1 s3') = gByte (iter gByte j ([], nx 1 s3'))) := rfl
              clear hd hn' hi' ht' HD5 HI5 HT5
              generalize hpp : iter gByte j ([], nx 1 s3') = pp at *
              have HPB := Lib.hid hpp
              clear hpp
              obtain ⟨bs, s4'⟩ := pp
              dsimp only at HD HN
              by_cases hltj : j < m
              · go_wp2_with fail
                refine (one_dec HD.out).mono ?_
                rintro e w6 ⟨rfl, hd6, ho6⟩
                have HD6 := Lib.hid hd6
                have HI6 := Lib.hid (ho6.own HI.out (by omega) (by omega))
                have HT6 := Lib.hid (ho6.own HT.out (by omega) (by omega))
                have HN6 := Lib.hid (ho6.own HN.out (by omega) (by omega))
                have HC1 := Lib.hid (cnt_eq 1 s4' (by decide)).1
                have hc4 := cnt1_le s4'
                have HU8 := Lib.hid (u8v_ofNat hc4)
                rw [HC1.out]
                clear hd6 ho6 HD HI HT HN HC1
                have HGB : Hid (gByte (bs, s4') = (bs ++ [UInt8.ofNat (cnt 1 s4')], nx 1 s4')) := rfl
                generalize cnt 1 s4' = cc at *
                have N35 : Hid ((3 : TypeId) ≠ 5) := by show (3 : TypeId) ≠ 5; decide
                have N95 : Hid ((9 : TypeId) ≠ 5) := by show (9 : TypeId) ≠ 5; decide
                go_wp2_with (at_builtin; go_must (refine list_app ty_bytes (v := u17) rfl _ _ rfl rfl (HN6.out.alloc _) w6.heap.size 1 [.int .u8 (cc : Int)] rfl (Whole.made w6 5 _) rfl (by simp [Value.oneCell']) (by decide) (by omega) (by decide) (by have := HD6.out.size; simp; omega) ?_); intro gv cv w7 hap; have HA := Lib.hid hap.own; have HD7 := Lib.hid ((HD6.out.alloc _).app hap (HN6.out.alloc _) (Nat.le_refl _) (by have := HD6.out.size; simp; omega)); have HI7 := Lib.hid (hap.other (HI6.out.alloc _) (own_ne_type HN6.out HI6.out N35.out)); have HT7 := Lib.hid (hap.other (HT6.out.alloc _) (own_ne_type HN6.out HT6.out N95.out)); clear hap)
                exact ⟨⟨j + 1, by go_num, by omega, by rw [HIB.out, HGB.out]; exact HD7.out, HI7.out, HT7.out, by rw [HIB.out, HGB.out]; show World.ownsRow _ _ _ _ _ _ ((bs ++ [UInt8.ofNat cc]).map u8v); rw [List.map_append, List.map_cons, List.map_nil, ← HU8.out]; exact HA.out⟩, by simp [intOf]; omega⟩
              · obtain rfl : j = m := by omega
                have o2 : wr.cell? ⟨w.heap.size + 1 + 1, 2, none⟩ = some tv := HD.out.box.cell 2
                have hcv := conv_own HN.out rfl
                have HGT : Hid (gText (ts, s3') = (ts ++ [⟨bs.toArray⟩], s4')) := by
                  show gText (ts, s3') = _
                  have : gBytes s3' = (bs, s4') := by unfold gBytes; rw [HQ3.out]; exact HPB.out
                  unfold gText; dsimp only; rw [this]
                have o2b : (wr.alloc (.cells #[.string ⟨bs.toArray⟩] 9)).cell? ⟨w.heap.size + 1 + 1, 2, none⟩ = some tv := (HD.out.alloc _).box.cell 2
                have N39 : Hid ((3 : TypeId) ≠ 9) := by show (3 : TypeId) ≠ 9; decide
                clear HIB
                go_wp2_with (at_builtin; go_must (refine list_app ty_texts (v := tv) rfl _ _ rfl rfl (HT.out.alloc _) wr.heap.size 1 [.string ⟨bs.toArray⟩] rfl (Whole.made wr 9 _) rfl (by simp [Value.oneCell']) (by decide) (by omega) (by decide) (by have := HD.out.size; simp; omega) ?_); intro gv cv w7 hap; have HA := Lib.hid hap.own; have HD7 := Lib.hid ((HD.out.alloc _).app hap (HT.out.alloc _) (Nat.le_refl _) (by have := HD.out.size; simp; omega)); have HI7 := Lib.hid (hap.other (HI.out.alloc _) (own_ne_type HT.out HI.out N39.out)); have z1 : w7.cell? ⟨w.heap.size + 1 + 1, 2, none⟩ = some tv := HD7.out.box.cell 2; have z2 := HD7.out.box.free 2; clear hap)
                have HD8 := Lib.hid (HD7.out.put 2 (.slice (some ⟨gv, 0, none⟩) (q + 1) cv))
                have HT8 := Lib.hid (HD7.out.own_put (o := 2) (u := .slice (some ⟨gv, 0, none⟩) (q + 1) cv) HA.out (Nat.le_refl _))
                have HI8 := Lib.hid (HD7.out.own_put (o := 2) (u := .slice (some ⟨gv, 0, none⟩) (q + 1) cv) HI7.out (Nat.le_refl _))
                exact ⟨⟨q + 1, _, by go_num, by omega, by rw [HIT.out, HGT.out]; exact HD8.out, HI8.out, by rw [HIT.out, HGT.out]; show World.ownsRow _ _ _ _ _ _ ((ts ++ [_]).map _); rw [List.map_append]; exact HT8.out⟩, by simp [intOf]; omega⟩
          · obtain rfl : q = n2 := by omega
            clear HIT
            have HTSZ := Lib.hid (gText_len ([], nx 1 s2) q)
            go_wp2_with fail
            refine (one_dec HD.out).mono ?_
            rintro e w3 ⟨rfl, hd3, ho3⟩
            have HD3 := Lib.hid hd3
            have HI3 := Lib.hid (ho3.own HI.out (by omega) (by omega))
            have HT3 := Lib.hid (ho3.own HN.out (by omega) (by omega))
            have HC1 := Lib.hid (cnt_eq 1 s3' (by decide)).1
            have hc3 := cnt1_le s3'
            rw [HC1.out]
            clear hd3 ho3 HD HN HI HC1
            generalize hq1 : cnt 1 s3' = n3 at *
            have HQ3 := Lib.hid hq1
            clear hq1
            go_wp2_with fail
            go_loopw [19, 20, 21, 22, 23, 24] (fun i _ _ _ _ _ wr => ∃ (p : Nat) (fv : Value) (vs : List Value), i = .int .i64 (p : Int) ∧ p ≤ n3 ∧ DecR w w.heap.size ⟨A, n, c, l⟩ (iter hBdy p ([], nx 1 s3')).2 #[fv, iv, tv, .int .i64 lets] wr ∧ wr.ownsRow (w.heap.size + 1 + 1 + 1) 3 1 iv k (is.map (Value.int .i64)) ∧ wr.ownsRow (w.heap.size + 1 + 1 + 1) 9 1 tv q (ts.map Value.string) ∧
              wr.ownsRow (w.heap.size + 1 + 1 + 1) 40 4 fv p (bdyCells (iter hBdy p ([], nx 1 s3')).1 vs) ∧ CodesOwn wr (w.heap.size + 1 + 1 + 1) (iter hBdy p ([], nx 1 s3')).1 vs) (fun i _ _ _ _ _ _ => n3 - (intOf i).toNat)
            case atStart => exact ⟨0, .slice none 0 0, [], rfl, by omega, HD3.out, HI3.out, HT3.out, World.ownsRow_nil _ _ _ _, CodesOwn.nil _ _⟩
            case round =>
              obtain ⟨p, fv, vs, rfl, hp, hd, hi', ht', hf', hc'⟩ := hrel
              have HD := Lib.hid hd
              have HI := Lib.hid hi'
              have HT := Lib.hid ht'
              have HF := Lib.hid hf'
              have HCS := Lib.hid hc'
              have HIF : Hid (iter hBdy (p + 1) ([], nx 1 s3') = hBdy (iter hBdy p ([], nx 1 s3'))) := rfl
              have HPL := Lib.hid (hBdy_len ([], nx 1 s3') p)
              clear hd hf' hi' ht' hc' HD3 HI3 HT3
              generalize hpp : iter hBdy p ([], nx 1 s3') = pp at *
              have HPF := Lib.hid hpp
              clear hpp
              obtain ⟨fs, s4'⟩ := pp
              dsimp only at HD HF HCS HPL
              by_cases hlt : p < n3
              · have HGS : Hid (w.heap.size + 1 + 1 + 1 ≤ wr.heap.size) := HD.out.size
                have HIN : Hid (InR w wr w.heap.size ⟨A, n, c, l⟩ s4' #[fv, iv, tv, .int .i64 lets] (.int .i64 0) (.int .i64 0) (.int .i64 0) (.slice none 0 0) [] (wr.alloc (.cells #[.int .i64 0, .int .i64 0, .int .i64 0, .slice none 0 0] 40))) :=
                  ⟨HD.out.alloc _, (Kept.refl _ _ _ wr).alloc (Nat.le_refl _) _, Whole.made _ _ _, World.ownsRow_nil _ _ _ _, by simp, HGS.out⟩
                obtain ⟨wo, rfl⟩ : ∃ wo : World, wo = wr := ⟨_, rfl⟩
                go_wp2_with fail
                generalize wo.alloc (.cells #[.int .i64 0, .int .i64 0, .int .i64 0, .slice none 0 0] 40) = w4 at *
                refine (one_dec HIN.out.dec).mono ?_
                rintro e w5 ⟨rfl, hd5, ho5⟩
                have HIN5 := Lib.hid (HIN.out.next hd5 ho5)
                have z0 := HIN5.out.box.cell 0
                have z0f := HIN5.out.box.free 0
                have HIN5b := Lib.hid (HIN5.out.put 0 (.int .i64 (nv 1 s4')) (k' := .int .i64 (nv 1 s4')) (l' := .int .i64 0) (st' := .int .i64 0) rfl)
                clear hd5 ho5 HIN
                go_wp2_with fail
                clear z0 z0f HIN5
                generalize w5.setCell ⟨wo.heap.size, 0, none⟩ (.int .i64 (nv 1 s4')) = w5b at *
                refine (one_dec HIN5b.out.dec).mono ?_
                rintro e w6 ⟨rfl, hd6, ho6⟩
                have HIN6 := Lib.hid (HIN5b.out.next hd6 ho6)
                have z0 := HIN6.out.box.cell 1
                have z0f := HIN6.out.box.free 1
                have HIN6b := Lib.hid (HIN6.out.put 1 (.int .i64 (nv 1 (nx 1 s4'))) (k' := .int .i64 (nv 1 s4')) (l' := .int .i64 (nv 1 (nx 1 s4'))) (st' := .int .i64 0) rfl)
                clear hd6 ho6 HIN5b
                go_wp2_with fail
                clear z0 z0f HIN6
                generalize w6.setCell ⟨wo.heap.size, 1, none⟩ (.int .i64 (nv 1 (nx 1 s4'))) = w6b at *
                refine (one_dec HIN6b.out.dec).mono ?_
                rintro e w7 ⟨rfl, hd7, ho7⟩
                have HIN7 := Lib.hid (HIN6b.out.next hd7 ho7)
                have z0 := HIN7.out.box.cell 2
                have z0f := HIN7.out.box.free 2
                have HIN7b := Lib.hid (HIN7.out.put 2 (.int .i64 (nv 1 (nx 1 (nx 1 s4')))) (k' := .int .i64 (nv 1 s4')) (l' := .int .i64 (nv 1 (nx 1 s4'))) (st' := .int .i64 (nv 1 (nx 1 (nx 1 s4')))) rfl)
                clear hd7 ho7 HIN6b
                go_wp2_with fail
                clear z0 z0f HIN7
                generalize w7.setCell ⟨wo.heap.size, 2, none⟩ (.int .i64 (nv 1 (nx 1 (nx 1 s4')))) = w7b at *
                have HGB : Hid (hBdy (fs, s4') = (fs ++ [⟨nv 1 s4', nv 1 (nx 1 s4'), nv 1 (nx 1 (nx 1 s4')), (hCode (nx 1 (nx 1 (nx 1 s4')))).1⟩], (hCode (nx 1 (nx 1 (nx 1 s4')))).2)) := rfl
                generalize nv 1 (nx 1 (nx 1 s4')) = stk at *
                generalize nv 1 (nx 1 s4') = lcs at *
                generalize nv 1 s4' = kpt at *
                generalize nx 1 (nx 1 (nx 1 s4')) = s5 at *
                refine (pair_dec HIN7b.out.dec).mono ?_
                rintro e w9 ⟨rfl, hd9, ho9⟩
                have HIN0 := Lib.hid (HIN7b.out.next hd9 ho9)
                have hpb := pv_bd s5
                have hpe : pv s5 = ((pv s5).toNat : Int) := by omega
                have hcm2 : (pv s5).toNat ≤ 65535 := by omega
                rw [hpe]
                clear hd9 ho9 HIN7b hpb hpe
                generalize hq1 : (pv s5).toNat = m at *
                have HQ5 := Lib.hid hq1
                clear hq1
                go_wp2_with fail
                go_loopw [22, 23, 24] (fun i _ _ wi => ∃ (j : Nat) (cv : Value), i = .int .i64 (j : Int) ∧ j ≤ m ∧ InR w wo w.heap.size ⟨A, n, c, l⟩ (iter hIns j ([], nx 2 s5)).2 #[fv, iv, tv, .int .i64 lets] (.int .i64 kpt) (.int .i64 lcs) (.int .i64 stk) cv (iter hIns j ([], nx 2 s5)).1 wi) (fun i _ _ _ => m - (intOf i).toNat)
                case atStart => exact ⟨0, .slice none 0 0, rfl, by omega, HIN0.out⟩
                case round =>
                  obtain ⟨j, cv, rfl, hj, hin⟩ := hrel
                  have HIN := Lib.hid hin
                  have HIJ : Hid (iter hIns (j + 1) ([], nx 2 s5) = hIns (iter hIns j ([], nx 2 s5))) := rfl
                  have HLN := Lib.hid (hIns_len ([], nx 2 s5) j)
                  have HSH := fun h => hIns_iter_short (s := nx 2 s5) (j := j) (m := m) h hj
                  have HSHH := Lib.hid HSH
                  clear hin HIN0 HSH
                  generalize hpp : iter hIns j ([], nx 2 s5) = pp at *
                  have HPI := Lib.hid hpp
                  clear hpp
                  obtain ⟨cs, l6, b6⟩ := pp
                  dsimp only at HIN HSHH HLN
                  obtain ⟨ri, hrw, -⟩ := HIN.out.dec.rd.ex
                  have hsh : wr.cell? ⟨w.heap.size + 1, 2, none⟩ = some (.bool b6) := hrw.cell 2
                  clear hrw
                  by_cases hA : j < m ∧ b6 = false
                  · obtain ⟨hltj, rfl⟩ := hA
                    have o3 : wr.cell? ⟨wo.heap.size, 3, none⟩ = some cv := HIN.out.box.cell 3
                    have HGI : Hid (hIns (cs, (l6, false)) = (cs ++ [⟨nv 1 (l6, false), pv (nx 1 (l6, false)), pv (nx 2 (nx 1 (l6, false)))⟩], nx 2 (nx 2 (nx 1 (l6, false))))) := rfl
                    have hcl : cs.length ≤ 65535 := by have := HLN.out; simp at this; omega
                    generalize hs6 : ((l6, false) : St) = s6 at *
                    clear hs6
                    go_wp2_with fail
                    refine (one_dec HIN.out.dec).mono ?_
                    rintro e wa ⟨rfl, hda, hoa⟩
                    have HINa := Lib.hid (HIN.out.next hda hoa)
                    clear hda hoa HIN o3 hsh
                    go_wp2_with fail
                    refine (pair_dec HINa.out.dec).mono ?_
                    rintro e wb ⟨rfl, hdb, hob⟩
                    have HINb := Lib.hid (HINa.out.next hdb hob)
                    have ob : wb.cell? ⟨wo.heap.size, 3, none⟩ = some cv := HINb.out.box.cell 3
                    clear hdb hob HINa
                    go_wp2_with fail
                    go_region_law (first
                      | (refine step_app ty_code (v := cv) (by rfl) _ _ (by rfl) (by rfl) (HINc.out.own.alloc _) wc.heap.size 1 [.int .i64 (nv 1 s6), .int .i64 (pv (nx 1 s6)), .int .i64 (pv (nx 2 (nx 1 s6)))] (by rfl) (Whole.made wc 42 _) (by rfl) (by simp [Value.oneCell']) (by decide) (by omega) (by decide) (by have := HINc.out.size; simp; omega) ?_; intro gv cw wd hap; have HA := Lib.hid hap.own; have HAP := Lib.hid ((HINc.out.alloc _).app hap); have z1 : wd.cell? ⟨wo.heap.size, 3, none⟩ = some cv := HAP.out.2.2.1.cell 3; have z2 := HAP.out.2.2.1.free 3; clear hap)
                      | (go_simp; go_at_call 35; (with_reducible refine (pair_dec HINb.out.drew.dec).mono ?_); rintro e wc ⟨rfl, hdc, hoc⟩; have HINc := Lib.hid (HINb.out.drew.next hdc hoc); have oc : wc.cell? ⟨wo.heap.size, 3, none⟩ = some cv := HINc.out.box.cell 3; have oc2 : (wc.alloc (.cells #[.int .i64 (nv 1 s6), .int .i64 (pv (nx 1 s6)), .int .i64 (pv (nx 2 (nx 1 s6)))] 42)).cell? ⟨wo.heap.size, 3, none⟩ = some cv := (HINc.out.alloc _).box.cell 3; clear hdc hoc))
                    all_goals
                      have HFIN := Lib.hid (InR.done HGS.out (u := .slice (some ⟨gv, 0, none⟩) (cs.length + 1) cw) (js := cs ++ [⟨nv 1 s6, pv (nx 1 s6), pv (nx 2 (nx 1 s6))⟩]) HAP.out (by rw [insCells_snoc, List.length_append]; exact HA.out))
                      generalize wd.setCell ⟨wo.heap.size, 3, none⟩ (.slice (some ⟨gv, 0, none⟩) (cs.length + 1) cw) = we at *
                      go_wp2
                      exact ⟨⟨j + 1, _, by go_num, by omega, by rw [HIJ.out, HGI.out]; exact HFIN.out⟩, by simp [intOf]; omega⟩
                  · have HGC : Hid (hCode s5 = (cs, (l6, b6))) := by
                      show hCode s5 = _
                      unfold hCode; rw [HQ5.out]
                      by_cases hjm : j = m
                      · rw [← hjm]; exact HPI.out
                      · exact HSHH.out ((Bool.eq_false_or_eq_true b6).resolve_right (fun h => hA ⟨by omega, h⟩))
                    have HIO : Hid (wr.ownsRow (w.heap.size + 1 + 1 + 1) 3 1 iv k (is.map (Value.int .i64))) := HIN.out.kept.own HI.out (Nat.le_refl _) (by omega) (by omega)
                    have HTO : Hid (wr.ownsRow (w.heap.size + 1 + 1 + 1) 9 1 tv q (ts.map Value.string)) := HIN.out.kept.own HT.out (Nat.le_refl _) (by omega) (by omega)
                    have HFO : Hid (wr.ownsRow (w.heap.size + 1 + 1 + 1) 40 4 fv p (bdyCells fs vs)) := HIN.out.kept.own HF.out (Nat.le_refl _) (by omega) (by omega)
                    have HCO : Hid (CodesOwn wr (w.heap.size + 1 + 1 + 1) (fs ++ [⟨kpt, lcs, stk, cs⟩]) (vs ++ [cv])) :=
                      (HIN.out.kept.codes HCS.out (Nat.le_refl _) (by omega) (by omega)).snoc' (fun kk hk g hg => by have := ((HCS.out.2.1 kk hk).lt g hg).2; omega) HIN.out.own (by have := HGS.out; omega)
                    have HVL : Hid (vs.length = fs.length) := HCS.out.1
                    have HV1 := Lib.hid (own_oneV HIN.out.own)
                    have p0 : wr.cell? ⟨wo.heap.size, 0, none⟩ = some (.int .i64 kpt) := HIN.out.box.cell 0
                    have p1 : wr.cell? ⟨wo.heap.size, 1, none⟩ = some (.int .i64 lcs) := HIN.out.box.cell 1
                    have p2 : wr.cell? ⟨wo.heap.size, 2, none⟩ = some (.int .i64 stk) := HIN.out.box.cell 2
                    have p3 : wr.cell? ⟨wo.heap.size, 3, none⟩ = some cv := HIN.out.box.cell 3
                    have g0 : wr.cell? ⟨w.heap.size + 1 + 1, 0, none⟩ = some fv := HIN.out.dec.box.cell 0
                    have HDX := Lib.hid HIN.out.dec
                    have HX := Lib.hid hA
                    have HGQ : Hid (hBdy (fs, s4') = (fs ++ [⟨kpt, lcs, stk, cs⟩], (l6, b6))) := by show hBdy (fs, s4') = _; rw [HGB.out, HGC.out]
                    have N3 : Hid ((3 : TypeId) ≠ 40) := by show (3 : TypeId) ≠ 40; decide
                    have N9 : Hid ((9 : TypeId) ≠ 40) := by show (9 : TypeId) ≠ 40; decide
                    have N42 : Hid ((42 : TypeId) ≠ 40) := by show (42 : TypeId) ≠ 40; decide
                    clear hA HIN HSHH HIJ HLN HPI HI HT HF HCS HD
                    by_cases hjm : j < m
                    · have hb6 : b6 = true := by
                        rcases b6 with _ | _
                        · exact absurd ⟨hjm, rfl⟩ HX.out
                        · rfl
                      rw [hb6] at hsh
                      go_wp2_with (at_builtin; go_must (refine list_app ty_funs (v := fv) rfl _ _ rfl rfl (HFO.out.alloc _) wr.heap.size 1 [.int .i64 kpt, .int .i64 lcs, .int .i64 stk, cv] rfl (Whole.made wr 40 _) rfl (by intro u hu; simp at hu; rcases hu with rfl | rfl | rfl | rfl <;> first | rfl | exact HV1.out) (by decide) (by omega) (by decide) (by have := HDX.out.size; simp; omega) ?_); intro gv cw w7 hap; have HA := Lib.hid hap.own; have HD7 := Lib.hid ((HDX.out.alloc _).app hap (HFO.out.alloc _) (Nat.le_refl _) (by have := HDX.out.size; simp; omega)); have HI7 := Lib.hid (hap.other (HIO.out.alloc _) (own_ne_type HFO.out HIO.out N3.out)); have HT7 := Lib.hid (hap.other (HTO.out.alloc _) (own_ne_type HFO.out HTO.out N9.out)); have HC7 := Lib.hid ((HCO.out.below ((Below.refl wr.heap.size wr).alloc (Nat.le_refl _) _) (Nat.le_refl _)).other hap (HFO.out.alloc _) N42.out); have z1 : w7.cell? ⟨w.heap.size + 1 + 1, 0, none⟩ = some fv := HD7.out.box.cell 0; have z2 := HD7.out.box.free 0; clear hap)
                      have HD8 := Lib.hid (HD7.out.put 0 (.slice (some ⟨gv, 0, none⟩) (p + 1) cw))
                      have HI8 := Lib.hid (HD7.out.own_put (o := 0) (u := .slice (some ⟨gv, 0, none⟩) (p + 1) cw) HI7.out (Nat.le_refl _))
                      have HT8 := Lib.hid (HD7.out.own_put (o := 0) (u := .slice (some ⟨gv, 0, none⟩) (p + 1) cw) HT7.out (Nat.le_refl _))
                      have HF8 := Lib.hid (HD7.out.own_put (o := 0) (u := .slice (some ⟨gv, 0, none⟩) (p + 1) cw) HA.out (Nat.le_refl _))
                      have HC8 := Lib.hid (HC7.out.setCell (p := ⟨w.heap.size + 1 + 1, 0, none⟩) HD7.out.box (by decide) (.slice (some ⟨gv, 0, none⟩) (p + 1) cw))
                      exact ⟨⟨p + 1, _, vs ++ [cv], by go_num, by omega, by rw [HIF.out, HGQ.out]; exact HD8.out, HI8.out, HT8.out, by rw [HIF.out, HGQ.out]; show World.ownsRow _ _ _ _ _ _ (bdyCells (fs ++ [_]) (vs ++ [cv])); rw [bdyCells_snoc _ _ _ _ HVL.out]; exact HF8.out, by rw [HIF.out, HGQ.out]; exact HC8.out⟩, by simp [intOf]; omega⟩
                    · go_wp2_with (at_builtin; go_must (refine list_app ty_funs (v := fv) rfl _ _ rfl rfl (HFO.out.alloc _) wr.heap.size 1 [.int .i64 kpt, .int .i64 lcs, .int .i64 stk, cv] rfl (Whole.made wr 40 _) rfl (by intro u hu; simp at hu; rcases hu with rfl | rfl | rfl | rfl <;> first | rfl | exact HV1.out) (by decide) (by omega) (by decide) (by have := HDX.out.size; simp; omega) ?_); intro gv cw w7 hap; have HA := Lib.hid hap.own; have HD7 := Lib.hid ((HDX.out.alloc _).app hap (HFO.out.alloc _) (Nat.le_refl _) (by have := HDX.out.size; simp; omega)); have HI7 := Lib.hid (hap.other (HIO.out.alloc _) (own_ne_type HFO.out HIO.out N3.out)); have HT7 := Lib.hid (hap.other (HTO.out.alloc _) (own_ne_type HFO.out HTO.out N9.out)); have HC7 := Lib.hid ((HCO.out.below ((Below.refl wr.heap.size wr).alloc (Nat.le_refl _) _) (Nat.le_refl _)).other hap (HFO.out.alloc _) N42.out); have z1 : w7.cell? ⟨w.heap.size + 1 + 1, 0, none⟩ = some fv := HD7.out.box.cell 0; have z2 := HD7.out.box.free 0; clear hap)
                      have HD8 := Lib.hid (HD7.out.put 0 (.slice (some ⟨gv, 0, none⟩) (p + 1) cw))
                      have HI8 := Lib.hid (HD7.out.own_put (o := 0) (u := .slice (some ⟨gv, 0, none⟩) (p + 1) cw) HI7.out (Nat.le_refl _))
                      have HT8 := Lib.hid (HD7.out.own_put (o := 0) (u := .slice (some ⟨gv, 0, none⟩) (p + 1) cw) HT7.out (Nat.le_refl _))
                      have HF8 := Lib.hid (HD7.out.own_put (o := 0) (u := .slice (some ⟨gv, 0, none⟩) (p + 1) cw) HA.out (Nat.le_refl _))
                      have HC8 := Lib.hid (HC7.out.setCell (p := ⟨w.heap.size + 1 + 1, 0, none⟩) HD7.out.box (by decide) (.slice (some ⟨gv, 0, none⟩) (p + 1) cw))
                      exact ⟨⟨p + 1, _, vs ++ [cv], by go_num, by omega, by rw [HIF.out, HGQ.out]; exact HD8.out, HI8.out, HT8.out, by rw [HIF.out, HGQ.out]; show World.ownsRow _ _ _ _ _ _ (bdyCells (fs ++ [_]) (vs ++ [cv])); rw [bdyCells_snoc _ _ _ _ HVL.out]; exact HF8.out, by rw [HIF.out, HGQ.out]; exact HC8.out⟩, by simp [intOf]; omega⟩
              · obtain rfl : p = n3 := by omega
                have HGC : Hid (hCod l = (⟨fs, is, ts, lets⟩, s4')) := by
                  show hCod l = _
                  have e1 : hInts s1 = (is, s2) := by unfold hInts; rw [HQ1.out]; exact HPP.out
                  have e2 : gTexts s2 = (ts, s3') := by unfold gTexts; rw [HQ2.out]; exact HPT.out
                  have e3 : hBdys s3' = (fs, s4') := by unfold hBdys; rw [HQ3.out]; exact HPF.out
                  unfold hCod
                  dsimp only
                  rw [HS0.out, HST1.out, e1]
                  dsimp only
                  rw [e2]
                  dsimp only
                  rw [e3, HLT.out]
                have HCQ := Lib.hid (hCod_eq l HML.out)
                have hil : is.length = k := by have := HISZ.out; rw [HPP.out] at this; exact this
                have htl : ts.length = q := by have := HTSZ.out; rw [HPT.out] at this; simpa using this
                have hfl : fs.length = p := by have := HPL.out; simpa using this
                have hOwn : OwnCod wr (w.heap.size + 1) (.agg #[fv, iv, tv, .int .i64 lets]) ⟨fs, is, ts, lets⟩ :=
                  ⟨fv, iv, tv, vs, rfl, by show wr.ownsRow _ 40 4 fv fs.length _; rw [hfl]; exact own_more HF.out (by omega), ⟨HCS.out.1, fun kk hk => own_more (HCS.out.2.1 kk hk) (by omega), HCS.out.2.2⟩, by show wr.ownsRow _ 3 1 iv is.length _; rw [hil]; exact own_more HI.out (by omega), by show wr.ownsRow _ 9 1 tv ts.length _; rw [htl]; exact own_more HT.out (by omega)⟩
                have HOW := Lib.hid hOwn
                have HSZ : Hid (is.length ≤ 255 ∧ ts.length ≤ 255 ∧ fs.length ≤ 255) := ⟨by omega, by omega, by omega⟩
                clear hOwn hil htl hfl
                have HCD : Hid (∀ b ∈ fs, b.code.length ≤ 9223372036854775807) := fun b hb => hBdy_code (s := nx 1 s3') (n := p) (by rw [HPF.out]; exact hb)
                obtain ⟨FA, fc, rfl, _⟩ := own_form HF.out
                obtain ⟨IA, ic, rfl, _⟩ := own_form HI.out
                obtain ⟨TA, tc, rfl, _⟩ := own_form HT.out
                have HRES := Lib.hid HD.out.res
                have HBEL := Lib.hid HD.out.below
                have HDS := Lib.hid HD.out.size
                obtain ⟨ri, hrw, hrb, hri, hrs, _, _⟩ := HD.out.rd.ex
                have HRW := Lib.hid hrw
                have HRI : Hid (s4'.1.isEmpty = decide (ri = n)) := by
                  show _ = _
                  rw [hrs]; exact drop_empty HL.out hri
                have b0 : wr.cell? ⟨w.heap.size + 1 + 1, 0, none⟩ = some (.slice FA p fc) := HD.out.box.cell 0
                have b1 : wr.cell? ⟨w.heap.size + 1 + 1, 1, none⟩ = some (.slice IA k ic) := HD.out.box.cell 1
                have b2 : wr.cell? ⟨w.heap.size + 1 + 1, 2, none⟩ = some (.slice TA q tc) := HD.out.box.cell 2
                have b3 : wr.cell? ⟨w.heap.size + 1 + 1, 3, none⟩ = some (.int .i64 lets) := HD.out.box.cell 3
                have HAT : Hid (CodAt wr wr.heap.size (.agg #[.slice FA p fc, .slice IA k ic, .slice TA q tc, .int .i64 lets]) ⟨fs, is, ts, lets⟩) := HOW.out.at_ (by have := HSZ.out.2.2; show fs.length ≤ _; omega) (by have := HSZ.out.1; show is.length ≤ _; omega) (by have := HSZ.out.2.1; show ts.length ≤ _; omega) HCD.out
                have HBX := Lib.hid HD.out.box
                clear hrw hrb hri hrs HD HF HI HT HCS HIF HPL HPF
                go_wp2_with fail
                refine (rmay_any wr _ ⟨fs, is, ts, lets⟩ HAT.out).mono ?_
                rintro e w4 ⟨rfl, hb4⟩
                have HR4 := Lib.hid (HRES.out.below hb4 (by have := HDS.out; omega))
                have HBL4 := Lib.hid (HBEL.out.trans (hb4.mono (by have := HDS.out; omega)))
                have HOW4 := Lib.hid (own_later HOW.out hb4 (by have := HDS.out; omega))
                have HBX4 := Lib.hid (HBX.out.below hb4 (by have := HDS.out; omega))
                have HRW4 := Lib.hid (HRW.out.below hb4 (by have := HDS.out; omega))
                have HGS4 : Hid ((gCod l).2 = s4') := by show _ = _; rw [← HCQ.out.1, HGC.out]
                have HGE : Hid (s4'.2 = false → gCod l = (⟨fs, is, ts, lets⟩, s4')) := fun h => by rw [← HCQ.out.2 (by rw [HGS4.out]; exact h)]; exact HGC.out
                have s1c : w4.cell? ⟨w.heap.size + 1, 1, none⟩ = some (.int .i64 (ri : Nat)) := HRW4.out.cell 1
                have s2c : w4.cell? ⟨w.heap.size + 1, 2, none⟩ = some (.bool s4'.2) := HRW4.out.cell 2
                have r0 : w4.cell? ⟨w.heap.size, 0, none⟩ = some (.slice none 0 0) := HR4.out.cell 0
                have r1 : w4.cell? ⟨w.heap.size, 1, none⟩ = some (.slice none 0 0) := HR4.out.cell 1
                have r2 : w4.cell? ⟨w.heap.size, 2, none⟩ = some (.slice none 0 0) := HR4.out.cell 2
                have r3 : w4.cell? ⟨w.heap.size, 3, none⟩ = some (.int .i64 0) := HR4.out.cell 3
                have f0 := HR4.out.free 0
                have f1 := HR4.out.free 1
                have f2 := HR4.out.free 2
                have f3 := HR4.out.free 3
                clear hb4 HRES HBEL HOW HBX HRW b0 b1 b2 b3 HCQ
                by_cases hall : s4'.2 = false ∧ ri = n ∧ codOK ⟨fs, is, ts, lets⟩ = true
                · obtain ⟨hs4, rfl, hok⟩ := hall
                  have HDE : Hid (decE l = 0 ∧ decC l = ⟨fs, is, ts, lets⟩) := by
                    have hb : decB l = true := by unfold decB; rw [HGE.out hs4]; dsimp only; rw [hok, HRI.out, hs4]; simp
                    exact ⟨by unfold decE; rw [hb]; rfl, by unfold decC; rw [hb, HGE.out hs4]; rfl⟩
                  rw [hs4] at s2c
                  rw [hok]
                  have b0 : w4.cell? ⟨w.heap.size + 1 + 1, 0, none⟩ = some (.slice FA p fc) := HBX4.out.cell 0
                  have b1 : w4.cell? ⟨w.heap.size + 1 + 1, 1, none⟩ = some (.slice IA k ic) := HBX4.out.cell 1
                  have b2 : w4.cell? ⟨w.heap.size + 1 + 1, 2, none⟩ = some (.slice TA q tc) := HBX4.out.cell 2
                  have b3 : w4.cell? ⟨w.heap.size + 1 + 1, 3, none⟩ = some (.int .i64 lets) := HBX4.out.cell 3
                  have HEND := Lib.hid (res_put (w := w4) (a := .slice FA p fc) (b := .slice IA k ic) (d := .slice TA q tc) (y := .int .i64 lets) HBL4.out HR4.out)
                  go_wp2_with fail
                  generalize (((w4.setCell ⟨w.heap.size, 0, none⟩ (.slice FA p fc)).setCell ⟨w.heap.size, 1, none⟩ (.slice IA k ic)).setCell ⟨w.heap.size, 2, none⟩ (.slice TA q tc)).setCell ⟨w.heap.size, 3, none⟩ (.int .i64 lets) = wf at *
                  obtain ⟨hW, hB, hO⟩ := HEND.out
                  have z0 : wf.cell? ⟨w.heap.size, 0, none⟩ = some (.slice FA p fc) := hW.cell 0
                  have z1 : wf.cell? ⟨w.heap.size, 1, none⟩ = some (.slice IA k ic) := hW.cell 1
                  have z2 : wf.cell? ⟨w.heap.size, 2, none⟩ = some (.slice TA q tc) := hW.cell 2
                  have z3 : wf.cell? ⟨w.heap.size, 3, none⟩ = some (.int .i64 lets) := hW.cell 3
                  have HAT4 := (hO HOW4.out).at_ (by have := HSZ.out.2.2; show fs.length ≤ _; omega) (by have := HSZ.out.1; show is.length ≤ _; omega) (by have := HSZ.out.2.1; show ts.length ≤ _; omega) HCD.out
                  exact bodyPost_ret (v := .tuple #[.agg #[.slice FA p fc, .slice IA k ic, .slice TA q tc, .int .i64 lets], .int .i64 0]) (by simp [results, Try.results20, go_sem, z0, z1, z2, z3]) rfl ⟨FA, p, fc, IA, k, ic, TA, q, tc, lets, by rw [HDE.out.1], by rw [HDE.out.2]; exact HAT4, hB⟩
                · have HDE : Hid (decE l = 31 ∧ decC l = zeroC) := by
                    have hb : decB l = false := by
                      unfold decB
                      rcases hs4 : s4'.2 with _ | _
                      · rw [HGE.out hs4]
                        dsimp only
                        rw [HRI.out, hs4]
                        rcases hok : codOK ⟨fs, is, ts, lets⟩ with _ | _
                        · simp
                        · have : ri ≠ n := fun h => hall ⟨hs4, h, hok⟩
                          simp [this]
                      · rw [HGS4.out, hs4]; simp
                    exact ⟨by unfold decE; rw [hb]; rfl, by unfold decC; rw [hb]; rfl⟩
                  have hcase : s4'.2 = true ∨ (s4'.2 = false ∧ ri ≠ n) ∨ (s4'.2 = false ∧ ri = n ∧ codOK ⟨fs, is, ts, lets⟩ = false) := by
                    rcases hs4 : s4'.2 with _ | _
                    · by_cases hrn : ri = n
                      · rcases hok : codOK ⟨fs, is, ts, lets⟩ with _ | _
                        · exact .inr (.inr ⟨rfl, hrn, rfl⟩)
                        · exact absurd ⟨hs4, hrn, hok⟩ hall
                      · exact .inr (.inl ⟨rfl, hrn⟩)
                    · exact .inl rfl
                  clear hall HGE HGS4 HRI HGC
                  generalize codOK ⟨fs, is, ts, lets⟩ = ok at *
                  rcases hcase with hs4 | ⟨hs4, hrn⟩ | ⟨hs4, rfl, rfl⟩
                  all_goals
                    rw [hs4] at s2c
                    clear hs4
                    have HEND := Lib.hid (res_put (w := w4) (a := .slice none 0 0) (b := .slice none 0 0) (d := .slice none 0 0) (y := .int .i64 0) HBL4.out HR4.out)
                    go_wp2_with fail
                    generalize (((w4.setCell ⟨w.heap.size, 0, none⟩ (.slice none 0 0)).setCell ⟨w.heap.size, 1, none⟩ (.slice none 0 0)).setCell ⟨w.heap.size, 2, none⟩ (.slice none 0 0)).setCell ⟨w.heap.size, 3, none⟩ (.int .i64 0) = wf at *
                    obtain ⟨hW, hB, _⟩ := HEND.out
                    have z0 : wf.cell? ⟨w.heap.size, 0, none⟩ = some (.slice none 0 0) := hW.cell 0
                    have z1 : wf.cell? ⟨w.heap.size, 1, none⟩ = some (.slice none 0 0) := hW.cell 1
                    have z2 : wf.cell? ⟨w.heap.size, 2, none⟩ = some (.slice none 0 0) := hW.cell 2
                    have z3 : wf.cell? ⟨w.heap.size, 3, none⟩ = some (.int .i64 0) := hW.cell 3
                    exact bodyPost_ret (v := .tuple #[.agg #[.slice none 0 0, .slice none 0 0, .slice none 0 0, .int .i64 0], .int .i64 31]) (by simp [results, Try.results20, go_sem, z0, z1, z2, z3]) rfl ⟨none, 0, 0, none, 0, 0, none, 0, 0, 0, by rw [HDE.out.1], by rw [HDE.out.2]; exact zero_at _ _, hB⟩
  · have HDE : Hid (decE l = 31 ∧ decC l = zeroC) := by
      have hb : decB l = false := decB_mag (fun h => hbad (HMG.out.2 h))
      exact ⟨by unfold decE; rw [hb]; rfl, by unfold decC; rw [hb]; rfl⟩
    have r0 : w3.cell? ⟨w.heap.size, 0, none⟩ = some (.slice none 0 0) := HR3.out.cell 0
    have r1 : w3.cell? ⟨w.heap.size, 1, none⟩ = some (.slice none 0 0) := HR3.out.cell 1
    have r2 : w3.cell? ⟨w.heap.size, 2, none⟩ = some (.slice none 0 0) := HR3.out.cell 2
    have r3 : w3.cell? ⟨w.heap.size, 3, none⟩ = some (.int .i64 0) := HR3.out.cell 3
    have f0 := HR3.out.free 0
    have f1 := HR3.out.free 1
    have f2 := HR3.out.free 2
    have f3 := HR3.out.free 3
    have HEND := Lib.hid (res_put (a := .slice none 0 0) (b := .slice none 0 0) (d := .slice none 0 0) (y := .int .i64 0) HB3.out HR3.out)
    clear HMG HGG
    have hcase : x1 ≠ 83 ∨ (x1 = 83 ∧ x2 ≠ 77) ∨ (x1 = 83 ∧ x2 = 77 ∧ x3 ≠ 49) := by omega
    clear hbad
    rcases hcase with h1 | ⟨rfl, h2⟩ | ⟨rfl, rfl, h3⟩
    all_goals
      go_wp2_with fail
      generalize (((w3.setCell ⟨w.heap.size, 0, none⟩ (.slice none 0 0)).setCell ⟨w.heap.size, 1, none⟩ (.slice none 0 0)).setCell ⟨w.heap.size, 2, none⟩ (.slice none 0 0)).setCell ⟨w.heap.size, 3, none⟩ (.int .i64 0) = wf at *
      obtain ⟨hW, hB, _⟩ := HEND.out
      have z0 : wf.cell? ⟨w.heap.size, 0, none⟩ = some (.slice none 0 0) := hW.cell 0
      have z1 : wf.cell? ⟨w.heap.size, 1, none⟩ = some (.slice none 0 0) := hW.cell 1
      have z2 : wf.cell? ⟨w.heap.size, 2, none⟩ = some (.slice none 0 0) := hW.cell 2
      have z3 : wf.cell? ⟨w.heap.size, 3, none⟩ = some (.int .i64 0) := hW.cell 3
      exact bodyPost_ret (v := .tuple #[.agg #[.slice none 0 0, .slice none 0 0, .slice none 0 0, .int .i64 0], .int .i64 31]) (by simp [results, Try.results20, go_sem, z0, z1, z2, z3]) rfl ⟨none, 0, 0, none, 0, 0, none, 0, 0, 0, by rw [HDE.out.1], by rw [HDE.out.2]; exact zero_at _ _, hB⟩
end Go.Proofs.Ytffpkmoaahkfmaa
