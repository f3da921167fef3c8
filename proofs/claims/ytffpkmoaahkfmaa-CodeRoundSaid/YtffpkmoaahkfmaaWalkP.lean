/- The walks of layer 13: the code of bytes, by the program. -/
import Derived.Test.YtffpkmoaahkfmaaDec
import Derived.Test.YtffpkmoaahkfmaaWalkL
import Derived.Deep.CutBlock
import Derived.Deep.DeepCutAuto
import Derived.Deep.RegionHeld3
import Derived.Deep.DrawnRows
import Derived.Deep.RegionLaw
import Derived.Laws.BytesArg
namespace Go.Proofs.Ytffpkmoaahkfmaa
open Go.RowKit
set_option linter.unusedVariables false
attribute [local go_sem ↓] Go.wp_at_zero Go.wp_at_succ

theorem ty_bytes : ElemTy 28 5 1 1 := elemTy (i := none) (z := .int .u8 0) Try.underlying28 (by kernel_rfl) rfl (by decide)
theorem u8v_ofNat {n : Nat} (h : n ≤ 255) : Value.int IntKind.u8 (n : Int) = u8v (UInt8.ofNat n) := by
  unfold u8v; rw [UInt8.toNat_ofNat']; congr 2; omega
theorem conv_bytes {w : World} {B b off n k c : Nat} {l : List UInt8} (h : BytesAt w B (some ⟨b, off, none⟩) n l) (hk : k ≤ n) (h0 : 0 < n) : (convert 28 9 (.slice (some ⟨b, off, none⟩) k c)).run Try.prog w = .ok (.string ⟨(l.take k).toArray⟩) w := by
  obtain ⟨b', off', e, _, hc⟩ := h.2 h0
  simp only [Option.some.injEq, Addr.mk.injEq, and_true] at e
  obtain ⟨rfl, rfl⟩ := e
  have hl := h.1
  have hlk : (l.take k).length = k := by rw [List.length_take]; omega
  have hr := run_convert_bytes_arg (P := Try.prog) w 28 5 Try.underlying28 Try.underlying5 b off k c ((l.take k).map fun c => (c.toNat : Int)) (by simpa using hlk) (fun i hi => by
    rw [hc i (by omega)]
    simp [List.getD_eq_getElem?_getD, List.getElem?_map, hi, List.getElem?_eq_getElem (show i < l.length by omega)]) 9 Try.underlying9
  rw [hr]
  congr 2
  unfold strOfNums
  congr 2
  rw [List.map_map]
  conv => rhs; rw [← List.map_id (l.take k)]
  apply List.map_congr_left
  intro b _
  simp
theorem rest_all {w : World} {B n c : Nat} {A : Option Addr} {l : List UInt8} (hb : BytesAt w B A n l) (h3 : n < 3) (A' : Option Addr) : RestAt w B (.slice A' 0 (c - n)) (rest0 l) ∨ maxLen < c - n := by
  rcases Nat.lt_or_ge maxLen (c - n) with h | h
  · exact .inr h
  · refine .inl ⟨A', 0, c - n, rfl, Nat.zero_le _, h, ?_, fun h0 => absurd h0 (by omega)⟩
    unfold rest0; rw [List.length_drop, hb.1]; omega
theorem rest_some {w : World} {B n c b off a : Nat} {l : List UInt8} (hb : BytesAt w B (some ⟨b, off, none⟩) n l) (hn : n ≤ c) (hc : c ≤ maxLen) (h3 : ¬ n < 3) (ha : a = off + 3 ∨ (a = off ∧ c = 3)) : RestAt w B (.slice (some ⟨b, a, none⟩) (n - 3) (c - 3)) (rest0 l) := by
  have hr : rest0 l = l.drop 3 := by unfold rest0; rw [hb.1, show min 3 n = 3 from by omega]
  rw [hr]
  refine ⟨_, n - 3, c - 3, rfl, by omega, by omega, by rw [List.length_drop, hb.1], fun h0 => ?_⟩
  obtain ⟨b', off', e, hlt, hcell⟩ := hb.2 (by omega)
  simp only [Option.some.injEq, Addr.mk.injEq, and_true] at e
  obtain ⟨rfl, rfl⟩ := e
  refine ⟨b, a, rfl, hlt, fun j hj => ?_⟩
  have ha' : a = off + 3 := by omega
  rw [ha', drop_getD, Nat.add_assoc]
  exact hcell (3 + j) (by omega)
theorem short_lt {n : Nat} {l : List UInt8} (hl : l.length = n) (h : n < 3) : short0 l = true := by unfold short0; rw [hl, decide_eq_true h]; rfl
theorem short_ge {n : Nat} {l : List UInt8} (hl : l.length = n) (h : ¬ n < 3) : short0 l = (!(l.take 3 == [83, 77, 49])) := by unfold short0; rw [hl, decide_eq_false h]; rfl
theorem bytes_below {w w' : World} {B n : Nat} {A : Option Addr} {l : List UInt8} (h : BytesAt w B A n l) (hb : Below B w w') : BytesAt w' B A n l :=
  ⟨h.1, fun h0 => by
    obtain ⟨b, off, e, hlt, hc⟩ := h.2 h0
    exact ⟨b, off, e, hlt, fun j hj => (hb.cell (p := ⟨b, off + j, none⟩) hlt).trans (hc j hj)⟩⟩
set_option maxRecDepth 100000 in
set_option maxHeartbeats 4000000 in
theorem decode_any (w : World) (v : Value) (l : List UInt8) (h : RestAt w w.heap.size v l) :
    Calls Try.prog 19 #[v] w fun e w' => ∃ FA fn fc IA inn ic TA tn tc z, e = .returned (.tuple #[.agg #[.slice FA fn fc, .slice IA inn ic, .slice TA tn tc, .int .i64 z], .int .i64 (decE l)]) ∧ CodAt w' w'.heap.size (.agg #[.slice FA fn fc, .slice IA inn ic, .slice TA tn tc, .int .i64 z]) (decC l) ∧ Below w.heap.size w w' := by
  obtain ⟨A, n, c, rfl, hn, hc, hb⟩ := h
  have HBY := Lib.hid hb
  have HL := Lib.hid hb.1
  have HCM := Lib.hid hc
  have hcm : c ≤ 9223372036854775807 := by unfold maxLen at hc; exact hc
  clear hc hb
  have HB0 : Hid (Below w.heap.size w (w.alloc (.cells #[.slice none 0 0, .slice none 0 0, .slice none 0 0, .int .i64 0] 26))) := (Below.refl _ _).alloc (Nat.le_refl _) _
  go_enter Try.func19, Try.ntmps19
  go_upto_region 1 with (fail)
  go_cut [4] (fun s wc => s = .pointer (some ⟨w.heap.size + 1, 0, none⟩) ∧ wc = (w.alloc (.cells #[.slice none 0 0, .slice none 0 0, .slice none 0 0, .int .i64 0] 26)).alloc (.cells #[.bool (short0 l)] 4))
  case first =>
    by_cases h3 : n < 3
    · have HS := Lib.hid (short_lt HL.out h3)
      go_wp2_with fail
      go_meet
      exact ⟨rfl, by rw [HS.out]⟩
    · have HS := Lib.hid (short_ge HL.out h3)
      obtain ⟨b, off, rfl, hlt, _⟩ := HBY.out.2 (by omega)
      have hcv := conv_bytes (w := w.alloc (.cells #[.slice none 0 0, .slice none 0 0, .slice none 0 0, .int .i64 0] 26)) (k := 3) (c := c) (bytes_below HBY.out HB0.out) (by omega) (by omega)
      go_wp2_with fail
      go_meet
      exact ⟨rfl, by rw [HS.out]⟩
  case rest =>
    obtain ⟨rfl, hwc⟩ := hcut
    have HS1 : Hid (wc.heap.size = w.heap.size + 1 + 1) := by show _ = _; rw [hwc]; simp
    have HB1 : Hid (Below w.heap.size w wc) := by show Below _ _ _; rw [hwc]; exact HB0.out.alloc (by simp) _
    have HR1 : Hid (Whole wc w.heap.size 26 #[.slice none 0 0, .slice none 0 0, .slice none 0 0, .int .i64 0]) := by show Whole _ _ _ _; rw [hwc]; exact (Whole.made _ _ _).alloc _
    have HH1 : Hid (Whole wc (w.heap.size + 1) 4 #[.bool (short0 l)]) := by show Whole _ _ _ _; rw [hwc]; have := Whole.made (w.alloc (.cells #[.slice none 0 0, .slice none 0 0, .slice none 0 0, .int .i64 0] 26)) 4 #[.bool (short0 l)]; simpa using this
    clear hwc
    go_upto_region 2 with (fail)
    go_cut [5] (fun s wd => s = .pointer (some ⟨w.heap.size + 1 + 1, 0, none⟩) ∧ RdSt w.heap.size (st0 l) wd ∧ Below w.heap.size w wd ∧ wd.heap.size = w.heap.size + 1 + 1 + 1 ∧ Whole wd w.heap.size 26 #[.slice none 0 0, .slice none 0 0, .slice none 0 0, .int .i64 0])
    case first =>
      have key : ∀ u, RestAt wc w.heap.size u (rest0 l) → RdSt w.heap.size (st0 l) (wc.alloc (.cells #[u] 28)) ∧ Below w.heap.size w (wc.alloc (.cells #[u] 28)) ∧ (wc.alloc (.cells #[u] 28)).heap.size = w.heap.size + 1 + 1 + 1 ∧ Whole (wc.alloc (.cells #[u] 28)) w.heap.size 26 #[.slice none 0 0, .slice none 0 0, .slice none 0 0, .int .i64 0] := fun u hu =>
        ⟨⟨HH1.out.alloc _, ⟨u, by have := Whole.made wc 28 #[u]; rw [HS1.out] at this; exact this, hu.below ((Below.refl _ _).alloc (by rw [HS1.out]; omega) _)⟩, by omega, by omega, by omega⟩, HB1.out.alloc (by rw [HS1.out]; omega) _, by simp [HS1.out], HR1.out.alloc _⟩
      have KEY := Lib.hid key
      clear key
      by_cases h3 : n < 3
      · have hq := fun A' => rest_all (c := c) (bytes_below HBY.out HB1.out) h3 A'
        have HQ := Lib.hid hq
        clear hq
        by_cases hcn : c = n
        · subst hcn
          go_wp2_with fail
          go_meet
          refine ⟨by rw [HS1.out], KEY.out _ ?_⟩
          rcases HQ.out A with h | h
          · simpa using h
          · exfalso; have := HCM.out; omega
        · go_wp2_with fail
          go_meet
          refine ⟨by rw [HS1.out], KEY.out _ ?_⟩
          rcases HQ.out (Option.map (fun x => x.add n) A) with h | h
          · exact h
          · exfalso; have := HCM.out; omega
      · obtain ⟨b, off, rfl, hlt, _⟩ := HBY.out.2 (by omega)
        have hq := fun a ha => rest_some (a := a) (bytes_below HBY.out HB1.out) hn HCM.out h3 ha
        have HQ := Lib.hid hq
        clear hq
        by_cases hc3 : c = 3
        · subst hc3
          go_wp2_with fail
          go_meet
          exact ⟨by rw [HS1.out], by have hz := KEY.out _ (HQ.out off (by simp)); rw [show n - 3 = 0 from by omega] at hz; simpa using hz⟩
        · go_wp2_with fail
          go_meet
          exact ⟨by rw [HS1.out], KEY.out _ (HQ.out _ (.inl rfl))⟩
    case rest =>
      obtain ⟨rfl, hrd, hbl, hsz, hres⟩ := hcut
      have HRD := Lib.hid hrd
      have HBL := Lib.hid hbl
      have HSZ := Lib.hid hsz
      have HRS := Lib.hid hres
      clear hrd hbl hsz hres
      clear HS1 HB1 HR1 HH1 HB0 HBY HCM
      go_wp2_with fail
      refine (next_st 1 HRD.out (by decide) (by decide)).mono ?_
      rintro e w1 ⟨rfl, hr1, ho1⟩
      have hsz1 : w1.heap.size = w.heap.size + 1 + 1 + 1 := by rw [ho1.size]; exact HSZ.out
      have HD : Hid (DecW w w.heap.size (nx 1 (st0 l)) #[.slice none 0 0, .slice none 0 0, .slice none 0 0, .int .i64 (nv 1 (st0 l))] (w1.alloc (.cells #[.slice none 0 0, .slice none 0 0, .slice none 0 0, .int .i64 (nv 1 (st0 l))] 26))) := by
        have hbx := Whole.made w1 26 #[.slice none 0 0, .slice none 0 0, .slice none 0 0, .int .i64 (nv 1 (st0 l))]
        rw [hsz1] at hbx
        exact ⟨hr1.keep (fun k => k.alloc _) (fun v k => k.alloc _) ((Below.refl _ _).alloc (by omega) _), (HBL.out.trans (ho1.below (by omega) (by omega))).alloc (by omega) _, (ho1.whole HRS.out (by omega) (by omega)).alloc _, hbx, by simp [hsz1]⟩
      have HS1 := Lib.hid hsz1
      clear hr1 ho1 hsz1 HRD HBL HSZ HRS
      go_wp2_with fail
      rw [HS1.out]
      generalize w1.alloc (.cells #[.slice none 0 0, .slice none 0 0, .slice none 0 0, .int .i64 (nv 1 (st0 l))] 26) = w2 at *
      clear HS1
      refine (next_dec 1 HD.out (by decide) (by decide)).mono ?_
      rintro e w3 ⟨rfl, hd3, _⟩
      have HD3 := Lib.hid hd3
      have HC1 := Lib.hid (cnt_eq 1 (nx 1 (st0 l)) (by decide)).1
      have hc1 := cnt1_le (nx 1 (st0 l))
      rw [HC1.out]
      clear hd3 HD
      generalize hlets : nv 1 (st0 l) = lets at *
      have HLT := Lib.hid hlets
      generalize hs1 : nx 1 (st0 l) = s1 at *
      have HST1 := Lib.hid hs1
      clear hlets hs1 HC1
      generalize hq1 : cnt 1 s1 = n1 at *
      have HQ1 := Lib.hid hq1
      clear hq1
      go_wp2_with fail
      go_loopw [33] (fun i wr => ∃ (k : Nat) (iv : Value), i = .int .i64 (k : Int) ∧ k ≤ n1 ∧ DecW w w.heap.size (iter gInt k ([], nx 1 s1)).2 #[.slice none 0 0, iv, .slice none 0 0, .int .i64 lets] wr ∧ wr.ownsRow (w.heap.size + 1 + 1 + 1 + 1) 3 1 iv k ((iter gInt k ([], nx 1 s1)).1.map (Value.int .i64))) (fun i _ => n1 - (intOf i).toNat)
      case atStart => exact ⟨0, .slice none 0 0, rfl, by omega, HD3.out, World.ownsRow_nil _ _ _ _⟩
      case round =>
        obtain ⟨k, iv, rfl, hk, hd, hn'⟩ := hrel
        have HD := Lib.hid hd
        have HN := Lib.hid hn'
        have HIT : Hid (iter gInt (k + 1) ([], nx 1 s1) = gInt (iter gInt k ([], nx 1 s1))) := rfl
        clear hd hn'
        generalize hpp : iter gInt k ([], nx 1 s1) = pp at *
        have HPP := Lib.hid hpp
        clear hpp
        obtain ⟨is, s2⟩ := pp
        dsimp only at HD HN
        by_cases hlt : k < n1
        · have o1 : wr.cell? ⟨w.heap.size + 1 + 1 + 1, 1, none⟩ = some iv := HD.out.box.cell 1
          go_wp2_with fail
          go_region_law (first
            | (refine step_app ty_ints (v := iv) (by rfl) _ _ (by rfl) (by rfl) (HN5.out.alloc _) w5.heap.size 1 [.int .i64 (nv 8 s2)] (by rfl) (Whole.made w5 3 _) (by rfl) (by simp [Value.oneCell']) (by decide) (by omega) (by decide) (by have := HD5.out.size; simp; omega) ?_; intro gv cv w6 hap; have HA := Lib.hid hap.own; have HD6 := Lib.hid ((HD5.out.alloc _).app hap (HN5.out.alloc _) (Nat.le_refl _) (by have := HD5.out.size; simp; omega)); have z1 : w6.cell? ⟨w.heap.size + 1 + 1 + 1, 1, none⟩ = some iv := HD6.out.box.cell 1; have z2 := HD6.out.box.free 1; clear hap)
            | (go_simp; go_at_call 33; refine (next_dec 8 HD.out.drew (by decide) (by decide)).mono ?_; rintro e w5 ⟨rfl, hd5, ho5⟩; have HD5 := Lib.hid hd5; have HN5 := Lib.hid (ho5.own (own_drew HN.out) (by omega) (by omega)); have o5 : w5.cell? ⟨w.heap.size + 1 + 1 + 1, 1, none⟩ = some iv := HD5.out.box.cell 1; have o6 : (w5.alloc (.cells #[.int .i64 (nv 8 s2)] 3)).cell? ⟨w.heap.size + 1 + 1 + 1, 1, none⟩ = some iv := (HD5.out.alloc _).box.cell 1; clear hd5 ho5))
          all_goals
            have HD7 := Lib.hid (HD6.out.put 1 (.slice (some ⟨gv, 0, none⟩) (k + 1) cv))
            have HN7 := Lib.hid (HD6.out.own_put (o := 1) (u := .slice (some ⟨gv, 0, none⟩) (k + 1) cv) HA.out (Nat.le_refl _))
            generalize w6.setCell ⟨w.heap.size + 1 + 1 + 1, 1, none⟩ (.slice (some ⟨gv, 0, none⟩) (k + 1) cv) = w7 at *
            go_wp2
            exact ⟨⟨k + 1, _, by go_num, by omega, by rw [HIT.out]; exact HD7.out, by rw [HIT.out]; show World.ownsRow _ _ _ _ _ _ ((is ++ [nv 8 s2]).map _); rw [List.map_append]; exact HN7.out⟩, by simp [intOf]; omega⟩
        · obtain rfl : k = n1 := by omega
          clear HD3 HIT
          have HISZ := Lib.hid (gInt_len ([], nx 1 s1) k)
          go_wp2_with fail
          refine (next_dec 1 HD.out (by decide) (by decide)).mono ?_
          rintro e w3 ⟨rfl, hd3, ho3⟩
          have HD3 := Lib.hid hd3
          have HI3 := Lib.hid (ho3.own HN.out (by omega) (by omega))
          have HC1 := Lib.hid (cnt_eq 1 s2 (by decide)).1
          have hc2 := cnt1_le s2
          rw [HC1.out]
          clear hd3 ho3 HD HN HC1
          generalize hq1 : cnt 1 s2 = n2 at *
          have HQ2 := Lib.hid hq1
          clear hq1
          go_wp2_with fail
          go_loopw [45, 8] (fun i _ wr => ∃ (q : Nat) (tv : Value), i = .int .i64 (q : Int) ∧ q ≤ n2 ∧ DecW w w.heap.size (iter gText q ([], nx 1 s2)).2 #[.slice none 0 0, iv, tv, .int .i64 lets] wr ∧ wr.ownsRow (w.heap.size + 1 + 1 + 1 + 1) 3 1 iv k (is.map (Value.int .i64)) ∧ wr.ownsRow (w.heap.size + 1 + 1 + 1 + 1) 9 1 tv q ((iter gText q ([], nx 1 s2)).1.map Value.string)) (fun i _ _ => n2 - (intOf i).toNat)
          case atStart => exact ⟨0, .slice none 0 0, rfl, by omega, HD3.out, HI3.out, World.ownsRow_nil _ _ _ _⟩
          case round =>
            obtain ⟨q, tv, rfl, hq, hd, hi', hn'⟩ := hrel
            have HD := Lib.hid hd
            have HI := Lib.hid hi'
            have HN := Lib.hid hn'
            have HIT : Hid (iter gText (q + 1) ([], nx 1 s2) = gText (iter gText q ([], nx 1 s2))) := rfl
            clear hd hn' hi' HD3 HI3
            generalize hpp : iter gText q ([], nx 1 s2) = pp at *
            have HPT := Lib.hid hpp
            clear hpp
            obtain ⟨ts, s3'⟩ := pp
            dsimp only at HD HN
            by_cases hlt : q < n2
            · go_wp2_with fail
              refine (next_dec 1 HD.out (by decide) (by decide)).mono ?_
              rintro e w5 ⟨rfl, hd5, ho5⟩
              have HD5 := Lib.hid hd5
              have HI5 := Lib.hid (ho5.own HI.out (by omega) (by omega))
              have HT5 := Lib.hid (ho5.own HN.out (by omega) (by omega))
              have HC1 := Lib.hid (cnt_eq 1 s3' (by decide)).1
              have hc3 := cnt1_le s3'
              rw [HC1.out]
              clear hd5 ho5 HD HI HN HC1
              generalize hq1 : cnt 1 s3' = m at *
              have HQ3 := Lib.hid hq1
              clear hq1
              go_wp2_with fail
              go_loopw [49, 8] (fun i sv wr => ∃ (j : Nat), i = .int .i64 (j : Int) ∧ j ≤ m ∧ DecW w w.heap.size (iter gByte j ([], nx 1 s3')).2 #[.slice none 0 0, iv, tv, .int .i64 lets] wr ∧ wr.ownsRow (w.heap.size + 1 + 1 + 1 + 1) 3 1 iv k (is.map (Value.int .i64)) ∧ wr.ownsRow (w.heap.size + 1 + 1 + 1 + 1) 9 1 tv q (ts.map Value.string) ∧ wr.ownsRow (w.heap.size + 1 + 1 + 1 + 1) 5 1 sv j ((iter gByte j ([], nx 1 s3')).1.map u8v)) (fun i _ _ => m - (intOf i).toNat)
              case atStart => exact ⟨0, rfl, by omega, HD5.out, HI5.out, HT5.out, World.ownsRow_nil _ _ _ _⟩
              case round =>
                obtain ⟨j, rfl, hj, hd, hi', ht', hn'⟩ := hrel
                have HD := Lib.hid hd
                have HI := Lib.hid hi'
                have HT := Lib.hid ht'
                have HN := Lib.hid hn'
                have HIB : Hid (iter gByte (j + 1) ([], nx 1 s3') = gByte (iter gByte j ([], nx 1 s3'))) := rfl
                clear hd hn' hi' ht' HD5 HI5 HT5
                generalize hpp : iter gByte j ([], nx 1 s3') = pp at *
                have HPB := Lib.hid hpp
                clear hpp
                obtain ⟨bs, s4'⟩ := pp
                dsimp only at HD HN
                by_cases hltj : j < m
                · go_wp2_with fail
                  refine (next_dec 1 HD.out (by decide) (by decide)).mono ?_
                  rintro e w6 ⟨rfl, hd6, ho6⟩
                  have HD6 := Lib.hid hd6
                  have HI6 := Lib.hid (ho6.own HI.out (by omega) (by omega))
                  have HT6 := Lib.hid (ho6.own HT.out (by omega) (by omega))
                  have HN6 := Lib.hid (ho6.own HN.out (by omega) (by omega))
                  have HC1 := Lib.hid (cnt_eq 1 s4' (by decide)).1
                  have hc4 := cnt1_le s4'
                  have HU8 := Lib.hid (u8v_ofNat hc4)
                  rw [HC1.out]
                  clear hd6 ho6 HD HI HT HN HC1
                  have HGB : Hid (gByte (bs, s4') = (bs ++ [UInt8.ofNat (cnt 1 s4')], nx 1 s4')) := rfl
                  generalize cnt 1 s4' = cc at *
                  have N35 : Hid ((3 : TypeId) ≠ 5) := by show (3 : TypeId) ≠ 5; decide
                  have N95 : Hid ((9 : TypeId) ≠ 5) := by show (9 : TypeId) ≠ 5; decide
                  go_wp2_with (at_builtin; go_must (refine list_app ty_bytes (v := u8) rfl _ _ rfl rfl (HN6.out.alloc _) w6.heap.size 1 [.int .u8 (cc : Int)] rfl (Whole.made w6 5 _) rfl (by simp [Value.oneCell']) (by decide) (by omega) (by decide) (by have := HD6.out.size; simp; omega) ?_); intro gv cv w7 hap; have HA := Lib.hid hap.own; have HD7 := Lib.hid ((HD6.out.alloc _).app hap (HN6.out.alloc _) (Nat.le_refl _) (by have := HD6.out.size; simp; omega)); have HI7 := Lib.hid (hap.other (HI6.out.alloc _) (own_ne_type HN6.out HI6.out N35.out)); have HT7 := Lib.hid (hap.other (HT6.out.alloc _) (own_ne_type HN6.out HT6.out N95.out)); clear hap)
                  exact ⟨⟨j + 1, by go_num, by omega, by rw [HIB.out, HGB.out]; exact HD7.out, HI7.out, HT7.out, by rw [HIB.out, HGB.out]; show World.ownsRow _ _ _ _ _ _ ((bs ++ [UInt8.ofNat cc]).map u8v); rw [List.map_append, List.map_cons, List.map_nil, ← HU8.out]; exact HA.out⟩, by simp [intOf]; omega⟩
                · obtain rfl : j = m := by omega
                  have o2 : wr.cell? ⟨w.heap.size + 1 + 1 + 1, 2, none⟩ = some tv := HD.out.box.cell 2
                  have hcv := conv_own HN.out rfl
                  have HGT : Hid (gText (ts, s3') = (ts ++ [⟨bs.toArray⟩], s4')) := by
                    show gText (ts, s3') = _
                    have : gBytes s3' = (bs, s4') := by unfold gBytes; rw [HQ3.out]; exact HPB.out
                    unfold gText; dsimp only; rw [this]
                  have o2b : (wr.alloc (.cells #[.string ⟨bs.toArray⟩] 9)).cell? ⟨w.heap.size + 1 + 1 + 1, 2, none⟩ = some tv := (HD.out.alloc _).box.cell 2
                  have N39 : Hid ((3 : TypeId) ≠ 9) := by show (3 : TypeId) ≠ 9; decide
                  clear HIB
                  go_wp2_with (at_builtin; go_must (refine list_app ty_texts (v := tv) rfl _ _ rfl rfl (HT.out.alloc _) wr.heap.size 1 [.string ⟨bs.toArray⟩] rfl (Whole.made wr 9 _) rfl (by simp [Value.oneCell']) (by decide) (by omega) (by decide) (by have := HD.out.size; simp; omega) ?_); intro gv cv w7 hap; have HA := Lib.hid hap.own; have HD7 := Lib.hid ((HD.out.alloc _).app hap (HT.out.alloc _) (Nat.le_refl _) (by have := HD.out.size; simp; omega)); have HI7 := Lib.hid (hap.other (HI.out.alloc _) (own_ne_type HT.out HI.out N39.out)); have z1 : w7.cell? ⟨w.heap.size + 1 + 1 + 1, 2, none⟩ = some tv := HD7.out.box.cell 2; have z2 := HD7.out.box.free 2; clear hap)
                  have HD8 := Lib.hid (HD7.out.put 2 (.slice (some ⟨gv, 0, none⟩) (q + 1) cv))
                  have HT8 := Lib.hid (HD7.out.own_put (o := 2) (u := .slice (some ⟨gv, 0, none⟩) (q + 1) cv) HA.out (Nat.le_refl _))
                  have HI8 := Lib.hid (HD7.out.own_put (o := 2) (u := .slice (some ⟨gv, 0, none⟩) (q + 1) cv) HI7.out (Nat.le_refl _))
                  exact ⟨⟨q + 1, _, by go_num, by omega, by rw [HIT.out, HGT.out]; exact HD8.out, HI8.out, by rw [HIT.out, HGT.out]; show World.ownsRow _ _ _ _ _ _ ((ts ++ [_]).map _); rw [List.map_append]; exact HT8.out⟩, by simp [intOf]; omega⟩
            · obtain rfl : q = n2 := by omega
              clear HIT
              have HTSZ := Lib.hid (gText_len ([], nx 1 s2) q)
              go_wp2_with fail
              refine (next_dec 1 HD.out (by decide) (by decide)).mono ?_
              rintro e w3 ⟨rfl, hd3, ho3⟩
              have HD3 := Lib.hid hd3
              have HI3 := Lib.hid (ho3.own HI.out (by omega) (by omega))
              have HT3 := Lib.hid (ho3.own HN.out (by omega) (by omega))
              have HC1 := Lib.hid (cnt_eq 1 s3' (by decide)).1
              have hc3 := cnt1_le s3'
              rw [HC1.out]
              clear hd3 ho3 HD HN HI HC1
              generalize hq1 : cnt 1 s3' = n3 at *
              have HQ3 := Lib.hid hq1
              clear hq1
              go_wp2_with fail
              go_loopw [68, 9, 79] (fun i _ _ wr => ∃ (p : Nat) (fv : Value) (vs : List Value), i = .int .i64 (p : Int) ∧ p ≤ n3 ∧ DecW w w.heap.size (iter gBdy p ([], nx 1 s3')).2 #[fv, iv, tv, .int .i64 lets] wr ∧ wr.ownsRow (w.heap.size + 1 + 1 + 1 + 1) 3 1 iv k (is.map (Value.int .i64)) ∧ wr.ownsRow (w.heap.size + 1 + 1 + 1 + 1) 9 1 tv q (ts.map Value.string) ∧
                wr.ownsRow (w.heap.size + 1 + 1 + 1 + 1) 40 4 fv p (bdyCells (iter gBdy p ([], nx 1 s3')).1 vs) ∧ CodesOwn wr (w.heap.size + 1 + 1 + 1 + 1) (iter gBdy p ([], nx 1 s3')).1 vs) (fun i _ _ _ => n3 - (intOf i).toNat)
              case atStart => exact ⟨0, .slice none 0 0, [], rfl, by omega, HD3.out, HI3.out, HT3.out, World.ownsRow_nil _ _ _ _, CodesOwn.nil _ _⟩
              case round =>
                obtain ⟨p, fv, vs, rfl, hp, hd, hi', ht', hf', hc'⟩ := hrel
                have HD := Lib.hid hd
                have HI := Lib.hid hi'
                have HT := Lib.hid ht'
                have HF := Lib.hid hf'
                have HCS := Lib.hid hc'
                have HIF : Hid (iter gBdy (p + 1) ([], nx 1 s3') = gBdy (iter gBdy p ([], nx 1 s3'))) := rfl
                have HPL := Lib.hid (gBdy_len ([], nx 1 s3') p)
                clear hd hf' hi' ht' hc' HD3 HI3 HT3
                generalize hpp : iter gBdy p ([], nx 1 s3') = pp at *
                have HPF := Lib.hid hpp
                clear hpp
                obtain ⟨fs, s4'⟩ := pp
                dsimp only at HD HF HCS HPL
                by_cases hlt : p < n3
                · go_wp2_with fail
                  refine (next_dec 1 HD.out (by decide) (by decide)).mono ?_
                  rintro e w5 ⟨rfl, hd5, ho5⟩
                  have HD5 := Lib.hid hd5
                  have HK5 := Lib.hid ((Kept.refl (w.heap.size + 1 + 1) (w.heap.size + 1) wr.heap.size wr).only ho5)
                  have HZ5 := Lib.hid ho5.size
                  clear hd5 ho5
                  go_wp2_with fail
                  refine (next_dec 1 HD5.out (by decide) (by decide)).mono ?_
                  rintro e w6 ⟨rfl, hd6, ho6⟩
                  have HD6 := Lib.hid hd6
                  have HK6 := Lib.hid (HK5.out.only ho6)
                  have HZ6 := Lib.hid (ho6.size.trans HZ5.out)
                  clear hd6 ho6 HD5 HK5 HZ5
                  go_wp2_with fail
                  refine (next_dec 1 HD6.out (by decide) (by decide)).mono ?_
                  rintro e w7 ⟨rfl, hd7, ho7⟩
                  have HD7 := Lib.hid hd7
                  have HK7 := Lib.hid (HK6.out.only ho7)
                  have HZ7 := Lib.hid (ho7.size.trans HZ6.out)
                  clear hd7 ho7 HD6 HK6 HZ6
                  have HGB : Hid (gBdy (fs, s4') = (fs ++ [⟨nv 1 s4', nv 1 (nx 1 s4'), nv 1 (nx 1 (nx 1 s4')), (gCode (nx 1 (nx 1 (nx 1 s4')))).1⟩], (gCode (nx 1 (nx 1 (nx 1 s4')))).2)) := rfl
                  generalize nv 1 (nx 1 (nx 1 s4')) = stk at *
                  generalize nv 1 (nx 1 s4') = lcs at *
                  generalize nv 1 s4' = kpt at *
                  generalize nx 1 (nx 1 (nx 1 s4')) = s5 at *
                  have HB8 := Lib.hid (Whole.made w7 40 #[.int .i64 kpt, .int .i64 lcs, .int .i64 stk, .slice none 0 0])
                  have HD8 := Lib.hid (HD7.out.alloc (.cells #[.int .i64 kpt, .int .i64 lcs, .int .i64 stk, .slice none 0 0] 40))
                  have HK8 := Lib.hid (HK7.out.alloc (by rw [HZ7.out]; exact Nat.le_refl _) (.cells #[.int .i64 kpt, .int .i64 lcs, .int .i64 stk, .slice none 0 0] 40))
                  have HZ8 : Hid ((w7.alloc (.cells #[.int .i64 kpt, .int .i64 lcs, .int .i64 stk, .slice none 0 0] 40)).heap.size = wr.heap.size + 1) := by show _ = _; simp [HZ7.out]
                  rw [HZ7.out] at HB8
                  go_wp2_with fail
                  rw [HZ7.out]
                  generalize w7.alloc (.cells #[.int .i64 kpt, .int .i64 lcs, .int .i64 stk, .slice none 0 0] 40) = w8 at *
                  clear HD7 HK7 HZ7
                  refine (next_dec 2 HD8.out (by decide) (by decide)).mono ?_
                  rintro e w9 ⟨rfl, hd9, ho9⟩
                  have HD9 := Lib.hid hd9
                  have HK9 := Lib.hid (HK8.out.only ho9)
                  have HGS : Hid (w.heap.size + 1 + 1 + 1 + 1 ≤ wr.heap.size) := HD.out.size
                  have HB9 := Lib.hid (ho9.whole HB8.out (by have := HGS.out; omega) (by have := HGS.out; omega))
                  have HZ9 : Hid (wr.heap.size + 1 ≤ w9.heap.size) := by show _ ≤ _; rw [ho9.size, HZ8.out]; exact Nat.le_refl _
                  have HC2 := Lib.hid (cnt_eq 2 s5 (by decide)).1
                  have hc2' := (cnt_eq 2 s5 (by decide)).2
                  rw [HC2.out]
                  clear hd9 ho9 HD8 HK8 HB8 HZ8 HC2
                  generalize hq1 : cnt 2 s5 = m at *
                  have HQ5 := Lib.hid hq1
                  clear hq1
                  obtain ⟨wo, rfl⟩ : ∃ wo : World, wo = wr := ⟨_, rfl⟩
                  go_wp2_with fail
                  have HIN0 : Hid (InW w wo w.heap.size (nx 2 s5) #[fv, iv, tv, .int .i64 lets] (.int .i64 kpt) (.int .i64 lcs) (.int .i64 stk) (.slice none 0 0) [] w9) := ⟨HD9.out, HK9.out, HB9.out, World.ownsRow_nil _ _ _ _, HZ9.out, HGS.out⟩
                  clear HD9 HK9 HB9 HZ9
                  go_loopw [79] (fun i wi => ∃ (j : Nat) (cv : Value), i = .int .i64 (j : Int) ∧ j ≤ m ∧ InW w wo w.heap.size (iter gIns j ([], nx 2 s5)).2 #[fv, iv, tv, .int .i64 lets] (.int .i64 kpt) (.int .i64 lcs) (.int .i64 stk) cv (iter gIns j ([], nx 2 s5)).1 wi) (fun i _ => m - (intOf i).toNat)
                  case atStart => exact ⟨0, .slice none 0 0, rfl, by omega, HIN0.out⟩
                  case round =>
                    obtain ⟨j, cv, rfl, hj, hin⟩ := hrel
                    have HIN := Lib.hid hin
                    have HIJ : Hid (iter gIns (j + 1) ([], nx 2 s5) = gIns (iter gIns j ([], nx 2 s5))) := rfl
                    have HLN := Lib.hid (gIns_len ([], nx 2 s5) j)
                    have HSH := fun h => iter_short (s := nx 2 s5) (j := j) (m := m) h hj
                    have HSHH := Lib.hid HSH
                    clear hin HIN0 HSH
                    generalize hpp : iter gIns j ([], nx 2 s5) = pp at *
                    have HPI := Lib.hid hpp
                    clear hpp
                    obtain ⟨cs, l6, b6⟩ := pp
                    dsimp only at HIN HSHH HLN
                    have hsh : wr.cell? ⟨w.heap.size + 1, 0, none⟩ = some (.bool b6) := HIN.out.dec.rd.short.cell 0
                    by_cases hA : j < m ∧ b6 = false
                    · obtain ⟨hltj, rfl⟩ := hA
                      have o3 : wr.cell? ⟨wo.heap.size, 3, none⟩ = some cv := HIN.out.box.cell 3
                      have HGI : Hid (gIns (cs, (l6, false)) = (cs ++ [⟨nv 1 (l6, false), nv 2 (nx 1 (l6, false)), nv 2 (nx 2 (nx 1 (l6, false)))⟩], nx 2 (nx 2 (nx 1 (l6, false))))) := rfl
                      have hcl : cs.length ≤ 65535 := by have := HLN.out; simp at this; omega
                      generalize hs6 : ((l6, false) : St) = s6 at *
                      clear hs6
                      go_wp2_with fail
                      go_region_law (first
                        | (refine step_app ty_code (v := cv) (by rfl) _ _ (by rfl) (by rfl) (HINc.out.own.alloc _) wc.heap.size 1 [.int .i64 (nv 1 s6), .int .i64 (nv 2 (nx 1 s6)), .int .i64 (nv 2 (nx 2 (nx 1 s6)))] (by rfl) (Whole.made wc 42 _) (by rfl) (by simp [Value.oneCell']) (by decide) (by omega) (by decide) (by have := HINc.out.size; simp; omega) ?_; intro gv cw wd hap; have HA := Lib.hid hap.own; have HAP := Lib.hid ((HINc.out.alloc _).app hap); have z1 : wd.cell? ⟨wo.heap.size, 3, none⟩ = some cv := HAP.out.2.2.1.cell 3; have z2 := HAP.out.2.2.1.free 3; clear hap)
                        | (go_simp; go_at_call 33; (with_reducible refine (next_dec1 HIN.out.drew.dec).mono ?_); rintro e wa ⟨rfl, hda, hoa⟩; have HINa := Lib.hid (HIN.out.drew.next hda hoa); have oa : wa.cell? ⟨wo.heap.size, 3, none⟩ = some cv := HINa.out.box.cell 3; clear hda hoa)
                        | (go_simp; go_at_call 33; (with_reducible refine (next_dec2 HINa.out.dec).mono ?_); rintro e wb ⟨rfl, hdb, hob⟩; have HINb := Lib.hid (HINa.out.next hdb hob); have ob : wb.cell? ⟨wo.heap.size, 3, none⟩ = some cv := HINb.out.box.cell 3; clear hdb hob)
                        | (go_simp; go_at_call 33; (with_reducible refine (next_dec2 HINb.out.dec).mono ?_); rintro e wc ⟨rfl, hdc, hoc⟩; have HINc := Lib.hid (HINb.out.next hdc hoc); have oc : wc.cell? ⟨wo.heap.size, 3, none⟩ = some cv := HINc.out.box.cell 3; have oc2 : (wc.alloc (.cells #[.int .i64 (nv 1 s6), .int .i64 (nv 2 (nx 1 s6)), .int .i64 (nv 2 (nx 2 (nx 1 s6)))] 42)).cell? ⟨wo.heap.size, 3, none⟩ = some cv := (HINc.out.alloc _).box.cell 3; clear hdc hoc))
                      all_goals
                        have HFIN := Lib.hid (InW.done HGS.out (u := .slice (some ⟨gv, 0, none⟩) (cs.length + 1) cw) (js := cs ++ [⟨nv 1 s6, nv 2 (nx 1 s6), nv 2 (nx 2 (nx 1 s6))⟩]) HAP.out (by rw [insCells_snoc, List.length_append]; exact HA.out))
                        generalize wd.setCell ⟨wo.heap.size, 3, none⟩ (.slice (some ⟨gv, 0, none⟩) (cs.length + 1) cw) = we at *
                        go_wp2
                        exact ⟨⟨j + 1, _, by go_num, by omega, by rw [HIJ.out, HGI.out]; exact HFIN.out⟩, by simp [intOf]; omega⟩
                    · have HGC : Hid (gCode s5 = (cs, (l6, b6))) := by
                        show gCode s5 = _
                        unfold gCode; rw [HQ5.out]
                        by_cases hjm : j = m
                        · rw [← hjm]; exact HPI.out
                        · exact HSHH.out ((Bool.eq_false_or_eq_true b6).resolve_right (fun h => hA ⟨by omega, h⟩))
                      have HIO : Hid (wr.ownsRow (w.heap.size + 1 + 1 + 1 + 1) 3 1 iv k (is.map (Value.int .i64))) := HIN.out.kept.own HI.out (Nat.le_refl _) (by omega) (by omega)
                      have HTO : Hid (wr.ownsRow (w.heap.size + 1 + 1 + 1 + 1) 9 1 tv q (ts.map Value.string)) := HIN.out.kept.own HT.out (Nat.le_refl _) (by omega) (by omega)
                      have HFO : Hid (wr.ownsRow (w.heap.size + 1 + 1 + 1 + 1) 40 4 fv p (bdyCells fs vs)) := HIN.out.kept.own HF.out (Nat.le_refl _) (by omega) (by omega)
                      have HCO : Hid (CodesOwn wr (w.heap.size + 1 + 1 + 1 + 1) (fs ++ [⟨kpt, lcs, stk, cs⟩]) (vs ++ [cv])) :=
                        (HIN.out.kept.codes HCS.out (Nat.le_refl _) (by omega) (by omega)).snoc' (fun kk hk g hg => by have := ((HCS.out.2.1 kk hk).lt g hg).2; omega) HIN.out.own (by have := HGS.out; omega)
                      have HVL : Hid (vs.length = fs.length) := HCS.out.1
                      have HV1 := Lib.hid (own_oneV HIN.out.own)
                      have p0 : wr.cell? ⟨wo.heap.size, 0, none⟩ = some (.int .i64 kpt) := HIN.out.box.cell 0
                      have p1 : wr.cell? ⟨wo.heap.size, 1, none⟩ = some (.int .i64 lcs) := HIN.out.box.cell 1
                      have p2 : wr.cell? ⟨wo.heap.size, 2, none⟩ = some (.int .i64 stk) := HIN.out.box.cell 2
                      have p3 : wr.cell? ⟨wo.heap.size, 3, none⟩ = some cv := HIN.out.box.cell 3
                      have g0 : wr.cell? ⟨w.heap.size + 1 + 1 + 1, 0, none⟩ = some fv := HIN.out.dec.box.cell 0
                      have HDX := Lib.hid HIN.out.dec
                      have HX := Lib.hid hA
                      have HGQ : Hid (gBdy (fs, s4') = (fs ++ [⟨kpt, lcs, stk, cs⟩], (l6, b6))) := by show gBdy (fs, s4') = _; rw [HGB.out, HGC.out]
                      have N3 : Hid ((3 : TypeId) ≠ 40) := by show (3 : TypeId) ≠ 40; decide
                      have N9 : Hid ((9 : TypeId) ≠ 40) := by show (9 : TypeId) ≠ 40; decide
                      have N42 : Hid ((42 : TypeId) ≠ 40) := by show (42 : TypeId) ≠ 40; decide
                      clear hA HIN HSHH HIJ HLN HPI HI HT HF HCS HD
                      by_cases hjm : j < m
                      all_goals
                        go_wp2_with (at_builtin; go_must (refine list_app ty_funs (v := fv) rfl _ _ rfl rfl (HFO.out.alloc _) wr.heap.size 1 [.int .i64 kpt, .int .i64 lcs, .int .i64 stk, cv] rfl (Whole.made wr 40 _) rfl (by intro u hu; simp at hu; rcases hu with rfl | rfl | rfl | rfl <;> first | rfl | exact HV1.out) (by decide) (by omega) (by decide) (by have := HDX.out.size; simp; omega) ?_); intro gv cw w7 hap; have HA := Lib.hid hap.own; have HD7 := Lib.hid ((HDX.out.alloc _).app hap (HFO.out.alloc _) (Nat.le_refl _) (by have := HDX.out.size; simp; omega)); have HI7 := Lib.hid (hap.other (HIO.out.alloc _) (own_ne_type HFO.out HIO.out N3.out)); have HT7 := Lib.hid (hap.other (HTO.out.alloc _) (own_ne_type HFO.out HTO.out N9.out)); have HC7 := Lib.hid ((HCO.out.below ((Below.refl wr.heap.size wr).alloc (Nat.le_refl _) _) (Nat.le_refl _)).other hap (HFO.out.alloc _) N42.out); have z1 : w7.cell? ⟨w.heap.size + 1 + 1 + 1, 0, none⟩ = some fv := HD7.out.box.cell 0; have z2 := HD7.out.box.free 0; clear hap)
                      all_goals first
                        | (exfalso; exact HX.out ⟨by omega, by assumption⟩)
                        | (have HD8 := Lib.hid (HD7.out.put 0 (.slice (some ⟨gv, 0, none⟩) (p + 1) cw))
                           have HI8 := Lib.hid (HD7.out.own_put (o := 0) (u := .slice (some ⟨gv, 0, none⟩) (p + 1) cw) HI7.out (Nat.le_refl _))
                           have HT8 := Lib.hid (HD7.out.own_put (o := 0) (u := .slice (some ⟨gv, 0, none⟩) (p + 1) cw) HT7.out (Nat.le_refl _))
                           have HF8 := Lib.hid (HD7.out.own_put (o := 0) (u := .slice (some ⟨gv, 0, none⟩) (p + 1) cw) HA.out (Nat.le_refl _))
                           have HC8 := Lib.hid (HC7.out.setCell (p := ⟨w.heap.size + 1 + 1 + 1, 0, none⟩) HD7.out.box (by decide) (.slice (some ⟨gv, 0, none⟩) (p + 1) cw))
                           exact ⟨⟨p + 1, _, vs ++ [cv], by go_num, by omega, by rw [HIF.out, HGQ.out]; exact HD8.out, HI8.out, HT8.out, by rw [HIF.out, HGQ.out]; show World.ownsRow _ _ _ _ _ _ (bdyCells (fs ++ [_]) (vs ++ [cv])); rw [bdyCells_snoc _ _ _ _ HVL.out]; exact HF8.out, by rw [HIF.out, HGQ.out]; exact HC8.out⟩, by simp [intOf]; omega⟩)
                · obtain rfl : p = n3 := by omega
                  have HGC : Hid (gCod l = (⟨fs, is, ts, lets⟩, s4')) := by
                    show gCod l = _
                    have e1 : gInts s1 = (is, s2) := by unfold gInts; rw [HQ1.out]; exact HPP.out
                    have e2 : gTexts s2 = (ts, s3') := by unfold gTexts; rw [HQ2.out]; exact HPT.out
                    have e3 : gBdys s3' = (fs, s4') := by unfold gBdys; rw [HQ3.out]; exact HPF.out
                    unfold gCod
                    dsimp only
                    rw [HST1.out, e1]
                    dsimp only
                    rw [e2]
                    dsimp only
                    rw [e3, HLT.out]
                  have hil : is.length = k := by have := HISZ.out; rw [HPP.out] at this; simpa using this
                  have htl : ts.length = q := by have := HTSZ.out; rw [HPT.out] at this; simpa using this
                  have hfl : fs.length = p := by have := HPL.out; simpa using this
                  have hOwn : OwnCod wr (w.heap.size + 1) (.agg #[fv, iv, tv, .int .i64 lets]) ⟨fs, is, ts, lets⟩ :=
                    ⟨fv, iv, tv, vs, rfl, by show wr.ownsRow _ 40 4 fv fs.length _; rw [hfl]; exact own_more HF.out (by omega), ⟨HCS.out.1, fun kk hk => own_more (HCS.out.2.1 kk hk) (by omega), HCS.out.2.2⟩, by show wr.ownsRow _ 3 1 iv is.length _; rw [hil]; exact own_more HI.out (by omega), by show wr.ownsRow _ 9 1 tv ts.length _; rw [htl]; exact own_more HT.out (by omega)⟩
                  have HOW := Lib.hid hOwn
                  have HSZ : Hid (is.length ≤ 255 ∧ ts.length ≤ 255 ∧ fs.length ≤ 255) := ⟨by omega, by omega, by omega⟩
                  clear hOwn hil htl hfl
                  have HCD : Hid (∀ b ∈ fs, b.code.length ≤ 9223372036854775807) := fun b hb => gBdy_code (s := nx 1 s3') (n := p) (by rw [HPF.out]; exact hb)
                  obtain ⟨FA, fc, rfl, _⟩ := own_form HF.out
                  obtain ⟨IA, ic, rfl, _⟩ := own_form HI.out
                  obtain ⟨TA, tc, rfl, _⟩ := own_form HT.out
                  have HRES := Lib.hid HD.out.res
                  have HBEL := Lib.hid HD.out.below
                  have HDS := Lib.hid HD.out.size
                  obtain ⟨rv, hrv, A0, n0, c0, rfl, hn0, hc0, hby⟩ := HD.out.rd.rest
                  have hn0l := hby.1
                  have HN0 := Lib.hid hn0l
                  have b0 : wr.cell? ⟨w.heap.size + 1 + 1 + 1, 0, none⟩ = some (.slice FA p fc) := HD.out.box.cell 0
                  have b1 : wr.cell? ⟨w.heap.size + 1 + 1 + 1, 1, none⟩ = some (.slice IA k ic) := HD.out.box.cell 1
                  have b2 : wr.cell? ⟨w.heap.size + 1 + 1 + 1, 2, none⟩ = some (.slice TA q tc) := HD.out.box.cell 2
                  have b3 : wr.cell? ⟨w.heap.size + 1 + 1 + 1, 3, none⟩ = some (.int .i64 lets) := HD.out.box.cell 3
                  have hsh : wr.cell? ⟨w.heap.size + 1, 0, none⟩ = some (.bool s4'.2) := HD.out.rd.short.cell 0
                  have hrs : wr.cell? ⟨w.heap.size + 1 + 1, 0, none⟩ = some (.slice A0 n0 c0) := hrv.cell 0
                  have HAT : Hid (CodAt wr wr.heap.size (.agg #[.slice FA p fc, .slice IA k ic, .slice TA q tc, .int .i64 lets]) ⟨fs, is, ts, lets⟩) := HOW.out.at_ (by have := HSZ.out.2.2; show fs.length ≤ _; omega) (by have := HSZ.out.1; show is.length ≤ _; omega) (by have := HSZ.out.2.1; show ts.length ≤ _; omega) HCD.out
                  have HBX := Lib.hid HD.out.box
                  clear hn0l hby hrv HD HF HI HT HCS HIF HPL HPF
                  by_cases hbad : s4'.2 = true ∨ 0 < n0
                  · have HDE : Hid (decE l = 31 ∧ decC l = zeroC) := by
                      have hb : decB l = false := by
                        unfold decB; rw [HGC.out]
                        dsimp only
                        rcases hbad with h | h
                        · rw [h]; simp
                        · have : s4'.1.isEmpty = false := by
                            rcases hq : s4'.1 with _ | ⟨a, t⟩
                            · have := HN0.out; rw [hq] at this; simp at this; omega
                            · rfl
                          rw [this]; rfl
                      exact ⟨by unfold decE; rw [hb]; rfl, by unfold decC; rw [hb]; rfl⟩
                    have r0 : wr.cell? ⟨w.heap.size, 0, none⟩ = some (.slice none 0 0) := HRES.out.cell 0
                    have r1 : wr.cell? ⟨w.heap.size, 1, none⟩ = some (.slice none 0 0) := HRES.out.cell 1
                    have r2 : wr.cell? ⟨w.heap.size, 2, none⟩ = some (.slice none 0 0) := HRES.out.cell 2
                    have r3 : wr.cell? ⟨w.heap.size, 3, none⟩ = some (.int .i64 0) := HRES.out.cell 3
                    have f0 := HRES.out.free 0
                    have f1 := HRES.out.free 1
                    have f2 := HRES.out.free 2
                    have f3 := HRES.out.free 3
                    have HEND := Lib.hid (res_put (a := .slice none 0 0) (b := .slice none 0 0) (d := .slice none 0 0) (y := .int .i64 0) HBEL.out HRES.out)
                    by_cases hs4 : s4'.2 = true
                    · rw [hs4] at hsh
                      go_wp2_with fail
                      generalize (((wr.setCell ⟨w.heap.size, 0, none⟩ (.slice none 0 0)).setCell ⟨w.heap.size, 1, none⟩ (.slice none 0 0)).setCell ⟨w.heap.size, 2, none⟩ (.slice none 0 0)).setCell ⟨w.heap.size, 3, none⟩ (.int .i64 0) = wf at *
                      obtain ⟨hW, hB, _⟩ := HEND.out
                      have z0 : wf.cell? ⟨w.heap.size, 0, none⟩ = some (.slice none 0 0) := hW.cell 0
                      have z1 : wf.cell? ⟨w.heap.size, 1, none⟩ = some (.slice none 0 0) := hW.cell 1
                      have z2 : wf.cell? ⟨w.heap.size, 2, none⟩ = some (.slice none 0 0) := hW.cell 2
                      have z3 : wf.cell? ⟨w.heap.size, 3, none⟩ = some (.int .i64 0) := hW.cell 3
                      exact bodyPost_ret (v := .tuple #[.agg #[.slice none 0 0, .slice none 0 0, .slice none 0 0, .int .i64 0], .int .i64 31]) (by simp [results, Try.results19, go_sem, z0, z1, z2, z3]) rfl ⟨none, 0, 0, none, 0, 0, none, 0, 0, 0, by rw [HDE.out.1], by rw [HDE.out.2]; exact zero_at _ _, hB⟩
                    · have hs4' : s4'.2 = false := by simpa using hs4
                      rw [hs4'] at hsh
                      have hn0p : 0 < n0 := by rcases hbad with h | h; exact absurd h hs4; exact h
                      clear hbad hs4 hs4'
                      go_wp2_with fail
                      generalize (((wr.setCell ⟨w.heap.size, 0, none⟩ (.slice none 0 0)).setCell ⟨w.heap.size, 1, none⟩ (.slice none 0 0)).setCell ⟨w.heap.size, 2, none⟩ (.slice none 0 0)).setCell ⟨w.heap.size, 3, none⟩ (.int .i64 0) = wf at *
                      obtain ⟨hW, hB, _⟩ := HEND.out
                      have z0 : wf.cell? ⟨w.heap.size, 0, none⟩ = some (.slice none 0 0) := hW.cell 0
                      have z1 : wf.cell? ⟨w.heap.size, 1, none⟩ = some (.slice none 0 0) := hW.cell 1
                      have z2 : wf.cell? ⟨w.heap.size, 2, none⟩ = some (.slice none 0 0) := hW.cell 2
                      have z3 : wf.cell? ⟨w.heap.size, 3, none⟩ = some (.int .i64 0) := hW.cell 3
                      exact bodyPost_ret (v := .tuple #[.agg #[.slice none 0 0, .slice none 0 0, .slice none 0 0, .int .i64 0], .int .i64 31]) (by simp [results, Try.results19, go_sem, z0, z1, z2, z3]) rfl ⟨none, 0, 0, none, 0, 0, none, 0, 0, 0, by rw [HDE.out.1], by rw [HDE.out.2]; exact zero_at _ _, hB⟩
                  · have hs4' : s4'.2 = false := by
                      rcases hq : s4'.2 with _ | _
                      · rfl
                      · exact absurd (.inl hq) hbad
                    have hn00 : n0 = 0 := by
                      rcases Nat.eq_zero_or_pos n0 with h | h
                      · exact h
                      · exact absurd (.inr h) hbad
                    subst hn00
                    have HEM : Hid (s4'.1.isEmpty = true) := by
                      show _ = true
                      rcases hq : s4'.1 with _ | ⟨a, t⟩
                      · rfl
                      · have := HN0.out; rw [hq] at this; simp at this
                    have HS4 := Lib.hid hs4'
                    rw [hs4'] at hsh
                    clear hbad hs4'
                    go_wp2_with fail
                    refine (may_any wr _ ⟨fs, is, ts, lets⟩ HAT.out).mono ?_
                    rintro e w4 ⟨rfl, hb4⟩
                    have HR4 := Lib.hid (HRES.out.below hb4 (by have := HDS.out; omega))
                    have HBL4 := Lib.hid (HBEL.out.trans (hb4.mono (by have := HDS.out; omega)))
                    have HOW4 := Lib.hid (own_later HOW.out hb4 (Nat.le_refl _))
                    have HBX4 := Lib.hid (HBX.out.below hb4 (by have := HDS.out; omega))
                    have r0 : w4.cell? ⟨w.heap.size, 0, none⟩ = some (.slice none 0 0) := HR4.out.cell 0
                    have r1 : w4.cell? ⟨w.heap.size, 1, none⟩ = some (.slice none 0 0) := HR4.out.cell 1
                    have r2 : w4.cell? ⟨w.heap.size, 2, none⟩ = some (.slice none 0 0) := HR4.out.cell 2
                    have r3 : w4.cell? ⟨w.heap.size, 3, none⟩ = some (.int .i64 0) := HR4.out.cell 3
                    have f0 := HR4.out.free 0
                    have f1 := HR4.out.free 1
                    have f2 := HR4.out.free 2
                    have f3 := HR4.out.free 3
                    clear hb4 HRES HBEL HOW HBX b0 b1 b2 b3 hsh hrs
                    rcases hok : codOK ⟨fs, is, ts, lets⟩ with _ | _
                    · have HDE : Hid (decE l = 31 ∧ decC l = zeroC) := by
                        have hb : decB l = false := by unfold decB; rw [HGC.out]; dsimp only; rw [hok]; simp
                        exact ⟨by unfold decE; rw [hb]; rfl, by unfold decC; rw [hb]; rfl⟩
                      have HEND := Lib.hid (res_put (a := .slice none 0 0) (b := .slice none 0 0) (d := .slice none 0 0) (y := .int .i64 0) HBL4.out HR4.out)
                      go_wp2_with fail
                      generalize (((w4.setCell ⟨w.heap.size, 0, none⟩ (.slice none 0 0)).setCell ⟨w.heap.size, 1, none⟩ (.slice none 0 0)).setCell ⟨w.heap.size, 2, none⟩ (.slice none 0 0)).setCell ⟨w.heap.size, 3, none⟩ (.int .i64 0) = wf at *
                      obtain ⟨hW, hB, _⟩ := HEND.out
                      have z0 : wf.cell? ⟨w.heap.size, 0, none⟩ = some (.slice none 0 0) := hW.cell 0
                      have z1 : wf.cell? ⟨w.heap.size, 1, none⟩ = some (.slice none 0 0) := hW.cell 1
                      have z2 : wf.cell? ⟨w.heap.size, 2, none⟩ = some (.slice none 0 0) := hW.cell 2
                      have z3 : wf.cell? ⟨w.heap.size, 3, none⟩ = some (.int .i64 0) := hW.cell 3
                      exact bodyPost_ret (v := .tuple #[.agg #[.slice none 0 0, .slice none 0 0, .slice none 0 0, .int .i64 0], .int .i64 31]) (by simp [results, Try.results19, go_sem, z0, z1, z2, z3]) rfl ⟨none, 0, 0, none, 0, 0, none, 0, 0, 0, by rw [HDE.out.1], by rw [HDE.out.2]; exact zero_at _ _, hB⟩
                    · have HDE : Hid (decE l = 0 ∧ decC l = ⟨fs, is, ts, lets⟩) := by
                        have hb : decB l = true := by unfold decB; rw [HGC.out]; dsimp only; rw [hok, HEM.out, HS4.out]; rfl
                        exact ⟨by unfold decE; rw [hb]; rfl, by unfold decC; rw [hb, HGC.out]; rfl⟩
                      have b0 : w4.cell? ⟨w.heap.size + 1 + 1 + 1, 0, none⟩ = some (.slice FA p fc) := HBX4.out.cell 0
                      have b1 : w4.cell? ⟨w.heap.size + 1 + 1 + 1, 1, none⟩ = some (.slice IA k ic) := HBX4.out.cell 1
                      have b2 : w4.cell? ⟨w.heap.size + 1 + 1 + 1, 2, none⟩ = some (.slice TA q tc) := HBX4.out.cell 2
                      have b3 : w4.cell? ⟨w.heap.size + 1 + 1 + 1, 3, none⟩ = some (.int .i64 lets) := HBX4.out.cell 3
                      have HEND := Lib.hid (res_put (a := .slice FA p fc) (b := .slice IA k ic) (d := .slice TA q tc) (y := .int .i64 lets) HBL4.out HR4.out)
                      go_wp2_with fail
                      generalize (((w4.setCell ⟨w.heap.size, 0, none⟩ (.slice FA p fc)).setCell ⟨w.heap.size, 1, none⟩ (.slice IA k ic)).setCell ⟨w.heap.size, 2, none⟩ (.slice TA q tc)).setCell ⟨w.heap.size, 3, none⟩ (.int .i64 lets) = wf at *
                      obtain ⟨hW, hB, hO⟩ := HEND.out
                      have z0 : wf.cell? ⟨w.heap.size, 0, none⟩ = some (.slice FA p fc) := hW.cell 0
                      have z1 : wf.cell? ⟨w.heap.size, 1, none⟩ = some (.slice IA k ic) := hW.cell 1
                      have z2 : wf.cell? ⟨w.heap.size, 2, none⟩ = some (.slice TA q tc) := hW.cell 2
                      have z3 : wf.cell? ⟨w.heap.size, 3, none⟩ = some (.int .i64 lets) := hW.cell 3
                      have HAT4 := (hO HOW4.out).at_ (by have := HSZ.out.2.2; show fs.length ≤ _; omega) (by have := HSZ.out.1; show is.length ≤ _; omega) (by have := HSZ.out.2.1; show ts.length ≤ _; omega) HCD.out
                      exact bodyPost_ret (v := .tuple #[.agg #[.slice FA p fc, .slice IA k ic, .slice TA q tc, .int .i64 lets], .int .i64 0]) (by simp [results, Try.results19, go_sem, z0, z1, z2, z3]) rfl ⟨FA, p, fc, IA, k, ic, TA, q, tc, lets, by rw [HDE.out.1], by rw [HDE.out.2]; exact HAT4, hB⟩
end Go.Proofs.Ytffpkmoaahkfmaa
