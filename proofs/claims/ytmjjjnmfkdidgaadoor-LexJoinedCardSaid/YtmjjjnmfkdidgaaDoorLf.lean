/- The law LexJoined: its walk. -/
import Derived.Test.YtmjjjnmfkdidgaaDoorLb
namespace Go.Proofs.YtmjjjnmfkdidgaaDoor
open Go.RowKit
set_option linter.unusedVariables false
attribute [local go_sem ↓] Go.wp_at_zero Go.wp_at_succ

theorem Toks.at_le {l : List UInt8} {i : Nat} {ts : List Tok} (h : Toks l i ts) : ∀ (k : Nat) (t : Tok), ts[k]? = some t → t.at_ ≤ i + l.length := by
  induction h with
  | fin l i h =>
    intro k t hk
    have hg := gapL_le l
    rcases k with _ | k
    · simp only [List.getElem?_cons_zero, Option.some.injEq] at hk
      subst hk; dsimp only; omega
    · simp at hk
  | one l i ts kd tx nm n hr hk ht ih =>
    intro k t hkt
    have hn := tok_len hr hk
    have hg := gapL_le l
    rw [List.length_drop] at hn
    rcases k with _ | k
    · simp only [List.getElem?_cons_zero, Option.some.injEq] at hkt
      subst hkt; dsimp only; omega
    · simp only [List.getElem?_cons_succ] at hkt
      have := ih k t hkt
      rw [List.length_drop] at this
      omega
def gapA : Array Value := #[.string ⟨#[32]⟩, .string ⟨#[10]⟩, .string ⟨#[9, 10, 32]⟩, .string ⟨#[10, 35, 32, 108, 101, 116, 10]⟩, .string ⟨#[32, 35, 10]⟩]
theorem gap_is (K : Nat) (h : K < 5) : ∃ g : ByteArray, gapA[K]? = some (.string g) ∧ g.size ≤ 7 ∧ ∀ t, gapL (g.data.toList ++ t) = g.size + gapL t := by
  have hb : ∀ (c : UInt8) (t : List UInt8), (c = 32 ∨ c = 9 ∨ c = 10) → gapL (c :: t) = 1 + gapL t := gapL_blank
  have hr : ∀ (t : List UInt8), gapL (35 :: 10 :: t) = 2 + gapL t := fun t => by
    have e : ((35 : UInt8) :: 10 :: t).takeWhile (· ≠ 10) = [35] := rfl
    rw [gapL_rem _ _ rfl, e]
    show 1 + gapL (10 :: t) = _
    rw [hb _ _ (by decide)]; omega
  have hr2 : ∀ (t : List UInt8), gapL (35 :: 32 :: 108 :: 101 :: 116 :: 10 :: t) = 6 + gapL t := fun t => by
    have e : ((35 : UInt8) :: 32 :: 108 :: 101 :: 116 :: 10 :: t).takeWhile (· ≠ 10) = [35, 32, 108, 101, 116] := rfl
    rw [gapL_rem _ _ rfl, e]
    show 5 + gapL (10 :: t) = _
    rw [hb _ _ (by decide)]; omega
  rcases (by omega : K = 0 ∨ K = 1 ∨ K = 2 ∨ K = 3 ∨ K = 4) with rfl | rfl | rfl | rfl | rfl
  · exact ⟨⟨#[32]⟩, rfl, by decide, fun t => hb 32 t (by decide)⟩
  · exact ⟨⟨#[10]⟩, rfl, by decide, fun t => hb 10 t (by decide)⟩
  · refine ⟨⟨#[9, 10, 32]⟩, rfl, by decide, fun t => ?_⟩
    show gapL (9 :: 10 :: 32 :: t) = 3 + _
    rw [hb _ _ (by decide), hb _ _ (by decide), hb _ _ (by decide)]; omega
  · refine ⟨⟨#[10, 35, 32, 108, 101, 116, 10]⟩, rfl, by decide, fun t => ?_⟩
    show gapL (10 :: 35 :: 32 :: 108 :: 101 :: 116 :: 10 :: t) = 7 + _
    rw [hb _ _ (by decide), hr2]; omega
  · refine ⟨⟨#[32, 35, 10]⟩, rfl, by decide, fun t => ?_⟩
    show gapL (32 :: 35 :: 10 :: t) = 3 + _
    rw [hb _ _ (by decide), hr]; omega
theorem nl_list (s : ByteArray) : (s ++ ⟨#[10]⟩).data.toList = s.data.toList ++ [10] := by simp
theorem all_list (s g t : ByteArray) : ((s ++ ⟨#[10]⟩) ++ g ++ t).data.toList = s.data.toList ++ 10 :: (g.data.toList ++ t.data.toList) := by simp
theorem nl_size (s : ByteArray) : (s ++ ⟨#[10]⟩).size = s.size + 1 := by simp [ByteArray.size_append]; rfl
theorem all_size (s g t : ByteArray) : ((s ++ ⟨#[10]⟩) ++ g ++ t).size = s.size + 1 + g.size + t.size := by
  rw [ByteArray.size_append, ByteArray.size_append, nl_size]
/-- The tokens of both. -/
theorem joined (s g t : ByteArray) (ts us : List Tok) (p q : Nat) (hs : s.size ≤ 300) (hg : g.size ≤ 7) (ht : t.size ≤ 300) (hgl : gapL (g.data.toList ++ t.data.toList) = g.size + gapL t.data.toList)
    (h1 : tokensF (s ++ ⟨#[10]⟩).data.toList = (ts, p, 0)) (h2 : tokensF t.data.toList = (us, q, 0)) :
    tokensF ((s ++ ⟨#[10]⟩) ++ g ++ t).data.toList = (ts.dropLast ++ us.map (Tok.late (s.size + 1 + g.size)), 0, 0) := by
  have a1 := of_tokensF h1
  have a2 := (of_tokensF h2).late (s.size + 1 + g.size)
  rw [nl_list] at a1
  have hsz : ((s ++ ⟨#[10]⟩) ++ g ++ t).data.toList.length = s.size + 1 + g.size + t.size := by rw [size_list, all_size]
  refine tokensF_of ?_ (by omega)
  rw [all_list]
  have := a1.join s.data.toList g.data.toList t.data.toList _ rfl (by rw [hgl, size_list]) (by rw [size_list, size_list]; exact a2)
  exact this
theorem join_lo {ts vs : List Tok} {i : Nat} (h : i + 1 < ts.length) : (ts.dropLast ++ vs)[i]? = ts[i]? := by
  rw [List.getElem?_append_left (by rw [List.length_dropLast]; omega), List.getElem?_dropLast, if_pos (by omega)]
theorem join_hi {ts us : List Tok} {d i : Nat} (h : ts.length ≤ i + 1) (h0 : 0 < ts.length) : (ts.dropLast ++ us.map (Tok.late d))[i]? = (us[i + 1 - ts.length]?).map (Tok.late d) := by
  rw [List.getElem?_append_right (by rw [List.length_dropLast]; omega), List.getElem?_map, List.length_dropLast]
  congr 2; omega
theorem join_len {ts us : List Tok} {d : Nat} (h0 : 0 < ts.length) : (ts.dropLast ++ us.map (Tok.late d)).length + 1 = ts.length + us.length := by
  rw [List.length_append, List.length_dropLast, List.length_map]; omega
set_option maxRecDepth 100000 in
set_option maxHeartbeats 8000000 in
theorem lexJoined_walk (s0 t0 : ByteArray) (n : Int) (w : World) (m : Int) (hm : w.cell? ⟨0, 0, none⟩ = some (.int .i64 m)) (hs : s0.size ≤ maxLen) (ht : t0.size ≤ maxLen) (hn : (Lit.int .i64 n).wf = true) :
    Calls Tryd.prog 5 #[.string s0, .string t0, .int .i64 n] w fun e w' => e = .returned (.bool true) ∧ Below w.heap.size w w' := by
  have HM : Hid (w.cell? ⟨0, 0, none⟩ = some (.int .i64 m)) := hm
  have HP := Lib.hid (heap_pos hm)
  have HS0 := Lib.hid hs
  have HT0 := Lib.hid ht
  have HFS := Lib.hid (fewB_size s0)
  have HFT := Lib.hid (fewB_size t0)
  obtain ⟨n0, n1⟩ := wf_i64 hn
  clear hm hn hs ht
  obtain ⟨v, hv⟩ : ∃ v, v = if n < 0 then -(n + 1) else n := ⟨_, rfl⟩
  have hv0 : 0 ≤ v ∧ v ≤ 9223372036854775807 := by rw [hv]; split <;> omega
  obtain ⟨hv0, hv1⟩ := hv0
  obtain ⟨K, hK⟩ : ∃ K : Nat, (K : Int) = v % 5 := ⟨(v % 5).toNat, by omega⟩
  have hKb : K < 5 := by omega
  have r1 : v.tmod 5 = (K : Int) := by rw [Int.tmod_eq_emod_of_nonneg hv0]; exact hK.symm
  have r2 : v % 5 = (K : Int) := hK.symm
  have k1 : (0 : Int) ≤ (K : Int) := by omega
  have k2 : (K : Int) < 5 := by omega
  clear hK
  obtain ⟨g, hga, hgs, hgl⟩ := gap_is K hKb
  have HGA := Lib.hid hga
  have HGL := Lib.hid hgl
  clear hga hgl
  by_cases h : n < 0
  all_goals
    first
    | (have d0 : decide (n < 0) = true := decide_eq_true h
       rw [if_pos h] at hv)
    | (have d0 : decide (n < 0) = false := decide_eq_false h
       rw [if_neg h] at hv)
    subst hv
    go_enter Tryd.func5, Tryd.ntmps5
    go_wp2_with fail
    refine (few_any s0 w HS0.out).mono ?_
    rintro e w' ⟨rfl, rfl⟩
    generalize fewB s0 = s at *
    go_wp2_with fail
    refine (few_any t0 w HT0.out).mono ?_
    rintro e w' ⟨rfl, rfl⟩
    generalize fewB t0 = t at *
    have hs1 : (s.size : Int) ≤ 300 := by have := HFS.out; omega
    have ht1 : (t.size : Int) ≤ 300 := by have := HFT.out; omega
    go_upto_region 7 with (fail)
    have HG : Hid (Whole (w.alloc (.cells gapA 9)) w.heap.size 9 gapA) := Whole.made _ _ _
    have HB : Hid (Below w.heap.size w (w.alloc (.cells gapA 9))) := (Below.refl _ _).alloc (Nat.le_refl _) _
    unfold gapA at HG HB
    have M0 := Lib.hid ((HB.out.cell (p := ⟨0, 0, none⟩) HP.out).trans HM.out)
    generalize w.alloc _ = w1 at *
    generalize hG0 : w.heap.size = G at HG ⊢
    have HG0 := Lib.hid hG0
    clear hG0
    rcases h1 : tokensF (s ++ ⟨#[10]⟩).data.toList with ⟨ts, p1, e1⟩
    rcases h2 : tokensF t.data.toList with ⟨us, p2, e2⟩
    have H1 := Lib.hid h1
    have H2 := Lib.hid h2
    have hq1 : (s ++ ⟨#[10]⟩).size = s.size + 1 := nl_size s
    have CA : Hid (∀ wx : World, wx.cell? ⟨0, 0, none⟩ = some (.int .i64 m) → Calls Tryd.prog 11 #[.string (s ++ ⟨#[10]⟩)] wx fun e w' => ∃ A c, e = .returned (.tuple #[.slice A ts.length c, .int .i64 (p1 : Int), .int .i64 e1]) ∧ TokRow w' A ts ∧ Below wx.heap.size wx w' ∧ w'.cell? ⟨0, 0, none⟩ = some (.int .i64 m)) := fun wx hmx => by
      refine (toks_any wx _ m ts p1 e1 H1.out (by omega) hmx (shortQ _ (by rw [size_list]; omega))).mono ?_
      rintro e w' ⟨A, c, rfl, a, _, b, m'⟩
      exact ⟨A, c, rfl, a, b, m'⟩
    clear h1 h2 hq1
    go_wp2_with fail
    refine (CA.out w1 M0.out).mono ?_
    rintro e w2 ⟨A, c, rfl, a2, b2, m2⟩
    have HG2 := Lib.hid (HG.out.below b2 HG.out.lt)
    have HA2 := Lib.hid a2
    have HB2 := Lib.hid (HB.out.trans (b2.mono HB.out.size))
    have M2 := Lib.hid m2
    clear a2 b2 m2 HG HB M0 CA
    go_wp2_with fail
    refine (toks_any w2 t m us p2 e2 H2.out (by omega) M2.out (shortQ _ (by rw [size_list]; omega))).mono ?_
    rintro e w3 ⟨A3, c3, rfl, a3, _, b3, m3⟩
    have HG3 := Lib.hid (HG2.out.below b3 HG2.out.lt)
    have HA3 := Lib.hid (HA2.out.below b3)
    have HU3 := Lib.hid a3
    have HB3 := Lib.hid (HB2.out.trans (b3.mono HB2.out.size))
    have M3 := Lib.hid m3
    clear a3 b3 m3 HG2 HA2 HB2 M2
    by_cases he1 : e1 = 0
    · subst he1
      have hts := (of_tokensF H1.out).ne
      have hlts : 0 < ts.length := List.length_pos_iff.2 hts
      have q1 : ((ts.length : Int) == 0) = false := beq_eq_false_iff_ne.2 (by omega)
      have q1b : decide ((0 : Int) < (ts.length : Int)) = true := decide_eq_true (by omega)
      have q1n : decide (0 < ts.length) = true := decide_eq_true hlts
      by_cases he2 : e2 = 0
      · subst he2
        have hus := (of_tokensF H2.out).ne
        have hlus : 0 < us.length := List.length_pos_iff.2 hus
        have q2 : ((us.length : Int) == 0) = false := beq_eq_false_iff_ne.2 (by omega)
        have hl1 := (of_tokensF H1.out).len
        have hl2 := (of_tokensF H2.out).len
        rw [size_list] at hl1 hl2
        have hl1b : (ts.length : Int) ≤ 302 := by have := nl_size s; omega
        have hl2b : (us.length : Int) ≤ 301 := by omega
        have hj := joined s g t ts us p1 p2 (by omega) hgs (by omega) (HGL.out _) H1.out H2.out
        have hcl := join_len (ts := ts) (us := us) (d := s.size + 1 + g.size) hlts
        have HLO := Lib.hid (fun (i : Nat) (hi : i + 1 < ts.length) => join_lo (vs := us.map (Tok.late (s.size + 1 + g.size))) hi)
        have HHI := Lib.hid (fun (i : Nat) (hi : ts.length ≤ i + 1) => join_hi (us := us) (d := s.size + 1 + g.size) hi hlts)
        have hjs : ((s ++ ⟨#[10]⟩) ++ g ++ t).size ≤ 1000 := by rw [all_size]; omega
        obtain ⟨cs, hcs⟩ : ∃ cs, ts.dropLast ++ us.map (Tok.late (s.size + 1 + g.size)) = cs := ⟨_, rfl⟩
        rw [hcs] at hj hcl HLO HHI
        have hnl : ((s ++ ⟨#[10]⟩ : ByteArray).size : Int) = s.size + 1 := by rw [nl_size]; rfl
        have hnl2 : ((s ++ ⟨#[10]⟩ ++ g : ByteArray).size : Int) = s.size + 1 + g.size := by rw [ByteArray.size_append, nl_size]; omega
        have g7 : (g.size : Int) ≤ 7 := by omega
        have c0 : w3.cell? ⟨G, K, none⟩ = some (.string g) := (HG3.out.cell K).trans HGA.out
        have CC : Hid (∀ wx : World, wx.cell? ⟨0, 0, none⟩ = some (.int .i64 m) → Calls Tryd.prog 11 #[.string ((s ++ ⟨#[10]⟩) ++ g ++ t)] wx fun e w' => ∃ A c, e = .returned (.tuple #[.slice A cs.length c, .int .i64 0, .int .i64 0]) ∧ TokRow w' A cs ∧ Below wx.heap.size wx w' ∧ w'.cell? ⟨0, 0, none⟩ = some (.int .i64 m)) := fun wx hmx => by
          refine (toks_any wx _ m cs 0 0 hj (by omega) hmx (shortQ _ (by rw [size_list]; exact hjs))).mono ?_
          rintro e w' ⟨A, c, rfl, a, _, b, m'⟩
          exact ⟨A, c, rfl, a, b, m'⟩
        have HCL := Lib.hid hcl
        have hcl2 : (cs.length : Int) = (ts.length : Int) + (us.length : Int) - 1 := by omega
        have HAT := Lib.hid ((of_tokensF H2.out).at_le)
        rw [Nat.zero_add, size_list] at HAT
        clear hts hus hl1 hl2 hj hjs hcs hcl H1 H2
        go_wp2_with fail
        refine (CC.out w3 M3.out).mono ?_
        rintro e w4 ⟨A4, c4, rfl, a4, b4, m4⟩
        have HG4 := Lib.hid (HG3.out.below b4 HG3.out.lt)
        have HA4 := Lib.hid (HA3.out.below b4)
        have HU4 := Lib.hid (HU3.out.below b4)
        have HC4 := Lib.hid a4
        have HB4 := Lib.hid (HB3.out.trans (b4.mono HB3.out.size))
        have M4 := Lib.hid m4
        clear a4 b4 m4 HG3 HA3 HU3 HB3 M3 CC c0
        have q5 : ((cs.length : Int) != (ts.length : Int) + (us.length : Int) - 1) = false := by rw [bne_eq_false_iff_eq]; exact hcl2
        have q5b : ((ts.length : Int) + (us.length : Int) - 1 != (ts.length : Int) + (us.length : Int) - 1) = false := bne_self_eq_false _
        go_wp2_with fail
        go_loopg [18] cs.length (fun gk ks wr => ∃ k : Nat, ks = .int .i64 (k : Int) ∧ k + gk = cs.length ∧ TokRow wr A ts ∧ TokRow wr A3 us ∧ TokRow wr A4 cs ∧ wr.cell? ⟨G, K, none⟩ = some (.string g) ∧ Below w.heap.size w wr ∧ wr.cell? ⟨0, 0, none⟩ = some (.int .i64 m) ∧ G < wr.heap.size)
        case atStart => exact ⟨0, rfl, by omega, HA4.out, HU4.out, HC4.out, (HG4.out.cell K).trans HGA.out, HB4.out, M4.out, HG4.out.lt⟩
        case round =>
          obtain ⟨k, rfl, hkg, a5, u5, c5, g5, b5, m5, l5⟩ := hrel
          have HA := Lib.hid a5
          have HU := Lib.hid u5
          have HC := Lib.hid c5
          have HGC := Lib.hid g5
          have HB := Lib.hid b5
          have HM5 := Lib.hid m5
          have HL5 := Lib.hid l5
          clear a5 u5 c5 g5 b5 m5 l5 HA4 HU4 HC4 HG4 HB4 M4
          by_cases hlt : k < cs.length
          · have d1 : decide ((k : Int) < (cs.length : Int)) = true := decide_eq_true (by omega)
            have d1n : decide (k < cs.length) = true := decide_eq_true hlt
            have i1 : (0 : Int) ≤ (k : Int) := by omega
            have i2 : (k : Int) < (cs.length : Int) := by omega
            by_cases hlo : k + 1 < ts.length
            · have d3 : decide ((k : Int) < (ts.length : Int) - 1) = true := decide_eq_true (by omega)
              obtain ⟨x, hx⟩ : ∃ x, ts[k]? = some x := ⟨_, List.getElem?_eq_getElem (by omega)⟩
              obtain ⟨gc, rfl, x0, x1, x2, x3⟩ := HC.out.at_ ((HLO.out k hlo).trans hx)
              have HXE := Lib.hid hx
              clear hx
              go_upto_region 18 with (fail)
              have HX : Hid (Whole (wr.alloc (Obj.cells #[.int .i64 x.kind, .string ⟨x.text.toArray⟩, .int .i64 x.num, .int .i64 (x.at_ : Int)] 32)) wr.heap.size 32 #[.int .i64 x.kind, .string ⟨x.text.toArray⟩, .int .i64 x.num, .int .i64 (x.at_ : Int)]) := Whole.made _ _ _
              have HBW : Hid (Below wr.heap.size wr (wr.alloc (Obj.cells #[.int .i64 x.kind, .string ⟨x.text.toArray⟩, .int .i64 x.num, .int .i64 (x.at_ : Int)] 32))) := (Below.refl _ _).alloc (Nat.le_refl _) _
              have HA5 := Lib.hid (HA.out.below HBW.out)
              obtain ⟨ga, rfl, y0, y1, y2, y3⟩ := HA5.out.at_ HXE.out
              clear x0 x1 x2 x3
              generalize wr.alloc (Obj.cells #[.int .i64 x.kind, .string ⟨x.text.toArray⟩, .int .i64 x.num, .int .i64 (x.at_ : Int)] 32) = w5 at *
              have t0 := HX.out.cell 0
              have t1 := HX.out.cell 1
              have t2 := HX.out.cell 2
              have t3 := HX.out.cell 3
              simp only [List.getElem?_toArray, List.getElem?_cons_zero, List.getElem?_cons_succ] at t0 t1 t2 t3
              go_wp2_with fail
              go_quiet (fail)
              go_wp2_with fail
              go_roundg (gk - 1)
              case measure => omega
              case rel =>
                have HBZ := below_drewN HBW.out nq
                refine ⟨k + 1, rfl, by omega, HA.out.below HBZ, HU.out.below HBZ, HC.out.below HBZ, (HBZ.cell (p := ⟨G, K, none⟩) HL5.out).trans HGC.out, HB.out.trans (HBZ.mono HB.out.size), (HBZ.cell (p := ⟨0, 0, none⟩) (Nat.lt_of_le_of_lt (Nat.zero_le _) HL5.out)).trans HM5.out, Nat.lt_of_lt_of_le HL5.out HBZ.size⟩
            · have d3 : decide ((k : Int) < (ts.length : Int) - 1) = false := decide_eq_false (by omega)
              obtain ⟨j, hj⟩ : ∃ j, k + 1 - ts.length = j := ⟨_, rfl⟩
              obtain ⟨u, hu⟩ : ∃ u, us[j]? = some u := ⟨_, List.getElem?_eq_getElem (by omega)⟩
              have hca := HHI.out k (by omega)
              rw [hj, hu] at hca
              obtain ⟨gc, rfl, x0, x1, x2, x3⟩ := HC.out.at_ hca
              have hua := HAT.out j u hu
              have HUE := Lib.hid hu
              have e1 : (k : Int) - (ts.length : Int) + 1 = (j : Int) := by omega
              have j1 : (0 : Int) ≤ (j : Int) := by omega
              have j2 : (j : Int) < (us.length : Int) := by omega
              obtain ⟨a, ha⟩ : ∃ a, u.at_ + (s.size + 1 + g.size) = a := ⟨_, rfl⟩
              have e2 : (a : Int) - (s.size : Int) - 1 - (g.size : Int) = (u.at_ : Int) := by omega
              have a0 : (a : Int) ≤ 1000 := by omega
              unfold Tok.late at x0 x1 x2 x3
              dsimp only at x0 x1 x2 x3
              rw [ha] at x3
              clear hca hu hj ha
              go_upto_region 18 with (fail)
              have HX : Hid (Whole (wr.alloc (Obj.cells #[.int .i64 u.kind, .string ⟨u.text.toArray⟩, .int .i64 u.num, .int .i64 (a : Int)] 32)) wr.heap.size 32 #[.int .i64 u.kind, .string ⟨u.text.toArray⟩, .int .i64 u.num, .int .i64 (a : Int)]) := Whole.made _ _ _
              have HBW : Hid (Below wr.heap.size wr (wr.alloc (Obj.cells #[.int .i64 u.kind, .string ⟨u.text.toArray⟩, .int .i64 u.num, .int .i64 (a : Int)] 32))) := (Below.refl _ _).alloc (Nat.le_refl _) _
              have cg : (wr.alloc (Obj.cells #[.int .i64 u.kind, .string ⟨u.text.toArray⟩, .int .i64 u.num, .int .i64 (a : Int)] 32)).cell? ⟨G, K, none⟩ = some (.string g) := (HBW.out.cell (p := ⟨G, K, none⟩) HL5.out).trans HGC.out
              clear x0 x1 x2 x3
              generalize wr.alloc (Obj.cells #[.int .i64 u.kind, .string ⟨u.text.toArray⟩, .int .i64 u.num, .int .i64 (a : Int)] 32) = w5 at *
              have t3 := HX.out.cell 3
              have f3 := HX.out.free 3
              simp only [List.getElem?_toArray, List.getElem?_cons_zero, List.getElem?_cons_succ] at t3
              go_upto_region 21 with (fail)
              go_still_tail 13, (by kernel_rfl)
              repeat still_step
              go_upto_region 22 with (fail)
              rw [e2]
              have HX6 : Hid (Whole (w5.setCell ⟨wr.heap.size, 3, none⟩ (.int .i64 (u.at_ : Int))).drew wr.heap.size 32 #[.int .i64 u.kind, .string ⟨u.text.toArray⟩, .int .i64 u.num, .int .i64 (u.at_ : Int)]) := HX.out.put 3 (.int .i64 (u.at_ : Int))
              have HBW6 := Lib.hid ((HBW.out.setCell (p := ⟨wr.heap.size, 3, none⟩) (Nat.le_refl _) (.int .i64 (u.at_ : Int))).drew)
              clear HX HBW cg t3 f3
              generalize (w5.setCell ⟨wr.heap.size, 3, none⟩ (.int .i64 (u.at_ : Int))).drew = w6 at *
              have HU6 := Lib.hid (HU.out.below HBW6.out)
              obtain ⟨gu, rfl, y0, y1, y2, y3⟩ := HU6.out.at_ HUE.out
              have t0 := HX6.out.cell 0
              have t1 := HX6.out.cell 1
              have t2 := HX6.out.cell 2
              have t3 := HX6.out.cell 3
              simp only [List.getElem?_toArray, List.getElem?_cons_zero, List.getElem?_cons_succ] at t0 t1 t2 t3
              go_quiet (fail)
              go_wp2_with fail
              go_roundg (gk - 1)
              case measure => omega
              case rel =>
                have HBZ := below_drewN HBW6.out nq
                refine ⟨k + 1, rfl, by omega, HA.out.below HBZ, HU.out.below HBZ, HC.out.below HBZ, (HBZ.cell (p := ⟨G, K, none⟩) HL5.out).trans HGC.out, HB.out.trans (HBZ.mono HB.out.size), (HBZ.cell (p := ⟨0, 0, none⟩) (Nat.lt_of_le_of_lt (Nat.zero_le _) HL5.out)).trans HM5.out, Nat.lt_of_lt_of_le HL5.out HBZ.size⟩
          · have d1 : decide ((k : Int) < (cs.length : Int)) = false := decide_eq_false (by omega)
            have d1n : decide (k < cs.length) = false := decide_eq_false hlt
            go_wp2_with fail
            refine (lives_any wr m HM5.out).mono ?_
            rintro e w5 ⟨rfl, b5⟩
            go_wp2_with fail
            go_ret
            exact ⟨rfl, HB.out.trans (b5.mono HB.out.size)⟩
      · have hus := tokensF_bad H2.out he2
        subst hus
        have q2 : (e2 != 0) = true := bne_iff_ne.2 he2
        clear H1 H2 hts
        go_wp2_with fail
        refine (lives_any w3 m M3.out).mono ?_
        rintro e w4 ⟨rfl, b4⟩
        go_wp2_with fail
        go_ret
        exact ⟨rfl, HB3.out.trans (b4.mono HB3.out.size)⟩
    · have hts := tokensF_bad H1.out he1
      subst hts
      have q1 : (e1 != 0) = true := bne_iff_ne.2 he1
      by_cases he2 : e2 = 0
      · subst he2
        have hus := (of_tokensF H2.out).ne
        have hlus : 0 < us.length := List.length_pos_iff.2 hus
        have q1b : decide ((0 : Int) < (us.length : Int)) = true := decide_eq_true (by omega)
        have q1n : decide (0 < us.length) = true := decide_eq_true hlus
        clear H1 H2 hus
        go_wp2_with fail
        refine (lives_any w3 m M3.out).mono ?_
        rintro e w4 ⟨rfl, b4⟩
        go_wp2_with fail
        go_ret
        exact ⟨rfl, HB3.out.trans (b4.mono HB3.out.size)⟩
      · have q2 : (e2 != 0) = true := bne_iff_ne.2 he2
        clear H1 H2
        go_wp2_with fail
        refine (lives_any w3 m M3.out).mono ?_
        rintro e w4 ⟨rfl, b4⟩
        go_wp2_with fail
        go_ret
        exact ⟨rfl, HB3.out.trans (b4.mono HB3.out.size)⟩
end Go.Proofs.YtmjjjnmfkdidgaaDoor
