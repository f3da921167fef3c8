/- The walks of layer 14: Depths, the program's. -/
import Derived.Test.YtjkbhdocpjekmaaVWalkJ
import Derived.Test.YtjkbhdocpjekmaaPlainC
import Derived.Test.YtjkbhdocpjekmaaRWalkF
namespace Go.Proofs.Ytjkbhdocpjekmaa
open Go.RowKit Go.Maps
set_option linter.unusedVariables false
attribute [local go_sem ↓] Go.wp_at_zero Go.wp_at_succ

/-- What Depths comes to: a slice, nil or the call's own. -/
def DepPost (w : World) (c : Cod) (f : Int) (e : Ending) (w' : World) : Prop :=
  Below w.heap.size w w' ∧ ∃ A n cap xs, e = .returned (.slice A n cap) ∧ Ints w' w'.heap.size A n xs ∧ DepIs c f xs ∧ xs.length ≤ 400 ∧ w'.ownsRow w.heap.size 3 1 (.slice A n cap) n (xs.map (Value.int .i64))
theorem dep_nil {w w' : World} {c : Cod} {f : Int} (hb : Below w.heap.size w w') (h : DepIs c f []) : DepPost w c f (.returned (.slice none 0 0)) w' := ⟨hb, none, 0, 0, [], rfl, Ints.nil_ _ _, h, by simp, World.ownsRow_nil _ _ _ _⟩
/-- A function's walk, with what it leaves as a slice. -/
def LPost (w : World) (c : Cod) (n : Nat) (f : Bdy) (e : Ending) (w' : World) : Prop := Below w.heap.size w w' ∧ ∃ A N ok had, e = .returned (.tuple #[.slice A N N, .bool ok]) ∧ ((ok = true ∧ Done c n f had ∧ had.length = N ∧ ∃ H, A = some ⟨H, 0, none⟩ ∧ HadAt w' H had) ∨ (ok = false ∧ A = none ∧ N = 0 ∧ ¬ Good c n f))
theorem walk_l {w : World} {c : Cod} {n : Nat} {f : Bdy} {k : FuncId} {args : Array Value} (h : Calls Try.prog k args w (WalkPost w c n f)) : Calls Try.prog k args w (LPost w c n f) :=
  h.mono fun e w' ⟨h1, h2⟩ => by
    rcases h2 with ⟨H, had, rfl, hh, hd⟩ | ⟨rfl, hn⟩
    · exact ⟨h1, _, _, _, had, rfl, .inl ⟨rfl, hd, hd.len, H, rfl, hh⟩⟩
    · exact ⟨h1, _, _, _, [], rfl, .inr ⟨rfl, rfl, rfl, hn⟩⟩
set_option maxRecDepth 100000 in
set_option maxHeartbeats 4000000 in
theorem depths_any (w : World) (v : Value) (c : Cod) (f : Int) (hc : CodAt w w.heap.size v c) :
    Calls Try.prog 12 #[v, .int .i64 f] w (DepPost w c f) := by
  obtain ⟨FA, fn, fc, IA, inn, ic, TA, tn, tc, rfl, h1, h2, h3, hf1, hi1, ht1⟩ := hc.form
  obtain ⟨w1, hw1⟩ : ∃ w1, w1 = w.alloc (.cells #[.slice FA fn fc, .slice IA inn ic, .slice TA tn tc, .int .i64 c.lets] 26) := ⟨_, rfl⟩
  have HB1 : Hid (Below w.heap.size w w1) := by show Below _ _ _; rw [hw1]; exact (Below.refl _ _).alloc (Nat.le_refl _) _
  have HX1 : Hid (Whole w1 w.heap.size 26 #[.slice FA fn fc, .slice IA inn ic, .slice TA tn tc, .int .i64 c.lets]) := by show Whole _ _ _ _; rw [hw1]; exact Whole.made _ _ _
  have HF : Hid (BdysAt w w.heap.size FA fn c.funs) := h1
  have HL2 : Hid (c.ints.length = inn) := h2.1
  have HL3 : Hid (c.texts.length = tn) := h3.1
  have HL1 : Hid (c.funs.length = fn) := h1.1
  have CM := Lib.hid (may_any w1 _ c ((hc.below HB1.out).more HB1.out.size))
  have HX := Lib.hid hw1
  clear hc h1 h2 h3 hw1
  have c0 : w1.cell? ⟨w.heap.size, 0, none⟩ = some (.slice FA fn fc) := HX1.out.cell 0
  have c1 : w1.cell? ⟨w.heap.size, 1, none⟩ = some (.slice IA inn ic) := HX1.out.cell 1
  have c2 : w1.cell? ⟨w.heap.size, 2, none⟩ = some (.slice TA tn tc) := HX1.out.cell 2
  have c3 : w1.cell? ⟨w.heap.size, 3, none⟩ = some (.int .i64 c.lets) := HX1.out.cell 3
  go_enter Try.func12, Try.ntmps12
  go_upto_region 1 with (fail)
  rw [← HX.out]
  clear HX
  have HZ : Hid (∀ W, Below w1.heap.size w1 W → W.cell? ⟨w.heap.size, 0, none⟩ = some (.slice FA fn fc)) := fun W h => (h.cell (p := ⟨w.heap.size, 0, none⟩) HX1.out.lt).trans c0
  rcases hok : codOK c with _ | _
  · rw [hok] at CM
    have HE : Hid (DepIs c f []) := .inl ⟨(fun h => by have := h.1; rw [hok] at this; cases this), rfl⟩
    as_aux_lemma =>
      go_wp2_with (go_at_call 16; refine CM.out.mono ?_; rintro e w2 ⟨rfl, hb2⟩; have HB2 := Lib.hid hb2; clear hb2)
      go_ret
      exact dep_nil (HB1.out.trans (HB2.out.mono HB1.out.size)) HE.out
  rw [hok] at CM
  by_cases hf0 : f < 0
  · have d1 : decide (f < 0) = true := decide_eq_true hf0
    have HE : Hid (DepIs c f []) := .inl ⟨(fun h => by have := h.2.1; omega), rfl⟩
    as_aux_lemma =>
      go_wp2_with (go_at_call 16; refine CM.out.mono ?_; rintro e w2 ⟨rfl, hb2⟩; have HB2 := Lib.hid hb2; clear hb2)
      go_ret
      exact dep_nil (HB1.out.trans (HB2.out.mono HB1.out.size)) HE.out
  have d1 : decide (f < 0) = false := decide_eq_false hf0
  obtain ⟨fi, rfl⟩ := Int.eq_ofNat_of_zero_le (Int.not_lt.1 hf0)
  clear hf0
  by_cases hfl : fn ≤ fi
  · have d2 : decide ((fn : Int) ≤ (fi : Int)) = true := decide_eq_true (by omega)
    have d2n : decide (fn ≤ fi) = true := decide_eq_true hfl
    have HE : Hid (DepIs c fi []) := .inl ⟨(fun h => by have := h.2.2; rw [HL1.out] at this; omega), rfl⟩
    as_aux_lemma =>
      go_wp2_with (go_at_call 16; refine CM.out.mono ?_; rintro e w2 ⟨rfl, hb2⟩; have HB2 := Lib.hid hb2; have c0 := HZ.out w2 hb2; clear hb2)
      go_ret
      exact dep_nil (HB1.out.trans (HB2.out.mono HB1.out.size)) HE.out
  have d2 : decide ((fn : Int) ≤ (fi : Int)) = false := decide_eq_false (by omega)
  have d2n : decide (fn ≤ fi) = false := decide_eq_false hfl
  have hlt : fi < fn := by omega
  clear hfl
  go_upto_region 3 with (go_at_call 16; refine CM.out.mono ?_; rintro e w2 ⟨rfl, hb2⟩; have HB2 := Lib.hid hb2; have c0 := HZ.out w2 hb2; clear hb2)
  have HIN : Hid (InR c fi) := ⟨hok, by omega, by rw [HL1.out]; omega⟩
  have HX2 := Lib.hid (HX1.out.below HB2.out HX1.out.lt)
  have HBB2 : Hid (Below w.heap.size w w2) := HB1.out.trans (HB2.out.mono HB1.out.size)
  have hbf := bdy_facts (cod_bdy_ok hok (n := fi) (by rw [HL1.out]; exact hlt))
  obtain ⟨g, off, rfl, hg, q0, q1, q2, CA, cn, cc, q3, hI, hcn⟩ := (HF.out.below HBB2.out).at_ hlt
  have HI := Lib.hid hI
  have HBF := Lib.hid hbf
  have HFF : Hid (BdysAt w2 w.heap.size (some ⟨g, off, none⟩) fn c.funs) := HF.out.below HBB2.out
  generalize hfe : c.funs.getD fi bdy0 = f at *
  have HFE := Lib.hid hfe
  clear CM c0 c1 c2 c3 HB1 HX1 HB2 hok HZ hI hbf hfe d1 d2 d2n HF
  have hi0 : (0 : Int) ≤ (fi : Int) := by omega
  have hi1' : (fi : Int) < (fn : Int) := by omega
  have hgw : g < w2.heap.size := Nat.lt_of_lt_of_le hg HBB2.out.size
  have c0 : w2.cell? ⟨w.heap.size, 0, none⟩ = some (.slice (some ⟨g, off, none⟩) fn fc) := HX2.out.cell 0
  have c1 : w2.cell? ⟨w.heap.size, 1, none⟩ = some (.slice IA inn ic) := HX2.out.cell 1
  have c2 : w2.cell? ⟨w.heap.size, 2, none⟩ = some (.slice TA tn tc) := HX2.out.cell 2
  have c3 : w2.cell? ⟨w.heap.size, 3, none⟩ = some (.int .i64 c.lets) := HX2.out.cell 3
  have HCE : Hid (∀ W, Below w2.heap.size w2 W → W.cell? ⟨w.heap.size, 0, none⟩ = some (.slice (some ⟨g, off, none⟩) fn fc) ∧ W.cell? ⟨w.heap.size, 1, none⟩ = some (.slice IA inn ic) ∧ W.cell? ⟨w.heap.size, 2, none⟩ = some (.slice TA tn tc) ∧ W.cell? ⟨w.heap.size, 3, none⟩ = some (.int .i64 c.lets) ∧
      W.cell? ⟨g, off + fi * 4, none⟩ = some (.int .i64 f.kept) ∧ W.cell? ⟨g, off + fi * 4 + 1, none⟩ = some (.int .i64 f.locals) ∧ W.cell? ⟨g, off + fi * 4 + 2, none⟩ = some (.int .i64 f.stack) ∧ W.cell? ⟨g, off + fi * 4 + 3, none⟩ = some (.slice CA cn cc)) := fun W h =>
    ⟨(h.cell (p := ⟨w.heap.size, 0, none⟩) HX2.out.lt).trans c0, (h.cell (p := ⟨w.heap.size, 1, none⟩) HX2.out.lt).trans c1, (h.cell (p := ⟨w.heap.size, 2, none⟩) HX2.out.lt).trans c2, (h.cell (p := ⟨w.heap.size, 3, none⟩) HX2.out.lt).trans c3,
     (h.cell (p := ⟨g, off + fi * 4, none⟩) hgw).trans q0, (h.cell (p := ⟨g, off + fi * 4 + 1, none⟩) hgw).trans q1, (h.cell (p := ⟨g, off + fi * 4 + 2, none⟩) hgw).trans q2, (h.cell (p := ⟨g, off + fi * 4 + 3, none⟩) hgw).trans q3⟩
  have hb0 : Below w2.heap.size w2 w2.drew := (Below.refl _ _).drew
  go_cut [5] (fun v wx => ∃ q, v = .pointer (some ⟨q, 0, none⟩) ∧ Whole wx q 45 #[.slice (some ⟨g, off, none⟩) fn fc, .slice IA inn ic, .slice TA tn tc, .int .i64 c.lets, .int .i64 (fi : Int), .int .i64 f.kept, .int .i64 f.locals, .int .i64 f.stack, .slice CA cn cc] ∧ Below w2.heap.size w2 wx)
  case first =>
    go_region_held3 (fun W => W.cell? ⟨w.heap.size, 0, none⟩ = some (.slice (some ⟨g, off, none⟩) fn fc) ∧ W.cell? ⟨w.heap.size, 1, none⟩ = some (.slice IA inn ic) ∧ W.cell? ⟨w.heap.size, 2, none⟩ = some (.slice TA tn tc) ∧ W.cell? ⟨w.heap.size, 3, none⟩ = some (.int .i64 c.lets) ∧
        W.cell? ⟨g, off + fi * 4, none⟩ = some (.int .i64 f.kept) ∧ W.cell? ⟨g, off + fi * 4 + 1, none⟩ = some (.int .i64 f.locals) ∧ W.cell? ⟨g, off + fi * 4 + 2, none⟩ = some (.int .i64 f.stack) ∧ W.cell? ⟨g, off + fi * 4 + 3, none⟩ = some (.slice CA cn cc))
      (first | exact HCE.out _ (by assumption) | exact HCE.out _ (below_al _ (by assumption)) | go_keep)
      (first | (fail))
    all_goals
      go_wp2_with fail
      go_meet
      exact ⟨_, rfl, Whole.made _ _ _, below_al _ hb0⟩
  case rest =>
    obtain ⟨q, rfl, hq, hbq⟩ := hcut
    clear c0 c1 c2 c3 q0 q1 q2 q3 HCE hb0
    generalize wc = w3 at *
    have HBW3 : Hid (Below w.heap.size w w3) := HBB2.out.trans (hbq.mono HBB2.out.size)
    have HK3 : Hid (WkAt w3 w.heap.size q c fi f) := ⟨_, _, _, _, _, _, _, _, _, _, _, _, hq, HFF.out.below (hbq.mono HBB2.out.size), HL2.out, HL3.out, HI.out.below (hbq.mono HBB2.out.size), hf1, hi1, ht1, hcn, HBW3.out.size⟩
    have CW := Lib.hid (walk_l (walk_any w3 w.heap.size q c fi f HK3.out HBF.out.2.2.2.2.2.2.2.1 HBF.out.2.2.2.2.2.2.1 HBF.out.2.2.2.2.2.2.2.2 HBF.out.2.2.2.2.2.1))
    clear hq hbq HX2 HBB2 HFF HK3
    go_upto_region 5 with (go_at_call 17; refine CW.out.mono ?_; rintro e w4 ⟨hb4, HA, N, ok, had, rfl, hres⟩; have HB4 := Lib.hid hb4; have HRES := Lib.hid hres; clear hb4 hres)
    have HBW4 : Hid (Below w.heap.size w w4) := HBW3.out.trans (HB4.out.mono HBW3.out.size)
    rcases HRES.out with ⟨rfl, hdn, hln, H, rfl, hhad⟩ | ⟨rfl, rfl, rfl, hng⟩
    · have HDI : Hid (DepIs c fi (depL had)) := .inr (.inr ⟨HIN.out, had, by rw [Int.toNat_natCast, HFE.out]; exact hdn, rfl⟩)
      have HLE : Hid (had.length ≤ 400) := by show had.length ≤ 400; rw [hdn.len]; exact HBF.out.2.2.2.2.2.2.2.1
      have hNN : N ≤ 400 := by rw [← hln]; exact HLE.out
      have HLN := Lib.hid hln
      have HHAD := Lib.hid hhad
      clear HRES CW hdn hln hhad
      go_wp2_with fail
      go_loopw [8, 41] (fun ov i wr => ∃ k : Nat, i = .int .i64 (k : Int) ∧ k ≤ N ∧ wr.ownsRow w.heap.size 3 1 ov k ((depL (had.take k)).map (Value.int .i64)) ∧ HadAt wr H had ∧ Below w.heap.size w wr) (fun _ i _ => N - (intOf i).toNat)
      case atStart => exact ⟨0, rfl, by omega, World.ownsRow_nil _ _ _ _, HHAD.out, HBW4.out⟩
      case round =>
        obtain ⟨k, rfl, hk, hown, hhad, hbw⟩ := hrel
        by_cases hkN : k < N
        · have HSU := Lib.hid (depL_succ (had := had) (k := k) (by rw [HLN.out]; exact hkN))
          obtain ⟨v, y0, hbx⟩ := hhad.at_ (k := k) (by rw [HLN.out]; exact hkN)
          have HOW := Lib.hid hown
          have HHD := Lib.hid hhad
          have HBW := Lib.hid hbw
          clear hown hhad hbw
          rcases hho : had.getD k none with _ | s
          · rw [hho] at hbx HSU
            obtain rfl : v = .pointer none := hbx
            have HOA := Lib.hid (own_more_alloc HOW.out (.cells #[.int .i64 (-1)] 3))
            have hba : w.heap.size ≤ (wr.alloc (.cells #[.int .i64 (-1)] 3)).heap.size := by have := HBW.out.size; simp; omega
            have HHA := Lib.hid (HHD.out.alloc (.cells #[.int .i64 (-1)] 3))
            have HBA := Lib.hid (HBW.out.alloc HBW.out.size (.cells #[.int .i64 (-1)] 3))
            clear hho
            go_wp2_with (at_builtin; refine list_app ty_ints (v := u8) rfl _ _ rfl rfl HOA.out wr.heap.size 1 [.int .i64 (-1)] rfl (Whole.made wr 3 _) rfl (by simp [Value.oneCell']) (by decide) (by omega) (by decide) hba ?_; intro g' cap' w5 hap; have HAP := Lib.hid hap; clear hap)
            go_roundw
            case rel => exact ⟨k + 1, by go_num, by omega, by rw [HSU.out, List.map_append]; exact HAP.out.own, HHA.out.keep (fun g t cs ht h => HAP.out.stays HOA.out h (by rcases ht with rfl | rfl | rfl <;> decide)), HAP.out.below HOA.out HBA.out (Nat.le_refl _) hba⟩
            case measure => simp [intOf]; omega
          · rw [hho] at hbx HSU
            obtain ⟨g0, x, rfl, hb0, hx0⟩ := hbx
            have z0 : wr.cell? ⟨g0, 0, none⟩ = some (.int .i64 s.d) := hb0.cell 0
            have HOA := Lib.hid (own_more_alloc HOW.out (.cells #[.int .i64 s.d] 3))
            have hba : w.heap.size ≤ (wr.alloc (.cells #[.int .i64 s.d] 3)).heap.size := by have := HBW.out.size; simp; omega
            have HHA := Lib.hid (HHD.out.alloc (.cells #[.int .i64 s.d] 3))
            have HBA := Lib.hid (HBW.out.alloc HBW.out.size (.cells #[.int .i64 s.d] 3))
            clear hho hb0 hx0
            go_wp2_with (at_builtin; refine list_app ty_ints (v := u8) rfl _ _ rfl rfl HOA.out wr.heap.size 1 [.int .i64 s.d] rfl (Whole.made wr 3 _) rfl (by simp [Value.oneCell']) (by decide) (by omega) (by decide) hba ?_; intro g' cap' w5 hap; have HAP := Lib.hid hap; clear hap)
            go_roundw
            case rel => exact ⟨k + 1, by go_num, by omega, by rw [HSU.out, List.map_append]; exact HAP.out.own, HHA.out.keep (fun g t cs ht h => HAP.out.stays HOA.out h (by rcases ht with rfl | rfl | rfl <;> decide)), HAP.out.below HOA.out HBA.out (Nat.le_refl _) hba⟩
            case measure => simp [intOf]; omega
        · obtain rfl : k = N := by omega
          have HTK : Hid (had.take k = had) := by show _ = _; rw [← HLN.out]; exact List.take_length
          rw [HTK.out] at hown
          have hrow := hown
          obtain ⟨A, cap, rfl, hI⟩ := Ints.of_own hown
          have HE : Hid (DepPost w c fi (.returned (.slice A k cap)) wr) := ⟨hbw, A, k, cap, _, rfl, hI, HDI.out, by unfold depL; rw [List.length_map]; exact HLE.out, hrow⟩
          clear hown hrow hhad hbw hI
          go_wp2_with fail
          go_ret
          exact HE.out
    · have HE : Hid (DepIs c fi []) := .inr (.inl ⟨HIN.out, by rw [Int.toNat_natCast, HFE.out]; exact hng, rfl⟩)
      clear HRES CW hng
      go_wp2_with fail
      go_loopw [8, 41] (fun ov i wr => ov = .slice none 0 0 ∧ i = .int .i64 0 ∧ w4 = wr) (fun _ _ _ => 0)
      case atStart => exact ⟨rfl, rfl, rfl⟩
      case round =>
        obtain ⟨rfl, rfl, rfl⟩ := hrel
        go_wp2_with fail
        go_ret
        exact dep_nil HBW4.out HE.out
end Go.Proofs.Ytjkbhdocpjekmaa
