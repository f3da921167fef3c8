/- The walks of layer 14: Depths, the document's. -/
import Derived.Test.YtjkbhdocpjekmaaVWalkL
import Derived.Test.YtjkbhdocpjekmaaWalkG
namespace Go.Proofs.Ytjkbhdocpjekmaa
open Go.RowKit Go.Maps
set_option linter.unusedVariables false
attribute [local go_sem ↓] Go.wp_at_zero Go.wp_at_succ

/-- A function's walk (the document's), with what it leaves as a slice. -/
def RLPost (w : World) (c : Cod) (n : Nat) (f : Bdy) (e : Ending) (w' : World) : Prop := Below w.heap.size w w' ∧ ∃ A N ok all, e = .returned (.tuple #[.slice A N N, .bool ok]) ∧ ((ok = true ∧ Done c n f all ∧ all.length = N ∧ ∃ H, A = some ⟨H, 0, none⟩ ∧ AllAt w' H all) ∨ (ok = false ∧ A = none ∧ N = 0 ∧ ¬ Good c n f))
theorem rwalk_l {w : World} {c : Cod} {n : Nat} {f : Bdy} {k : FuncId} {args : Array Value} (h : Calls Try.prog k args w (RWalkPost w c n f)) : Calls Try.prog k args w (RLPost w c n f) :=
  h.mono fun e w' ⟨h1, h2⟩ => by
    rcases h2 with ⟨H, had, rfl, hh, hd⟩ | ⟨rfl, hn⟩
    · exact ⟨h1, _, _, _, had, rfl, .inl ⟨rfl, hd, hd.len, H, rfl, hh⟩⟩
    · exact ⟨h1, _, _, _, [], rfl, .inr ⟨rfl, rfl, rfl, hn⟩⟩
theorem AllAt.keeps {w w' : World} {H : Nat} {all : List (Option St)} (h : AllAt w H all) (hk : ∀ g t cs, t = 59 ∨ t = 97 → Whole w g t cs → Whole w' g t cs) : AllAt w' H all := by
  obtain ⟨cs, hw, hs, hc⟩ := h
  refine ⟨cs, hk _ _ _ (.inl rfl) hw, hs, fun k hk2 => ?_⟩
  obtain ⟨h1, h2, A, n, c, h3, h4, h5⟩ := hc k hk2
  exact ⟨h1, h2, A, n, c, h3, h4.keep fun g cs' => hk g _ cs' (.inr rfl), h5⟩
set_option maxRecDepth 100000 in
set_option maxHeartbeats 4000000 in
theorem rdepths_any (w : World) (v : Value) (c : Cod) (f : Int) (hc : CodAt w w.heap.size v c) :
    Calls Try.prog 13 #[v, .int .i64 f] w (DepPost w c f) := by
  obtain ⟨FA, fn, fc, IA, inn, ic, TA, tn, tc, rfl, h1, h2, h3, hf1, hi1, ht1⟩ := hc.form
  obtain ⟨w1, hw1⟩ : ∃ w1, w1 = w.alloc (.cells #[.slice FA fn fc, .slice IA inn ic, .slice TA tn tc, .int .i64 c.lets] 26) := ⟨_, rfl⟩
  have HB1 : Hid (Below w.heap.size w w1) := by show Below _ _ _; rw [hw1]; exact (Below.refl _ _).alloc (Nat.le_refl _) _
  have HX1 : Hid (Whole w1 w.heap.size 26 #[.slice FA fn fc, .slice IA inn ic, .slice TA tn tc, .int .i64 c.lets]) := by show Whole _ _ _ _; rw [hw1]; exact Whole.made _ _ _
  have HC := Lib.hid hc
  have HL1 : Hid (c.funs.length = fn) := h1.1
  have CM := Lib.hid (rmay_any w1 _ c ((hc.below HB1.out).more HB1.out.size))
  have HX := Lib.hid hw1
  clear hc h1 h2 h3 hw1
  have c0 : w1.cell? ⟨w.heap.size, 0, none⟩ = some (.slice FA fn fc) := HX1.out.cell 0
  have c1 : w1.cell? ⟨w.heap.size, 1, none⟩ = some (.slice IA inn ic) := HX1.out.cell 1
  have c2 : w1.cell? ⟨w.heap.size, 2, none⟩ = some (.slice TA tn tc) := HX1.out.cell 2
  have c3 : w1.cell? ⟨w.heap.size, 3, none⟩ = some (.int .i64 c.lets) := HX1.out.cell 3
  go_enter Try.func13, Try.ntmps13
  go_upto_region 1 with (fail)
  rw [← HX.out]
  clear HX
  have HZ : Hid (∀ W, Below w1.heap.size w1 W → W.cell? ⟨w.heap.size, 0, none⟩ = some (.slice FA fn fc)) := fun W h => (h.cell (p := ⟨w.heap.size, 0, none⟩) HX1.out.lt).trans c0
  rcases hok : codOK c with _ | _
  · rw [hok] at CM
    have HE : Hid (DepIs c f []) := .inl ⟨(fun h => by have := h.1; rw [hok] at this; cases this), rfl⟩
    as_aux_lemma =>
      go_wp2_with (go_at_call 18; refine CM.out.mono ?_; rintro e w2 ⟨rfl, hb2⟩; have HB2 := Lib.hid hb2; clear hb2)
      go_ret
      exact dep_nil (HB1.out.trans (HB2.out.mono HB1.out.size)) HE.out
  rw [hok] at CM
  by_cases hf0 : f < 0
  · have d1 : decide (f < 0) = true := decide_eq_true hf0
    have HE : Hid (DepIs c f []) := .inl ⟨(fun h => by have := h.2.1; omega), rfl⟩
    as_aux_lemma =>
      go_wp2_with (go_at_call 18; refine CM.out.mono ?_; rintro e w2 ⟨rfl, hb2⟩; have HB2 := Lib.hid hb2; clear hb2)
      go_ret
      exact dep_nil (HB1.out.trans (HB2.out.mono HB1.out.size)) HE.out
  have d1 : decide (f < 0) = false := decide_eq_false hf0
  obtain ⟨fi, rfl⟩ := Int.eq_ofNat_of_zero_le (Int.not_lt.1 hf0)
  clear hf0
  by_cases hfl : fn ≤ fi
  · have d2 : decide ((fn : Int) ≤ (fi : Int)) = true := decide_eq_true (by omega)
    have d2n : decide (fn ≤ fi) = true := decide_eq_true hfl
    have HE : Hid (DepIs c fi []) := .inl ⟨(fun h => by have := h.2.2; rw [HL1.out] at this; omega), rfl⟩
    as_aux_lemma =>
      go_wp2_with (go_at_call 18; refine CM.out.mono ?_; rintro e w2 ⟨rfl, hb2⟩; have HB2 := Lib.hid hb2; have c0 := HZ.out w2 hb2; clear hb2)
      go_ret
      exact dep_nil (HB1.out.trans (HB2.out.mono HB1.out.size)) HE.out
  have d2 : decide ((fn : Int) ≤ (fi : Int)) = false := decide_eq_false (by omega)
  have d2n : decide (fn ≤ fi) = false := decide_eq_false hfl
  have hlt : fi < fn := by omega
  clear hfl
  go_upto_region 4 with (go_at_call 18; refine CM.out.mono ?_; rintro e w2 ⟨rfl, hb2⟩; have HB2 := Lib.hid hb2; have c0 := HZ.out w2 hb2; clear hb2)
  have HIN : Hid (InR c fi) := ⟨hok, by omega, by rw [HL1.out]; omega⟩
  have HX2 := Lib.hid (HX1.out.below HB2.out HX1.out.lt)
  have HBB2 : Hid (Below w.heap.size w w2) := HB1.out.trans (HB2.out.mono HB1.out.size)
  have hbf := bdy_facts (cod_bdy_ok hok (n := fi) (by rw [HL1.out]; exact hlt))
  have HBF := Lib.hid hbf
  have CW := Lib.hid (rwalk_l (rwalk_any w2 _ c fi ((HC.out.below HBB2.out).more HBB2.out.size) (by rw [HL1.out]; exact hlt) hok))
  clear CM c0 c1 c2 c3 HB1 HX1 HB2 hok HZ hbf d1 d2 d2n HC
  generalize hfe : c.funs.getD fi bdy0 = f at *
  have HFE := Lib.hid hfe
  clear hfe
  have c0 : w2.cell? ⟨w.heap.size, 0, none⟩ = some (.slice FA fn fc) := HX2.out.cell 0
  have c1 : w2.cell? ⟨w.heap.size, 1, none⟩ = some (.slice IA inn ic) := HX2.out.cell 1
  have c2 : w2.cell? ⟨w.heap.size, 2, none⟩ = some (.slice TA tn tc) := HX2.out.cell 2
  have c3 : w2.cell? ⟨w.heap.size, 3, none⟩ = some (.int .i64 c.lets) := HX2.out.cell 3
  go_upto_region 5 with (go_at_call 19; refine CW.out.mono ?_; rintro e w4 ⟨hb4, HA, N, ok, all, rfl, hres⟩; have HB4 := Lib.hid hb4; have HRES := Lib.hid hres; clear hb4 hres)
  have HBW4 : Hid (Below w.heap.size w w4) := HBB2.out.trans (HB4.out.mono HBB2.out.size)
  clear c0 c1 c2 c3
  rcases HRES.out with ⟨rfl, hdn, hln, H, rfl, hall⟩ | ⟨rfl, rfl, rfl, hng⟩
  · have HDI : Hid (DepIs c fi (depL all)) := .inr (.inr ⟨HIN.out, all, by rw [Int.toNat_natCast, HFE.out]; exact hdn, rfl⟩)
    have HLE : Hid (all.length ≤ 400) := by show all.length ≤ 400; rw [hdn.len]; exact HBF.out.2.2.2.2.2.2.2.1
    have hNN : N ≤ 400 := by rw [← hln]; exact HLE.out
    have HLN := Lib.hid hln
    have HALL := Lib.hid hall
    clear HRES CW hdn hln hall
    go_wp2_with fail
    go_loopw [8, 9] (fun ov i wr => ∃ k : Nat, i = .int .i64 (k : Int) ∧ k ≤ N ∧ wr.ownsRow w.heap.size 3 1 ov k ((depL (all.take k)).map (Value.int .i64)) ∧ AllAt wr H all ∧ Below w.heap.size w wr) (fun _ i _ => N - (intOf i).toNat)
    case atStart => exact ⟨0, rfl, by omega, World.ownsRow_nil _ _ _ _, HALL.out, HBW4.out⟩
    case round =>
      obtain ⟨k, rfl, hk, hown, hall, hbw⟩ := hrel
      by_cases hkN : k < N
      · have HSU := Lib.hid (depL_succ (had := all) (k := k) (by rw [HLN.out]; exact hkN))
        obtain ⟨A, mm, cm, a0, a1, a2, hmm, hAA⟩ := hall.at_ (k := k) (by rw [HLN.out]; exact hkN)
        have HOW := Lib.hid hown
        have HHD := Lib.hid hall
        have HBW := Lib.hid hbw
        clear hown hall hbw a2 hmm hAA
        rcases hho : all.getD k none with _ | s
        · rw [hho] at a0 a1 HSU
          dsimp only [Option.isSome_none] at a0
          have HOA := Lib.hid (own_more_alloc HOW.out (.cells #[.int .i64 (-1)] 3))
          have hba : w.heap.size ≤ (wr.alloc (.cells #[.int .i64 (-1)] 3)).heap.size := by have := HBW.out.size; simp; omega
          have HHA := Lib.hid (HHD.out.alloc (.cells #[.int .i64 (-1)] 3))
          have HBA := Lib.hid (HBW.out.alloc HBW.out.size (.cells #[.int .i64 (-1)] 3))
          clear hho a1
          go_wp2_with (at_builtin; refine list_app ty_ints (v := u8) rfl _ _ rfl rfl HOA.out wr.heap.size 1 [.int .i64 (-1)] rfl (Whole.made wr 3 _) rfl (by simp [Value.oneCell']) (by decide) (by omega) (by decide) hba ?_; intro g' cap' w5 hap; have HAP := Lib.hid hap; clear hap)
          go_roundw
          case rel => exact ⟨k + 1, by go_num, by omega, by rw [HSU.out, List.map_append]; exact HAP.out.own, HHA.out.keeps (fun g t cs ht h => HAP.out.stays HOA.out h (by rcases ht with rfl | rfl <;> decide)), HAP.out.below HOA.out HBA.out (Nat.le_refl _) hba⟩
          case measure => simp [intOf]; omega
        · rw [hho] at a0 a1 HSU
          dsimp only [Option.isSome_some, Option.getD_some] at a0 a1
          have HOA := Lib.hid (own_more_alloc HOW.out (.cells #[.int .i64 s.d] 3))
          have hba : w.heap.size ≤ (wr.alloc (.cells #[.int .i64 s.d] 3)).heap.size := by have := HBW.out.size; simp; omega
          have HHA := Lib.hid (HHD.out.alloc (.cells #[.int .i64 s.d] 3))
          have HBA := Lib.hid (HBW.out.alloc HBW.out.size (.cells #[.int .i64 s.d] 3))
          clear hho
          go_wp2_with (at_builtin; refine list_app ty_ints (v := u8) rfl _ _ rfl rfl HOA.out wr.heap.size 1 [.int .i64 s.d] rfl (Whole.made wr 3 _) rfl (by simp [Value.oneCell']) (by decide) (by omega) (by decide) hba ?_; intro g' cap' w5 hap; have HAP := Lib.hid hap; clear hap)
          go_roundw
          case rel => exact ⟨k + 1, by go_num, by omega, by rw [HSU.out, List.map_append]; exact HAP.out.own, HHA.out.keeps (fun g t cs ht h => HAP.out.stays HOA.out h (by rcases ht with rfl | rfl <;> decide)), HAP.out.below HOA.out HBA.out (Nat.le_refl _) hba⟩
          case measure => simp [intOf]; omega
      · obtain rfl : k = N := by omega
        have HTK : Hid (all.take k = all) := by show _ = _; rw [← HLN.out]; exact List.take_length
        rw [HTK.out] at hown
        have hrow := hown
        obtain ⟨A, cap, rfl, hI⟩ := Ints.of_own hown
        have HE : Hid (DepPost w c fi (.returned (.slice A k cap)) wr) := ⟨hbw, A, k, cap, _, rfl, hI, HDI.out, by unfold depL; rw [List.length_map]; exact HLE.out, hrow⟩
        clear hown hrow hall hbw hI
        go_wp2_with fail
        go_ret
        exact HE.out
  · have HE : Hid (DepIs c fi []) := .inr (.inl ⟨HIN.out, by rw [Int.toNat_natCast, HFE.out]; exact hng, rfl⟩)
    clear HRES CW hng
    go_wp2_with fail
    go_ret
    exact dep_nil HBW4.out HE.out
end Go.Proofs.Ytjkbhdocpjekmaa
