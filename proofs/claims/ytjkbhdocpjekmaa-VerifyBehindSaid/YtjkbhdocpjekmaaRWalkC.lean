/- The walks of layer 14's document: a state is handed on. -/
import Derived.Test.YtjkbhdocpjekmaaRMem
import Derived.Deep.CutBlock
import Derived.Deep.DeepCutAuto
namespace Go.Proofs.Ytjkbhdocpjekmaa
open Go.RowKit
set_option linter.unusedVariables false
attribute [local go_sem ↓] Go.wp_at_zero Go.wp_at_succ

/-- What handing on a state comes to. -/
def HandPost (w : World) (H : Nat) (all : List (Option St)) (k : Nat) (s : St) (stack : Int) (e : Ending) (w' : World) : Prop :=
  But H w.heap.size w w' ∧
  ((e = .returned (.bool true) ∧ k < all.length ∧ s.d ≤ stack ∧ (all.getD k none = none ∨ all.getD k none = some s) ∧ AllAt w' H (all.set k (some s)) ∧ (∀ X, X < w.heap.size → Away w H X all.length → Away w' H X all.length)) ∨
   (e = .returned (.bool false) ∧ (all.length ≤ k ∨ stack < s.d ∨ ∃ t, all.getD k none = some t ∧ t ≠ s)))
theorem hand_no {w w' : World} {H : Nat} {all : List (Option St)} {k : Nat} {s : St} {stack : Int} (hb : But H w.heap.size w w') (h : all.length ≤ k ∨ stack < s.d ∨ ∃ t, all.getD k none = some t ∧ t ≠ s) :
    HandPost w H all k s stack (.returned (.bool false)) w' := ⟨hb, .inr ⟨rfl, h⟩⟩
theorem opt_cases (x : Option St) (s : St) : (x = none ∨ x = some s) ∨ (x.isSome = true ∧ ∃ t, x = some t ∧ t ≠ s) := by
  cases x with
  | none => exact .inl (.inl rfl)
  | some t =>
    by_cases h : t = s
    · exact .inl (.inr (by rw [h]))
    · exact .inr ⟨rfl, t, rfl, h⟩
theorem AllAt.same {w w' : World} {H : Nat} {all : List (Option St)} (h : AllAt w H all) {B : Nat} (hb : Below B w w') (hB : w.heap.size ≤ B) : AllAt w' H all := h.below (hb.mono hB)

theorem own_nil {w : World} {base size n m c : Nat} {e : TypeId} {A : Option Addr} {xs : List Value} (h : w.ownsRow base e size (.slice A m c) n xs) : A = none → c = 0 := by
  rintro rfl
  rcases h.2 with ⟨h1, _⟩ | ⟨g, c', cur, h1, _⟩
  · cases h1; rfl
  · cases h1
theorem own_ge {w : World} {base size n m c b : Nat} {e : TypeId} {A : Option Addr} {xs : List Value} (h : w.ownsRow base e size (.slice A m c) n xs) (hb : b ≤ base) : ∀ a, A = some a → b ≤ a.block := by
  rintro a rfl
  rcases h.2 with ⟨h1, _⟩ | ⟨g, c', cur, h1, h2, _⟩
  · cases h1
  · cases h1; exact Nat.le_trans hb h2
theorem hand_yes {w w' : World} {H : Nat} {all : List (Option St)} {k : Nat} {d : Int} {ms : List (Int × Int)} {stack : Int} {A : Option Addr} {n c : Nat} (hb : Below w.heap.size w w') (hk : k < all.length) (hs : d ≤ stack) (hx : all.getD k none = none ∨ all.getD k none = some ⟨d, ms⟩)
    (hall : AllAt w' H all) (hm : Mks 97 w' A n ms) (hA : A = none → c = 0) (hH : H < w.heap.size) (hg : ∀ a, A = some a → w.heap.size ≤ a.block) :
    HandPost w H all k ⟨d, ms⟩ stack (.returned (.bool true)) (((w'.setCell ⟨H, k * 3, none⟩ (.bool true)).setCell ⟨H, k * 3 + 1, none⟩ (.int .i64 d)).setCell ⟨H, k * 3 + 2, none⟩ (.slice A n c)) :=
  ⟨(((But.of_below hb).set _ _).set _ _).set _ _, .inl ⟨rfl, hk, hs, hx, hall.set (s := ⟨d, ms⟩) hk hm hA, fun X hX ha => by
    obtain ⟨cs, hw, hsz, _⟩ := hall
    exact (ha.same (fun o => hb.cell (p := ⟨H, o, none⟩) hH)).set hw (by rw [hsz]; omega) (fun a h => by have := hg a h; omega)⟩⟩
set_option maxHeartbeats 4000000 in
theorem hand_any (w : World) (H : Nat) (all : List (Option St)) (L k : Nat) (s : St) (is : Bool) (A : Option Addr) (n c : Nat) (stack : Int) (hl : all.length = L) (hall : AllAt w H all) (hm : Mks 97 w A n s.m) (hA : A = none → c = 0) (hn : n ≤ 1000000)
    (hb : ∀ t, all.getD k none = some t → t.m.length ≤ 1000000) :
    Calls Try.prog 47 #[.slice (some ⟨H, 0, none⟩) L L, .int .i64 (k : Int), .agg #[.bool is, .int .i64 s.d, .slice A n c], .int .i64 stack] w (HandPost w H all k s stack) := by
  have HB0 : Hid (Below w.heap.size w (w.alloc (.cells #[.bool is, .int .i64 s.d, .slice A n c] 59))) := (Below.refl _ _).alloc (Nat.le_refl _) _
  by_cases hk : k < L
  · by_cases hs : s.d ≤ stack
    · obtain ⟨w2, hw2⟩ : ∃ w2, w2 = w.alloc (.cells #[.bool is, .int .i64 s.d, .slice A n c] 59) := ⟨_, rfl⟩
      have HB : Hid (Below w.heap.size w w2) := by show Below _ _ _; rw [hw2]; exact HB0.out
      have HL := Lib.hid hl
      have hk2 : k < all.length := by rw [hl]; exact hk
      have HK2 := Lib.hid hk2
      have HALL : Hid (AllAt w2 H all) := hall.below HB.out
      have HM : Hid (Mks 97 w2 A n s.m) := hm.below HB.out
      have HW : Hid (Whole w2 w.heap.size 59 #[.bool is, .int .i64 s.d, .slice A n c]) := by show Whole _ _ _ _; rw [hw2]; exact Whole.made _ _ _
      have HHB : Hid (H < w.heap.size) := hall.lt
      have HAN := Lib.hid hA
      have HHL : Hid (H < w2.heap.size) := Nat.lt_of_lt_of_le hall.lt HB.out.size
      have HBN := Lib.hid hb
      have HNE : Hid (w.heap.size ≠ H) := Nat.ne_of_gt hall.lt
      obtain ⟨EA, en, ec, a0, a1, a2, hem, heA⟩ := HALL.out.at_ hk2
      have HEM := Lib.hid hem
      have HEN : Hid (en ≤ 1000000) := by
        show en ≤ _
        rw [← hem.1]
        rcases hx : all.getD k none with _ | t
        · show ([] : List (Int × Int)).length ≤ _; simp
        · show t.m.length ≤ _; exact hb t hx
      have b0 : w2.cell? ⟨w.heap.size, 0, none⟩ = some (.bool is) := HW.out.cell 0
      have b1 : w2.cell? ⟨w.heap.size, 1, none⟩ = some (.int .i64 s.d) := HW.out.cell 1
      have b2 : w2.cell? ⟨w.heap.size, 2, none⟩ = some (.slice A n c) := HW.out.cell 2
      have HX := Lib.hid hw2
      clear hl hall hm hA hb hw2 hk2 HB0 hem heA
      generalize hxe : all.getD k none = x at *
      have HXE := Lib.hid hxe
      clear hxe
      obtain ⟨d, ms⟩ := s
      dsimp only at *
      generalize hxd : (x.getD st0).d = xd at *
      generalize hxm : (x.getD st0).m = xm at *
      have HXD := Lib.hid hxd
      have HXM := Lib.hid hxm
      clear hxd hxm
      go_enter Try.func47, Try.ntmps47
      go_upto_region 3 with (fail)
      rw [← HX.out]
      clear HX
      go_cut [9] (fun v wx => v = .bool (stEq xd d xm ms) ∧ Below w2.heap.size w2 wx)
      case first =>
        have CS := fun (wx : World) (b1 b2 : Bool) => rsame_any wx b1 b2 xd d EA A en n ec c xm ms
        go_region_held3 (fun W => W.cell? ⟨H, k * 3, none⟩ = some (.bool x.isSome) ∧ W.cell? ⟨H, k * 3 + 1, none⟩ = some (.int .i64 xd) ∧ W.cell? ⟨H, k * 3 + 2, none⟩ = some (.slice EA en ec) ∧ W.cell? ⟨w.heap.size, 0, none⟩ = some (.bool is) ∧ W.cell? ⟨w.heap.size, 1, none⟩ = some (.int .i64 d) ∧ W.cell? ⟨w.heap.size, 2, none⟩ = some (.slice A n c))
          (first | go_keep | (exact ⟨t0, t1, t2, t3, t4, t5⟩))
          (first
            | ((go_at_call 63; with_reducible refine (CS _ _ _ ?_ ?_ ?_ ?_).mono ?_); (exact HEM.out.drew); (exact HM.out.drew); (exact HEN.out); (exact hn); rintro e wm ⟨rfl, hbm⟩; have HBM : Hid (Below w2.heap.size w2 wm) := (Below.refl _ _).drew.trans hbm; have t0 := (HBM.out.cell (p := ⟨H, k * 3, none⟩) HHL.out).trans a0; have t1 := (HBM.out.cell (p := ⟨H, k * 3 + 1, none⟩) HHL.out).trans a1; have t2 := (HBM.out.cell (p := ⟨H, k * 3 + 2, none⟩) HHL.out).trans a2; have t3 : wm.cell? ⟨w.heap.size, 0, none⟩ = some (.bool is) := (HW.out.below HBM.out HW.out.lt).cell 0; have t4 : wm.cell? ⟨w.heap.size, 1, none⟩ = some (.int .i64 d) := (HW.out.below HBM.out HW.out.lt).cell 1; have t5 : wm.cell? ⟨w.heap.size, 2, none⟩ = some (.slice A n c) := (HW.out.below HBM.out HW.out.lt).cell 2; clear hbm))
        all_goals
          go_wp2_with fail
          go_meet
          exact ⟨rfl, HBM.out⟩
      case rest =>
        obtain ⟨rfl, hbw⟩ := hcut
        have HBW := Lib.hid hbw
        clear a0 a1 a2 b0 b1 b2 hbw
        have HALL2 : Hid (AllAt wc H all) := HALL.out.below HBW.out
        have HM2 : Hid (Mks 97 wc A n ms) := HM.out.below HBW.out
        have HW2 : Hid (Whole wc w.heap.size 59 #[.bool is, .int .i64 d, .slice A n c]) := HW.out.below HBW.out HW.out.lt
        have HHC : Hid (H < wc.heap.size) := Nat.lt_of_lt_of_le HHL.out HBW.out.size
        have HBC : Hid (Below w.heap.size w wc) := HB.out.trans (HBW.out.mono HB.out.size)
        obtain ⟨EA2, en2, ec2, a0, a1, a2, _, _⟩ := HALL2.out.at_ HK2.out
        rw [HXE.out] at a0
        have b1 : wc.cell? ⟨w.heap.size, 1, none⟩ = some (.int .i64 d) := HW2.out.cell 1
        have b2 : wc.cell? ⟨w.heap.size, 2, none⟩ = some (.slice A n c) := HW2.out.cell 2
        rcases opt_cases x ⟨d, ms⟩ with hx | ⟨hx, t, ht, hne⟩
        · have HXX : Hid (all.getD k none = none ∨ all.getD k none = some ⟨d, ms⟩) := by show _ ∨ _; rw [HXE.out]; exact hx
          have CO := fun (wx : World) => own_any wx A n c ms
          have hq : x = none ∨ (x.isSome = true ∧ stEq xd d xm ms = true) := by
            rcases hx with rfl | rfl
            · exact .inl rfl
            · exact .inr ⟨rfl, by rw [← HXD.out, ← HXM.out]; exact stEq_iff.2 rfl⟩
          have HLM : Hid (ms.length = n) := HM2.out.1
          clear hx
          rcases hq with hq | ⟨hq, hq2⟩
          all_goals
            (first | rw [hq, Option.isSome_none] at a0 | rw [hq] at a0)
            clear hq
            go_wp2_with fail
            go_region_held3 (fun W => W.cell? ⟨w.heap.size, 1, none⟩ = some (.int .i64 d) ∧ W.cell? ⟨w.heap.size, 2, none⟩ = some (.slice A n c))
              (first | go_keep | (exact ⟨t1, t2⟩) | (exact ⟨cell_far (cell_far (cell_far t1 HNE.out) HNE.out) HNE.out, cell_far (cell_far (cell_far t2 HNE.out) HNE.out) HNE.out⟩))
              (first
                | ((go_at_call 46; with_reducible refine (CO _ ?_ ?_ ?_).mono ?_); (exact HM2.out.drew); (exact hn); (exact HAN.out); rintro e wm ⟨v', rfl, hown, hbm⟩; obtain ⟨A', c', rfl, hM⟩ := Mks.of_own hown HLM.out; have HN' := Lib.hid (own_nil hown); have HGE : Hid (∀ a, A' = some a → w.heap.size ≤ a.block) := (fun a ha => own_ge hown HBC.out.size a ha); have HMM := Lib.hid hM; have HBM : Hid (Below wc.heap.size wc wm) := (Below.refl _ _).drew.trans hbm; have HW3 := Lib.hid (HW2.out.below HBM.out HW2.out.lt); have t1 : wm.cell? ⟨w.heap.size, 1, none⟩ = some (.int .i64 d) := HW3.out.cell 1; have t2 : wm.cell? ⟨w.heap.size, 2, none⟩ = some (.slice A n c) := HW3.out.cell 2; have HALL3 := Lib.hid (HALL2.out.below HBM.out); obtain ⟨EA3, en3, ec3, s0, s1, s2, _, _⟩ := HALL3.out.at_ HK2.out; have z0 := HALL3.out.free (k * 3); have z1 := HALL3.out.free (k * 3 + 1); have z2 := HALL3.out.free (k * 3 + 2); have HBY := Lib.hid (HBC.out.trans (HBM.out.mono HBC.out.size)); clear hown hbm hM))
            all_goals
              go_wp2_with fail
              go_ret
              exact hand_yes HBY.out HK2.out hs HXX.out HALL3.out HMM.out HN'.out HHB.out HGE.out
        · have hq : stEq xd d xm ms = false := by
            subst ht
            rw [← HXD.out, ← HXM.out, ← Bool.not_eq_true]
            intro hh
            exact hne (stEq_iff.1 hh)
          have HNO : Hid (HandPost w H all k ⟨d, ms⟩ stack (.returned (.bool false)) wc) := hand_no (.of_below HBC.out) (.inr (.inr ⟨t, by rw [HXE.out]; exact ht, hne⟩))
          rw [hx] at a0
          clear hx ht hne
          go_wp2_with fail
          go_ret
          exact HNO.out
    · have HN : Hid (stack < s.d) := by show _ < _; omega
      have ht : decide (stack < s.d) = true := by simpa using hs
      clear hl hall hm hA hb
      go_enter Try.func47, Try.ntmps47
      go_wp2_with fail
      go_ret
      exact hand_no (.of_below HB0.out) (.inr (.inl HN.out))
  · have HN : Hid (all.length ≤ k) := by show _ ≤ _; omega
    have hk' : L ≤ k := by omega
    clear hl hall hm hA hb
    go_enter Try.func47, Try.ntmps47
    go_wp2_with fail
    go_ret
    exact hand_no (.of_below HB0.out) (.inl HN.out)
end Go.Proofs.Ytjkbhdocpjekmaa
