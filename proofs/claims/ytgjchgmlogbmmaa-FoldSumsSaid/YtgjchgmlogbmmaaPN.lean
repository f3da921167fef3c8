/- A part of the proofs of chapter 11, squeezed and merged by group.py: FSum FWalkX. -/
import Derived.Test.YtgjchgmlogbmmaaPK
import Derived.Test.YtgjchgmlogbmmaaPI
/- Sums of digits: what they fold to. -/
namespace Go.Proofs.Ytgjchgmlogbmmaa
open Go.RowKit
set_option linter.unusedVariables false
set_option linter.unusedSimpArgs false

def sgL : List (List UInt8) := [[43], [45], [42], [47], [37], [61], [60]]
def numN (a : Int) : Nd := .mk 1 [] a 0 [] []
def sumN (s : List UInt8) (a b : Int) : Nd := .mk 13 s 0 3 [] [numN a, numN b]
theorem sum_wf {s : List UInt8} (hs : s.length ≤ 60) (a b : Int) : WfN (sumN s a b) := by
  refine (wfN_iff _).2 ⟨rfl, hs, Nat.zero_le _, ?_, rfl⟩
  show 2 ≤ 100000
  omega
theorem sum_exp (s : List UInt8) (a b : Int) : expN (sumN s a b) = opN (sumN s a b) (numN a) (numN b) := by
  rw [expN_eq]
  rfl
theorem sum_bad {s : List UInt8} {a b : Int} (h : (I.doF s a b).2 ≠ 0 ∨ (I.doF s a b).1 < 0) : expN (sumN s a b) = sumN s a b := by
  rw [sum_exp]
  refine op_err rfl rfl ?_
  show ((I.doF s a b).2 != 0 || decide ((I.doF s a b).1 < 0)) = true
  rcases h with h | h
  · rw [bne_iff_ne.2 h]; rfl
  · rw [decide_eq_true h, Bool.or_true]
theorem sum_num {s : List UInt8} {a b v : Int} (h : I.doF s a b = (v, 0)) (hv : 0 ≤ v) (hs : (s == [61] || s == [60]) = false) : expN (sumN s a b) = .mk 1 [] v 3 [] [] := by
  rw [sum_exp, op_done (x := sumN s a b) (p := numN a) (q := numN b) rfl h hv]
  show (if (s == [61] || s == [60]) = true then _ else _) = _
  rw [hs]; rfl
theorem sum_tt {s : List UInt8} {a b v : Int} (h : I.doF s a b = (v, 0)) (hv : 0 ≤ v) (hs : (s == [61] || s == [60]) = true) : expN (sumN s a b) = if (v == 1) = true then .mk 5 [84, 114, 117, 101] 0 3 [] [] else .mk 5 [70, 97, 108, 115, 101] 0 3 [] [] := by
  rw [sum_exp, op_done (x := sumN s a b) (p := numN a) (q := numN b) rfl h hv]
  show (if (s == [61] || s == [60]) = true then _ else _) = _
  rw [hs]; rfl
/-- The node in memory: its kids in a row of their own. -/
theorem sum_in {w : World} {K c : Nat} {s : List UInt8} {a b : Int} {Bp : Nat → Prop} (hk : Whole w K 25 #[.int .i64 1, .string ⟨#[]⟩, .int .i64 a, .int .i64 0, .slice none 0 0, .slice none 0 0, .int .i64 1, .string ⟨#[]⟩, .int .i64 b, .int .i64 0, .slice none 0 0, .slice none 0 0]) (hb : Bp K) : NodeIn w Bp (sumN s a b) ⟨none, 0, some ⟨K, 0, none⟩, c⟩ := by
  refine .mk (fun _ => ⟨rfl, rfl⟩) (fun h => absurd rfl h) (fun h => by cases h) K (fun _ => fr0) (fun _ => ⟨rfl, hb, hk.lt⟩) (fun k h j v hv => ?_) (fun k h => ?_)
  · have hk2 : k < 2 := h
    rw [hk.cell]
    have hj : j < 6 := by
      have := (List.getElem?_eq_some_iff.1 hv).1
      rw [ndL_len] at this; exact this
    rcases (by omega : k = 0 ∨ k = 1) with rfl | rfl
    · rcases (by omega : j = 0 ∨ j = 1 ∨ j = 2 ∨ j = 3 ∨ j = 4 ∨ j = 5) with rfl | rfl | rfl | rfl | rfl | rfl <;> exact hv
    · rcases (by omega : j = 0 ∨ j = 1 ∨ j = 2 ∨ j = 3 ∨ j = 4 ∨ j = 5) with rfl | rfl | rfl | rfl | rfl | rfl <;> exact hv
  · have hk2 : k < 2 := h
    rcases (by omega : k = 0 ∨ k = 1) with rfl | rfl
    · exact NodeIn.leaf w _ (x := numN a) rfl rfl
    · exact NodeIn.leaf w _ (x := numN b) rfl rfl
theorem sg_get {j : Nat} (h : j < 7) : (sgL.getD j []).length ≤ 60 ∧ ((sgL.getD j [] == [61] || sgL.getD j [] == [60]) = decide (4 < j)) := by
  rcases (by omega : j = 0 ∨ j = 1 ∨ j = 2 ∨ j = 3 ∨ j = 4 ∨ j = 5 ∨ j = 6) with rfl | rfl | rfl | rfl | rfl | rfl | rfl <;> exact ⟨by decide, by decide⟩
end Go.Proofs.Ytgjchgmlogbmmaa
/- The law of sums of digits: its walk. -/
namespace Go.Proofs.Ytgjchgmlogbmmaa
open Go.RowKit
set_option linter.unusedVariables false
set_option linter.unusedSimpArgs false
attribute [local go_sem ↓] Go.wp_at_zero Go.wp_at_succ

theorem lit_i64 {a : Int} (h : (Lit.int .i64 a).wf = true) : -9223372036854775808 ≤ a ∧ a ≤ 9223372036854775807 := by
  have e1 : IntKind.i64.min = -9223372036854775808 := rfl
  have e2 : IntKind.i64.max = 9223372036854775807 := rfl
  simpa [Lit.wf, e1, e2] using h
def Up (u : Value) : Prop := ∃ a : Int, u = .int .i64 a ∧ 0 ≤ a ∧ a ≤ 9223372036854775807
set_option maxRecDepth 100000 in
set_option maxHeartbeats 8000000 in
theorem foldSums_walk (a b k : Int) (W : World) (w0 : (Lit.int .i64 a).wf = true) (w1 : (Lit.int .i64 b).wf = true) (w2 : (Lit.int .i64 k).wf = true) : Calls Try.prog 5 #[.int .i64 a, .int .i64 b, .int .i64 k] W fun e w' => e = .returned (.bool true) ∧ Below W.heap.size W w' := by
  obtain ⟨la, ma⟩ := lit_i64 w0
  obtain ⟨lb, mb⟩ := lit_i64 w1
  obtain ⟨lk, mk⟩ := lit_i64 w2
  clear w0 w1 w2
  go_enter Try.func5, Try.ntmps5
  go_upto_if 14 with (fail)
  go_cut [0] (fun u wx => Up u ∧ wx = W)
  case first =>
    by_cases h : a < 0
    · go_wp2_with fail
      go_meet
      exact ⟨⟨_, rfl, by omega, by omega⟩, rfl⟩
    · go_wp2_with fail
      go_meet
      exact ⟨⟨a, rfl, by omega, by omega⟩, rfl⟩
  case rest =>
    obtain ⟨⟨A, rfl, A0, A1⟩, rfl⟩ := hcut
    clear la ma
    go_upto_if 19 with (fail)
    go_cut [1] (fun u wx => Up u ∧ wx = wc)
    case first =>
      by_cases h : b < 0
      · go_wp2_with fail
        go_meet
        exact ⟨⟨_, rfl, by omega, by omega⟩, rfl⟩
      · go_wp2_with fail
        go_meet
        exact ⟨⟨b, rfl, by omega, by omega⟩, rfl⟩
    case rest =>
      obtain ⟨⟨B, rfl, B0, B1⟩, rfl⟩ := hcut
      clear lb mb
      go_upto_if 24 with (fail)
      go_cut [2] (fun u wx => Up u ∧ wx = wc)
      case first =>
        by_cases h : k < 0
        · go_wp2_with fail
          go_meet
          exact ⟨⟨_, rfl, by omega, by omega⟩, rfl⟩
        · go_wp2_with fail
          go_meet
          exact ⟨⟨k, rfl, by omega, by omega⟩, rfl⟩
      case rest =>
        obtain ⟨⟨kz, rfl, k0, k1⟩, rfl⟩ := hcut
        clear lk mk
        obtain ⟨kn, rfl⟩ : ∃ n : Nat, kz = (n : Int) := ⟨kz.toNat, by omega⟩
        clear k0
        have K1 := Lib.hid k1
        clear k1
        go_upto_region 8 with (fail)
        have HSG : Hid (Whole (wc.alloc (.cells #[.string ⟨#[43]⟩, .string ⟨#[45]⟩, .string ⟨#[42]⟩, .string ⟨#[47]⟩, .string ⟨#[37]⟩, .string ⟨#[61]⟩, .string ⟨#[60]⟩] 9)) wc.heap.size 9 #[.string ⟨#[43]⟩, .string ⟨#[45]⟩, .string ⟨#[42]⟩, .string ⟨#[47]⟩, .string ⟨#[37]⟩, .string ⟨#[61]⟩, .string ⟨#[60]⟩]) := Whole.made wc 9 _
        have HB1 : Hid (Below wc.heap.size wc (wc.alloc (.cells #[.string ⟨#[43]⟩, .string ⟨#[45]⟩, .string ⟨#[42]⟩, .string ⟨#[47]⟩, .string ⟨#[37]⟩, .string ⟨#[61]⟩, .string ⟨#[60]⟩] 9))) := (Below.refl _ _).alloc (Nat.le_refl _) _
        generalize wc.alloc (.cells #[.string ⟨#[43]⟩, .string ⟨#[45]⟩, .string ⟨#[42]⟩, .string ⟨#[47]⟩, .string ⟨#[37]⟩, .string ⟨#[61]⟩, .string ⟨#[60]⟩] 9) = w1 at *
        have j0 : (0 : Int) ≤ (kn : Int) % 7 := by omega
        have j1 : (kn : Int) % 7 < 7 := by omega
        have hj : kn % 7 < 7 := by omega
        obtain ⟨hs60, hst⟩ := sg_get hj
        have HS60 := Lib.hid hs60
        have HST := Lib.hid hst
        clear hs60 hst
        have sj : w1.cell? ⟨wc.heap.size, kn % 7, none⟩ = some (.string ⟨(sgL.getD (kn % 7) []).toArray⟩) := by
          rw [HSG.out.cell]
          have hj2 := hj
          generalize kn % 7 = j at hj2
          rcases (by omega : j = 0 ∨ j = 1 ∨ j = 2 ∨ j = 3 ∨ j = 4 ∨ j = 5 ∨ j = 6) with rfl | rfl | rfl | rfl | rfl | rfl | rfl <;> rfl
        obtain ⟨s, hs⟩ : ∃ s, sgL.getD (kn % 7) [] = s := ⟨_, rfl⟩
        rw [hs] at sj HS60 HST
        clear hs
        go_upto_region 9 with (fail)
        clear sj j0 j1
        obtain ⟨an, rfl⟩ : ∃ n : Nat, A = (n : Int) := ⟨A.toNat, by omega⟩
        obtain ⟨bn, rfl⟩ : ∃ n : Nat, B = (n : Int) := ⟨B.toNat, by omega⟩
        clear A0 A1 B0 B1
        go_upto_region 11 with (fail)
        obtain ⟨p, hp⟩ : ∃ p, (an : Int) % 4611686018427387904 = p := ⟨_, rfl⟩
        obtain ⟨q, hq⟩ : ∃ q, (bn : Int) % 4611686018427387904 = q := ⟨_, rfl⟩
        simp only [hp, hq]
        clear hp hq
        have HB2 := Lib.hid HB1.out
        go_upto_region 12 with (fail)
        have HK : Hid (Whole ((w1.alloc (.cells #[.int .i64 1, .string ⟨#[]⟩, .int .i64 p, .int .i64 0, .slice none 0 0, .slice none 0 0, .int .i64 1, .string ⟨#[]⟩, .int .i64 q, .int .i64 0, .slice none 0 0, .slice none 0 0] 25)).alloc (.cells #[.int .i64 13, .string ⟨s.toArray⟩, .int .i64 0, .int .i64 3, .slice none 0 0, .slice (some ⟨w1.heap.size, 0, none⟩) 2 2] 25)) w1.heap.size 25 #[.int .i64 1, .string ⟨#[]⟩, .int .i64 p, .int .i64 0, .slice none 0 0, .slice none 0 0, .int .i64 1, .string ⟨#[]⟩, .int .i64 q, .int .i64 0, .slice none 0 0, .slice none 0 0]) := (Whole.made w1 25 _).alloc _
        have HN : Hid (Whole ((w1.alloc (.cells #[.int .i64 1, .string ⟨#[]⟩, .int .i64 p, .int .i64 0, .slice none 0 0, .slice none 0 0, .int .i64 1, .string ⟨#[]⟩, .int .i64 q, .int .i64 0, .slice none 0 0, .slice none 0 0] 25)).alloc (.cells #[.int .i64 13, .string ⟨s.toArray⟩, .int .i64 0, .int .i64 3, .slice none 0 0, .slice (some ⟨w1.heap.size, 0, none⟩) 2 2] 25)) (w1.heap.size + 1) 25 #[.int .i64 13, .string ⟨s.toArray⟩, .int .i64 0, .int .i64 3, .slice none 0 0, .slice (some ⟨w1.heap.size, 0, none⟩) 2 2]) := by
          have h := Whole.made (w1.alloc (.cells #[.int .i64 1, .string ⟨#[]⟩, .int .i64 p, .int .i64 0, .slice none 0 0, .slice none 0 0, .int .i64 1, .string ⟨#[]⟩, .int .i64 q, .int .i64 0, .slice none 0 0, .slice none 0 0] 25)) 25 #[.int .i64 13, .string ⟨s.toArray⟩, .int .i64 0, .int .i64 3, .slice none 0 0, .slice (some ⟨w1.heap.size, 0, none⟩) 2 2]
          have e : (w1.alloc (.cells #[.int .i64 1, .string ⟨#[]⟩, .int .i64 p, .int .i64 0, .slice none 0 0, .slice none 0 0, .int .i64 1, .string ⟨#[]⟩, .int .i64 q, .int .i64 0, .slice none 0 0, .slice none 0 0] 25)).heap.size = w1.heap.size + 1 := by simp
          rw [e] at h
          exact h
        have HB3 : Hid (Below wc.heap.size wc ((w1.alloc (.cells #[.int .i64 1, .string ⟨#[]⟩, .int .i64 p, .int .i64 0, .slice none 0 0, .slice none 0 0, .int .i64 1, .string ⟨#[]⟩, .int .i64 q, .int .i64 0, .slice none 0 0, .slice none 0 0] 25)).alloc (.cells #[.int .i64 13, .string ⟨s.toArray⟩, .int .i64 0, .int .i64 3, .slice none 0 0, .slice (some ⟨w1.heap.size, 0, none⟩) 2 2] 25))) := (HB1.out.alloc HB1.out.size _).alloc (by have := HB1.out.size; simp; omega) _
        generalize (w1.alloc (.cells #[.int .i64 1, .string ⟨#[]⟩, .int .i64 p, .int .i64 0, .slice none 0 0, .slice none 0 0, .int .i64 1, .string ⟨#[]⟩, .int .i64 q, .int .i64 0, .slice none 0 0, .slice none 0 0] 25)).alloc (.cells #[.int .i64 13, .string ⟨s.toArray⟩, .int .i64 0, .int .i64 3, .slice none 0 0, .slice (some ⟨w1.heap.size, 0, none⟩) 2 2] 25) = w2 at *
        generalize w1.heap.size = K at *
        obtain ⟨N, hN⟩ : ∃ N, K + 1 = N := ⟨_, rfl⟩
        simp only [hN]
        rw [hN] at HN
        clear hN HB1 HB2 HSG
        have HWS := Lib.hid (sum_wf HS60.out p q)
        have HIN : Hid (NodeIn w2 (fun _ => True) (sumN s p q) ⟨none, 0, some ⟨K, 0, none⟩, 2⟩) := sum_in HK.out trivial
        obtain ⟨xe, hxe⟩ : ∃ xe, expN (sumN s p q) = xe := ⟨_, rfl⟩
        have HXE := Lib.hid hxe
        have CE0 := fexp_any (sumN s p q) HWS.out (by show 0 ≤ 100000; omega) w2 (fun a => a < w2.heap.size) ⟨none, 0, some ⟨K, 0, none⟩, 2⟩ (fun a ha => ha) (HIN.out.mono fun a _ hl => hl)
        rw [hxe] at CE0
        have CE : Hid (Calls Try.prog 11 #[.agg #[.int .i64 13, .string ⟨s.toArray⟩, .int .i64 0, .int .i64 3, .slice none 0 0, .slice (some ⟨K, 0, none⟩) 2 2]] w2 fun e w' => ∃ f', e = .returned (ndV xe f') ∧ NodeIn w' (fun a => a < w2.heap.size ∨ w2.heap.size ≤ a) xe f' ∧ Below w2.heap.size w2 w') := CE0
        clear hxe CE0
        obtain ⟨n0, n1, n2, n3, n4, n5⟩ : w2.cell? ⟨N, 0, none⟩ = some (.int .i64 13) ∧ w2.cell? ⟨N, 1, none⟩ = some (.string ⟨s.toArray⟩) ∧ w2.cell? ⟨N, 2, none⟩ = some (.int .i64 0) ∧ w2.cell? ⟨N, 3, none⟩ = some (.int .i64 3) ∧ w2.cell? ⟨N, 4, none⟩ = some (.slice none 0 0) ∧ w2.cell? ⟨N, 5, none⟩ = some (.slice (some ⟨K, 0, none⟩) 2 2) := ⟨HN.out.cell 0, HN.out.cell 1, HN.out.cell 2, HN.out.cell 3, HN.out.cell 4, HN.out.cell 5⟩
        go_wp2_with fail
        refine CE.out.mono ?_
        rintro e w3 ⟨f3, rfl, nx, b3⟩
        unfold ndV
        clear n0 n1 n2 n3 n4 n5 CE
        have HN3 := Lib.hid (HN.out.below b3 HN.out.lt)
        have HI3 := Lib.hid (HIN.out.later b3 (Nat.le_refl _))
        have HX3 : Hid (NodeIn w3 (fun _ => True) xe f3) := nx.mono fun _ _ _ => trivial
        have HB4 := Lib.hid (HB3.out.trans (b3.mono HB3.out.size))
        clear nx b3 HN HIN HB3 HK
        go_upto_region 13 with (fail)
        have HX4 : Hid (Whole (w3.alloc (.cells #[.int .i64 xe.kd, .string ⟨xe.tx.toArray⟩, .int .i64 xe.nm, .int .i64 (xe.at_ : Int), .slice f3.na xe.ns.length f3.nc, .slice f3.ka xe.ks.length f3.kc] 25)) w3.heap.size 25 #[.int .i64 xe.kd, .string ⟨xe.tx.toArray⟩, .int .i64 xe.nm, .int .i64 (xe.at_ : Int), .slice f3.na xe.ns.length f3.nc, .slice f3.ka xe.ks.length f3.kc]) := Whole.made w3 25 _
        have b4 : Below w3.heap.size w3 (w3.alloc (.cells #[.int .i64 xe.kd, .string ⟨xe.tx.toArray⟩, .int .i64 xe.nm, .int .i64 (xe.at_ : Int), .slice f3.na xe.ns.length f3.nc, .slice f3.ka xe.ks.length f3.kc] 25)) := (Below.refl _ _).alloc (Nat.le_refl _) _
        generalize w3.alloc (.cells #[.int .i64 xe.kd, .string ⟨xe.tx.toArray⟩, .int .i64 xe.nm, .int .i64 (xe.at_ : Int), .slice f3.na xe.ns.length f3.nc, .slice f3.ka xe.ks.length f3.kc] 25) = w4 at *
        have HN4 := Lib.hid (HN3.out.below b4 HN3.out.lt)
        have HI4 := Lib.hid (HI3.out.later b4 (Nat.le_refl _))
        have HE4 := Lib.hid (HX3.out.later b4 (Nat.le_refl _))
        have HB5 := Lib.hid (HB4.out.trans (b4.mono HB4.out.size))
        generalize w3.heap.size = X at *
        clear b4 HN3 HI3 HX3 HB4
        obtain ⟨v, er, hdo⟩ : ∃ v er, I.doF s p q = (v, er) := ⟨_, _, rfl⟩
        have CD := Lib.hid (rdo_tx s p q w4)
        have HDO := Lib.hid hdo
        rw [hdo] at CD
        clear hdo
        go_wp2_with fail
        refine CD.out.mono ?_
        rintro e w5 ⟨rfl, rfl⟩
        clear CD
        have CL := Lib.hid (lives_any w4)
        by_cases hbad : er ≠ 0 ∨ v < 0
        · have HEQ : Hid (xe = sumN s p q) := HXE.out.symm.trans (sum_bad (by rw [HDO.out]; exact hbad))
          have HIE : Hid (NodeIn w4 (fun _ => True) xe ⟨none, 0, some ⟨K, 0, none⟩, 2⟩) := by rw [HEQ.out]; exact HI4.out
          have HNE : Hid (Whole w4 N 25 #[.int .i64 xe.kd, .string ⟨xe.tx.toArray⟩, .int .i64 xe.nm, .int .i64 (xe.at_ : Int), .slice none xe.ns.length 0, .slice (some ⟨K, 0, none⟩) xe.ks.length 2]) := by rw [HEQ.out]; exact HN4.out
          have CM := Lib.hid (same_any xe (by rw [HEQ.out]; exact HWS.out) w4 _ _ f3 ⟨none, 0, some ⟨K, 0, none⟩, 2⟩ HE4.out HIE.out)
          unfold ndV at CM
          have hb : (er != 0) = true ∨ ((er != 0) = false ∧ v < 0) := by
            by_cases h : er = 0
            · exact .inr ⟨by simp [h], hbad.resolve_left (fun h2 => h2 h)⟩
            · exact .inl (bne_iff_ne.2 h)
          clear hbad HXE HDO HI4 HN4 HE4
          obtain ⟨n0, n1, n2, n3, n4, n5⟩ := nodeC (HX4.out)
          have m0 : w4.cell? ⟨N, 0, none⟩ = some (.int .i64 xe.kd) := HNE.out.cell 0
          have m1 : w4.cell? ⟨N, 1, none⟩ = some (.string ⟨xe.tx.toArray⟩) := HNE.out.cell 1
          have m2 : w4.cell? ⟨N, 2, none⟩ = some (.int .i64 xe.nm) := HNE.out.cell 2
          have m3 : w4.cell? ⟨N, 3, none⟩ = some (.int .i64 (xe.at_ : Int)) := HNE.out.cell 3
          have m4 : w4.cell? ⟨N, 4, none⟩ = some (.slice none xe.ns.length 0) := HNE.out.cell 4
          have m5 : w4.cell? ⟨N, 5, none⟩ = some (.slice (some ⟨K, 0, none⟩) xe.ks.length 2) := HNE.out.cell 5
          obtain ⟨eb, heb⟩ : ∃ eb, (er != 0) = eb := ⟨_, rfl⟩
          rw [heb] at hb
          rcases eb with _ | _
          · have hv : v < 0 := hb.elim (fun h => by cases h) (fun h => h.2)
            clear hb
            go_wp2_with fail
            refine CM.out.mono ?_
            rintro e w6 ⟨rfl, b6⟩
            have HB6 := Lib.hid (HB5.out.trans (b6.mono HB5.out.size))
            clear b6 CM CL n0 n1 n2 n3 n4 n5 m0 m1 m2 m3 m4 m5
            go_wp2_with fail
            refine (lives_any w6).mono ?_
            rintro e w7 ⟨rfl, b7⟩
            have HB7 := Lib.hid (HB6.out.trans (b7.mono HB6.out.size))
            go_wp2_with fail
            exact bodyPost_ret (v := .bool true) (by simp [results, Try.results5, go_sem]) rfl ⟨rfl, HB7.out⟩
          · clear hb
            go_wp2_with fail
            refine CM.out.mono ?_
            rintro e w6 ⟨rfl, b6⟩
            have HB6 := Lib.hid (HB5.out.trans (b6.mono HB5.out.size))
            clear b6 CM CL n0 n1 n2 n3 n4 n5 m0 m1 m2 m3 m4 m5
            go_wp2_with fail
            refine (lives_any w6).mono ?_
            rintro e w7 ⟨rfl, b7⟩
            have HB7 := Lib.hid (HB6.out.trans (b7.mono HB6.out.size))
            go_wp2_with fail
            exact bodyPost_ret (v := .bool true) (by simp [results, Try.results5, go_sem]) rfl ⟨rfl, HB7.out⟩
        · have he : er = 0 := by
            by_cases h : er = 0
            · exact h
            · exact absurd (.inl h) hbad
          subst he
          have hv : ¬ v < 0 := fun h => hbad (.inr h)
          have hv0 : 0 ≤ v := by omega
          clear hbad HI4 HN4 HE4
          by_cases h4 : 4 < kn % 7
          · have hs : (s == [61] || s == [60]) = true := by rw [HST.out]; exact decide_eq_true h4
            have HEQ : Hid (xe = if (v == 1) = true then .mk 5 [84, 114, 117, 101] 0 3 [] [] else .mk 5 [70, 97, 108, 115, 101] 0 3 [] []) := HXE.out.symm.trans (sum_tt HDO.out hv0 hs)
            have h41 : (kn : Int) % 7 > 4 := by omega
            have h40 : (4 : Int) < (kn : Int) % 7 := by omega
            clear h4 hs HXE HDO HST
            have d0 := HX4.out.cell 0
            have d1 := HX4.out.cell 1
            have d3 := HX4.out.cell 3
            simp only [List.getElem?_toArray, List.getElem?_cons_zero, List.getElem?_cons_succ] at d0 d1 d3
            by_cases h1 : v = 1
            · subst h1
              have HEQ2 : Hid (xe = .mk 5 [84, 114, 117, 101] 0 3 [] []) := HEQ.out
              rw [HEQ2.out] at d0 d1 d3
              replace d0 : w4.cell? ⟨X, 0, none⟩ = some (.int .i64 5) := d0
              replace d1 : w4.cell? ⟨X, 1, none⟩ = some (.string ⟨#[84, 114, 117, 101]⟩) := d1
              replace d3 : w4.cell? ⟨X, 3, none⟩ = some (.int .i64 3) := d3
              clear HEQ HEQ2 HX4
              go_wp2_with fail
              refine CL.out.mono ?_
              rintro e w6 ⟨rfl, b6⟩
              have HB6 := Lib.hid (HB5.out.trans (b6.mono HB5.out.size))
              go_wp2_with fail
              exact bodyPost_ret (v := .bool true) (by simp [results, Try.results5, go_sem]) rfl ⟨rfl, HB6.out⟩
            · have HEQ2 : Hid (xe = .mk 5 [70, 97, 108, 115, 101] 0 3 [] []) := HEQ.out.trans (by simp [h1])
              rw [HEQ2.out] at d0 d1 d3
              replace d0 : w4.cell? ⟨X, 0, none⟩ = some (.int .i64 5) := d0
              replace d1 : w4.cell? ⟨X, 1, none⟩ = some (.string ⟨#[70, 97, 108, 115, 101]⟩) := d1
              replace d3 : w4.cell? ⟨X, 3, none⟩ = some (.int .i64 3) := d3
              have h2 : (v == 1) = false := beq_eq_false_iff_ne.2 h1
              clear HEQ HEQ2 HX4 h1
              go_wp2_with fail
              refine CL.out.mono ?_
              rintro e w6 ⟨rfl, b6⟩
              have HB6 := Lib.hid (HB5.out.trans (b6.mono HB5.out.size))
              go_wp2_with fail
              exact bodyPost_ret (v := .bool true) (by simp [results, Try.results5, go_sem]) rfl ⟨rfl, HB6.out⟩
          · have hs : (s == [61] || s == [60]) = false := by rw [HST.out]; exact decide_eq_false h4
            have HEQ : Hid (xe = .mk 1 [] v 3 [] []) := HXE.out.symm.trans (sum_num HDO.out hv0 hs)
            have h41 : ¬ (kn : Int) % 7 > 4 := by omega
            have h40 : ¬ (4 : Int) < (kn : Int) % 7 := by omega
            clear h4 hs HXE HDO HST
            have d0 := HX4.out.cell 0
            have d2 := HX4.out.cell 2
            have d3 := HX4.out.cell 3
            simp only [List.getElem?_toArray, List.getElem?_cons_zero, List.getElem?_cons_succ] at d0 d2 d3
            rw [HEQ.out] at d0 d2 d3
            replace d0 : w4.cell? ⟨X, 0, none⟩ = some (.int .i64 1) := d0
            replace d2 : w4.cell? ⟨X, 2, none⟩ = some (.int .i64 v) := d2
            replace d3 : w4.cell? ⟨X, 3, none⟩ = some (.int .i64 3) := d3
            clear HEQ HX4
            go_wp2_with fail
            refine CL.out.mono ?_
            rintro e w6 ⟨rfl, b6⟩
            have HB6 := Lib.hid (HB5.out.trans (b6.mono HB5.out.size))
            go_wp2_with fail
            exact bodyPost_ret (v := .bool true) (by simp [results, Try.results5, go_sem]) rfl ⟨rfl, HB6.out⟩
end Go.Proofs.Ytgjchgmlogbmmaa
