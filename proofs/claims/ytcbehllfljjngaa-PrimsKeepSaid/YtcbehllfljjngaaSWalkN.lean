/- The walks of layer 3: numbers as a text, by the document: Unpack. -/
import Derived.Test.YtcbehllfljjngaaSWalkM
namespace Go.Proofs.Ytcbehllfljjngaa
open Go.RowKit
set_option linter.unusedVariables false

theorem u8v_byt2 (x : Int) (k : Nat) : u8v (byt x k) = .int .u8 (x / 256 ^ k % 256) := by
  unfold u8v byt
  generalize x / 256 ^ k = y
  congr 1
  rw [UInt8.toNat_ofNat']
  omega
theorem div_more (x : Int) (k : Nat) : x / 256 ^ k / 256 = x / 256 ^ (k + 1) := by
  rw [Int.pow_succ, Int.ediv_ediv_of_nonneg (Int.le_of_lt (Int.pow_pos (by decide)))]
theorem div_small {x : Int} {k : Nat} (h0 : 0 ≤ x) : x / 256 ^ k = 0 ↔ x < 256 ^ k := by
  have hp : (0 : Int) < 256 ^ k := Int.pow_pos (by decide)
  constructor
  · intro h
    have := Int.lt_ediv_add_one_mul_self x hp
    rw [h] at this; omega
  · intro h; exact Int.ediv_eq_zero_of_lt h0 h
theorem div_pos {x : Int} (k : Nat) (h0 : 0 ≤ x) : 0 ≤ x / 256 ^ k := Int.ediv_nonneg h0 (Int.le_of_lt (Int.pow_pos (by decide)))
theorem head_of {zs : List Int} {N n : Nat} (hd : hdN zs = N) (hx : zs.getD 0 0 = (N : Int)) (hl : zs.length = n) (hn : n = (N + 6) / 7 + 1) (h60 : N ≤ 60) : Head zs N := ⟨hx, h60, by rw [hl]; exact hn⟩
theorem ru_bad {zs : List Int} {N i : Nat} (hd : hdN zs = N) (hh : Head zs N) (hi : i < (N + 6) / 7) (hb : ¬ okNum zs N i) : unpF zs = unpE :=
  unpF_no (by rw [hd]; exact fun h => hb ((pack_back hh).1 h i hi))
theorem ru_good {zs : List Int} {N : Nat} (hd : hdN zs = N) (hh : Head zs N) (h : ∀ i, i < (N + 6) / 7 → okNum zs N i) : unpF zs = .returned (.tuple #[.string ⟨(unpB zs N).toArray⟩, .int .i64 0]) := by
  have := unpF_yes (zs := zs) (by rw [hd]; exact hh.2.1) (by rw [hd]; exact (pack_back hh).2 h)
  rw [hd] at this; exact this
theorem ok_of {zs : List Int} {N i P k : Nat} {x : Int} (hP : P = 7 * i) (hx : zs.getD (1 + i) 0 = x) (h0 : 0 ≤ x) (hk : k = min 7 (N - P)) : okNum zs N i ↔ x / 256 ^ k = 0 := by
  rw [div_small h0]; unfold okNum; rw [hx, ← hP, ← hk]
  exact ⟨fun h => h.2, fun h => ⟨h0, h⟩⟩
/-- The bytes so far. -/
def BBRel (w : World) (zs : List Int) (m : Nat) (v : Value) (wr : World) : Prop :=
  wr.ownsRow w.heap.size 5 1 v m ((unpB zs m).map u8v) ∧ Below w.heap.size w wr ∧ w.heap.size ≤ wr.heap.size
theorem bb_next {w wr : World} {zs : List Int} {v : Value} {i P k : Nat} {x : Int} (hP : P = 7 * i) (hx : zs.getD (1 + i) 0 = x) (hk : k < 7)
    (ho : wr.ownsRow w.heap.size 5 1 v (P + k + 1) ((unpB zs (P + k)).map u8v ++ [.int .u8 (x / 256 ^ k % 256)])) (hb : Below w.heap.size w wr) (hs : w.heap.size ≤ wr.heap.size) :
    BBRel w zs (P + (k + 1)) v wr := by
  refine ⟨?_, hb, hs⟩
  have e := unpB_succ zs (P + k)
  rw [show (P + k) / 7 = i from by omega, show (P + k) % 7 = k from by omega, hx] at e
  rw [← Nat.add_assoc, e, List.map_append, List.map_cons, List.map_nil, u8v_byt2]; exact ho
/-- The numbers so far. -/
def RURel (w : World) (zs : List Int) (N n : Nat) (v iv : Value) (wr : World) : Prop :=
  ∃ i : Nat, iv = .int .i64 ((1 + i : Nat) : Int) ∧ 1 + i ≤ n ∧ BBRel w zs (min N (7 * i)) v wr ∧ ∀ t, t < i → okNum zs N t
def RIRel (w : World) (zs : List Int) (N P : Nat) (x : Int) (v nv kv : Value) (wr : World) : Prop :=
  ∃ k : Nat, k ≤ 7 ∧ P + k ≤ N ∧ kv = .int .i64 (k : Int) ∧ nv = .int .i64 (x / 256 ^ k) ∧ BBRel w zs (P + k) v wr

set_option maxRecDepth 100000 in
set_option maxHeartbeats 4000000 in
theorem runpack_any (w : World) (B : Nat) (A : Option Addr) (n c : Nat) (zs : List Int) (hz : Ints w B A n zs) (hB : B ≤ w.heap.size) (hn : n ≤ 1000) (hr : ∀ j, zs.getD j 0 < 9223372036854775808) :
    Calls Try.prog 58 #[.slice A n c] w fun e w' => e = unpF zs ∧ Below w.heap.size w w' := by
  have hl := hz.1
  have HR := Lib.hid hr
  clear hr
  by_cases h0 : n = 0
  · subst h0
    have hz0 : zs = [] := List.eq_nil_of_length_eq_zero hl
    subst hz0
    clear hz
    go_enter Try.func58, Try.ntmps58
    go_wp2
    go_ret2
    exact ⟨unpF_nil.symm, Below.refl _ _⟩
  · obtain ⟨b, off, e1, hb1, hc1⟩ := hz.at_ (k := 0) (by omega)
    subst e1
    rw [Nat.add_zero] at hc1
    have hp0 : 0 < n := by omega
    have t0 : ((n : Int) == 0) = false := by rw [beq_eq_false_iff_ne]; omega
    have HZ := Lib.hid hz
    clear hz
    generalize hX : zs.getD 0 0 = X at *
    by_cases hneg : X < 0
    · have H2 := Lib.hid (unpF_neg (zs := zs) (by omega))
      clear HZ hX h0 hl
      go_enter Try.func58, Try.ntmps58
      go_wp2
      go_ret2
      exact ⟨H2.out.symm, Below.refl _ _⟩
    · by_cases h60 : 60 < X
      · have H2 := Lib.hid (unpF_far (zs := zs) (by unfold hdN; omega))
        clear HZ hX h0 hl
        go_enter Try.func58, Try.ntmps58
        go_wp2
        go_ret2
        exact ⟨H2.out.symm, Below.refl _ _⟩
      · obtain ⟨N, hN⟩ := Int.eq_ofNat_of_zero_le (a := X) (by omega)
        subst hN
        have hd : hdN zs = N := by unfold hdN; omega
        have HD := Lib.hid hd
        have HX := Lib.hid hX
        have HL := Lib.hid hl
        clear hX hd hl
        go_enter Try.func58, Try.ntmps58
        go_wp2
        go_loop [4] (fun v => ∃ m : Nat, v = .int .i64 (m : Int) ∧ 1 ≤ m ∧ m ≤ (N + 6) / 7 + 1) (fun v => 20 - (intOf v).toNat)
        case atStart => exact ⟨1, rfl, by omega, by omega⟩
        case round =>
          obtain ⟨m, rfl, hm1, hm⟩ := hrel
          by_cases hlt : 7 * ((m : Int) - 1) < (N : Int)
          · go_wp2
            go_round
            case rel => exact ⟨m + 1, by go_num, by omega, by omega⟩
            case measure => simp [intOf]; omega
          · have hmm : m = (N + 6) / 7 + 1 := by omega
            have HM := Lib.hid hmm
            clear hmm
            by_cases hnm : n = m
            · have t3 : ((n : Int) != (m : Int)) = false := by subst hnm; simp
              have HN := Lib.hid hnm
              have hbw : b < w.heap.size := by omega
              have HH := Lib.hid (head_of HD.out HX.out HL.out (by rw [HN.out, HM.out]) (by omega))
              have hn2 : Hid (n = (N + 6) / 7 + 1) := by show n = _; rw [HN.out, HM.out]
              clear hnm
              clear HM HN
              go_wp2
              go_loopw [5, 6] (RURel w zs N n) (fun _ i _ => n - (intOf i).toNat)
              case atStart => exact ⟨0, rfl, by omega, by rw [show min N (7 * 0) = 0 from by omega]; exact ⟨⟨rfl, .inl ⟨rfl, rfl⟩⟩, Below.refl _ _, Nat.le_refl _⟩, fun t ht => absurd ht (by omega)⟩
              case round =>
                obtain ⟨i, rfl, hi, ⟨hown, hw, hsz⟩, hok⟩ := hrel
                obtain ⟨j, hj⟩ : ∃ j, j = 1 + i := ⟨_, rfl⟩
                have HJ := Lib.hid hj
                rw [← hj] at hi ⊢
                have HOK := Lib.hid hok
                clear hok
                have hcw := (hw.cell (p := ⟨b, off, none⟩) hbw).trans hc1
                by_cases hlt : j < n
                · have hPN : 7 * i < N := by have := hn2.out; omega
                  obtain ⟨P, hP⟩ : ∃ P, P = 7 * i := ⟨_, rfl⟩
                  have HP := Lib.hid hP
                  rw [← hP] at hown hPN
                  rw [show min N P = P from by omega] at hown
                  clear hj hP
                  obtain ⟨b', off', eb, _, hc2⟩ := ((HZ.out.more hB).below hw).at_ hlt
                  cases eb
                  obtain ⟨x, hx⟩ : ∃ x, zs.getD j 0 = x := ⟨_, rfl⟩
                  rw [hx] at hc2
                  rw [HJ.out] at hx
                  have HXI := Lib.hid hx
                  clear hx
                  have hi7 : Hid (i < (N + 6) / 7) := by have := HJ.out; have := hn2.out; show i < _; omega
                  by_cases hx0 : x < 0
                  · have H2 := Lib.hid (ru_bad HD.out HH.out hi7.out (fun h => by have := h.1; rw [HXI.out] at this; omega))
                    go_wp2
                    go_ret2
                    exact ⟨H2.out.symm, hw⟩
                  · go_wp2
                    go_loopw [5, 7, 8] (RIRel w zs N P x) (fun _ _ k _ => 7 - (intOf k).toNat)
                    case atStart => exact ⟨0, by omega, by omega, rfl, by simp, hown, hw, hsz⟩
                    case round =>
                      obtain ⟨k, hk, hPk, rfl, rfl, hown2, hw2, hsz2⟩ := hrel
                      obtain ⟨A2, cp, hv⟩ := own_val hown2
                      rw [hv] at hown2 ⊢
                      clear hv
                      have hcw2 := (hw2.cell (p := ⟨b, off, none⟩) hbw).trans hc1
                      have hq0 := div_pos k (by omega : 0 ≤ x)
                      by_cases hk7 : k < 7
                      · by_cases hPN2 : P + k < N
                        · have hpk : ((P + k : Nat) : Int) < (N : Int) := by omega
                          have hqx : x / 256 ^ k < 9223372036854775808 := by
                            have h1 := HR.out (1 + i)
                            rw [HXI.out] at h1
                            have h2 : x / 256 ^ k ≤ x := Int.ediv_le_self _ (by omega)
                            omega
                          have HDV := Lib.hid (div_more x k)
                          have HBB := Lib.hid (fun v wr => bb_next (w := w) (wr := wr) (v := v) HP.out HXI.out hk7)
                          have HK7 := Lib.hid hk7
                          clear hcw hc2
                          generalize x / 256 ^ k = q at *
                          go_wp2_with (at_builtin; go_must (refine app_u8 rfl _ _ rfl rfl hown2 hw2 hsz2 rfl rfl (by intro u hu; simp at hu; subst hu; rfl) (by omega) ?_); intro v' w' hown' hw' hsz')
                          exact ⟨⟨k + 1, by have := HK7.out; omega, by omega, by go_num, by rw [← HDV.out], HBB.out _ _ hown' hw' hsz'⟩, by simp [intOf]; have := HK7.out; omega⟩
                        · have HOI := Lib.hid (ok_of (N := N) (k := k) HP.out HXI.out (by omega : 0 ≤ x) (by omega))
                          have hpk : ¬ ((P + k : Nat) : Int) < (N : Int) := by omega
                          clear hcw hc2
                          by_cases hz0 : x / 256 ^ k = 0
                          · have t4 : (x / 256 ^ k != 0) = false := by rw [hz0]; rfl
                            have HE : Hid (min N (7 * (i + 1)) = P + k) := by have := HP.out; show min N _ = _; omega
                            have HO2 : Hid (∀ t, t < i + 1 → okNum zs N t) := fun t ht => by
                              rcases Nat.lt_or_ge t i with h | h
                              · exact HOK.out t h
                              · rw [show t = i from by omega]; exact HOI.out.2 hz0
                            clear hz0
                            generalize x / 256 ^ k = q at *
                            go_wp2
                            exact ⟨⟨i + 1, by have := HJ.out; congr 1; omega, by have := HJ.out; omega, by rw [HE.out]; exact ⟨hown2, hw2, hsz2⟩, HO2.out⟩, by simp [intOf]; omega⟩
                          · have t4 : (x / 256 ^ k != 0) = true := by rw [bne_iff_ne]; exact hz0
                            have H2 := Lib.hid (ru_bad HD.out HH.out hi7.out (fun h => hz0 (HOI.out.1 h)))
                            clear hz0 HOI
                            generalize x / 256 ^ k = q at *
                            go_wp2
                            go_ret2
                            exact ⟨H2.out.symm, hw2⟩
                      · have HOI := Lib.hid (ok_of (N := N) (k := k) HP.out HXI.out (by omega : 0 ≤ x) (by omega))
                        clear hcw hc2
                        by_cases hz0 : x / 256 ^ k = 0
                        · have t4 : (x / 256 ^ k != 0) = false := by rw [hz0]; rfl
                          have HE : Hid (min N (7 * (i + 1)) = P + k) := by have := HP.out; show min N _ = _; omega
                          have HO2 : Hid (∀ t, t < i + 1 → okNum zs N t) := fun t ht => by
                            rcases Nat.lt_or_ge t i with h | h
                            · exact HOK.out t h
                            · rw [show t = i from by omega]; exact HOI.out.2 hz0
                          clear hz0
                          generalize x / 256 ^ k = q at *
                          go_wp2
                          exact ⟨⟨i + 1, by have := HJ.out; congr 1; omega, by have := HJ.out; omega, by rw [HE.out]; exact ⟨hown2, hw2, hsz2⟩, HO2.out⟩, by simp [intOf]; omega⟩
                        · have t4 : (x / 256 ^ k != 0) = true := by rw [bne_iff_ne]; exact hz0
                          have H2 := Lib.hid (ru_bad HD.out HH.out hi7.out (fun h => hz0 (HOI.out.1 h)))
                          clear hz0 HOI
                          generalize x / 256 ^ k = q at *
                          go_wp2
                          go_ret2
                          exact ⟨H2.out.symm, hw2⟩
                · have HE : Hid (min N (7 * i) = N) := by have := hn2.out; show min N _ = _; omega
                  have H2 := Lib.hid (ru_good HD.out HH.out (fun t ht => HOK.out t (by have := hn2.out; omega)))
                  rw [HE.out] at hown
                  have hcv := conv_own hown rfl
                  clear hj
                  go_wp2
                  go_ret2
                  exact ⟨H2.out.symm, hw⟩
            · have t3 : ((n : Int) != (m : Int)) = true := by rw [bne_iff_ne]; omega
              have H2 := Lib.hid (unpF_len (zs := zs) (by rw [HL.out, HD.out, ← HM.out]; exact hnm))
              clear hnm
              go_wp2
              go_ret2
              exact ⟨H2.out.symm, Below.refl _ _⟩
end Go.Proofs.Ytcbehllfljjngaa
