/- The walks of layer 3: numbers as a text, by the program: Unpack. -/
import Derived.Test.YtcbehllfljjngaaSLem
import Derived.Test.YtcbehllfljjngaaSPlainF
namespace Go.Proofs.Ytcbehllfljjngaa
open Go.RowKit
set_option linter.unusedVariables false

/-- What unpacking answers. -/
def hdN (zs : List Int) : Nat := (zs.getD 0 0).toNat
def unpE : Ending := .returned (.tuple #[.string ⟨#[]⟩, .int .i64 1])
def unpF (zs : List Int) : Ending := if hdN zs ≤ 60 ∧ packF (unpB zs (hdN zs)) = zs then .returned (.tuple #[.string ⟨(unpB zs (hdN zs)).toArray⟩, .int .i64 0]) else unpE
theorem unpF_yes {zs : List Int} (h : hdN zs ≤ 60) (hp : packF (unpB zs (hdN zs)) = zs) : unpF zs = .returned (.tuple #[.string ⟨(unpB zs (hdN zs)).toArray⟩, .int .i64 0]) := by
  unfold unpF; rw [if_pos ⟨h, hp⟩]
theorem unpF_no {zs : List Int} (hp : packF (unpB zs (hdN zs)) ≠ zs) : unpF zs = unpE := by
  unfold unpF; rw [if_neg (fun h => hp h.2)]
theorem unpF_far {zs : List Int} (hp : ¬ hdN zs ≤ 60) : unpF zs = unpE := by
  unfold unpF; rw [if_neg (fun h => hp h.1)]
theorem unpF_nil : unpF [] = unpE := unpF_no (by decide)
theorem unpF_neg {zs : List Int} (h : zs.getD 0 0 < 0) : unpF zs = unpE := unpF_no (fun e => by
  rw [← e] at h
  unfold packF at h; rw [List.getD_cons_zero] at h; omega)
theorem unpF_len {zs : List Int} (h : zs.length ≠ (hdN zs + 6) / 7 + 1) : unpF zs = unpE := unpF_no (fun e => h (by have := congrArg List.length e; rw [packF_len, unpB_len] at this; omega))

theorem u8v_byt (x : Int) (k : Nat) : u8v (byt x k) = .int .u8 (x / 2 ^ (8 * k) % 256) := by
  unfold u8v byt
  rw [show (2 : Int) ^ (8 * k) = 256 ^ k from by rw [Int.pow_mul]; rfl]
  generalize x / 256 ^ k = y
  congr 1
  rw [UInt8.toNat_ofNat']
  omega
theorem pack_list (l : List UInt8) (w : World) (h : l.length ≤ 60) :
    Calls Try.prog 53 #[.string ⟨l.toArray⟩] w fun e w' => ∃ A n c, e = .returned (.tuple #[.slice A n c, .int .i64 0]) ∧ n ≤ 1000 ∧ Ints w' w'.heap.size A n (packF l) ∧ Below w.heap.size w w' := by
  have hs : (⟨l.toArray⟩ : ByteArray).size = l.length := by show l.toArray.size = _; rw [List.size_toArray]
  refine (pack_in ⟨l.toArray⟩ w (by rw [hs]; exact h)).mono ?_
  rintro e w' ⟨v, rfl, hown, hw⟩
  obtain ⟨A, c, rfl, hI⟩ := Ints.of_own hown
  rw [hs] at hI
  rw [hs]
  exact ⟨A, _, c, rfl, by omega, hI, hw⟩
def UPRel (w : World) (zs : List Int) (v i : Value) (wr : World) : Prop :=
  ∃ k : Nat, k ≤ hdN zs ∧ i = .int .i64 (k : Int) ∧ wr.ownsRow w.heap.size 5 1 v k ((unpB zs k).map u8v) ∧ Below w.heap.size w wr ∧ w.heap.size ≤ wr.heap.size
theorem up_next {w wr : World} {zs : List Int} {v : Value} {k : Nat} {x : Int} (hk : k < hdN zs) (hx : unpB zs (k + 1) = unpB zs k ++ [byt x (k % 7)])
    (ho : wr.ownsRow w.heap.size 5 1 v (k + 1) ((unpB zs k).map u8v ++ [.int .u8 (x / 2 ^ (8 * (k % 7)) % 256)])) (hb : Below w.heap.size w wr) (hs : w.heap.size ≤ wr.heap.size) :
    UPRel w zs v (.int .i64 ((k : Int) + 1)) wr :=
  ⟨k + 1, by omega, rfl, by rw [hx, List.map_append, List.map_cons, List.map_nil, u8v_byt]; exact ho, hb, hs⟩

set_option maxRecDepth 100000 in
set_option maxHeartbeats 4000000 in
theorem unpack_any (w : World) (B : Nat) (A : Option Addr) (n c : Nat) (zs : List Int) (hz : Ints w B A n zs) (hB : B ≤ w.heap.size) (hn : n ≤ 1000) :
    Calls Try.prog 56 #[.slice A n c] w fun e w' => e = unpF zs ∧ Below w.heap.size w w' := by
  have hl := hz.1
  by_cases h0 : n = 0
  · subst h0
    have hz0 : zs = [] := List.eq_nil_of_length_eq_zero hl
    subst hz0
    clear hz
    go_enter Try.func56, Try.ntmps56
    go_wp2
    go_ret2
    exact ⟨unpF_nil.symm, Below.refl _ _⟩
  · obtain ⟨b, off, e1, hb1, hc1⟩ := hz.at_ (k := 0) (by omega)
    subst e1
    rw [Nat.add_zero] at hc1
    have hp0 : 0 < n := by omega
    have t0 : ((n : Int) == 0) = false := by rw [beq_eq_false_iff_ne]; omega
    have HZ := Lib.hid hz
    clear hz
    generalize hX : zs.getD 0 0 = X at *
    by_cases hneg : X < 0
    · have H2 := Lib.hid (unpF_neg (zs := zs) (by omega))
      clear HZ hX h0 hl
      go_enter Try.func56, Try.ntmps56
      go_wp2
      go_ret2
      exact ⟨H2.out.symm, Below.refl _ _⟩
    · by_cases h60 : 60 < X
      · have H2 := Lib.hid (unpF_far (zs := zs) (by unfold hdN; omega))
        clear HZ hX h0 hl
        go_enter Try.func56, Try.ntmps56
        go_wp2
        go_ret2
        exact ⟨H2.out.symm, Below.refl _ _⟩
      · obtain ⟨N, hN⟩ := Int.eq_ofNat_of_zero_le (a := X) (by omega)
        subst hN
        have hd : hdN zs = N := by unfold hdN; omega
        have HD := Lib.hid hd
        clear hX hd
        by_cases hlen : n = (N + 6) / 7 + 1
        · have t3 : (((N : Int) + 7 - 1) / 7 != (n : Int) - 1) = false := by
            have : ((N : Int) + 7 - 1) / 7 = (n : Int) - 1 := by omega
            rw [this]; simp
          have HLEN := Lib.hid hlen
          clear hlen
          go_enter Try.func56, Try.ntmps56
          go_wp2
          go_loopw [4, 5, 38] (fun v _ i wr => UPRel w zs v i wr) (fun _ _ i _ => hdN zs - (intOf i).toNat)
          case atStart => exact ⟨0, by omega, rfl, ⟨rfl, .inl ⟨rfl, rfl⟩⟩, Below.refl _ _, Nat.le_refl _⟩
          case round =>
            obtain ⟨k, hk, rfl, hown, hw, hsz⟩ := hrel
            rw [HD.out] at hk
            by_cases hlt : k < N
            · have hkn : 1 + k / 7 < n := by have := HLEN.out; omega
              obtain ⟨b', off', eb, _, hc2⟩ := ((HZ.out.more hB).below hw).at_ hkn
              cases eb
              have HS := Lib.hid (unpB_succ zs k)
              have HK := Lib.hid hlt
              generalize zs.getD (1 + k / 7) 0 = x at *
              go_wp2_with (at_builtin; go_must (refine app_u8 rfl _ _ rfl rfl hown hw hsz rfl rfl (by intro u hu; simp at hu; subst hu; rfl) (by omega) ?_); intro v' w' hown' hw' hsz')
              exact ⟨up_next (by rw [HD.out]; exact HK.out) HS.out hown' hw' hsz', by simp [intOf]; have := HD.out; omega⟩
            · have e : k = N := by omega
              subst e
              have hcv := conv_own hown rfl
              have hN60 : (unpB zs k).length ≤ 60 := by rw [unpB_len]; omega
              have HZ2 := Lib.hid ((HZ.out.more hB).below hw)
              have hdk := HD.out
              have Hd := Lib.hid hdk
              clear hdk
              rcases hq : (packF (unpB zs k) == zs) with _ | _
              · have H2 : Hid (unpF zs = unpE) := unpF_no (by rw [Hd.out]; exact beq_eq_false_iff_ne.mp hq)
                go_wp2_with (first
                  | (go_at_call 53; refine (pack_list _ _ hN60).mono ?_; rintro e w' ⟨A2, n2, c2, rfl, hn2, hI, hw2⟩; have hJ := (HZ2.out.more hsz).below hw2 |>.more hw2.size)
                  | (go_at_call 74; refine (equal_any _ _ _ _ _ _ _ _ _ _ hI hJ (by omega) (by omega)).mono ?_; rintro e w'' ⟨rfl, hw3⟩; rw [hq]))
                go_ret2
                exact ⟨H2.out.symm, (hw.trans (hw2.mono hsz)).trans (hw3.mono (by have := hw2.size; omega))⟩
              · have H2 : Hid (unpF zs = .returned (.tuple #[.string ⟨(unpB zs k).toArray⟩, .int .i64 0])) := by
                  have := unpF_yes (zs := zs) (by rw [Hd.out]; omega) (by rw [Hd.out]; exact beq_iff_eq.mp hq)
                  rw [Hd.out] at this; exact this
                go_wp2_with (first
                  | (go_at_call 53; refine (pack_list _ _ hN60).mono ?_; rintro e w' ⟨A2, n2, c2, rfl, hn2, hI, hw2⟩; have hJ := (HZ2.out.more hsz).below hw2 |>.more hw2.size)
                  | (go_at_call 74; refine (equal_any _ _ _ _ _ _ _ _ _ _ hI hJ (by omega) (by omega)).mono ?_; rintro e w'' ⟨rfl, hw3⟩; rw [hq]; have hcv2 := conv_own (own_keep hown (hw2.trans (hw3.mono hw2.size)) hsz) rfl))
                go_ret2
                exact ⟨H2.out.symm, (hw.trans (hw2.mono hsz)).trans (hw3.mono (by have := hw2.size; omega))⟩
        · have t3 : (((N : Int) + 7 - 1) / 7 != (n : Int) - 1) = true := by
            rw [bne_iff_ne]; omega
          have H2 := Lib.hid (unpF_len (zs := zs) (by rw [HD.out]; omega))
          clear hlen HZ HD h0 hl
          go_enter Try.func56, Try.ntmps56
          go_wp2
          go_ret2
          exact ⟨H2.out.symm, Below.refl _ _⟩
end Go.Proofs.Ytcbehllfljjngaa
