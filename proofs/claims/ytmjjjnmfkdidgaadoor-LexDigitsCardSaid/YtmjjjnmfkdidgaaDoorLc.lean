/- The law LexDigits: its walk. -/
import Derived.Test.YtmjjjnmfkdidgaaDoorLb
import Derived.Test.YtmjjjnmfkdidgaaDoorWalkN
namespace Go.Proofs.YtmjjjnmfkdidgaaDoor
open Go.RowKit
set_option linter.unusedVariables false
attribute [local go_sem ↓] Go.wp_at_zero Go.wp_at_succ

theorem dg_all : ∀ (f m : Nat) (c : UInt8), c ∈ I.dg f m → digB c = true
  | 0, m, c, h => by simp [I.dg] at h
  | f + 1, m, c, h => by
    rw [I.dg] at h
    split at h
    · rename_i h1
      simp only [List.mem_singleton] at h
      subst h
      simp only [digB, UInt8.toNat_ofNat', Bool.and_eq_true, decide_eq_true_eq]
      omega
    · rw [List.mem_append] at h
      rcases h with h | h
      · exact dg_all f _ c h
      · simp only [List.mem_singleton] at h
        subst h
        simp only [digB, UInt8.toNat_ofNat', Bool.and_eq_true, decide_eq_true_eq]
        omega
theorem dg_val : ∀ (f m : Nat), m < 10 ^ f → valT (I.dg f m) = m
  | 0, m, h => by simp at h; subst h; rfl
  | f + 1, m, h => by
    rw [I.dg]
    split
    · rename_i h1
      simp only [valT, List.foldl_cons, List.foldl_nil, UInt8.toNat_ofNat']; omega
    · rw [valT_snoc, dg_val f (m / 10) (by rw [Nat.pow_succ] at h; omega), UInt8.toNat_ofNat']
      omega
theorem dg_len : ∀ (f m : Nat), (I.dg f m).length ≤ f
  | 0, m => by simp [I.dg]
  | f + 1, m => by
    rw [I.dg]
    split
    · simp
    · have := dg_len f (m / 10)
      simp; omega
theorem dg_pos (f m : Nat) : 0 < (I.dg (f + 1) m).length := by
  rw [I.dg]
  split <;> simp
theorem val_noughts (k : Nat) : ∀ l : List UInt8, valT (List.replicate k 48 ++ l) = valT l := by
  induction k with
  | zero => intro l; rfl
  | succ k ih => intro l; rw [List.replicate_succ, List.cons_append]; exact ih l
theorem val_zeros (l : List UInt8) (k : Nat) : valT (l ++ List.replicate k 48) = valT l * 10 ^ k := by
  induction k with
  | zero => simp
  | succ k ih => rw [List.replicate_succ', ← List.append_assoc, valT_snoc, ih, Nat.pow_succ]; show 10 * (valT l * 10 ^ k) + 0 = valT l * (10 ^ k * 10); rw [Nat.add_zero, Nat.mul_comm 10, Nat.mul_assoc]
theorem tw_all {P : UInt8 → Bool} : ∀ {l : List UInt8}, (∀ c ∈ l, P c = true) → l.takeWhile P = l
  | [], _ => rfl
  | c :: l, h => by rw [List.takeWhile_cons, if_pos (h c (by simp)), tw_all (fun d hd => h d (by simp [hd]))]
/-- Digits alone. -/
theorem digits_ok (l : List UInt8) (hne : l ≠ []) (hd : ∀ c ∈ l, digB c = true) (hl : l.length ≤ 2000) (hv : valT l ≤ 4611686018427387903) : tokensF l = ([⟨1, [], valT l, 0⟩, ⟨0, [], 0, l.length⟩], 0, 0) := by
  rcases l with _ | ⟨c, r⟩
  · exact absurd rfl hne
  · have hc := hd c (by simp)
    have hg : gapL (c :: r) = 0 := gapL_other _ _ (by rintro (h | h | h) <;> (subst h; exact absurd hc (by decide))) (by intro h; subst h; exact absurd hc (by decide))
    have ht : tokF ((c :: r).drop (gapL (c :: r))) = ⟨1, [], valT (c :: r), (c :: r).length, 0⟩ := by
      rw [hg, List.drop_zero, tok_num c r hc, tw_all hd, if_neg (by omega)]
    have h := Toks.one (c :: r) 0 [⟨0, [], 0, (c :: r).length⟩] 1 [] (valT (c :: r)) (c :: r).length ht (by decide) (by
      rw [hg, Nat.zero_add, List.drop_length]
      exact .fin [] _ rfl)
    rw [hg] at h
    exact tokensF_of h hl
theorem digits_no (l : List UInt8) (hne : l ≠ []) (hd : ∀ c ∈ l, digB c = true) (hl : l.length ≤ 2000) (hv : 4611686018427387903 < valT l) : tokensF l = ([], 0, 13) := by
  rcases l with _ | ⟨c, r⟩
  · exact absurd rfl hne
  · have hc := hd c (by simp)
    have hg : gapL (c :: r) = 0 := gapL_other _ _ (by rintro (h | h | h) <;> (subst h; exact absurd hc (by decide))) (by intro h; subst h; exact absurd hc (by decide))
    have ht : tokF ((c :: r).drop (gapL (c :: r))) = ⟨0, [], 0, 0, 13⟩ := by
      rw [hg, List.drop_zero, tok_num c r hc, tw_all hd, if_pos hv]
    unfold tokensF
    rw [if_neg (by omega), toks_err _ _ _ _ (by rw [ht]; decide), ht, hg]
theorem digits_q (l : List UInt8) (hl : l.length ≤ 1000) : ShortQ l := shortQ l hl
/-- The digits with noughts ahead. -/
def nouL (k N : Nat) : List UInt8 := List.replicate k 48 ++ I.dg 20 N
theorem nouL_all (k N : Nat) : ∀ c ∈ nouL k N, digB c = true := fun c h => by
  unfold nouL at h
  rw [List.mem_append] at h
  rcases h with h | h
  · rw [List.mem_replicate] at h; rw [h.2]; rfl
  · exact dg_all _ _ c h
theorem nouL_len (k N : Nat) : (nouL k N).length ≤ k + 20 ∧ 0 < (nouL k N).length := by
  unfold nouL
  rw [List.length_append, List.length_replicate]
  have := dg_len 20 N
  have h2 : 0 < (I.dg 20 N).length := dg_pos 19 N
  omega
theorem nouL_val (k N : Nat) (h : N ≤ 4611686018427387903) : valT (nouL k N) = N := by
  unfold nouL; rw [val_noughts, dg_val 20 N (by omega)]
theorem nou_str (k N : Nat) : (⟨#[48]⟩ : ByteArray) ++ ⟨(nouL k N).toArray⟩ = ⟨(nouL (k + 1) N).toArray⟩ := by
  refine ba_ext ?_
  unfold nouL
  simp [List.replicate_succ]
theorem nou_str2 (k N : Nat) : (⟨(nouL k N).toArray⟩ : ByteArray) ++ ⟨#[48, 48, 48, 48, 48, 48, 48, 48, 48, 48, 48, 48, 48, 48, 48, 48, 48, 48, 48]⟩ = ⟨(nouL k N ++ List.replicate 19 48).toArray⟩ := by
  refine ba_ext ?_
  simp [List.replicate_succ]
theorem nou_ok (k N : Nat) (hk : k ≤ 30) (h : N ≤ 4611686018427387903) : tokensF (nouL k N) = ([⟨1, [], N, 0⟩, ⟨0, [], 0, (nouL k N).length⟩], 0, 0) := by
  have hl := nouL_len k N
  have := digits_ok (nouL k N) (List.ne_nil_of_length_pos hl.2) (nouL_all k N) (by omega) (by rw [nouL_val k N h]; exact h)
  rw [nouL_val k N h] at this
  exact this
theorem nou_no (k N : Nat) (hk : k ≤ 30) (h : N ≤ 4611686018427387903) (h0 : N ≠ 0) : tokensF (nouL k N ++ List.replicate 19 48) = ([], 0, 13) := by
  have hl := nouL_len k N
  refine digits_no _ (List.ne_nil_of_length_pos (by rw [List.length_append]; omega)) (fun c hc => ?_) (by rw [List.length_append, List.length_replicate]; omega) ?_
  · rw [List.mem_append] at hc
    rcases hc with hc | hc
    · exact nouL_all k N c hc
    · rw [List.mem_replicate] at hc; rw [hc.2]; rfl
  · rw [val_zeros, nouL_val k N h]; omega
theorem nou_zero (k : Nat) (hk : k ≤ 30) : tokensF (nouL k 0 ++ List.replicate 19 48) = ([⟨1, [], 0, 0⟩, ⟨0, [], 0, (nouL k 0 ++ List.replicate 19 48).length⟩], 0, 0) := by
  have hl := nouL_len k 0
  have hv : valT (nouL k 0 ++ List.replicate 19 48) = 0 := by rw [val_zeros, nouL_val k 0 (by decide)]
  have := digits_ok (nouL k 0 ++ List.replicate 19 48) (List.ne_nil_of_length_pos (by rw [List.length_append]; omega)) (fun c hc => by
    rw [List.mem_append] at hc
    rcases hc with hc | hc
    · exact nouL_all k 0 c hc
    · rw [List.mem_replicate] at hc; rw [hc.2]; rfl) (by rw [List.length_append, List.length_replicate]; omega) (by rw [hv]; decide)
  rw [hv] at this
  exact this
set_option maxRecDepth 100000 in
set_option maxHeartbeats 4000000 in
theorem lexDigits_walk (n o : Int) (w : World) (m : Int) (hm : w.cell? ⟨0, 0, none⟩ = some (.int .i64 m)) (hn : (Lit.int .i64 n).wf = true) (ho : (Lit.int .i64 o).wf = true) : Calls Tryd.prog 9 #[.int .i64 n, .int .i64 o] w fun e w' => e = .returned (.bool true) ∧ Below w.heap.size w w' := by
  have HM : Hid (w.cell? ⟨0, 0, none⟩ = some (.int .i64 m)) := hm
  have HP := Lib.hid (heap_pos hm)
  obtain ⟨n0, n1⟩ := wf_i64 hn
  obtain ⟨o0, o1⟩ := wf_i64 ho
  clear hm hn ho
  obtain ⟨v, hv⟩ : ∃ v, v = if n < 0 then -(n + 1) else n := ⟨_, rfl⟩
  have hv0 : 0 ≤ v ∧ v ≤ 9223372036854775807 := by rw [hv]; split <;> omega
  obtain ⟨hv0, hv1⟩ := hv0
  obtain ⟨u, hu⟩ : ∃ u, u = if o < 0 then -(o + 1) else o := ⟨_, rfl⟩
  have hu0 : 0 ≤ u ∧ u ≤ 9223372036854775807 := by rw [hu]; split <;> omega
  obtain ⟨hu0, hu1⟩ := hu0
  obtain ⟨N, hN⟩ : ∃ N : Nat, (N : Int) = v % 4611686018427387904 := ⟨(v % 4611686018427387904).toNat, by omega⟩
  have hNb : N ≤ 4611686018427387903 := by omega
  have r1 : v.tmod 4611686018427387904 = (N : Int) := by rw [Int.tmod_eq_emod_of_nonneg hv0]; exact hN.symm
  have r2 : v % 4611686018427387904 = (N : Int) := hN.symm
  obtain ⟨K, hK⟩ : ∃ K : Nat, (K : Int) = u % 30 := ⟨(u % 30).toNat, by omega⟩
  have hKb : K < 30 := by omega
  have r3 : u.tmod 30 = (K : Int) := by rw [Int.tmod_eq_emod_of_nonneg hu0]; exact hK.symm
  have r4 : u % 30 = (K : Int) := hK.symm
  clear hN hK
  have hsh : I.shw (I.cw (N : Int)) = nouL 0 N := by
    rw [I.cw_id _ (by omega) (by omega)]
    unfold I.shw
    rw [if_neg (by omega)]; rfl
  have CS : Hid (∀ wx : World, Calls Tryd.prog 17 #[.int .i64 (N : Int)] wx fun e w' => e = .returned (.string ⟨(nouL 0 N).toArray⟩) ∧ Below wx.heap.size wx w') := fun wx => by
    have := I.rshow_any (N : Int) wx (by omega) (by omega)
    rw [hsh] at this
    exact this
  clear hsh
  have HNb := Lib.hid hNb
  by_cases h : n < 0
  all_goals
    first
    | (have d0 : decide (n < 0) = true := decide_eq_true h
       rw [if_pos h] at hv)
    | (have d0 : decide (n < 0) = false := decide_eq_false h
       rw [if_neg h] at hv)
    subst hv
    by_cases h2 : o < 0
    all_goals
      first
      | (have d3 : decide (o < 0) = true := decide_eq_true h2
         rw [if_pos h2] at hu)
      | (have d3 : decide (o < 0) = false := decide_eq_false h2
         rw [if_neg h2] at hu)
      subst hu
      go_enter Tryd.func9, Tryd.ntmps9
      go_wp2_with fail
      refine (CS.out w).mono ?_
      rintro e w1 ⟨rfl, b1⟩
      have B1 := Lib.hid b1
      have M1 := Lib.hid ((b1.cell (p := ⟨0, 0, none⟩) HP.out).trans HM.out)
      clear b1 CS
      go_wp2_with fail
      go_loopg [5, 6] K (fun gk ss ks wr => ∃ k : Nat, ks = .int .i64 (k : Int) ∧ k + gk = K ∧ ∃ S : ByteArray, ss = .string S ∧ S = ⟨(nouL k N).toArray⟩ ∧ w1 = wr)
      case atStart => exact ⟨0, rfl, by omega, _, rfl, rfl, rfl⟩
      case round =>
        obtain ⟨k, rfl, hkg, S, rfl, hS, rfl⟩ := hrel
        have hl := nouL_len k N
        have hss : S.size = (nouL k N).length := by rw [hS]; show (nouL k N).toArray.size = _; rw [List.size_toArray]
        have hss2 : (S.size : Int) ≤ 50 := by omega
        have HSE := Lib.hid hS
        have HL := Lib.hid hl
        clear hS hl hss
        by_cases hlt : k < K
        · have d1 : decide ((k : Int) < (K : Int)) = true := decide_eq_true (by omega)
          have d1n : decide (k < K) = true := decide_eq_true hlt
          go_wp2_with fail
          go_roundg (gk - 1)
          case measure => omega
          case rel => exact ⟨k + 1, rfl, by omega, _, rfl, by rw [HSE.out, nou_str], rfl⟩
        · have d1 : decide ((k : Int) < (K : Int)) = false := decide_eq_false (by omega)
          have d1n : decide (k < K) = false := decide_eq_false hlt
          obtain rfl : k = K := by omega
          have hl := HL.out
          have HT := Lib.hid (nou_ok k N (by omega) HNb.out)
          have HS2 := Lib.hid (nou_str2 k N)
          have hsz : (⟨(nouL k N).toArray⟩ : ByteArray).size ≤ 10000 := by show (nouL k N).toArray.size ≤ _; rw [List.size_toArray]; omega
          have hsz2 : (⟨(nouL k N ++ List.replicate 19 48).toArray⟩ : ByteArray).size ≤ 10000 := by show (nouL k N ++ List.replicate 19 48).toArray.size ≤ _; rw [List.size_toArray, List.length_append, List.length_replicate]; omega
          have HQ : Hid (ShortQ (nouL k N)) := shortQ _ (by omega)
          have HQ2 : Hid (ShortQ (nouL k N ++ List.replicate 19 48)) := shortQ _ (by rw [List.length_append, List.length_replicate]; omega)
          clear hl
          have CT : Hid (∀ wx : World, wx.cell? ⟨0, 0, none⟩ = some (.int .i64 m) → Calls Tryd.prog 11 #[.string S] wx fun e w' => ∃ A c, e = .returned (.tuple #[.slice A 2 c, .int .i64 0, .int .i64 0]) ∧ TokRow w' A [⟨1, [], N, 0⟩, ⟨0, [], 0, (nouL k N).length⟩] ∧ Below wx.heap.size wx w' ∧ w'.cell? ⟨0, 0, none⟩ = some (.int .i64 m)) := fun wx hmx => by
            rw [HSE.out]
            refine (toks_any wx _ m _ _ _ HT.out hsz hmx HQ.out).mono ?_
            rintro e w' ⟨A, c, rfl, h3, _, b, m'⟩
            exact ⟨A, c, rfl, h3, b, m'⟩
          go_wp2_with fail
          refine (CT.out w1 M1.out).mono ?_
          rintro e w2 ⟨A, c, rfl, h3, b2, m2⟩
          obtain ⟨g, rfl, x0, x1, x2, x3⟩ := h3.at_ (k := 0) rfl
          have H2 := Lib.hid h3
          have B2 := Lib.hid (B1.out.trans (b2.mono B1.out.size))
          have M2 := Lib.hid m2
          clear h3 b2 m2 x0 x1 x2 x3 HT HQ hsz CT
          by_cases hz : N = 0
          · subst hz
            have HT := Lib.hid (nou_zero k (by omega))
            have HR : Hid (∀ wx : World, wx.cell? ⟨0, 0, none⟩ = some (.int .i64 m) → Calls Tryd.prog 11 #[.string (S ++ ⟨#[48, 48, 48, 48, 48, 48, 48, 48, 48, 48, 48, 48, 48, 48, 48, 48, 48, 48, 48]⟩)] wx fun e w' => ∃ A c n2 p, e = .returned (.tuple #[.slice A n2 c, .int .i64 (p : Int), .int .i64 0]) ∧ Below wx.heap.size wx w' ∧ w'.cell? ⟨0, 0, none⟩ = some (.int .i64 m)) := fun wx hmx => by
              rw [HSE.out, HS2.out]
              refine (toks_any wx _ m _ _ _ HT.out hsz2 hmx HQ2.out).mono ?_
              rintro e w' ⟨A, c, rfl, _, _, b, m'⟩
              exact ⟨A, c, _, _, rfl, b, m'⟩
            clear HT HS2 HQ2 hsz2
            go_wp2_with fail
            refine (HR.out w2 M2.out).mono ?_
            rintro e w3 ⟨A3, c3, n3, p3, rfl, b3, m3⟩
            have H3 := Lib.hid (H2.out.below b3)
            obtain ⟨g', e', x0, _, x2, _⟩ := H3.out.at_ (k := 0) rfl
            simp only [Option.some.injEq, Addr.mk.injEq] at e'
            obtain ⟨rfl, _⟩ := e'
            have B3 := Lib.hid (B2.out.trans (b3.mono B2.out.size))
            have M3 := Lib.hid m3
            clear b3 m3 H2 B2 M2 HR
            go_wp2_with fail
            refine (lives_any w3 m M3.out).mono ?_
            rintro e w4 ⟨rfl, b4⟩
            go_wp2_with fail
            go_ret
            exact ⟨rfl, B3.out.trans (b4.mono B3.out.size)⟩
          · have HT := Lib.hid (nou_no k N (by omega) HNb.out hz)
            have q1 : ((N : Int) != 0) = true := bne_iff_ne.2 (by omega)
            have HR : Hid (∀ wx : World, wx.cell? ⟨0, 0, none⟩ = some (.int .i64 m) → Calls Tryd.prog 11 #[.string (S ++ ⟨#[48, 48, 48, 48, 48, 48, 48, 48, 48, 48, 48, 48, 48, 48, 48, 48, 48, 48, 48]⟩)] wx fun e w' => ∃ A c, e = .returned (.tuple #[.slice A 0 c, .int .i64 0, .int .i64 13]) ∧ Below wx.heap.size wx w' ∧ w'.cell? ⟨0, 0, none⟩ = some (.int .i64 m)) := fun wx hmx => by
              rw [HSE.out, HS2.out]
              refine (toks_any wx _ m _ _ _ HT.out hsz2 hmx HQ2.out).mono ?_
              rintro e w' ⟨A, c, rfl, _, _, b, m'⟩
              exact ⟨A, c, rfl, b, m'⟩
            clear HT HS2 HQ2 hsz2 hz
            go_wp2_with fail
            refine (HR.out w2 M2.out).mono ?_
            rintro e w3 ⟨A3, c3, rfl, b3, m3⟩
            have H3 := Lib.hid (H2.out.below b3)
            obtain ⟨g', e', x0, _, x2, _⟩ := H3.out.at_ (k := 0) rfl
            simp only [Option.some.injEq, Addr.mk.injEq] at e'
            obtain ⟨rfl, _⟩ := e'
            have B3 := Lib.hid (B2.out.trans (b3.mono B2.out.size))
            have M3 := Lib.hid m3
            clear b3 m3 H2 B2 M2 HR
            go_wp2_with fail
            refine (lives_any w3 m M3.out).mono ?_
            rintro e w4 ⟨rfl, b4⟩
            go_wp2_with fail
            go_ret
            exact ⟨rfl, B3.out.trans (b4.mono B3.out.size)⟩
end Go.Proofs.YtmjjjnmfkdidgaaDoor
