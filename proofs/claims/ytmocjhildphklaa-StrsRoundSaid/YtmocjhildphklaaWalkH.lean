/- The walks of layer 3: what stands behind a backslash, read. -/
import Derived.Test.YtmocjhildphklaaWalkG
import Derived.Test.YtmocjhildphklaaPlainC
import Derived.Deep.RegionWith
namespace Go.Proofs.Ytmocjhildphklaa
open Go.RowKit Go.Maps
set_option linter.unusedVariables false

theorem quiet_l {P : Program} {f : FuncId} {args : Array Value} {w : World} {n : Nat} {v : Value}
    (h : Calls P f args (w.drewN n) fun e w' => e = .returned v ∧ w.drewN n = w') : Calls P f args (w.drewN n) fun e w'' => e = .returned v ∧ ∃ m, w'' = w.drewN m :=
  h.mono fun _ _ ⟨he, hm⟩ => ⟨he, n, hm.symm⟩
theorem quiet_ll {P : Program} {f : FuncId} {args : Array Value} {w : World} {a n : Nat} {v : Value}
    (h : Calls P f args (w.drewN (a + n)) fun e w' => e = .returned v ∧ w.drewN (a + n) = w') : Calls P f args (w.drewN (a + n)) fun e w'' => e = .returned v ∧ ∃ m, w'' = w.drewN (a + m) :=
  h.mono fun _ _ ⟨he, hm⟩ => ⟨he, n, hm.symm⟩
theorem idx_end {c : UInt8} (h : ∀ j, j < 16 → hexL.getD j 0 ≠ c) : idxH c = -1 := by
  unfold idxH
  cases hv : hexV c with
  | none => rfl
  | some p => exact absurd ((hexV_get c p (hexV_lt hv)).2 hv) (h p (hexV_lt hv))
theorem idx_hit {c : UInt8} {k : Nat} (hk : k < 16) (h : hexL.getD k 0 = c) : idxH c = k := by
  unfold idxH; rw [(hexV_get c k hk).1 h]
set_option maxHeartbeats 400000 in
theorem idx_any (B : Nat) (c : UInt8) (w : World) (hB : Whole w B 38 hexA) :
    Calls Try.prog 31 #[.slice (some ⟨B, 0, none⟩) 16 16, .int .u8 (c.toNat : Int)] w fun e w' => e = .returned (.int .i64 (idxH c)) ∧ w = w' := by
  go_enter Try.func31, Try.ntmps31
  go_wp2
  go_loop [8] (fun i => ∃ k : Nat, k ≤ 16 ∧ i = .int .i64 k ∧ ∀ j, j < k → hexL.getD j 0 ≠ c) (fun i => 16 - (intOf i).toNat)
  case atStart => exact ⟨0, by omega, rfl, by intro j hj; omega⟩
  case round =>
    obtain ⟨k, hk, rfl, ha⟩ := hrel
    have HA := Lib.hid ha; clear ha
    by_cases hlt : k < 16
    · have hc := (hB.cell k).trans (hexA_get k hlt)
      unfold u8v at hc
      by_cases he : hexL.getD k 0 = c
      · have HF := Lib.hid (idx_hit hlt he)
        rw [he] at hc
        clear he
        go_wp2
        go_ret
        exact ⟨ret_i HF.out.symm, rfl⟩
      · have ht : ((c.toNat : Int) == ((hexL.getD k 0).toNat : Int)) = false := by
          rw [beq_eq_false_iff_ne]; intro hh
          exact he (UInt8.toNat.inj (by omega))
        have HN : Hid (∀ j, j < k + 1 → hexL.getD j 0 ≠ c) := by
          intro j hj
          by_cases hjk : j = k
          · subst hjk; exact he
          · exact HA.out j (by omega)
        generalize hexL.getD k 0 = x at *
        clear he
        go_wp2
        go_round
        case rel => exact ⟨k + 1, by omega, by go_num, HN.out⟩
        case measure => simp [intOf]; omega
    · have e : k = 16 := by omega
      subst e
      have HF := Lib.hid (idx_end HA.out)
      go_wp2
      go_ret
      exact ⟨ret_i HF.out.symm, rfl⟩
/-- What the map of signs says of a byte. -/
def sgnX (c : UInt8) : Int := if c = 110 then 10 else if c = 34 then 34 else if c = 92 then 92 else 0
def sgnB (c : UInt8) : Bool := c == 110 || c == 34 || c == 92
theorem sgn_look (c : UInt8) : signD.atKey (.int .u8 (c.toNat : Int)) (.lit (.int .u8 0)) = .lit (.int .u8 (sgnX c)) ∧ Maps.has signD (.int .u8 (c.toNat : Int)) = sgnB c := by
  by_cases h1 : c = 110
  · subst h1; exact sign_n
  · by_cases h2 : c = 34
    · subst h2; exact sign_q
    · by_cases h3 : c = 92
      · subst h3; exact sign_b
      · have n1 : (c.toNat : Int) ≠ 34 := fun h => h2 (UInt8.toNat.inj (by rw [show (34 : UInt8).toNat = 34 from rfl]; omega))
        have n2 : (c.toNat : Int) ≠ 92 := fun h => h3 (UInt8.toNat.inj (by rw [show (92 : UInt8).toNat = 92 from rfl]; omega))
        have n3 : (c.toNat : Int) ≠ 110 := fun h => h1 (UInt8.toNat.inj (by rw [show (110 : UInt8).toNat = 110 from rfl]; omega))
        obtain ⟨a, b⟩ := sign_no c.toNat n1 n2 n3
        rw [a, b]
        simp [sgnX, sgnB, h1, h2, h3]
theorem signs_any (c : UInt8) (w : World) :
    Calls Try.prog 30 #[] w fun e w' => e = .returned (.map (some w.heap.size)) ∧ (Instr.lookup 47 (.map (some w.heap.size)) (.int .u8 (c.toNat : Int)) true).run Try.prog w' = .ok (.tuple #[.int .u8 (sgnX c), .bool (sgnB c)]) w' ∧ Below w.heap.size w w' :=
  (signs_own w).mono fun _ _ ⟨he, ho, hb⟩ => ⟨he, sign_look ho _ (by have := c.toNat_lt; simp [Lit.wf, IntKind.min, IntKind.max, IntKind.bits, IntKind.signed]; omega) _ _ (sgn_look c).1 (sgn_look c).2, hb⟩

theorem slice_sixteen (B : Nat) (W : World) : (Instr.sliceAt 38 (.pointer (some ⟨B, 0, none⟩)) none none none).run Try.prog W = .ok (.slice (some ⟨B, 0, none⟩) 16 16) W := by
  have hl : Try.prog.arrayLen 38 = 16 := by kernel_rfl
  have he : Try.prog.elem 38 = 5 := by kernel_rfl
  rw [run_sliceAt_array_all W 38 ⟨B, 0, none⟩ (by rw [hl, he]; exact Try.underlying38), hl, he]
  have e : (sizeOf 5).run Try.prog W = .ok 1 W := by kernel_rfl
  rw [e]; rfl
def EscPost (l : List UInt8) (w : World) (e : Ending) (w' : World) : Prop :=
  e = .returned (.tuple #[.int .u8 ((escF l).1.toNat : Int), .int .i64 ((escF l).2.1 : Int), .int .i64 (escF l).2.2]) ∧ Below w.heap.size w w'
theorem esc_post {l : List UInt8} {w w' : World} {c : Int} {n : Int} {e : Int} {x : UInt8} {m : Nat} (h : escF l = (x, m, e)) (hc : c = (x.toNat : Int)) (hn : n = (m : Int)) (hb : Below w.heap.size w w') :
    EscPost l w (.returned (.tuple #[.int .u8 c, .int .i64 n, .int .i64 e])) w' := by
  unfold EscPost; rw [h, hc, hn]; exact ⟨rfl, hb⟩
theorem drop_more (s : ByteArray) (k : Nat) (h : k < s.size) : s.data.toList.drop k = s[k] :: s.data.toList.drop (k + 1) := by
  rw [List.drop_eq_getElem_cons (by rw [size_data]; exact h)]; rfl
theorem data_cons (s : ByteArray) (h : 0 < s.size) : s.data.toList = s[0] :: s.data.toList.drop 1 := drop_more s 0 h
theorem esc_some {s : ByteArray} (h : 0 < s.size) (hb : sgnB s[0] = true) : ∃ x : UInt8, escF s.data.toList = (x, 1, 0) ∧ sgnX s[0] = (x.toNat : Int) := by
  rw [data_cons s h]
  unfold sgnB at hb
  simp only [Bool.or_eq_true, beq_iff_eq] at hb
  rcases hb with (hb | hb) | hb <;> rw [hb]
  · exact ⟨10, by simp [escF], by decide⟩
  · exact ⟨34, by simp [escF], by decide⟩
  · exact ⟨92, by simp [escF], by decide⟩
theorem esc_none {s : ByteArray} (h : 0 < s.size) (hb : sgnB s[0] = false) : escF s.data.toList = if s[0] = 120 then escX (s.data.toList.drop 1) else (0, 0, 10) := by
  rw [data_cons s h]
  unfold sgnB at hb
  simp only [Bool.or_eq_false_iff, beq_eq_false_iff_ne] at hb
  rw [escF, if_neg hb.1.1, if_neg hb.1.2, if_neg hb.2]
  simp
theorem drop_end (s : ByteArray) (k : Nat) (h : ¬ k < s.size) : s.data.toList.drop k = [] := List.drop_eq_nil_of_le (by rw [size_data]; omega)
theorem escX_0 {s : ByteArray} (h : ¬ 1 < s.size) : escX (s.data.toList.drop 1) = (0, 0, 11) := by rw [drop_end s 1 h]; rfl
theorem escX_1 {s : ByteArray} (h : 1 < s.size) (hv : hexV s[1] = none) : escX (s.data.toList.drop 1) = (0, 0, 10) := by rw [drop_more s 1 h, escX, hv]
theorem escX_2 {s : ByteArray} (h : 1 < s.size) {p : Nat} (hv : hexV s[1] = some p) (h2 : ¬ 2 < s.size) : escX (s.data.toList.drop 1) = (0, 0, 11) := by rw [drop_more s 1 h, escX, hv, drop_end s 2 h2]
theorem escX_3 {s : ByteArray} (h : 1 < s.size) {p : Nat} (hv : hexV s[1] = some p) (h2 : 2 < s.size) (hw : hexV s[2] = none) : escX (s.data.toList.drop 1) = (0, 0, 10) := by
  rw [drop_more s 1 h, escX, hv]
  show (match s.data.toList.drop 2 with | [] => _ | y :: _ => _) = _
  rw [drop_more s 2 h2]; show (match hexV s[2] with | none => _ | some q => _) = _; rw [hw]
theorem escX_4 {s : ByteArray} (h : 1 < s.size) {p q : Nat} (hv : hexV s[1] = some p) (h2 : 2 < s.size) (hw : hexV s[2] = some q) : escX (s.data.toList.drop 1) = (UInt8.ofNat (16 * p + q), 3, 0) := by
  rw [drop_more s 1 h, escX, hv]
  show (match s.data.toList.drop 2 with | [] => _ | y :: _ => _) = _
  rw [drop_more s 2 h2]; show (match hexV s[2] with | none => _ | some q => _) = _; rw [hw]
theorem idx_none {c : UInt8} (h : hexV c = none) : idxH c = -1 := by unfold idxH; rw [h]
theorem idx_some {c : UInt8} {p : Nat} (h : hexV c = some p) : idxH c = p := by unfold idxH; rw [h]
theorem emp_f {d : ByteArray} (h : 0 < d.size) : d.toList.isEmpty = false := by
  rw [ByteArray.toList_eq d]
  cases h' : d.data.toList
  · have := size_data d; rw [h'] at this; simp at this; omega
  · rfl
theorem emp_n {d : ByteArray} (h : 0 < d.size) : ¬ d.toList = [] := by intro hh; have := emp_f h; rw [hh] at this; cases this
theorem emp_t {d : ByteArray} (h : d.size = 0) : d.toList = [] := by rw [ByteArray.toList_eq d]; exact List.eq_nil_of_length_eq_zero (by rw [size_data]; exact h)
theorem ne_u8 {c d : UInt8} (h : ¬ c = d) : ((c.toNat : Int) != (d.toNat : Int)) = true := by rw [bne_iff_ne]; intro hh; exact h (UInt8.toNat.inj (by omega))

set_option maxHeartbeats 400000 in
theorem esc_empty (s : ByteArray) (w : World) (h0 : s.size = 0) : Calls Try.prog 27 #[.string s] w (EscPost s.data.toList w) := by
  have he := emp_t h0
  have hl : escF s.data.toList = (0, 0, 11) := by
    have e : s.data.toList = [] := List.eq_nil_of_length_eq_zero (by rw [size_data]; exact h0)
    rw [e]; rfl
  have HL := Lib.hid hl; clear hl h0
  go_enter Try.func27, Try.ntmps27
  go_wp2_with fail
  go_ret3
  exact esc_post HL.out rfl rfl (Below.refl _ _)
set_option maxHeartbeats 1000000 in
theorem esc_sign (s : ByteArray) (w : World) (h0 : 0 < s.size) (hb : sgnB s[0] = true) : Calls Try.prog 27 #[.string s] w (EscPost s.data.toList w) := by
  have he := emp_f h0
  have he2 := emp_n h0
  obtain ⟨x, hx1, hx2⟩ := esc_some h0 hb
  have HL := Lib.hid hx1; have HX := Lib.hid hx2; clear hx1 hx2
  go_enter Try.func27, Try.ntmps27
  go_wp2_with fail
  go_region_with (go_at_call 30; refine (signs_any s[0] _).mono ?_; rintro e w1 ⟨rfl, hlook, hbw⟩; replace hlook : (Instr.lookup 47 (.map (some w.heap.size)) (.int .u8 (s[0].toNat : Int)) true).run Try.prog w1 = .ok (.tuple #[.int .u8 (sgnX s[0]), .bool (sgnB s[0])]) w1 := hlook; replace hbw : Below w.heap.size w w1 := ⟨hbw.os, hbw.tape, hbw.output, hbw.size, hbw.block⟩)
  all_goals
    go_wp2_with fail
    go_ret3
    exact esc_post HL.out HX.out rfl (by assumption)
set_option maxHeartbeats 1000000 in
theorem esc_bad (s : ByteArray) (w : World) (h0 : 0 < s.size) (hb : sgnB s[0] = false) (hx : ¬ s[0] = 120) : Calls Try.prog 27 #[.string s] w (EscPost s.data.toList w) := by
  have he := emp_f h0
  have he2 := emp_n h0
  have hn := esc_none h0 hb
  rw [if_neg hx] at hn
  have HL := Lib.hid hn
  have ht : ((s[0].toNat : Int) != 120) = true := ne_u8 hx
  clear hn hx
  go_enter Try.func27, Try.ntmps27
  go_wp2_with fail
  go_region_with (go_at_call 30; refine (signs_any s[0] _).mono ?_; rintro e w1 ⟨rfl, hlook, hbw⟩; replace hlook : (Instr.lookup 47 (.map (some w.heap.size)) (.int .u8 (s[0].toNat : Int)) true).run Try.prog w1 = .ok (.tuple #[.int .u8 (sgnX s[0]), .bool (sgnB s[0])]) w1 := hlook; replace hbw : Below w.heap.size w w1 := ⟨hbw.os, hbw.tape, hbw.output, hbw.size, hbw.block⟩)
  all_goals
    go_wp2_with fail
    go_ret3
    exact esc_post HL.out rfl rfl (by assumption)
def XRel (s : ByteArray) (n i : Value) : Prop :=
  (n = .int .i64 0 ∧ i = .int .i64 1) ∨ (∃ p, ∃ h : 1 < s.size, hexV s[1] = some p ∧ n = .int .i64 (p : Int) ∧ i = .int .i64 2) ∨
  (∃ p q, ∃ h : 2 < s.size, hexV s[1] = some p ∧ hexV s[2] = some q ∧ n = .int .i64 ((16 * p + q : Nat) : Int) ∧ i = .int .i64 3)
set_option maxHeartbeats 4000000 in
theorem esc_x (s : ByteArray) (w : World) (hs : s.size ≤ 1000) (h0 : 0 < s.size) (hb : sgnB s[0] = false) (hx : s[0] = 120) : Calls Try.prog 27 #[.string s] w (EscPost s.data.toList w) := by
  have he := emp_f h0
  have he2 := emp_n h0
  have hn := esc_none h0 hb
  rw [if_pos hx] at hn
  have HL := Lib.hid hn
  have ht : ((s[0].toNat : Int) != 120) = false := by rw [hx]; rfl
  clear hn hx
  go_enter Try.func27, Try.ntmps27
  go_wp2_with fail
  go_region_with (go_at_call 30; refine (signs_any s[0] _).mono ?_; rintro e w1 ⟨rfl, hlook, hbw⟩; replace hlook : (Instr.lookup 47 (.map (some w.heap.size)) (.int .u8 (s[0].toNat : Int)) true).run Try.prog w1 = .ok (.tuple #[.int .u8 (sgnX s[0]), .bool (sgnB s[0])]) w1 := hlook; replace hbw : Below w.heap.size w w1 := ⟨hbw.os, hbw.tape, hbw.output, hbw.size, hbw.block⟩)
  all_goals
    go_wp2_with (go_at_call 25; refine (sixteen_any _).mono ?_; rintro e w2 ⟨rfl, hb1⟩)
    obtain ⟨w3, hw3⟩ : ∃ w3, w3 = w2.alloc (.cells hexA 38) := ⟨_, rfl⟩
    have hh3 : Whole w3 w2.heap.size 38 hexA := by rw [hw3]; exact Whole.made w2 38 hexA
    have hwb : Below w.heap.size w w3 := by
      rw [hw3]
      have hb0 : Below w.heap.size w w1 := by assumption
      have hb2 := hb0.trans (hb1.mono hb0.size)
      exact hb2.alloc hb2.size _
    change (w3 = (w2.alloc (.cells #[.int .u8 48, .int .u8 49, .int .u8 50, .int .u8 51, .int .u8 52, .int .u8 53, .int .u8 54, .int .u8 55, .int .u8 56, .int .u8 57, .int .u8 97, .int .u8 98, .int .u8 99, .int .u8 100, .int .u8 101, .int .u8 102] 38))) at hw3
    rw [← hw3]
    clear hw3
    generalize w2.heap.size = B at *
    clear hb1
    have hsl := slice_sixteen B
    go_loopw [8, 9] (fun n i wr => XRel s n i ∧ ∃ d, wr = w3.drewN d) (fun _ i _ => 3 - (intOf i).toNat)
    case atStart => exact ⟨.inl ⟨rfl, rfl⟩, 0, rfl⟩
    case round =>
      obtain ⟨hrel, d, rfl⟩ := hrel
      have hwd := fun n => below_drewN hwb n
      have hhd : ∀ n, Whole (w3.drewN n) B 38 hexA := fun n => hh3
      rcases hrel with ⟨rfl, rfl⟩ | ⟨p, h1, hv, rfl, rfl⟩ | ⟨p, q, h2, hv, hv2, rfl, rfl⟩
      · by_cases h1 : 1 < s.size
        · have h1' : ¬ (s.size : Int) ≤ 1 := by omega
          rcases hv : hexV s[1] with _ | p
          · have hix := fun W h => idx_any B s[1] W h
            rw [idx_none hv] at hix
            have HF := Lib.hid (escX_1 h1 hv)
            have HI := Lib.hid hix; have HH := Lib.hid hhd; have HW := Lib.hid hwd
            clear hv hix hhd hwd
            go_wp2
            go_quiet ((go_at_call 31; exact quiet_ll (HI.out _ (HH.out _))))
            go_wp2
            go_ret3
            exact esc_post (HL.out.trans HF.out) rfl rfl (HW.out _)
          · have hix := fun W h => idx_any B s[1] W h
            rw [idx_some hv] at hix
            have hp := hexV_lt hv
            have HV := Lib.hid hv
            have HI := Lib.hid hix; have HH := Lib.hid hhd; have HW := Lib.hid hwd
            clear hv hix hhd hwd
            go_wp2
            go_quiet ((go_at_call 31; exact quiet_ll (HI.out _ (HH.out _))))
            go_wp2
            exact ⟨⟨.inr (.inl ⟨p, h1, HV.out, by congr 1, rfl⟩), _, rfl⟩, by simp [intOf]⟩
        · have h1' : (s.size : Int) ≤ 1 := by omega
          have HF := Lib.hid (escX_0 h1)
          have HW := Lib.hid hwd
          clear hhd hwd
          go_wp2
          go_ret3
          exact esc_post (HL.out.trans HF.out) rfl rfl (HW.out _)
      · have hp := hexV_lt hv
        by_cases h2 : 2 < s.size
        · have h2' : ¬ (s.size : Int) ≤ 2 := by omega
          rcases hv2 : hexV s[2] with _ | q
          · have hix := fun W h => idx_any B s[2] W h
            rw [idx_none hv2] at hix
            have HF := Lib.hid (escX_3 h1 hv h2 hv2)
            have HI := Lib.hid hix; have HH := Lib.hid hhd; have HW := Lib.hid hwd
            clear hv hv2 hix hhd hwd
            go_wp2
            go_quiet ((go_at_call 31; exact quiet_ll (HI.out _ (HH.out _))))
            go_wp2
            go_ret3
            exact esc_post (HL.out.trans HF.out) rfl rfl (HW.out _)
          · have hix := fun W h => idx_any B s[2] W h
            rw [idx_some hv2] at hix
            have hq := hexV_lt hv2
            have HV := Lib.hid hv; have HV2 := Lib.hid hv2
            have HI := Lib.hid hix; have HH := Lib.hid hhd; have HW := Lib.hid hwd
            clear hv hv2 hix hhd hwd
            go_wp2
            go_quiet ((go_at_call 31; exact quiet_ll (HI.out _ (HH.out _))))
            go_wp2
            exact ⟨⟨.inr (.inr ⟨p, q, h2, HV.out, HV2.out, by congr 1, rfl⟩), _, rfl⟩, by simp [intOf]⟩
        · have h2' : (s.size : Int) ≤ 2 := by omega
          have HF := Lib.hid (escX_2 h1 hv h2)
          have HW := Lib.hid hwd
          clear hhd hwd hv
          go_wp2
          go_ret3
          exact esc_post (HL.out.trans HF.out) rfl rfl (HW.out _)
      · have hp := hexV_lt hv
        have hq := hexV_lt hv2
        have HF := Lib.hid (escX_4 (by omega) hv h2 hv2)
        have HW := Lib.hid hwd
        have hwr : ((UInt8.ofNat (16 * p + q)).toNat : Int) = ((16 * p + q : Nat) : Int) := by rw [UInt8.toNat_ofNat']; omega
        have HR := Lib.hid hwr
        have hlt : 16 * p + q < 256 := by omega
        generalize 16 * p + q = t at *
        clear hhd hwd hv hv2 hwr
        go_wp2
        go_ret3
        exact esc_post (HL.out.trans HF.out) HR.out.symm rfl (HW.out _)
theorem escape_any (s : ByteArray) (w : World) (hs : s.size ≤ 1000) : Calls Try.prog 27 #[.string s] w (EscPost s.data.toList w) := by
  by_cases h0 : s.size = 0
  · exact esc_empty s w h0
  · have h1 : 0 < s.size := by omega
    rcases hb : sgnB s[0] with _ | _
    · by_cases hx : s[0] = 120
      · exact esc_x s w hs h1 hb hx
      · exact esc_bad s w h1 hb hx
    · exact esc_sign s w h1 hb
end Go.Proofs.Ytmocjhildphklaa
