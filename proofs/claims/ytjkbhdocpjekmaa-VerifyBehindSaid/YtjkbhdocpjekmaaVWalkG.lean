/- The walks of layer 14: what a rule tells. -/
import Derived.Test.YtjkbhdocpjekmaaVWalkF
import Derived.Test.YtjkbhdocpjekmaaRWalkD
namespace Go.Proofs.Ytjkbhdocpjekmaa
open Go.RowKit Go.Maps
set_option linter.unusedVariables false
attribute [local go_sem ↓] Go.wp_at_zero Go.wp_at_succ

/-- A walker's cells; what they hold lies below block B. -/
structure WkAt (w : World) (B p : Nat) (c : Cod) (n : Nat) (f : Bdy) : Prop where
  form : ∃ FA fn fc IA inn ic TA tn tc CA cn cc, Whole w p 45 #[.slice FA fn fc, .slice IA inn ic, .slice TA tn tc, .int .i64 c.lets, .int .i64 (n : Int), .int .i64 f.kept, .int .i64 f.locals, .int .i64 f.stack, .slice CA cn cc] ∧
    BdysAt w B FA fn c.funs ∧ c.ints.length = inn ∧ c.texts.length = tn ∧ InsAt w B CA cn f.code ∧ fn ≤ 9223372036854775807 ∧ inn ≤ 9223372036854775807 ∧ tn ≤ 9223372036854775807 ∧ cn ≤ 9223372036854775807 ∧ B ≤ w.heap.size
theorem WkAt.below {w w' : World} {B p : Nat} {c : Cod} {n : Nat} {f : Bdy} (h : WkAt w B p c n f) (hb : Below w.heap.size w w') : WkAt w' B p c n f := by
  obtain ⟨FA, fn, fc, IA, inn, ic, TA, tn, tc, CA, cn, cc, hw, h1, h2, h3, h4, h5, h6, h7, h8, h9⟩ := h.form
  exact ⟨FA, fn, fc, IA, inn, ic, TA, tn, tc, CA, cn, cc, hw.below hb hw.lt, h1.below (hb.mono h9), h2, h3, h4.below (hb.mono h9), h5, h6, h7, h8, Nat.le_trans h9 hb.size⟩
theorem fixed1_any (w : World) (P : Value) (op a b t p : Int) (g : Nat) (h1 : Whole w g 3 #[.int .i64 t]) (h2 : Whole w (g + 1) 3 #[.int .i64 p]) :
    Calls Try.prog 65 #[P, .agg #[.int .i64 op, .int .i64 a, .int .i64 b], .pointer (some ⟨g, 0, none⟩), .pointer (some ⟨g + 1, 0, none⟩)] w fun e w' => e = .returned (effV (true, t, p)) ∧ Below w.heap.size w w' := by
  have hg : g + 1 < w.heap.size := h2.lt
  obtain ⟨w2, hw2⟩ : ∃ w2, w2 = w.alloc (.cells #[.int .i64 op, .int .i64 a, .int .i64 b] 36) := ⟨_, rfl⟩
  have c1 : w2.cell? ⟨g, 0, none⟩ = some (.int .i64 t) := by rw [hw2]; exact (h1.alloc _).cell 0
  have c2 : w2.cell? ⟨g + 1, 0, none⟩ = some (.int .i64 p) := by rw [hw2]; exact (h2.alloc _).cell 0
  have HB : Hid (Below w.heap.size w w2) := by show Below _ _ _; rw [hw2]; exact (Below.refl _ _).alloc (Nat.le_refl _) _
  have HX := Lib.hid hw2
  clear h1 h2 hw2
  go_enter Try.func65, Try.ntmps65
  go_wp2
  rw [← HX.out]
  clear HX
  go_quiet (fail)
  go_wp2
  go_ret3
  exact ⟨rfl, below_drewN HB.out _⟩
/-- What a rule's bound is. -/
def mostF (c : Cod) (f : Bdy) (mf : Nat) : Int := if mf = 50 then f.locals else if mf = 51 then c.lets else if mf = 53 then (c.ints.length : Int) else if mf = 54 then (c.texts.length : Int) else if mf = 55 then f.kept else if mf = 60 then 4 else 7
theorem most_any (w : World) (B p : Nat) (c : Cod) (n : Nat) (f : Bdy) (mf : Nat) (h : WkAt w B p c n f) (hm : mf = 50 ∨ mf = 51 ∨ mf = 53 ∨ mf = 54 ∨ mf = 55 ∨ mf = 60 ∨ mf = 61) :
    Calls Try.prog mf #[.pointer (some ⟨p, 0, none⟩)] w fun e w' => e = .returned (.int .i64 (mostF c f mf)) ∧ w = w' := by
  obtain ⟨FA, fn, fc, IA, inn, ic, TA, tn, tc, CA, cn, cc, hw, h1, h2, h3, h4, h5, h6, h7, h8, h9⟩ := h.form
  have x1 : w.cell? ⟨p, 1, none⟩ = some (.slice IA inn ic) := hw.cell 1
  have x2 : w.cell? ⟨p, 2, none⟩ = some (.slice TA tn tc) := hw.cell 2
  have x3 : w.cell? ⟨p, 3, none⟩ = some (.int .i64 c.lets) := hw.cell 3
  have x5 : w.cell? ⟨p, 5, none⟩ = some (.int .i64 f.kept) := hw.cell 5
  have x6 : w.cell? ⟨p, 6, none⟩ = some (.int .i64 f.locals) := hw.cell 6
  have HE2 := Lib.hid h2
  have HE3 := Lib.hid h3
  clear hw h h1 h2 h3 h4
  rcases hm with rfl | rfl | rfl | rfl | rfl | rfl | rfl
  · go_enter Try.func50, Try.ntmps50
    go_wp2
    go_ret
    exact ⟨rfl, rfl⟩
  · go_enter Try.func51, Try.ntmps51
    go_wp2
    go_ret
    exact ⟨rfl, rfl⟩
  · go_enter Try.func53, Try.ntmps53
    go_wp2
    go_ret
    exact ⟨ret_i (by show (inn : Int) = _; rw [← HE2.out]; rfl), rfl⟩
  · go_enter Try.func54, Try.ntmps54
    go_wp2
    go_ret
    exact ⟨ret_i (by show (tn : Int) = _; rw [← HE3.out]; rfl), rfl⟩
  · go_enter Try.func55, Try.ntmps55
    go_wp2
    go_ret
    exact ⟨rfl, rfl⟩
  · go_enter Try.func60, Try.ntmps60
    go_wp2
    go_ret
    exact ⟨rfl, rfl⟩
  · go_enter Try.func61, Try.ntmps61
    go_wp2
    go_ret
    exact ⟨rfl, rfl⟩
set_option maxHeartbeats 4000000 in
theorem below1_any (w : World) (B q : Nat) (c : Cod) (n : Nat) (f : Bdy) (mf : Nat) (op a b t p : Int) (g : Nat) (h : WkAt w B q c n f) (hm : mf = 50 ∨ mf = 51 ∨ mf = 53 ∨ mf = 54 ∨ mf = 55 ∨ mf = 60 ∨ mf = 61)
    (h1 : Whole w g 3 #[.int .i64 t]) (h2 : Whole w (g + 1) 3 #[.int .i64 p]) (h3 : Whole w (g + 2) 101 #[.func (.func mf) #[] #[]]) :
    Calls Try.prog 64 #[.pointer (some ⟨q, 0, none⟩), .agg #[.int .i64 op, .int .i64 a, .int .i64 b], .pointer (some ⟨g + 2, 0, none⟩), .pointer (some ⟨g, 0, none⟩), .pointer (some ⟨g + 1, 0, none⟩)] w fun e w' => e = .returned (effV (decide (a < mostF c f mf), t, p)) ∧ Below w.heap.size w w' := by
  have hg : g + 2 < w.heap.size := h3.lt
  obtain ⟨w2, hw2⟩ : ∃ w2, w2 = w.alloc (.cells #[.int .i64 op, .int .i64 a, .int .i64 b] 36) := ⟨_, rfl⟩
  have c1 : w2.cell? ⟨g, 0, none⟩ = some (.int .i64 t) := by rw [hw2]; exact (h1.alloc _).cell 0
  have c2 : w2.cell? ⟨g + 1, 0, none⟩ = some (.int .i64 p) := by rw [hw2]; exact (h2.alloc _).cell 0
  have c3 : w2.cell? ⟨g + 2, 0, none⟩ = some (.func (.func mf) #[] #[]) := by rw [hw2]; exact (h3.alloc _).cell 0
  have HW : Hid (Whole w2 w.heap.size 36 #[.int .i64 op, .int .i64 a, .int .i64 b]) := by show Whole _ _ _ _; rw [hw2]; exact Whole.made _ _ _
  have c4 : w2.cell? ⟨w.heap.size, 1, none⟩ = some (.int .i64 a) := HW.out.cell 1
  have HB : Hid (Below w.heap.size w w2) := by show Below _ _ _; rw [hw2]; exact (Below.refl _ _).alloc (Nat.le_refl _) _
  have HK : Hid (WkAt w2 B q c n f) := h.below HB.out
  have HX := Lib.hid hw2
  have HMF := Lib.hid hm
  clear h1 h2 h3 hw2 h hm
  generalize hmo : mostF c f mf = mo at *
  have HMO := Lib.hid hmo
  clear hmo
  have CM : Hid (∀ d, Calls Try.prog mf #[.pointer (some ⟨q, 0, none⟩)] (w2.drewN d) fun e w' => e = .returned (.int .i64 mo) ∧ w' = w2.drewN d) := fun d =>
    (most_any (w2.drewN d) B q c n f mf (HK.out.below (below_drewN (Below.refl _ _) d)) HMF.out).mono fun e w' h => ⟨by rw [h.1, HMO.out], h.2.symm⟩
  rcases HMF.out with rfl | rfl | rfl | rfl | rfl | rfl | rfl
  all_goals
    go_enter Try.func64, Try.ntmps64
    go_wp2
    rw [← HX.out]
    go_quiet ((exact Calls.quiet_of_same (CM.out _)))
    go_wp2
    go_ret3
    exact ⟨rfl, below_drewN HB.out _⟩
theorem below_drewN' {B : Nat} {w w' : World} (h : Below B w w') (d : Nat) : Below B w (w'.drewN d) := below_drewN h d
theorem self_any (w : World) (B q : Nat) (c : Cod) (n : Nat) (f : Bdy) (op a b : Int) (h : WkAt w B q c n f) :
    Calls Try.prog 56 #[.pointer (some ⟨q, 0, none⟩), .agg #[.int .i64 op, .int .i64 a, .int .i64 b]] w fun e w' => e = .returned (effV (decide ((0 : Int) < (n : Int)), 0, 1)) ∧ Below w.heap.size w w' := by
  obtain ⟨FA, fn, fc, IA, inn, ic, TA, tn, tc, CA, cn, cc, hw, h1, h2, h3, h4, h5, h6, h7, h8, h9⟩ := h.form
  have x4 : w.cell? ⟨q, 4, none⟩ = some (.int .i64 (n : Int)) := hw.cell 4
  have hq := hw.lt
  clear h h1 h2 h3 h4 h5 hw
  go_enter Try.func56, Try.ntmps56
  go_wp2
  go_ret3
  exact ⟨ret_e (by simp), (Below.refl _ _).alloc (Nat.le_refl _) _⟩
set_option maxHeartbeats 4000000 in
theorem make_any (w : World) (B q : Nat) (c : Cod) (n : Nat) (f : Bdy) (op a b : Int) (h : WkAt w B q c n f) :
    Calls Try.prog 58 #[.pointer (some ⟨q, 0, none⟩), .agg #[.int .i64 op, .int .i64 a, .int .i64 b]] w fun e w' => e = .returned (effV (decide (a ≤ 199) && decide (1 ≤ b) && decide (b ≤ 4), b, 1)) ∧ Below w.heap.size w w' := by
  clear h
  have HB := Lib.hid (fun (d : Nat) => below_drewN ((Below.refl w.heap.size w).alloc (Nat.le_refl _) (.cells #[.int .i64 op, .int .i64 a, .int .i64 b] 36)) d)
  by_cases h1 : a ≤ 199
  all_goals by_cases h2 : 1 ≤ b
  all_goals by_cases h3 : b ≤ 4
  all_goals first
    | (exfalso; omega)
    | ((first | (have x1 : decide (a ≤ 199) = true := decide_eq_true h1) | (have x1 : decide (a ≤ 199) = false := decide_eq_false h1))
       (first | (have x2 : decide (1 ≤ b) = true := decide_eq_true h2) | (have x2 : decide (1 ≤ b) = false := decide_eq_false h2))
       (first | (have x3 : decide (b ≤ 4) = true := decide_eq_true h3) | (have x3 : decide (b ≤ 4) = false := decide_eq_false h3))
       clear h1 h2 h3
       go_enter Try.func58, Try.ntmps58
       go_wp2
       go_quiet (fail)
       go_wp2
       go_ret3
       exact ⟨ret_e (by simp [*]), HB.out _⟩)
set_option maxHeartbeats 4000000 in
theorem fun_any (w : World) (B q : Nat) (c : Cod) (n : Nat) (f : Bdy) (op a b : Int) (h : WkAt w B q c n f) (ha : 0 ≤ a) :
    Calls Try.prog 59 #[.pointer (some ⟨q, 0, none⟩), .agg #[.int .i64 op, .int .i64 a, .int .i64 b]] w fun e w' => e = .returned (effV (decide (0 < a) && decide (a < (c.funs.length : Int)) && decide ((c.funs.getD a.toNat bdy0).kept = b), b, 1)) ∧ Below w.heap.size w w' := by
  obtain ⟨k, rfl⟩ := Int.eq_ofNat_of_zero_le ha
  obtain ⟨FA, fn, fc, IA, inn, ic, TA, tn, tc, CA, cn, cc, hw, h1, h2, h3, h4, h5, h6, h7, h8, h9⟩ := h.form
  have hq := hw.lt
  have HE := Lib.hid h1.1
  have HK : Hid (k < fn → ∃ g off, FA = some ⟨g, off, none⟩ ∧ w.cell? ⟨g, off + k * 4, none⟩ = some (.int .i64 (c.funs.getD k bdy0).kept) ∧ g < B) := fun hk => by
    obtain ⟨g', off', e, hgb, q0, _⟩ := h1.at_ hk
    exact ⟨g', off', e, q0, hgb⟩
  have HW0 := Lib.hid hw
  clear h h1 h2 h3 h4 h5 hw
  obtain ⟨w2, hw2⟩ : ∃ w2, w2 = w.alloc (.cells #[.int .i64 op, .int .i64 (k : Int), .int .i64 b] 36) := ⟨_, rfl⟩
  have HBB : Hid (Below w.heap.size w w2) := by show Below _ _ _; rw [hw2]; exact (Below.refl _ _).alloc (Nat.le_refl _) _
  have HB : Hid (∀ d, Below w.heap.size w (w2.drewN d)) := fun d => below_drewN HBB.out d
  have HWB : Hid (Whole w2 w.heap.size 36 #[.int .i64 op, .int .i64 (k : Int), .int .i64 b]) := by show Whole _ _ _ _; rw [hw2]; exact Whole.made _ _ _
  have y1 : w2.cell? ⟨w.heap.size, 1, none⟩ = some (.int .i64 (k : Int)) := HWB.out.cell 1
  have y2 : w2.cell? ⟨w.heap.size, 2, none⟩ = some (.int .i64 b) := HWB.out.cell 2
  have y0 : w2.cell? ⟨q, 0, none⟩ = some (.slice FA fn fc) := (HW0.out.below HBB.out HW0.out.lt).cell 0
  have HX := Lib.hid hw2
  have HB9 : Hid (B ≤ w.heap.size) := h9
  clear hw2 h9 HW0
  by_cases x1 : 0 < k
  · by_cases x2 : k < fn
    · obtain ⟨g, off, rfl, q0, hg⟩ := HK.out x2
      have HT : Hid (((k : Int)).toNat = k) := by show _ = _; simp
      have q1 : w2.cell? ⟨g, off + k * 4, none⟩ = some (.int .i64 (c.funs.getD k bdy0).kept) := (HBB.out.cell (p := ⟨g, _, none⟩) (Nat.lt_of_lt_of_le hg HB9.out)).trans q0
      have HQ : Hid ((c.funs.getD ((k : Int)).toNat bdy0).kept = (c.funs.getD k bdy0).kept) := by show _ = _; rw [HT.out]
      generalize (c.funs.getD k bdy0).kept = y at *
      have t1 : decide ((1 : Int) ≤ (k : Int)) = true := decide_eq_true (by omega)
      have t1' : decide ((0 : Int) < (k : Int)) = true := decide_eq_true (by omega)
      have t2 : decide ((k : Int) < (fn : Int)) = true := decide_eq_true (by omega)
      have u1 : decide (1 ≤ k) = true := decide_eq_true (by omega)
      have u1' : decide (0 < k) = true := decide_eq_true (by omega)
      have u2 : decide (k < fn) = true := decide_eq_true (by omega)
      clear q0 HK HBB HWB HB9
      go_enter Try.func59, Try.ntmps59
      go_wp2
      rw [← HX.out]
      clear HX
      go_quiet (fail)
      go_wp2
      go_ret3
      exact ⟨ret_e (by rw [HE.out, HQ.out]; simp [*]; rfl), HB.out _⟩
    · have t1 : decide ((1 : Int) ≤ (k : Int)) = true := decide_eq_true (by omega)
      have t1' : decide ((0 : Int) < (k : Int)) = true := decide_eq_true (by omega)
      have t2 : decide ((k : Int) < (fn : Int)) = false := decide_eq_false (by omega)
      have u1 : decide (1 ≤ k) = true := decide_eq_true (by omega)
      have u1' : decide (0 < k) = true := decide_eq_true (by omega)
      have u2 : decide (k < fn) = false := decide_eq_false (by omega)
      clear HK HBB HWB HB9
      go_enter Try.func59, Try.ntmps59
      go_wp2
      rw [← HX.out]
      clear HX
      go_quiet (fail)
      go_wp2
      go_ret3
      exact ⟨ret_e (by rw [HE.out]; simp [*]), HB.out _⟩
  · have t1 : decide ((1 : Int) ≤ (k : Int)) = false := decide_eq_false (by omega)
    have t1' : decide ((0 : Int) < (k : Int)) = false := decide_eq_false (by omega)
    have u1 : decide (1 ≤ k) = false := decide_eq_false (by omega)
    have u1' : decide (0 < k) = false := decide_eq_false (by omega)
    clear HK HBB HWB HB9
    go_enter Try.func59, Try.ntmps59
    go_wp2
    rw [← HX.out]
    clear HX
    go_quiet (fail)
    go_wp2
    go_ret3
    exact ⟨ret_e (by rw [HE.out]; simp [*]), HB.out _⟩
/-- A key's rule: none, or what is known of it. -/
def RuleOr (w : World) (v : Value) : Option Spec → Prop
  | none => v = .nilFunc
  | some s => RuleAt w v s
def specF (qs : List (Int × Spec)) (k : Int) : Option Spec := qs.foldl (fun s p => if p.1 = k then some p.2 else s) none
theorem rules_fold {w : World} (k : Int) : ∀ (ps : List (Int × Value)) (qs : List (Int × Spec)) (v : Value) (s : Option Spec), RulesAt w ps qs → RuleOr w v s →
    RuleOr w (ps.foldl (fun v p => if p.1 = k then p.2 else v) v) (qs.foldl (fun s p => if p.1 = k then some p.2 else s) s)
  | [], [], v, s, _, h => h
  | p :: ps, q :: qs, v, s, hr, h => by
    rw [List.foldl_cons, List.foldl_cons]
    refine rules_fold k ps qs _ _ hr.2.2 ?_
    by_cases hp : p.1 = k
    · rw [if_pos hp, if_pos (hr.1 ▸ hp)]; exact hr.2.1
    · rw [if_neg hp, if_neg (hr.1 ▸ hp)]; exact h
  | [], _ :: _, _, _, h, _ => h.elim
  | _ :: _, [], _, _, h, _ => h.elim
theorem rules_or {w : World} (k : Int) {ps : List (Int × Value)} {qs : List (Int × Spec)} (h : RulesAt w ps qs) : RuleOr w (pairF ps k) (specF qs k) := rules_fold k ps qs _ _ h rfl
/-- What a rule tells. -/
def specE (c : Cod) (n : Nat) (f : Bdy) (a b : Int) : Option Spec → Bool × Int × Int
  | none => (true, 0, 0)
  | some (.below t p mf) => (decide (a < mostF c f mf), t, p)
  | some (.fixed t p) => (true, t, p)
  | some (.own k) => if k = 56 then (decide ((0 : Int) < (n : Int)), 0, 1) else if k = 58 then (decide (a ≤ 199) && decide (1 ≤ b) && decide (b ≤ 4), b, 1) else (decide (0 < a) && decide (a < (c.funs.length : Int)) && decide ((c.funs.getD a.toNat bdy0).kept = b), b, 1)
theorem spec_eff (c : Cod) (n : Nat) (f : Bdy) (op a b : Int) (h0 : 0 ≤ op) (h1 : op ≤ 33) : specE c n f a b (specF ruleL op) = effF c n f ⟨op, a, b⟩ := by
  have key : op = 0 ∨ op = 1 ∨ op = 2 ∨ op = 3 ∨ op = 4 ∨ op = 5 ∨ op = 6 ∨ op = 7 ∨ op = 8 ∨ op = 9 ∨ op = 10 ∨ op = 11 ∨ op = 12 ∨ op = 13 ∨ op = 14 ∨ op = 15 ∨ op = 16 ∨ op = 17 ∨ op = 18 ∨ op = 19 ∨ op = 20 ∨ op = 21 ∨ op = 22 ∨ op = 23 ∨ op = 24 ∨ op = 25 ∨ op = 26 ∨ op = 27 ∨ op = 28 ∨ op = 29 ∨ op = 30 ∨ op = 31 ∨ op = 32 ∨ op = 33 := by omega
  rcases key with rfl | rfl | rfl | rfl | rfl | rfl | rfl | rfl | rfl | rfl | rfl | rfl | rfl | rfl | rfl | rfl | rfl | rfl | rfl | rfl | rfl | rfl | rfl | rfl | rfl | rfl | rfl | rfl | rfl | rfl | rfl | rfl | rfl | rfl
  all_goals simp [specF, ruleL, specE, effF, mostF]
end Go.Proofs.Ytjkbhdocpjekmaa
