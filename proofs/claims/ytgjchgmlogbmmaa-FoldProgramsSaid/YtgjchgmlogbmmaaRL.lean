/- A part of the proofs of chapter 11, squeezed, merged and shrunk by group.py: FOut FWalkV. -/
import Derived.Test.YtgjchgmlogbmmaaR1
import Derived.KernelRfl
import Derived.Test.YtgjchgmlogbmmaaRK
/- A node whose kids are laid in one by one. -/
namespace Go.Proofs.Ytgjchgmlogbmmaa
open Go.RowKit
set_option linter.unusedVariables false
set_option linter.unusedSimpArgs false

section
variable {w w' wd wr : World} {base : Nat} {B : Nat → Prop} {ys : List Nd} {A : Option Addr} {c : Nat}
theorem KRow.own (h : KRow w base B ys A c) : ∃ fs, fs.length = ys.length ∧ w.ownsRow base 25 6 (.slice A ys.length c) ys.length (flatL ys fs) ∧ ∀ k (h1 : k < ys.length) (h2 : k < fs.length), NodeIn w (fun a => B a ∧ A ≠ some ⟨a, 0, none⟩) ys[k] fs[k] := by
 by_cases hy : ys = []
 ·obtain ⟨rfl, rfl⟩ := h.nil hy
  subst hy
  exact ⟨[], rfl, World.ownsRow_nil _ _ _ _, fun k h1 => by simp at h1⟩
 ·obtain ⟨g, fs, rfl, hg, ho, hl, hsb⟩ := h.row hy
  exact ⟨fs, hl, ho, fun k h1 h2 => (hsb k h1 h2).mono fun a ha _ => ⟨ha.1, fun e => ha.2 (by simpa using e.symm)⟩⟩
theorem KRow.lt_ (h : KRow w base B ys A c) {a : Nat} (e : A = some ⟨a, 0, none⟩) : base ≤ a ∧ a < w.heap.size := by
 by_cases hy : ys = []
 ·rw [(h.nil hy).1] at e; cases e
 ·obtain ⟨g, fs, rfl, hg, ho, _⟩ := h.row hy
  have : g = a := by simpa using e
  subst this
  exact ⟨hg, (ho.lt g rfl).2⟩
theorem KRow.app {fs : List Fr} {y : Nd} {fy : Fr} {g c' : Nat} (hfl : fs.length = ys.length) (ho : w.ownsRow base 25 6 (.slice A ys.length c) ys.length (flatL ys fs))
  (hfk : ∀ k (h1 : k < ys.length) (h2 : k < fs.length), NodeIn w (fun a => B a ∧ A ≠ some ⟨a, 0, none⟩) ys[k] fs[k]) (hy : NodeIn w (fun a => B a ∧ A ≠ some ⟨a, 0, none⟩) y fy)
  (hap : Appended w base 25 6 (.slice A ys.length c) (ys.length + 1) (flatL ys fs ++ ndL y fy) (.slice (some ⟨g, 0, none⟩) (ys.length + 1) c') wd) : KRow wd base B (ys ++ [y]) (some ⟨g, 0, none⟩) c' := by
 have hg := hap.2.2 g rfl
 have hfr : ∀ {z : Nd} {fz : Fr}, NodeIn w (fun a => B a ∧ A ≠ some ⟨a, 0, none⟩) z fz → NodeIn wd (fun a => B a ∧ a ≠ g) z fz := fun {z fz} n => by
  have n2 : NodeIn w (fun a => (B a ∧ A ≠ some ⟨a, 0, none⟩) ∧ a < w.heap.size) z fz := n.mono fun a ha hl => ⟨ha, hl⟩
  refine (n2.frame hap.2.1.size fun a ha hl => hap.2.1.block a hl fun e => row_ne ho ha.1.2 e.symm).mono fun a ha _ => ⟨ha.1.1, fun e => ?_⟩
  subst e
  rcases hg with h | h
  ·exact row_ne ho ha.1.2 h
  ·have := ha.2; omega
 refine ⟨fun e => by simp at e, fun _ => ⟨g, fs ++ [fy], rfl, (hap.1.lt g rfl).1, ?_, by simp [hfl], fun k h1 h2 => ?_⟩⟩
 ·rw [flatL_snoc ys fs y fy hfl, List.length_append, List.length_singleton]; exact hap.1
 ·by_cases hk : k < ys.length
  ·rw [List.getElem_append_left hk, List.getElem_append_left (by omega)]
   exact hfr (hfk k hk (by omega))
  ·have hke : k = ys.length := by simp at h1; omega
   subst hke
   rw [List.getElem_append_right (Nat.le_refl _)]
   simp only [Nat.sub_self, List.getElem_cons_zero]
   have : (fs ++ [fy])[ys.length] = fy := by simp [← hfl]
   rw [this]
   exact hfr hy
end
/-- A node that is made: block O, its kids in a row of its own. -/
structure ROut (w wr : World) (b B : Nat → Prop) (G O S1 : Nat) (x : Nd) (f : Fr) (ys : List Nd) (A : Option Addr) (c : Nat) : Prop where
 r : Rg w wr b G (G + 1) x f
 o : Whole wr O 25 #[.int .i64 x.kd, .string ⟨x.tx.toArray⟩, .int .i64 x.nm, .int .i64 (x.at_ : Int), .slice f.na x.ns.length f.nc, .slice A ys.length c]
 k : KRow wr S1 B ys A c
 s : S1 ≤ wr.heap.size
section
variable {w wr wd w2 : World} {b B : Nat → Prop} {G O S1 : Nat} {x y : Nd} {f fy : Fr} {ys : List Nd} {A : Option Addr} {c g c' : Nat}
theorem ROut.later (h : ROut w wr b B G O S1 x f ys A c) (hb : Below wr.heap.size wr w2) : ROut w w2 b B G O S1 x f ys A c :=
 ⟨h.r.later hb, h.o.below hb h.o.lt, h.k.below hb (Nat.le_refl _), Nat.le_trans h.s hb.size⟩
theorem ROut.app (h : ROut w wr b B G O S1 x f ys A c) (hO : G + 1 < O) (hS : O < S1) (hBD : ∀ a, B a ↔ (b a ∨ S1 ≤ a)) (hG : w.heap.size = G) {fs : List Fr} (hfl : fs.length = ys.length)
  (ho : wr.ownsRow S1 25 6 (.slice A ys.length c) ys.length (flatL ys fs)) (hfk : ∀ k (h1 : k < ys.length) (h2 : k < fs.length), NodeIn wr (fun a => B a ∧ A ≠ some ⟨a, 0, none⟩) ys[k] fs[k]) (hy : NodeIn wr (fun a => B a ∧ A ≠ some ⟨a, 0, none⟩) y fy)
  (hap : Appended wr S1 25 6 (.slice A ys.length c) (ys.length + 1) (flatL ys fs ++ ndL y fy) (.slice (some ⟨g, 0, none⟩) (ys.length + 1) c') wd) : ROut w (wd.setCell ⟨O, 5, none⟩ (.slice (some ⟨g, 0, none⟩) (ys.length + 1) c')) b B G O S1 x f (ys ++ [y]) (some ⟨g, 0, none⟩) c' := by
 have hbd : Below S1 wr wd := hap.below ho (Below.refl _ _) (Nat.le_refl _) h.s
 have hb2 : Below O wr (wd.setCell ⟨O, 5, none⟩ (.slice (some ⟨g, 0, none⟩) (ys.length + 1) c')) := (hbd.mono (Nat.le_of_lt hS)).setCell (p := ⟨O, 5, none⟩) (Nat.le_refl _) _
 have hOn : (Value.slice A ys.length c).ownBlock ≠ some O := fun e => by have := (ho.lt O e).1; omega
 refine ⟨h.r.low (by omega) hO hb2, ?_, ?_, ?_⟩
 ·have := (hap.far h.o hOn).put 5 (.slice (some ⟨g, 0, none⟩) (ys.length + 1) c')
  rw [List.length_append, List.length_singleton]
  exact this
 ·refine (KRow.app hfl ho hfk hy hap).frame (by simp [World.setCell]) fun a hl ha => Below.heap_setCell wd ⟨O, 5, none⟩ _ a ?_
  show a ≠ O
  rcases ha with ha | ha
  ·omega
  ·rcases (hBD a).1 ha with h1 | h1
   ·have := h.r.hb a h1; omega
   ·omega
 ·have h1 := hap.2.1.size
  have h2 := h.s
  simp [World.setCell]; omega
theorem ROut.start {w1 : World} (h : Rg w w1 b G (G + 1) x f) (hs : w1.heap.size = O) : ROut w (w1.alloc (.cells #[.int .i64 x.kd, .string ⟨x.tx.toArray⟩, .int .i64 x.nm, .int .i64 (x.at_ : Int), .slice f.na x.ns.length f.nc, .slice none 0 0] 25)) b B G O (O + 1) x f [] none 0 := by
 subst hs
 refine ⟨h.later ((Below.refl _ _).alloc (Nat.le_refl _) _), Whole.made w1 25 _, ⟨fun _ => ⟨rfl, rfl⟩, fun h => absurd rfl h⟩, by simp⟩
/-- The node itself. -/
theorem ROut.node (h : ROut w wr b B G O S1 x f ys A c) (hBD : ∀ a, B a ↔ (b a ∨ S1 ≤ a)) : NodeIn wr B (.mk x.kd x.tx x.nm x.at_ x.ns ys) ⟨f.na, f.nc, A, c⟩ :=
 h.k.node h.r.a.n (fun a ha => (hBD a).2 (.inl ha)) (fun a ha => (hBD a).2 (.inr ha))
end
/-- The kids, folded up to k. -/
def zsF (ks : List Nd) (kd : Int) (k : Nat) : List Nd := expK (ks.take k) kd 0
theorem zs_len (ks : List Nd) (kd : Int) {k : Nat} (h : k ≤ ks.length) : (zsF ks kd k).length = k := by unfold zsF; rw [expK_len, List.length_take]; omega
theorem zs_end (ks : List Nd) (kd : Int) : zsF ks kd ks.length = expK ks kd 0 := by unfold zsF; simp
theorem zs_step (ks : List Nd) (kd : Int) {k : Nat} (h : k < ks.length) : zsF ks kd (k + 1) = zsF ks kd k ++ [if bindsB kd k = true then expN (ks.getD k nd0) else ks.getD k nd0] := by
 have hg : ks[k]? = some (ks.getD k nd0) := by rw [List.getD_eq_getElem?_getD, List.getElem?_eq_getElem h]; rfl
 unfold zsF
 apply List.ext_getElem?
 intro j
 rw [expK_get, List.getElem?_take, Nat.zero_add]
 by_cases h1 : j < k
 ·rw [if_pos (by omega), List.getElem?_append_left (by rw [expK_len, List.length_take]; omega), expK_get, List.getElem?_take, if_pos h1, Nat.zero_add]
 ·by_cases h2 : j = k
  ·subst h2
   rw [if_pos (by omega), List.getElem?_append_right (by rw [expK_len, List.length_take]; omega), expK_len, List.length_take, Nat.min_eq_left (by omega), Nat.sub_self, hg]
   rfl
  ·rw [if_neg (by omega), List.getElem?_eq_none (l := _ ++ _) (by rw [List.length_append, expK_len, List.length_take, List.length_singleton]; omega)]
   rfl
end Go.Proofs.Ytgjchgmlogbmmaa
/- The walks of layer 11: the document's way to fold an exp. -/
namespace Go.Proofs.Ytgjchgmlogbmmaa
open Go.RowKit
set_option linter.unusedVariables false
set_option linter.unusedSimpArgs false
attribute [local go_sem ↓] Go.wp_at_zero Go.wp_at_succ

theorem red_else {y : Nd} (h13 : (y.kd == 13) = false) (h10 : (y.kd == 10) = false) (h8 : (y.kd == 8) = false) (h9 : (y.kd == 9) = false) (h14 : (y.kd == 14) = false) : redF y = y := by
 unfold redF
 rw [h13, h10, h8, h9, h14]
 rfl
def RExpC (y : Nd) : Prop := ∀ (w : World) (b : Nat → Prop) (f : Fr), (∀ a, b a → a < w.heap.size) → NodeIn w b y f → Calls Try.prog 12 #[ndV y f] w (GivesN w b (expN y))
set_option maxRecDepth 100000 in
set_option maxHeartbeats 16000000 in
theorem refexp_any (x : Nd) : WfN x → RExpC x := by
 induction x using Nd.ind with
 | h x ih =>
  intro hw w b f hb hn
  have IH := Lib.hid (fun y hy => ih y hy (hw.ks y hy))
  have HEN := Lib.hid (expN_eq x)
  have HL : Hid (x.ks.length ≤ 100000) := hw.len
  have HWX : Hid (WfN (.mk x.kd x.tx x.nm x.at_ x.ns (expK x.ks x.kd 0))) := wf_kids hw
  clear ih
  unfold GivesN
  generalize expN x = res at *
  have HR : Hid (Rg w ((w.alloc (.cells #[.int .i64 x.kd, .string ⟨x.tx.toArray⟩, .int .i64 x.nm, .int .i64 (x.at_ : Int), .slice f.na x.ns.length f.nc, .slice f.ka x.ks.length f.kc] 25)).alloc (.cells #[.int .i64 0, .string ⟨#[]⟩, .int .i64 0, .int .i64 0, .slice none 0 0, .slice none 0 0] 25)) b w.heap.size (w.heap.size + 1) x f) := Rg.start hn hb
  have HW := Lib.hid hw
  unfold ndV
  go_enter Try.func12, Try.ntmps12
  go_upto_region 1 with (fail)
  generalize ((w.alloc (.cells #[.int .i64 x.kd, .string ⟨x.tx.toArray⟩, .int .i64 x.nm, .int .i64 (x.at_ : Int), .slice f.na x.ns.length f.nc, .slice f.ka x.ks.length f.kc] 25)).alloc (.cells #[.int .i64 0, .string ⟨#[]⟩, .int .i64 0, .int .i64 0, .slice none 0 0, .slice none 0 0] 25)) = w1 at *
  obtain ⟨G, hG⟩ : ∃ G, w.heap.size = G := ⟨_, rfl⟩
  have HG := Lib.hid hG
  rw [hG] at HR
  simp only [hG]
  clear hG hn hb hw
  have hw1 : w1.heap.size = w1.heap.size := rfl
  obtain ⟨O, hO⟩ : ∃ O, w1.heap.size = O := ⟨_, rfl⟩
  have HO := Lib.hid (ROut.start (B := fun a => b a ∨ O + 1 ≤ a) HR.out hO)
  obtain ⟨B, hB⟩ : ∃ B : Nat → Prop, B = fun a => b a ∨ O + 1 ≤ a := ⟨_, rfl⟩
  have HBD : Hid (∀ a, B a ↔ (b a ∨ O + 1 ≤ a)) := fun a => by rw [hB]
  rw [← hB] at HO
  have HGO : Hid (G + 1 < O) := by rw [← hO]; exact HR.out.z.lt
  obtain ⟨n0, n1, n2, n3, n4, n5⟩ := nodeC (HR.out.a.X)
  go_upto_region 2 with (fail)
  clear n0 n1 n2 n3 n4 n5
  generalize w1.alloc (.cells #[.int .i64 x.kd, .string ⟨x.tx.toArray⟩, .int .i64 x.nm, .int .i64 (x.at_ : Int), .slice f.na x.ns.length f.nc, .slice none 0 0] 25) = w2 at *
  clear hO hB HR hw1
  obtain ⟨S1, hS1⟩ : ∃ S1, O + 1 = S1 := ⟨_, rfl⟩
  rw [hS1] at HO HBD
  have HOS : Hid (O < S1) := by show _ < _; omega
  have HSG : Hid (w.heap.size < S1) := by have := HG.out; have := HGO.out; show _ < _; omega
  clear hS1
  go_wp2_with fail
  go_loopw [4] (fun i wr => ∃ (k : Nat) (A : Option Addr) (c : Nat), i = .int .i64 (k : Int) ∧ k ≤ x.ks.length ∧ ROut w wr b B G O S1 x f (zsF x.ks x.kd k) A c) (fun i _ => x.ks.length - (intOf i).toNat)
  case atStart => exact ⟨0, none, 0, rfl, Nat.zero_le _, HO.out⟩
  case round =>
   obtain ⟨k, A, c, rfl, hk, har⟩ := hrel
   have HKK := Lib.hid (zs_len x.ks x.kd hk)
   have HR := Lib.hid har
   clear har HO
   by_cases hlt : k < x.ks.length
   ·have HZS := Lib.hid (zs_step x.ks x.kd hlt)
    obtain ⟨ys, hys⟩ : ∃ ys, zsF x.ks x.kd k = ys := ⟨_, rfl⟩
    rw [hys] at HR HKK HZS
    clear hys
    have i0 : (0 : Int) ≤ (k : Int) := by omega
    have i1 : (k : Int) < (x.ks.length : Int) := by omega
    have I2 : Hid ((k : Int) < 100000) := by show _ < _; have := HL.out; omega
    have HK1 : Hid (k ≤ 100000) := by show _ ≤ _; have := HL.out; omega
    obtain ⟨g, fy, eg, hgb, hgl, hcl, ny⟩ := HR.out.r.a.n.row.at_ hlt
    have HIY := Lib.hid (IH.out _ (getD_mem hlt))
    have NY : Hid (NodeIn wr b (x.ks.getD k nd0) fy) := ny.mono fun a ha _ => ha.1
    generalize x.ks.getD k nd0 = y at *
    have HGB : Hid (g < w.heap.size) := HR.out.r.hb g hgb
    have x5 := HR.out.r.a.c5
    have x0 := HR.out.r.a.c0
    rw [eg] at x5
    have X5 := Lib.hid x5
    have HSW : Hid (∀ W, Below wr.heap.size wr W → W.cell? ⟨O, 5, none⟩ = some (.slice A k c) ∧ W.cell? ⟨G, 5, none⟩ = some (.slice (some ⟨g, 0, none⟩) x.ks.length f.kc) ∧ ndCells W g k y fy) := fun W h => ⟨by have := (HR.out.o.below h HR.out.o.lt).cell 5; rw [← HKK.out]; exact this, (World.cell?_of_block (h.block G HR.out.r.a.X.lt)).trans X5.out, hcl.below hgl h⟩
    have CE := Lib.hid (HIY.out wr.drew b fy (fun a ha => Nat.lt_of_lt_of_le (HR.out.r.hb a ha) HR.out.r.a.bel.size) (NY.out.later (Below.refl _ _).drew (Nat.le_refl _)))
    unfold GivesN ndV at CE
    clear ny hcl HIY hgb
    rw [eg]
    clear eg
    go_upto_region 5 with (fail)
    clear i1 x5
    obtain ⟨pat, hpat⟩ : ∃ pat, (x.kd == 11 && k % 2 == 1) = pat := ⟨_, rfl⟩
    have HZP : Hid (bindsB x.kd k = !pat) := by
     show _ = _
     rw [← hpat]
     have hk2 : k % 2 = 0 ∨ k % 2 = 1 := by omega
     unfold bindsB
     rcases hk2 with h | h <;> rw [h] <;> cases (x.kd == 11) <;> rfl
    have HPAT := Lib.hid hpat
    clear hpat
    go_cut [34] (fun u wx => u = .bool pat ∧ wx = wr)
    case first =>
     by_cases h11 : x.kd = 11
     ·have q : (x.kd == 11) = true := beq_iff_eq.2 h11
      have q0 : Hid ((((k : Int) % 2) == 1) = (k % 2 == 1)) := by
       show _ = _; rw [Bool.eq_iff_iff, beq_iff_eq, beq_iff_eq]; omega
      clear h11
      go_wp2_with fail
      go_meet
      exact ⟨congrArg Value.bool (by rw [← HPAT.out, q, Bool.true_and]; exact q0.out), rfl⟩
     ·have q : (x.kd == 11) = false := beq_eq_false_iff_ne.2 h11
      clear h11
      go_wp2_with fail
      go_meet
      exact ⟨congrArg Value.bool (by rw [← HPAT.out, q]; rfl), rfl⟩
    case rest =>
     obtain ⟨rfl, rfl⟩ := hcut
     clear x0
     have i1 : (k : Int) < (x.ks.length : Int) := by omega
     have i2 : (k : Int) < 100000 := I2.out
     rcases pat with _ | _
     ·rw [HZP.out] at HZS
      have HZ2 : Hid (zsF x.ks x.kd (k + 1) = ys ++ [expN y]) := HZS.out
      clear HZS HZP HPAT
      generalize expN y = ye at *
      go_upto_region 7 with (fail)
      refine region_Z (fun W => W.cell? ⟨O, 5, none⟩ = some (.slice A k c) ∧ W.cell? ⟨G, 5, none⟩ = some (.slice (some ⟨g, 0, none⟩) x.ks.length f.kc) ∧ ndCells W g k y fy) (fun i => i == 11) (by kernel_rfl) (HSW.out _ (Below.refl _ _).drew) (fun hHeld => ?_)
      refine tke 0 rfl (v := ?_) ?_ ?_; rotate_left
      ·(intro w hSw; (try dsimp only at hSw); obtain ⟨s1, s2, u0, u1, u2, u3, u4, u5⟩ := hSw; go_simp; try with_reducible rfl)
      (try simp only [Act.put, sZ])
      refine tke 1 rfl (v := ?_) ?_ ?_; rotate_left
      ·(intro w hSw; (try dsimp only at hSw); obtain ⟨s1, s2, u0, u1, u2, u3, u4, u5⟩ := hSw; go_simp; try with_reducible rfl)
      (try simp only [Act.put, sZ])
      refine tke 2 rfl (v := ?_) ?_ ?_; rotate_left
      ·(intro w hSw; (try dsimp only at hSw); obtain ⟨s1, s2, u0, u1, u2, u3, u4, u5⟩ := hSw; go_simp; try with_reducible rfl)
      (try simp only [Act.put, sZ])
      refine tke 3 rfl (v := ?_) ?_ ?_; rotate_left
      ·(intro w hSw; (try dsimp only at hSw); obtain ⟨s1, s2, u0, u1, u2, u3, u4, u5⟩ := hSw; go_simp; try with_reducible rfl)
      (try simp only [Act.put, sZ])
      refine tke 4 rfl (v := ?_) ?_ ?_; rotate_left
      ·(intro w hSw; (try dsimp only at hSw); obtain ⟨s1, s2, u0, u1, u2, u3, u4, u5⟩ := hSw; go_simp; try with_reducible rfl)
      (try simp only [Act.put, sZ])
      refine tke 5 rfl (v := ?_) ?_ ?_; rotate_left
      ·(intro w hSw; (try dsimp only at hSw); obtain ⟨s1, s2, u0, u1, u2, u3, u4, u5⟩ := hSw; go_simp; try with_reducible rfl)
      (try simp only [Act.put, sZ])
      refine tke 6 rfl (v := ?_) ?_ ?_; rotate_left
      ·(intro w hSw; (try dsimp only at hSw); obtain ⟨s1, s2, u0, u1, u2, u3, u4, u5⟩ := hSw; go_simp; try with_reducible rfl)
      (try simp only [Act.put, sZ])
      refine stp 7 rfl (fun K hK => ?_)
      go_simp
      go_at_call 12
      refine CE.out.mono ?_
      rintro e w5 ⟨f5, rfl, n5, b5⟩
      have B5 := Lib.hid ((Below.refl wc.heap.size wc).drew.trans b5)
      have HR5 := Lib.hid (HR.out.later B5.out)
      have HSW5 := Lib.hid (HSW.out _ B5.out)
      have NY5 : Hid (NodeIn w5 (fun a => B a ∧ A ≠ some ⟨a, 0, none⟩) ye f5) := n5.mono fun a ha _ => by
       rcases ha with ha | ha
       ·exact ⟨(HBD.out a).2 (.inl ha), fun e => by have := HR.out.k.lt_ e; have := HR.out.r.hb a ha; have := HSG.out; omega⟩
       ·exact ⟨(HBD.out a).2 (.inr (Nat.le_trans HR.out.s ha)), fun e => by have := HR.out.k.lt_ e; have h3 : wc.heap.size ≤ a := ha; omega⟩
      clear n5 b5 CE
      refine hK.out _ _ (fun _ => HSW5.out) (fun hHeld2 => ?_)
      clear hK K hHeld
      (try simp only [Act.put, sZ])
      have BA : Hid (Below wc.heap.size wc (w5.alloc (.cells (ndL ye f5).toArray 25))) := B5.out.alloc B5.out.size _
      refine stp 8 rfl (fun K hK => ?_)
      go_simp
      refine hK.out _ _ (fun _ => HSW.out _ BA.out) (fun hHeld3 => ?_)
      clear hK K hHeld2
      (try simp only [Act.put, sZ])
      have HRA := Lib.hid (HR5.out.later ((Below.refl w5.heap.size w5).alloc (Nat.le_refl _) (.cells (ndL ye f5).toArray 25)))
      have NYA := Lib.hid (NY5.out.later ((Below.refl w5.heap.size w5).alloc (Nat.le_refl _) (.cells (ndL ye f5).toArray 25)) (Nat.le_refl _))
      obtain ⟨fs, hfl, hown, hfk⟩ := HRA.out.k.own
      have HOWN := Lib.hid hown
      have HFK := Lib.hid hfk
      have HFL := Lib.hid hfl
      have HYS : Hid (ys.length = k) := HKK.out
      rw [HYS.out] at hown
      clear hfk hfl
      refine stp 9 rfl (fun K hK => ?_)
      refine step_app ty_nd (v := .slice A k c) (by rfl) _ _ (by rfl) (by rfl) hown w5.heap.size 1 (ndL ye f5) (by rfl) (Whole.made w5 25 _) (by rfl) (by simp [ndL, Value.oneCell']) (by decide) (by have := HK1.out; omega) (by decide) (by have := HRA.out.s; exact this) ?_
      intro gv cv wd hap
      rw [← HYS.out] at hap
      have HAP := Lib.hid hap
      have HOF : Hid ((Value.slice A ys.length c).ownBlock ≠ some O) := fun e => by have := (HOWN.out.lt O e).1; have := HOS.out; omega
      have ZO := Lib.hid (hap.far HRA.out.o HOF.out)
      have z5 : wd.cell? ⟨O, 5, none⟩ = some (.slice A k c) := by have := ZO.out.cell 5; rw [← HYS.out]; exact this
      have y5 := ZO.out.free 5
      have BD : Hid (Below S1 (w5.alloc (.cells (ndL ye f5).toArray 25)) wd) := hap.below HOWN.out (Below.refl _ _) (Nat.le_refl _) HRA.out.s
      clear hown hap
      have S4 : Hid (wd.cell? ⟨O, 5, none⟩ = some (.slice A k c) ∧ wd.cell? ⟨G, 5, none⟩ = some (.slice (some ⟨g, 0, none⟩) x.ks.length f.kc) ∧ ndCells wd g k y fy) := ⟨z5, (World.cell?_of_block (BD.out.block G (by have := HSG.out; have := HG.out; omega))).trans (HSW.out _ BA.out).2.1, (HSW.out _ BA.out).2.2.below (by have := HSG.out; have := HGB.out; omega) BD.out⟩
      refine hK.out _ _ (fun _ => S4.out) (fun hHeld4 => ?_)
      replace hHeld4 := hHeld4 (by decide)
      clear hK K hHeld3
      (try simp only [Act.put, sZ])
      refine tke 10 rfl (v := ?_) ?_ ?_; rotate_left
      ·(intro w hSw; (try dsimp only at hSw); obtain ⟨s1, s2, u0, u1, u2, u3, u4, u5⟩ := hSw; go_simp; try with_reducible rfl)
      (try simp only [Act.put, sZ])
      refine stp 11 rfl (fun K hK => ?_)
      go_simp
      refine hK.out _ _ (fun h => absurd h (by decide)) (fun _ => ?_)
      refine anyZ_done (by kernel_rfl) ?_ _
      have HRN := Lib.hid (HRA.out.app HGO.out HOS.out HBD.out HG.out HFL.out HOWN.out HFK.out NYA.out HAP.out)
      rw [HYS.out] at HRN
      clear hK K hHeld4 z5 y5 ZO
      generalize wd.setCell ⟨O, 5, none⟩ (.slice (some ⟨gv, 0, none⟩) (k + 1) cv) = wf at *
      go_wp2_with fail
      go_roundw
      case rel => exact ⟨k + 1, some ⟨gv, 0, none⟩, cv, by go_num, by omega, by rw [HZ2.out]; exact HRN.out⟩
      case measure => simp [intOf]; omega
     ·rw [HZP.out] at HZS
      have HZ2 : Hid (zsF x.ks x.kd (k + 1) = ys ++ [y]) := HZS.out
      clear HZS HZP HPAT CE
      go_upto_region 6 with (fail)
      refine region_Z (fun W => W.cell? ⟨O, 5, none⟩ = some (.slice A k c) ∧ W.cell? ⟨G, 5, none⟩ = some (.slice (some ⟨g, 0, none⟩) x.ks.length f.kc) ∧ ndCells W g k y fy) (fun i => i == 10) (by kernel_rfl) (HSW.out _ (Below.refl _ _).drew) (fun hHeld => ?_)
      refine tke 0 rfl (v := ?_) ?_ ?_; rotate_left
      ·(intro w hSw; (try dsimp only at hSw); obtain ⟨s1, s2, u0, u1, u2, u3, u4, u5⟩ := hSw; go_simp; try with_reducible rfl)
      (try simp only [Act.put, sZ])
      refine tke 1 rfl (v := ?_) ?_ ?_; rotate_left
      ·(intro w hSw; (try dsimp only at hSw); obtain ⟨s1, s2, u0, u1, u2, u3, u4, u5⟩ := hSw; go_simp; try with_reducible rfl)
      (try simp only [Act.put, sZ])
      refine tke 2 rfl (v := ?_) ?_ ?_; rotate_left
      ·(intro w hSw; (try dsimp only at hSw); obtain ⟨s1, s2, u0, u1, u2, u3, u4, u5⟩ := hSw; go_simp; try with_reducible rfl)
      (try simp only [Act.put, sZ])
      refine tke 3 rfl (v := ?_) ?_ ?_; rotate_left
      ·(intro w hSw; (try dsimp only at hSw); obtain ⟨s1, s2, u0, u1, u2, u3, u4, u5⟩ := hSw; go_simp; try with_reducible rfl)
      (try simp only [Act.put, sZ])
      refine tke 4 rfl (v := ?_) ?_ ?_; rotate_left
      ·(intro w hSw; (try dsimp only at hSw); obtain ⟨s1, s2, u0, u1, u2, u3, u4, u5⟩ := hSw; go_simp; try with_reducible rfl)
      (try simp only [Act.put, sZ])
      refine tke 5 rfl (v := ?_) ?_ ?_; rotate_left
      ·(intro w hSw; (try dsimp only at hSw); obtain ⟨s1, s2, u0, u1, u2, u3, u4, u5⟩ := hSw; go_simp; try with_reducible rfl)
      (try simp only [Act.put, sZ])
      refine tke 6 rfl (v := ?_) ?_ ?_; rotate_left
      ·(intro w hSw; (try dsimp only at hSw); obtain ⟨s1, s2, u0, u1, u2, u3, u4, u5⟩ := hSw; go_simp; try with_reducible rfl)
      (try simp only [Act.put, sZ])
      have B5 : Hid (Below wc.heap.size wc wc.drew) := (Below.refl wc.heap.size wc).drew
      have HR5 := Lib.hid (HR.out.later B5.out)
      have NY5 : Hid (NodeIn wc.drew (fun a => B a ∧ A ≠ some ⟨a, 0, none⟩) y fy) := (NY.out.later B5.out (Nat.le_refl _)).mono fun a ha _ => ⟨(HBD.out a).2 (.inl ha), fun e => by have := HR.out.k.lt_ e; have := HR.out.r.hb a ha; have := HSG.out; omega⟩
      obtain ⟨w5, hw5⟩ : ∃ w5, wc.drew = w5 := ⟨_, rfl⟩
      rw [hw5] at HR5 NY5 B5 ⊢
      have HSW5 := Lib.hid (HSW.out _ B5.out)
      clear hw5
      generalize fy = f5 at *
      have BA : Hid (Below wc.heap.size wc (w5.alloc (.cells (ndL y f5).toArray 25))) := B5.out.alloc B5.out.size _
      refine stp 7 rfl (fun K hK => ?_)
      go_simp
      refine hK.out _ _ (fun _ => HSW.out _ BA.out) (fun hHeld3 => ?_)
      clear hK K hHeld
      (try simp only [Act.put, sZ])
      have HRA := Lib.hid (HR5.out.later ((Below.refl w5.heap.size w5).alloc (Nat.le_refl _) (.cells (ndL y f5).toArray 25)))
      have NYA := Lib.hid (NY5.out.later ((Below.refl w5.heap.size w5).alloc (Nat.le_refl _) (.cells (ndL y f5).toArray 25)) (Nat.le_refl _))
      obtain ⟨fs, hfl, hown, hfk⟩ := HRA.out.k.own
      have HOWN := Lib.hid hown
      have HFK := Lib.hid hfk
      have HFL := Lib.hid hfl
      have HYS : Hid (ys.length = k) := HKK.out
      rw [HYS.out] at hown
      clear hfk hfl
      refine stp 8 rfl (fun K hK => ?_)
      refine step_app ty_nd (v := .slice A k c) (by rfl) _ _ (by rfl) (by rfl) hown w5.heap.size 1 (ndL y f5) (by rfl) (Whole.made w5 25 _) (by rfl) (by simp [ndL, Value.oneCell']) (by decide) (by have := HK1.out; omega) (by decide) (by have := HRA.out.s; exact this) ?_
      intro gv cv wd hap
      rw [← HYS.out] at hap
      have HAP := Lib.hid hap
      have HOF : Hid ((Value.slice A ys.length c).ownBlock ≠ some O) := fun e => by have := (HOWN.out.lt O e).1; have := HOS.out; omega
      have ZO := Lib.hid (hap.far HRA.out.o HOF.out)
      have z5 : wd.cell? ⟨O, 5, none⟩ = some (.slice A k c) := by have := ZO.out.cell 5; rw [← HYS.out]; exact this
      have y5 := ZO.out.free 5
      have BD : Hid (Below S1 (w5.alloc (.cells (ndL y f5).toArray 25)) wd) := hap.below HOWN.out (Below.refl _ _) (Nat.le_refl _) HRA.out.s
      clear hown hap
      have S4 : Hid (wd.cell? ⟨O, 5, none⟩ = some (.slice A k c) ∧ wd.cell? ⟨G, 5, none⟩ = some (.slice (some ⟨g, 0, none⟩) x.ks.length f.kc) ∧ ndCells wd g k y f5) := ⟨z5, (World.cell?_of_block (BD.out.block G (by have := HSG.out; have := HG.out; omega))).trans (HSW.out _ BA.out).2.1, (HSW.out _ BA.out).2.2.below (by have := HSG.out; have := HGB.out; omega) BD.out⟩
      refine hK.out _ _ (fun _ => S4.out) (fun hHeld4 => ?_)
      replace hHeld4 := hHeld4 (by decide)
      clear hK K hHeld3
      (try simp only [Act.put, sZ])
      refine tke 9 rfl (v := ?_) ?_ ?_; rotate_left
      ·(intro w hSw; (try dsimp only at hSw); obtain ⟨s1, s2, u0, u1, u2, u3, u4, u5⟩ := hSw; go_simp; try with_reducible rfl)
      (try simp only [Act.put, sZ])
      refine stp 10 rfl (fun K hK => ?_)
      go_simp
      refine hK.out _ _ (fun h => absurd h (by decide)) (fun _ => ?_)
      refine anyZ_done (by kernel_rfl) ?_ _
      have HRN := Lib.hid (HRA.out.app HGO.out HOS.out HBD.out HG.out HFL.out HOWN.out HFK.out NYA.out HAP.out)
      rw [HYS.out] at HRN
      clear hK K hHeld4 z5 y5 ZO
      generalize wd.setCell ⟨O, 5, none⟩ (.slice (some ⟨gv, 0, none⟩) (k + 1) cv) = wf at *
      go_wp2_with fail
      go_roundw
      case rel => exact ⟨k + 1, some ⟨gv, 0, none⟩, cv, by go_num, by omega, by rw [HZ2.out]; exact HRN.out⟩
      case measure => simp [intOf]; omega
   ·have i1 : ¬ (k : Int) < (x.ks.length : Int) := by omega
    obtain rfl : k = x.ks.length := by omega
    rw [zs_end] at HR HKK
    clear hlt hk
    have x5 := HR.out.r.a.c5
    obtain ⟨ys, hys⟩ : ∃ ys, expK x.ks x.kd 0 = ys := ⟨_, rfl⟩
    rw [hys] at HR HKK HEN HWX
    clear hys
    go_upto_region 8 with (fail)
    clear x5 i1
    have HO := Lib.hid HR.out.o
    have HND := Lib.hid (HR.out.node HBD.out)
    have HRR := Lib.hid HR.out.r
    have HSS : Hid (S1 ≤ wr.heap.size) := HR.out.s
    have HGS : Hid (G + 1 < S1) := by show _ < _; have := HGO.out; have := HOS.out; omega
    have o5 : wr.cell? ⟨O, 5, none⟩ = some (.slice A ys.length c) := HO.out.cell 5
    have x0 := HR.out.r.a.c0
    clear HR HKK
    go_upto_region 10 with (fail)
    clear o5 x0
    by_cases h13 : x.kd = 13
    ·obtain ⟨p, q, hks⟩ := HWX.out.two (.inl h13)
     have HEQ0 : Hid (opN (.mk x.kd x.tx x.nm x.at_ x.ns ys) p q = res) := (red_op (x := .mk x.kd x.tx x.nm x.at_ x.ns ys) h13 hks).symm.trans HEN.out.symm
     have CO := Lib.hid (refop_any (.mk x.kd x.tx x.nm x.at_ x.ns ys) p q hks (HWX.out.ks p (by rw [hks]; simp)).tx (HWX.out.ks q (by rw [hks]; simp)).tx wr (fun a => B a ∧ a < wr.heap.size) ⟨f.na, f.nc, A, c⟩ (fun a ha => ha.2) (HND.out.mono fun a ha hl => ⟨ha, hl⟩))
     rw [HEQ0.out] at CO
     unfold GivesN ndV at CO
     simp only [kd_mk, tx_mk, nm_mk, at_mk, ns_mk, ks_mk] at CO
     have q13 : (x.kd == 13) = true := beq_iff_eq.2 h13
     clear h13 hks
     have n0 : wr.cell? ⟨O, 0, none⟩ = some (.int .i64 x.kd) := HO.out.cell 0
     have n1 : wr.cell? ⟨O, 1, none⟩ = some (.string ⟨x.tx.toArray⟩) := HO.out.cell 1
     have n2 : wr.cell? ⟨O, 2, none⟩ = some (.int .i64 x.nm) := HO.out.cell 2
     have n3 : wr.cell? ⟨O, 3, none⟩ = some (.int .i64 (x.at_ : Int)) := HO.out.cell 3
     have n4 : wr.cell? ⟨O, 4, none⟩ = some (.slice f.na x.ns.length f.nc) := HO.out.cell 4
     have n5 : wr.cell? ⟨O, 5, none⟩ = some (.slice A ys.length c) := HO.out.cell 5
     go_wp2_with fail
     refine CO.out.mono ?_
     rintro e w5 ⟨f5, rfl, nn, b5⟩
     have HR5 := Lib.hid (HRR.out.later b5)
     have HN5 : Hid (NodeIn w5 B res f5) := nn.mono fun a ha _ => by
      rcases ha with ha | ha
      ·exact ha.1
      ·exact (HBD.out a).2 (.inr (Nat.le_trans HSS.out ha))
     clear nn b5 CO n0 n1 n2 n3 n4 n5 HRR HND HO HEN
     obtain ⟨z0, z1, z2, z3, z4, z5⟩ := zeroC (HR5.out.z)
     obtain ⟨y0, y1, y2, y3, y4, y5⟩ := freeC (HR5.out.z)
     go_wp2_with fail
     have HZF : Hid (Whole ((((((w5.setCell ⟨(G + 1), 0, none⟩ (.int .i64 res.kd)).setCell ⟨(G + 1), 1, none⟩ (.string ⟨res.tx.toArray⟩)).setCell ⟨(G + 1), 2, none⟩ (.int .i64 res.nm)).setCell ⟨(G + 1), 3, none⟩ (.int .i64 (res.at_ : Int))).setCell ⟨(G + 1), 4, none⟩ (.slice f5.na res.ns.length f5.nc)).setCell ⟨(G + 1), 5, none⟩ (.slice f5.ka res.ks.length f5.kc)) (G + 1) 25 #[.int .i64 res.kd, .string ⟨res.tx.toArray⟩, .int .i64 res.nm, .int .i64 (res.at_ : Int), .slice f5.na res.ns.length f5.nc, .slice f5.ka res.ks.length f5.kc]) := put6 HR5.out.z _ _ _ _ _ _
     have HBF : Hid (But (G + 1) w5.heap.size w5 ((((((w5.setCell ⟨(G + 1), 0, none⟩ (.int .i64 res.kd)).setCell ⟨(G + 1), 1, none⟩ (.string ⟨res.tx.toArray⟩)).setCell ⟨(G + 1), 2, none⟩ (.int .i64 res.nm)).setCell ⟨(G + 1), 3, none⟩ (.int .i64 (res.at_ : Int))).setCell ⟨(G + 1), 4, none⟩ (.slice f5.na res.ns.length f5.nc)).setCell ⟨(G + 1), 5, none⟩ (.slice f5.ka res.ks.length f5.kc))) := but6 _ _ _ _ _ _ _ _
     generalize ((((((w5.setCell ⟨(G + 1), 0, none⟩ (.int .i64 res.kd)).setCell ⟨(G + 1), 1, none⟩ (.string ⟨res.tx.toArray⟩)).setCell ⟨(G + 1), 2, none⟩ (.int .i64 res.nm)).setCell ⟨(G + 1), 3, none⟩ (.int .i64 (res.at_ : Int))).setCell ⟨(G + 1), 4, none⟩ (.slice f5.na res.ns.length f5.nc)).setCell ⟨(G + 1), 5, none⟩ (.slice f5.ka res.ks.length f5.kc)) = wf at *
     obtain ⟨g0, g1, g2, g3, g4, g5⟩ := cells6 HZF.out
     exact bodyPost_ret (v := ndV (res) f5) (by simp [results, Try.results12, go_sem, ndV, Nd.kd, Nd.tx, Nd.nm, Nd.at_, Nd.ns, Nd.ks, fr0, nd0, g0, g1, g2, g3, g4, g5]) rfl ⟨f5, rfl, exp_fin HBD.out HGS.out HG.out HR5.out.hb HR5.out.a.bel HN5.out HBF.out⟩
    ·have q13 : (x.kd == 13) = false := beq_eq_false_iff_ne.2 h13
     by_cases h10 : x.kd = 10
     ·obtain ⟨p, q, r, hks⟩ := HWX.out.three h10
      have HRE := Lib.hid (HEN.out.trans (red_if (x := .mk x.kd x.tx x.nm x.at_ x.ns ys) h10 hks))
      have q10 : (x.kd == 10) = true := beq_iff_eq.2 h10
      obtain ⟨g, fp, fq, fr, eA, ⟨hgl, hgb⟩, hc0, hc1, hc2, np, nq, nr⟩ := kids3 HND.out hks
      have eA2 : A = some ⟨g, 0, none⟩ := eA
      have hl3 : ys.length = 3 := by have h := congrArg List.length hks; exact h
      have HC0 := Lib.hid hc0
      have HC1 := Lib.hid hc1
      have HC2 := Lib.hid hc2
      have HNQ := Lib.hid nq
      have HNR := Lib.hid nr
      have HO3 := Lib.hid HO.out
      have HA2 := Lib.hid eA2
      have HL3 := Lib.hid hl3
      rw [eA2, hl3] at HO3 ⊢
      obtain ⟨k0, k1, k2, k3, k4, k5⟩ := HC0.out
      clear h13 h10 eA eA2 hl3 hc0 hc1 hc2 np nq nr hgb
      by_cases h5 : p.kd = 5
      ·have q5 : (p.kd == 5) = true := beq_iff_eq.2 h5
       rw [q5] at HRE
       rw [h5] at k0
       clear h5 q5
       by_cases hl : p.ks = []
       ·rw [hl] at HRE
        have hl2 : p.ks.length = 0 := by rw [hl]; rfl
        rw [hl2] at k5
        clear hl hl2
        by_cases ht : p.tx = [84, 114, 117, 101]
        ·have HEQ : Hid (res = q) := by show _ = _; rw [HRE.out, ht]; rfl
         rw [ht] at k1
         clear ht HRE
         obtain ⟨d0, d1, d2, d3, d4, d5⟩ := HC1.out
         obtain ⟨z0, z1, z2, z3, z4, z5⟩ := zeroC (HRR.out.z)
         obtain ⟨y0, y1, y2, y3, y4, y5⟩ := freeC (HRR.out.z)
         go_wp2_with fail
         have HZF : Hid (Whole ((((((wr.setCell ⟨(G + 1), 0, none⟩ (.int .i64 q.kd)).setCell ⟨(G + 1), 1, none⟩ (.string ⟨q.tx.toArray⟩)).setCell ⟨(G + 1), 2, none⟩ (.int .i64 q.nm)).setCell ⟨(G + 1), 3, none⟩ (.int .i64 (q.at_ : Int))).setCell ⟨(G + 1), 4, none⟩ (.slice fq.na q.ns.length fq.nc)).setCell ⟨(G + 1), 5, none⟩ (.slice fq.ka q.ks.length fq.kc)) (G + 1) 25 #[.int .i64 q.kd, .string ⟨q.tx.toArray⟩, .int .i64 q.nm, .int .i64 (q.at_ : Int), .slice fq.na q.ns.length fq.nc, .slice fq.ka q.ks.length fq.kc]) := put6 HRR.out.z _ _ _ _ _ _
         have HBF : Hid (But (G + 1) wr.heap.size wr ((((((wr.setCell ⟨(G + 1), 0, none⟩ (.int .i64 q.kd)).setCell ⟨(G + 1), 1, none⟩ (.string ⟨q.tx.toArray⟩)).setCell ⟨(G + 1), 2, none⟩ (.int .i64 q.nm)).setCell ⟨(G + 1), 3, none⟩ (.int .i64 (q.at_ : Int))).setCell ⟨(G + 1), 4, none⟩ (.slice fq.na q.ns.length fq.nc)).setCell ⟨(G + 1), 5, none⟩ (.slice fq.ka q.ks.length fq.kc))) := but6 _ _ _ _ _ _ _ _
         generalize ((((((wr.setCell ⟨(G + 1), 0, none⟩ (.int .i64 q.kd)).setCell ⟨(G + 1), 1, none⟩ (.string ⟨q.tx.toArray⟩)).setCell ⟨(G + 1), 2, none⟩ (.int .i64 q.nm)).setCell ⟨(G + 1), 3, none⟩ (.int .i64 (q.at_ : Int))).setCell ⟨(G + 1), 4, none⟩ (.slice fq.na q.ns.length fq.nc)).setCell ⟨(G + 1), 5, none⟩ (.slice fq.ka q.ks.length fq.kc)) = wf at *
         obtain ⟨g0, g1, g2, g3, g4, g5⟩ := cells6 HZF.out
         exact bodyPost_ret (v := ndV (q) fq) (by simp [results, Try.results12, go_sem, ndV, Nd.kd, Nd.tx, Nd.nm, Nd.at_, Nd.ns, Nd.ks, fr0, nd0, g0, g1, g2, g3, g4, g5]) rfl ⟨fq, by rw [HEQ.out]; rfl, by rw [HEQ.out]; exact exp_fin HBD.out HGS.out HG.out HRR.out.hb HRR.out.a.bel HNQ.out HBF.out⟩
        ·by_cases hf : p.tx = [70, 97, 108, 115, 101]
         ·have HEQ : Hid (res = r) := by show _ = _; rw [HRE.out, hf]; rfl
          rw [hf] at k1
          clear ht hf HRE
          obtain ⟨d0, d1, d2, d3, d4, d5⟩ := HC2.out
          obtain ⟨z0, z1, z2, z3, z4, z5⟩ := zeroC (HRR.out.z)
          obtain ⟨y0, y1, y2, y3, y4, y5⟩ := freeC (HRR.out.z)
          go_wp2_with fail
          have HZF : Hid (Whole ((((((wr.setCell ⟨(G + 1), 0, none⟩ (.int .i64 r.kd)).setCell ⟨(G + 1), 1, none⟩ (.string ⟨r.tx.toArray⟩)).setCell ⟨(G + 1), 2, none⟩ (.int .i64 r.nm)).setCell ⟨(G + 1), 3, none⟩ (.int .i64 (r.at_ : Int))).setCell ⟨(G + 1), 4, none⟩ (.slice fr.na r.ns.length fr.nc)).setCell ⟨(G + 1), 5, none⟩ (.slice fr.ka r.ks.length fr.kc)) (G + 1) 25 #[.int .i64 r.kd, .string ⟨r.tx.toArray⟩, .int .i64 r.nm, .int .i64 (r.at_ : Int), .slice fr.na r.ns.length fr.nc, .slice fr.ka r.ks.length fr.kc]) := put6 HRR.out.z _ _ _ _ _ _
          have HBF : Hid (But (G + 1) wr.heap.size wr ((((((wr.setCell ⟨(G + 1), 0, none⟩ (.int .i64 r.kd)).setCell ⟨(G + 1), 1, none⟩ (.string ⟨r.tx.toArray⟩)).setCell ⟨(G + 1), 2, none⟩ (.int .i64 r.nm)).setCell ⟨(G + 1), 3, none⟩ (.int .i64 (r.at_ : Int))).setCell ⟨(G + 1), 4, none⟩ (.slice fr.na r.ns.length fr.nc)).setCell ⟨(G + 1), 5, none⟩ (.slice fr.ka r.ks.length fr.kc))) := but6 _ _ _ _ _ _ _ _
          generalize ((((((wr.setCell ⟨(G + 1), 0, none⟩ (.int .i64 r.kd)).setCell ⟨(G + 1), 1, none⟩ (.string ⟨r.tx.toArray⟩)).setCell ⟨(G + 1), 2, none⟩ (.int .i64 r.nm)).setCell ⟨(G + 1), 3, none⟩ (.int .i64 (r.at_ : Int))).setCell ⟨(G + 1), 4, none⟩ (.slice fr.na r.ns.length fr.nc)).setCell ⟨(G + 1), 5, none⟩ (.slice fr.ka r.ks.length fr.kc)) = wf at *
          obtain ⟨g0, g1, g2, g3, g4, g5⟩ := cells6 HZF.out
          exact bodyPost_ret (v := ndV (r) fr) (by simp [results, Try.results12, go_sem, ndV, Nd.kd, Nd.tx, Nd.nm, Nd.at_, Nd.ns, Nd.ks, fr0, nd0, g0, g1, g2, g3, g4, g5]) rfl ⟨fr, by rw [HEQ.out]; rfl, by rw [HEQ.out]; exact exp_fin HBD.out HGS.out HG.out HRR.out.hb HRR.out.a.bel HNR.out HBF.out⟩
         ·have e1 : (p.tx == [84, 114, 117, 101]) = false := beq_eq_false_iff_ne.2 ht
          have e2 : (p.tx == [70, 97, 108, 115, 101]) = false := beq_eq_false_iff_ne.2 hf
          have HEQ : Hid (res = .mk x.kd x.tx x.nm x.at_ x.ns ys) := by show _ = _; rw [HRE.out, e1, e2]; rfl
          clear ht hf HRE
          have n0 : wr.cell? ⟨O, 0, none⟩ = some (.int .i64 x.kd) := HO3.out.cell 0
          have n1 : wr.cell? ⟨O, 1, none⟩ = some (.string ⟨x.tx.toArray⟩) := HO3.out.cell 1
          have n2 : wr.cell? ⟨O, 2, none⟩ = some (.int .i64 x.nm) := HO3.out.cell 2
          have n3 : wr.cell? ⟨O, 3, none⟩ = some (.int .i64 (x.at_ : Int)) := HO3.out.cell 3
          have n4 : wr.cell? ⟨O, 4, none⟩ = some (.slice f.na x.ns.length f.nc) := HO3.out.cell 4
          have n5 : wr.cell? ⟨O, 5, none⟩ = some (.slice (some ⟨g, 0, none⟩) 3 c) := HO3.out.cell 5
          obtain ⟨z0, z1, z2, z3, z4, z5⟩ := zeroC (HRR.out.z)
          obtain ⟨y0, y1, y2, y3, y4, y5⟩ := freeC (HRR.out.z)
          go_wp2_with fail
          have HZF : Hid (Whole ((((((wr.setCell ⟨(G + 1), 0, none⟩ (.int .i64 x.kd)).setCell ⟨(G + 1), 1, none⟩ (.string ⟨x.tx.toArray⟩)).setCell ⟨(G + 1), 2, none⟩ (.int .i64 x.nm)).setCell ⟨(G + 1), 3, none⟩ (.int .i64 (x.at_ : Int))).setCell ⟨(G + 1), 4, none⟩ (.slice f.na x.ns.length f.nc)).setCell ⟨(G + 1), 5, none⟩ (.slice (some ⟨g, 0, none⟩) 3 c)) (G + 1) 25 #[.int .i64 x.kd, .string ⟨x.tx.toArray⟩, .int .i64 x.nm, .int .i64 (x.at_ : Int), .slice f.na x.ns.length f.nc, .slice (some ⟨g, 0, none⟩) 3 c]) := put6 HRR.out.z _ _ _ _ _ _
          have HBF : Hid (But (G + 1) wr.heap.size wr ((((((wr.setCell ⟨(G + 1), 0, none⟩ (.int .i64 x.kd)).setCell ⟨(G + 1), 1, none⟩ (.string ⟨x.tx.toArray⟩)).setCell ⟨(G + 1), 2, none⟩ (.int .i64 x.nm)).setCell ⟨(G + 1), 3, none⟩ (.int .i64 (x.at_ : Int))).setCell ⟨(G + 1), 4, none⟩ (.slice f.na x.ns.length f.nc)).setCell ⟨(G + 1), 5, none⟩ (.slice (some ⟨g, 0, none⟩) 3 c))) := but6 _ _ _ _ _ _ _ _
          generalize ((((((wr.setCell ⟨(G + 1), 0, none⟩ (.int .i64 x.kd)).setCell ⟨(G + 1), 1, none⟩ (.string ⟨x.tx.toArray⟩)).setCell ⟨(G + 1), 2, none⟩ (.int .i64 x.nm)).setCell ⟨(G + 1), 3, none⟩ (.int .i64 (x.at_ : Int))).setCell ⟨(G + 1), 4, none⟩ (.slice f.na x.ns.length f.nc)).setCell ⟨(G + 1), 5, none⟩ (.slice (some ⟨g, 0, none⟩) 3 c)) = wf at *
          obtain ⟨g0, g1, g2, g3, g4, g5⟩ := cells6 HZF.out
          exact bodyPost_ret (v := ndV (.mk x.kd x.tx x.nm x.at_ x.ns ys) ⟨f.na, f.nc, A, c⟩) (by simp [results, Try.results12, go_sem, ndV, Nd.kd, Nd.tx, Nd.nm, Nd.at_, Nd.ns, Nd.ks, HA2.out, HL3.out, fr0, nd0, g0, g1, g2, g3, g4, g5]) rfl ⟨⟨f.na, f.nc, A, c⟩, by rw [HEQ.out]; rfl, by rw [HEQ.out]; exact exp_fin HBD.out HGS.out HG.out HRR.out.hb HRR.out.a.bel HND.out HBF.out⟩
       ·have HEQ : Hid (res = .mk x.kd x.tx x.nm x.at_ x.ns ys) := by
         show _ = _
         have : p.ks.isEmpty = false := by cases hp : p.ks with
          | nil => exact absurd hp hl
          | cons a l => rfl
         rw [HRE.out, this]; rfl
        have hz0 : ¬ (p.ks.length : Int) = 0 := by have := List.length_pos_iff.2 hl; omega
        have hz1 : ((p.ks.length : Int) == 0) = false := by simpa using hz0
        clear HRE hl
        have n0 : wr.cell? ⟨O, 0, none⟩ = some (.int .i64 x.kd) := HO3.out.cell 0
        have n1 : wr.cell? ⟨O, 1, none⟩ = some (.string ⟨x.tx.toArray⟩) := HO3.out.cell 1
        have n2 : wr.cell? ⟨O, 2, none⟩ = some (.int .i64 x.nm) := HO3.out.cell 2
        have n3 : wr.cell? ⟨O, 3, none⟩ = some (.int .i64 (x.at_ : Int)) := HO3.out.cell 3
        have n4 : wr.cell? ⟨O, 4, none⟩ = some (.slice f.na x.ns.length f.nc) := HO3.out.cell 4
        have n5 : wr.cell? ⟨O, 5, none⟩ = some (.slice (some ⟨g, 0, none⟩) 3 c) := HO3.out.cell 5
        obtain ⟨z0, z1, z2, z3, z4, z5⟩ := zeroC (HRR.out.z)
        obtain ⟨y0, y1, y2, y3, y4, y5⟩ := freeC (HRR.out.z)
        go_wp2_with fail
        have HZF : Hid (Whole ((((((wr.setCell ⟨(G + 1), 0, none⟩ (.int .i64 x.kd)).setCell ⟨(G + 1), 1, none⟩ (.string ⟨x.tx.toArray⟩)).setCell ⟨(G + 1), 2, none⟩ (.int .i64 x.nm)).setCell ⟨(G + 1), 3, none⟩ (.int .i64 (x.at_ : Int))).setCell ⟨(G + 1), 4, none⟩ (.slice f.na x.ns.length f.nc)).setCell ⟨(G + 1), 5, none⟩ (.slice (some ⟨g, 0, none⟩) 3 c)) (G + 1) 25 #[.int .i64 x.kd, .string ⟨x.tx.toArray⟩, .int .i64 x.nm, .int .i64 (x.at_ : Int), .slice f.na x.ns.length f.nc, .slice (some ⟨g, 0, none⟩) 3 c]) := put6 HRR.out.z _ _ _ _ _ _
        have HBF : Hid (But (G + 1) wr.heap.size wr ((((((wr.setCell ⟨(G + 1), 0, none⟩ (.int .i64 x.kd)).setCell ⟨(G + 1), 1, none⟩ (.string ⟨x.tx.toArray⟩)).setCell ⟨(G + 1), 2, none⟩ (.int .i64 x.nm)).setCell ⟨(G + 1), 3, none⟩ (.int .i64 (x.at_ : Int))).setCell ⟨(G + 1), 4, none⟩ (.slice f.na x.ns.length f.nc)).setCell ⟨(G + 1), 5, none⟩ (.slice (some ⟨g, 0, none⟩) 3 c))) := but6 _ _ _ _ _ _ _ _
        generalize ((((((wr.setCell ⟨(G + 1), 0, none⟩ (.int .i64 x.kd)).setCell ⟨(G + 1), 1, none⟩ (.string ⟨x.tx.toArray⟩)).setCell ⟨(G + 1), 2, none⟩ (.int .i64 x.nm)).setCell ⟨(G + 1), 3, none⟩ (.int .i64 (x.at_ : Int))).setCell ⟨(G + 1), 4, none⟩ (.slice f.na x.ns.length f.nc)).setCell ⟨(G + 1), 5, none⟩ (.slice (some ⟨g, 0, none⟩) 3 c)) = wf at *
        obtain ⟨g0, g1, g2, g3, g4, g5⟩ := cells6 HZF.out
        exact bodyPost_ret (v := ndV (.mk x.kd x.tx x.nm x.at_ x.ns ys) ⟨f.na, f.nc, A, c⟩) (by simp [results, Try.results12, go_sem, ndV, Nd.kd, Nd.tx, Nd.nm, Nd.at_, Nd.ns, Nd.ks, HA2.out, HL3.out, fr0, nd0, g0, g1, g2, g3, g4, g5]) rfl ⟨⟨f.na, f.nc, A, c⟩, by rw [HEQ.out]; rfl, by rw [HEQ.out]; exact exp_fin HBD.out HGS.out HG.out HRR.out.hb HRR.out.a.bel HND.out HBF.out⟩
      ·have q5 : (p.kd == 5) = false := beq_eq_false_iff_ne.2 h5
       have HEQ : Hid (res = .mk x.kd x.tx x.nm x.at_ x.ns ys) := by show _ = _; rw [HRE.out, q5]; rfl
       clear h5 HRE
       have n0 : wr.cell? ⟨O, 0, none⟩ = some (.int .i64 x.kd) := HO3.out.cell 0
       have n1 : wr.cell? ⟨O, 1, none⟩ = some (.string ⟨x.tx.toArray⟩) := HO3.out.cell 1
       have n2 : wr.cell? ⟨O, 2, none⟩ = some (.int .i64 x.nm) := HO3.out.cell 2
       have n3 : wr.cell? ⟨O, 3, none⟩ = some (.int .i64 (x.at_ : Int)) := HO3.out.cell 3
       have n4 : wr.cell? ⟨O, 4, none⟩ = some (.slice f.na x.ns.length f.nc) := HO3.out.cell 4
       have n5 : wr.cell? ⟨O, 5, none⟩ = some (.slice (some ⟨g, 0, none⟩) 3 c) := HO3.out.cell 5
       obtain ⟨z0, z1, z2, z3, z4, z5⟩ := zeroC (HRR.out.z)
       obtain ⟨y0, y1, y2, y3, y4, y5⟩ := freeC (HRR.out.z)
       go_wp2_with fail
       have HZF : Hid (Whole ((((((wr.setCell ⟨(G + 1), 0, none⟩ (.int .i64 x.kd)).setCell ⟨(G + 1), 1, none⟩ (.string ⟨x.tx.toArray⟩)).setCell ⟨(G + 1), 2, none⟩ (.int .i64 x.nm)).setCell ⟨(G + 1), 3, none⟩ (.int .i64 (x.at_ : Int))).setCell ⟨(G + 1), 4, none⟩ (.slice f.na x.ns.length f.nc)).setCell ⟨(G + 1), 5, none⟩ (.slice (some ⟨g, 0, none⟩) 3 c)) (G + 1) 25 #[.int .i64 x.kd, .string ⟨x.tx.toArray⟩, .int .i64 x.nm, .int .i64 (x.at_ : Int), .slice f.na x.ns.length f.nc, .slice (some ⟨g, 0, none⟩) 3 c]) := put6 HRR.out.z _ _ _ _ _ _
       have HBF : Hid (But (G + 1) wr.heap.size wr ((((((wr.setCell ⟨(G + 1), 0, none⟩ (.int .i64 x.kd)).setCell ⟨(G + 1), 1, none⟩ (.string ⟨x.tx.toArray⟩)).setCell ⟨(G + 1), 2, none⟩ (.int .i64 x.nm)).setCell ⟨(G + 1), 3, none⟩ (.int .i64 (x.at_ : Int))).setCell ⟨(G + 1), 4, none⟩ (.slice f.na x.ns.length f.nc)).setCell ⟨(G + 1), 5, none⟩ (.slice (some ⟨g, 0, none⟩) 3 c))) := but6 _ _ _ _ _ _ _ _
       generalize ((((((wr.setCell ⟨(G + 1), 0, none⟩ (.int .i64 x.kd)).setCell ⟨(G + 1), 1, none⟩ (.string ⟨x.tx.toArray⟩)).setCell ⟨(G + 1), 2, none⟩ (.int .i64 x.nm)).setCell ⟨(G + 1), 3, none⟩ (.int .i64 (x.at_ : Int))).setCell ⟨(G + 1), 4, none⟩ (.slice f.na x.ns.length f.nc)).setCell ⟨(G + 1), 5, none⟩ (.slice (some ⟨g, 0, none⟩) 3 c)) = wf at *
       obtain ⟨g0, g1, g2, g3, g4, g5⟩ := cells6 HZF.out
       exact bodyPost_ret (v := ndV (.mk x.kd x.tx x.nm x.at_ x.ns ys) ⟨f.na, f.nc, A, c⟩) (by simp [results, Try.results12, go_sem, ndV, Nd.kd, Nd.tx, Nd.nm, Nd.at_, Nd.ns, Nd.ks, HA2.out, HL3.out, fr0, nd0, g0, g1, g2, g3, g4, g5]) rfl ⟨⟨f.na, f.nc, A, c⟩, by rw [HEQ.out]; rfl, by rw [HEQ.out]; exact exp_fin HBD.out HGS.out HG.out HRR.out.hb HRR.out.a.bel HND.out HBF.out⟩
     ·have q10 : (x.kd == 10) = false := beq_eq_false_iff_ne.2 h10
      by_cases h89 : x.kd = 8 ∨ x.kd = 9
      ·obtain ⟨p, q, hks⟩ := HWX.out.two (.inr (by rcases h89 with h | h <;> simp [kd_mk, h]))
       have HRE := Lib.hid (HEN.out.trans (red_let (x := .mk x.kd x.tx x.nm x.at_ x.ns ys) h89 hks))
       have q89 : (x.kd == 8) = true ∨ ((x.kd == 8) = false ∧ (x.kd == 9) = true) := by
        by_cases h8 : x.kd = 8
        ·exact .inl (beq_iff_eq.2 h8)
        ·exact .inr ⟨beq_eq_false_iff_ne.2 h8, beq_iff_eq.2 (h89.resolve_left h8)⟩
       have CS := Lib.hid (rstill_any p (HWX.out.ks p (by rw [hks]; simp)))
       have CQ := Lib.hid (occ_any q (HWX.out.ks q (by rw [hks]; simp)))
       obtain ⟨g, fp, fq, eA, ⟨hgl, hgb⟩, hc0, hc1, np, nq⟩ := kids2 HND.out hks
       have eA2 : A = some ⟨g, 0, none⟩ := eA
       have hl3 : ys.length = 2 := by have h := congrArg List.length hks; exact h
       have HC0 := Lib.hid hc0
       have HC1 := Lib.hid hc1
       have HNP := Lib.hid np
       have HNQ := Lib.hid nq
       have HO3 := Lib.hid HO.out
       have HA2 := Lib.hid eA2
       have HL3 := Lib.hid hl3
       rw [eA2, hl3] at HO3 ⊢
       obtain ⟨k0, k1, k2, k3, k4, k5⟩ := HC0.out
       clear eA eA2 hl3 hc0 hc1 np nq hgb hks
       obtain ⟨t8, h8⟩ : ∃ t8, (x.kd == 8) = t8 := ⟨_, rfl⟩
       rw [h8] at q89
       have C1 := Lib.hid (CS.out wr _ fp HNP.out)
       unfold ndV at C1
       rcases t8 with _ | _
       ·have q9 : (x.kd == 9) = true := q89.elim (fun h => by cases h) (fun h => h.2)
        clear q89 h89 h13 h10
        go_wp2_with fail
        refine C1.out.mono ?_
        rintro e w5 ⟨rfl, b5⟩
        have HR5 := Lib.hid (HRR.out.later b5)
        have HO5 := Lib.hid (HO3.out.below b5 HO3.out.lt)
        have HN5 := Lib.hid (HND.out.later b5 (Nat.le_refl _))
        have HNQ5 := Lib.hid (HNQ.out.later b5 (Nat.le_refl _))
        have HC5 := Lib.hid (HC1.out.block (b5.block g hgl))
        have hgl5 : g < w5.heap.size := Nat.lt_of_lt_of_le hgl b5.size
        clear b5 C1 CS HRR HO3 HND HNQ HC0 HC1 HNP k0 k1 k2 k3 k4 k5
        obtain ⟨sb, hsb⟩ : ∃ sb, stillF p = sb := ⟨_, rfl⟩
        rw [hsb] at HRE ⊢
        clear hsb
        go_upto_region 20 with (fail)
        have X15 : Hid (w5.cell? ⟨G, 1, none⟩ = some (.string ⟨x.tx.toArray⟩)) := HR5.out.a.c1
        refine region_Z (fun W => W.cell? ⟨G, 1, none⟩ = some (.string ⟨x.tx.toArray⟩) ∧ C6 W g 6 7 8 9 10 11 q fq) (fun i => false) (by kernel_rfl) ⟨(drew_cell2 _ _).trans X15.out, HC5.out.block ((Below.refl w5.heap.size w5).drew.block g hgl5)⟩ (fun hHeld => ?_)
        refine tkf 0 rfl (v := ?_) ?_ ?_; rotate_left
        ·(intro w hSw; (try dsimp only at hSw); obtain ⟨s1, u0, u1, u2, u3, u4, u5⟩ := hSw; go_simp; try with_reducible rfl)
        (try simp only [Act.put, sZ])
        refine tkf 1 rfl (v := ?_) ?_ ?_; rotate_left
        ·(intro w hSw; (try dsimp only at hSw); obtain ⟨s1, u0, u1, u2, u3, u4, u5⟩ := hSw; go_simp; try with_reducible rfl)
        (try simp only [Act.put, sZ])
        refine tkf 2 rfl (v := ?_) ?_ ?_; rotate_left
        ·(intro w hSw; (try dsimp only at hSw); obtain ⟨s1, u0, u1, u2, u3, u4, u5⟩ := hSw; go_simp; try with_reducible rfl)
        (try simp only [Act.put, sZ])
        refine tkf 3 rfl (v := ?_) ?_ ?_; rotate_left
        ·(intro w hSw; (try dsimp only at hSw); obtain ⟨s1, u0, u1, u2, u3, u4, u5⟩ := hSw; go_simp; try with_reducible rfl)
        (try simp only [Act.put, sZ])
        refine tkf 4 rfl (v := ?_) ?_ ?_; rotate_left
        ·(intro w hSw; (try dsimp only at hSw); obtain ⟨s1, u0, u1, u2, u3, u4, u5⟩ := hSw; go_simp; try with_reducible rfl)
        (try simp only [Act.put, sZ])
        refine stp 5 rfl (fun K hK => ?_)
        go_simp
        go_at_call 26
        have C2 := Lib.hid (CQ.out w5.drew _ fq x.tx (HNQ5.out.later (Below.refl _ _).drew (Nat.le_refl _)))
        unfold ndV at C2
        refine C2.out.mono ?_
        rintro e w6 ⟨rfl, b0⟩
        have b6 : Below w5.heap.size w5 w6 := (Below.refl w5.heap.size w5).drew.trans b0
        have HR6 := Lib.hid (HR5.out.later b6)
        have HO6 := Lib.hid (HO5.out.below b6 HO5.out.lt)
        have HN6 := Lib.hid (HN5.out.later b6 (Nat.le_refl _))
        have HNQ6 := Lib.hid (HNQ5.out.later b6 (Nat.le_refl _))
        have HC6 := Lib.hid (HC5.out.block (b6.block g hgl5))
        have X16 : Hid (w6.cell? ⟨G, 1, none⟩ = some (.string ⟨x.tx.toArray⟩)) := HR6.out.a.c1
        refine hK.out _ _ (fun _ => ⟨X16.out, HC6.out⟩) (fun hHeld2 => ?_)
        clear hK K hHeld b6 b0 C2 HR5 HO5 HN5 HNQ5 HC5 hgl5 X15
        (try simp only [Act.put, sZ])
        refine stp 6 rfl (fun K hK => ?_)
        go_simp
        refine hK.out _ _ (fun _ => ⟨X16.out, HC6.out⟩) (fun hHeld3 => ?_)
        clear hK K hHeld2
        (try simp only [Act.put, sZ])
        refine anyZ_done (by kernel_rfl) ?_ _
        obtain ⟨ob, hob⟩ : ∃ ob, occF q x.tx = ob := ⟨_, rfl⟩
        have HRE2 : Hid (res = if (sb && !ob) = true then q else .mk x.kd x.tx x.nm x.at_ x.ns ys) := by
         show _ = _
         rw [HRE.out, ← hob]
         rfl
        rw [hob]
        clear hob HRE
        rcases sb with _ | _
        ·have HEQ : Hid (res = .mk x.kd x.tx x.nm x.at_ x.ns ys) := HRE2.out
         clear HRE2
         have n0 : w6.cell? ⟨O, 0, none⟩ = some (.int .i64 x.kd) := HO6.out.cell 0
         have n1 : w6.cell? ⟨O, 1, none⟩ = some (.string ⟨x.tx.toArray⟩) := HO6.out.cell 1
         have n2 : w6.cell? ⟨O, 2, none⟩ = some (.int .i64 x.nm) := HO6.out.cell 2
         have n3 : w6.cell? ⟨O, 3, none⟩ = some (.int .i64 (x.at_ : Int)) := HO6.out.cell 3
         have n4 : w6.cell? ⟨O, 4, none⟩ = some (.slice f.na x.ns.length f.nc) := HO6.out.cell 4
         have n5 : w6.cell? ⟨O, 5, none⟩ = some (.slice (some ⟨g, 0, none⟩) 2 c) := HO6.out.cell 5
         obtain ⟨z0, z1, z2, z3, z4, z5⟩ := zeroC (HR6.out.z)
         obtain ⟨y0, y1, y2, y3, y4, y5⟩ := freeC (HR6.out.z)
         go_wp2_with fail
         have HZF : Hid (Whole ((((((w6.setCell ⟨(G + 1), 0, none⟩ (.int .i64 x.kd)).setCell ⟨(G + 1), 1, none⟩ (.string ⟨x.tx.toArray⟩)).setCell ⟨(G + 1), 2, none⟩ (.int .i64 x.nm)).setCell ⟨(G + 1), 3, none⟩ (.int .i64 (x.at_ : Int))).setCell ⟨(G + 1), 4, none⟩ (.slice f.na x.ns.length f.nc)).setCell ⟨(G + 1), 5, none⟩ (.slice (some ⟨g, 0, none⟩) 2 c)) (G + 1) 25 #[.int .i64 x.kd, .string ⟨x.tx.toArray⟩, .int .i64 x.nm, .int .i64 (x.at_ : Int), .slice f.na x.ns.length f.nc, .slice (some ⟨g, 0, none⟩) 2 c]) := put6 HR6.out.z _ _ _ _ _ _
         have HBF : Hid (But (G + 1) w6.heap.size w6 ((((((w6.setCell ⟨(G + 1), 0, none⟩ (.int .i64 x.kd)).setCell ⟨(G + 1), 1, none⟩ (.string ⟨x.tx.toArray⟩)).setCell ⟨(G + 1), 2, none⟩ (.int .i64 x.nm)).setCell ⟨(G + 1), 3, none⟩ (.int .i64 (x.at_ : Int))).setCell ⟨(G + 1), 4, none⟩ (.slice f.na x.ns.length f.nc)).setCell ⟨(G + 1), 5, none⟩ (.slice (some ⟨g, 0, none⟩) 2 c))) := but6 _ _ _ _ _ _ _ _
         generalize ((((((w6.setCell ⟨(G + 1), 0, none⟩ (.int .i64 x.kd)).setCell ⟨(G + 1), 1, none⟩ (.string ⟨x.tx.toArray⟩)).setCell ⟨(G + 1), 2, none⟩ (.int .i64 x.nm)).setCell ⟨(G + 1), 3, none⟩ (.int .i64 (x.at_ : Int))).setCell ⟨(G + 1), 4, none⟩ (.slice f.na x.ns.length f.nc)).setCell ⟨(G + 1), 5, none⟩ (.slice (some ⟨g, 0, none⟩) 2 c)) = wf at *
         obtain ⟨g0, g1, g2, g3, g4, g5⟩ := cells6 HZF.out
         exact bodyPost_ret (v := ndV (.mk x.kd x.tx x.nm x.at_ x.ns ys) ⟨f.na, f.nc, A, c⟩) (by simp [results, Try.results12, go_sem, ndV, Nd.kd, Nd.tx, Nd.nm, Nd.at_, Nd.ns, Nd.ks, HA2.out, HL3.out, fr0, nd0, g0, g1, g2, g3, g4, g5]) rfl ⟨⟨f.na, f.nc, A, c⟩, by rw [HEQ.out]; rfl, by rw [HEQ.out]; exact exp_fin HBD.out HGS.out HG.out HR6.out.hb HR6.out.a.bel HN6.out HBF.out⟩
        ·rcases ob with _ | _
         ·have HEQ : Hid (res = q) := HRE2.out
          clear HRE2
          obtain ⟨d0, d1, d2, d3, d4, d5⟩ := HC6.out
          obtain ⟨z0, z1, z2, z3, z4, z5⟩ := zeroC (HR6.out.z)
          obtain ⟨y0, y1, y2, y3, y4, y5⟩ := freeC (HR6.out.z)
          go_wp2_with fail
          have HZF : Hid (Whole ((((((w6.setCell ⟨(G + 1), 0, none⟩ (.int .i64 q.kd)).setCell ⟨(G + 1), 1, none⟩ (.string ⟨q.tx.toArray⟩)).setCell ⟨(G + 1), 2, none⟩ (.int .i64 q.nm)).setCell ⟨(G + 1), 3, none⟩ (.int .i64 (q.at_ : Int))).setCell ⟨(G + 1), 4, none⟩ (.slice fq.na q.ns.length fq.nc)).setCell ⟨(G + 1), 5, none⟩ (.slice fq.ka q.ks.length fq.kc)) (G + 1) 25 #[.int .i64 q.kd, .string ⟨q.tx.toArray⟩, .int .i64 q.nm, .int .i64 (q.at_ : Int), .slice fq.na q.ns.length fq.nc, .slice fq.ka q.ks.length fq.kc]) := put6 HR6.out.z _ _ _ _ _ _
          have HBF : Hid (But (G + 1) w6.heap.size w6 ((((((w6.setCell ⟨(G + 1), 0, none⟩ (.int .i64 q.kd)).setCell ⟨(G + 1), 1, none⟩ (.string ⟨q.tx.toArray⟩)).setCell ⟨(G + 1), 2, none⟩ (.int .i64 q.nm)).setCell ⟨(G + 1), 3, none⟩ (.int .i64 (q.at_ : Int))).setCell ⟨(G + 1), 4, none⟩ (.slice fq.na q.ns.length fq.nc)).setCell ⟨(G + 1), 5, none⟩ (.slice fq.ka q.ks.length fq.kc))) := but6 _ _ _ _ _ _ _ _
          generalize ((((((w6.setCell ⟨(G + 1), 0, none⟩ (.int .i64 q.kd)).setCell ⟨(G + 1), 1, none⟩ (.string ⟨q.tx.toArray⟩)).setCell ⟨(G + 1), 2, none⟩ (.int .i64 q.nm)).setCell ⟨(G + 1), 3, none⟩ (.int .i64 (q.at_ : Int))).setCell ⟨(G + 1), 4, none⟩ (.slice fq.na q.ns.length fq.nc)).setCell ⟨(G + 1), 5, none⟩ (.slice fq.ka q.ks.length fq.kc)) = wf at *
          obtain ⟨g0, g1, g2, g3, g4, g5⟩ := cells6 HZF.out
          exact bodyPost_ret (v := ndV (q) fq) (by simp [results, Try.results12, go_sem, ndV, Nd.kd, Nd.tx, Nd.nm, Nd.at_, Nd.ns, Nd.ks, fr0, nd0, g0, g1, g2, g3, g4, g5]) rfl ⟨fq, by rw [HEQ.out]; rfl, by rw [HEQ.out]; exact exp_fin HBD.out HGS.out HG.out HR6.out.hb HR6.out.a.bel HNQ6.out HBF.out⟩
         ·have HEQ : Hid (res = .mk x.kd x.tx x.nm x.at_ x.ns ys) := HRE2.out
          clear HRE2
          have n0 : w6.cell? ⟨O, 0, none⟩ = some (.int .i64 x.kd) := HO6.out.cell 0
          have n1 : w6.cell? ⟨O, 1, none⟩ = some (.string ⟨x.tx.toArray⟩) := HO6.out.cell 1
          have n2 : w6.cell? ⟨O, 2, none⟩ = some (.int .i64 x.nm) := HO6.out.cell 2
          have n3 : w6.cell? ⟨O, 3, none⟩ = some (.int .i64 (x.at_ : Int)) := HO6.out.cell 3
          have n4 : w6.cell? ⟨O, 4, none⟩ = some (.slice f.na x.ns.length f.nc) := HO6.out.cell 4
          have n5 : w6.cell? ⟨O, 5, none⟩ = some (.slice (some ⟨g, 0, none⟩) 2 c) := HO6.out.cell 5
          obtain ⟨z0, z1, z2, z3, z4, z5⟩ := zeroC (HR6.out.z)
          obtain ⟨y0, y1, y2, y3, y4, y5⟩ := freeC (HR6.out.z)
          go_wp2_with fail
          have HZF : Hid (Whole ((((((w6.setCell ⟨(G + 1), 0, none⟩ (.int .i64 x.kd)).setCell ⟨(G + 1), 1, none⟩ (.string ⟨x.tx.toArray⟩)).setCell ⟨(G + 1), 2, none⟩ (.int .i64 x.nm)).setCell ⟨(G + 1), 3, none⟩ (.int .i64 (x.at_ : Int))).setCell ⟨(G + 1), 4, none⟩ (.slice f.na x.ns.length f.nc)).setCell ⟨(G + 1), 5, none⟩ (.slice (some ⟨g, 0, none⟩) 2 c)) (G + 1) 25 #[.int .i64 x.kd, .string ⟨x.tx.toArray⟩, .int .i64 x.nm, .int .i64 (x.at_ : Int), .slice f.na x.ns.length f.nc, .slice (some ⟨g, 0, none⟩) 2 c]) := put6 HR6.out.z _ _ _ _ _ _
          have HBF : Hid (But (G + 1) w6.heap.size w6 ((((((w6.setCell ⟨(G + 1), 0, none⟩ (.int .i64 x.kd)).setCell ⟨(G + 1), 1, none⟩ (.string ⟨x.tx.toArray⟩)).setCell ⟨(G + 1), 2, none⟩ (.int .i64 x.nm)).setCell ⟨(G + 1), 3, none⟩ (.int .i64 (x.at_ : Int))).setCell ⟨(G + 1), 4, none⟩ (.slice f.na x.ns.length f.nc)).setCell ⟨(G + 1), 5, none⟩ (.slice (some ⟨g, 0, none⟩) 2 c))) := but6 _ _ _ _ _ _ _ _
          generalize ((((((w6.setCell ⟨(G + 1), 0, none⟩ (.int .i64 x.kd)).setCell ⟨(G + 1), 1, none⟩ (.string ⟨x.tx.toArray⟩)).setCell ⟨(G + 1), 2, none⟩ (.int .i64 x.nm)).setCell ⟨(G + 1), 3, none⟩ (.int .i64 (x.at_ : Int))).setCell ⟨(G + 1), 4, none⟩ (.slice f.na x.ns.length f.nc)).setCell ⟨(G + 1), 5, none⟩ (.slice (some ⟨g, 0, none⟩) 2 c)) = wf at *
          obtain ⟨g0, g1, g2, g3, g4, g5⟩ := cells6 HZF.out
          exact bodyPost_ret (v := ndV (.mk x.kd x.tx x.nm x.at_ x.ns ys) ⟨f.na, f.nc, A, c⟩) (by simp [results, Try.results12, go_sem, ndV, Nd.kd, Nd.tx, Nd.nm, Nd.at_, Nd.ns, Nd.ks, HA2.out, HL3.out, fr0, nd0, g0, g1, g2, g3, g4, g5]) rfl ⟨⟨f.na, f.nc, A, c⟩, by rw [HEQ.out]; rfl, by rw [HEQ.out]; exact exp_fin HBD.out HGS.out HG.out HR6.out.hb HR6.out.a.bel HN6.out HBF.out⟩
       ·clear q89 h89 h13 h10
        go_wp2_with fail
        refine C1.out.mono ?_
        rintro e w5 ⟨rfl, b5⟩
        have HR5 := Lib.hid (HRR.out.later b5)
        have HO5 := Lib.hid (HO3.out.below b5 HO3.out.lt)
        have HN5 := Lib.hid (HND.out.later b5 (Nat.le_refl _))
        have HNQ5 := Lib.hid (HNQ.out.later b5 (Nat.le_refl _))
        have HC5 := Lib.hid (HC1.out.block (b5.block g hgl))
        have hgl5 : g < w5.heap.size := Nat.lt_of_lt_of_le hgl b5.size
        clear b5 C1 CS HRR HO3 HND HNQ HC0 HC1 HNP k0 k1 k2 k3 k4 k5
        obtain ⟨sb, hsb⟩ : ∃ sb, stillF p = sb := ⟨_, rfl⟩
        rw [hsb] at HRE ⊢
        clear hsb
        go_upto_region 20 with (fail)
        have X15 : Hid (w5.cell? ⟨G, 1, none⟩ = some (.string ⟨x.tx.toArray⟩)) := HR5.out.a.c1
        refine region_Z (fun W => W.cell? ⟨G, 1, none⟩ = some (.string ⟨x.tx.toArray⟩) ∧ C6 W g 6 7 8 9 10 11 q fq) (fun i => false) (by kernel_rfl) ⟨(drew_cell2 _ _).trans X15.out, HC5.out.block ((Below.refl w5.heap.size w5).drew.block g hgl5)⟩ (fun hHeld => ?_)
        refine tkf 0 rfl (v := ?_) ?_ ?_; rotate_left
        ·(intro w hSw; (try dsimp only at hSw); obtain ⟨s1, u0, u1, u2, u3, u4, u5⟩ := hSw; go_simp; try with_reducible rfl)
        (try simp only [Act.put, sZ])
        refine tkf 1 rfl (v := ?_) ?_ ?_; rotate_left
        ·(intro w hSw; (try dsimp only at hSw); obtain ⟨s1, u0, u1, u2, u3, u4, u5⟩ := hSw; go_simp; try with_reducible rfl)
        (try simp only [Act.put, sZ])
        refine tkf 2 rfl (v := ?_) ?_ ?_; rotate_left
        ·(intro w hSw; (try dsimp only at hSw); obtain ⟨s1, u0, u1, u2, u3, u4, u5⟩ := hSw; go_simp; try with_reducible rfl)
        (try simp only [Act.put, sZ])
        refine tkf 3 rfl (v := ?_) ?_ ?_; rotate_left
        ·(intro w hSw; (try dsimp only at hSw); obtain ⟨s1, u0, u1, u2, u3, u4, u5⟩ := hSw; go_simp; try with_reducible rfl)
        (try simp only [Act.put, sZ])
        refine tkf 4 rfl (v := ?_) ?_ ?_; rotate_left
        ·(intro w hSw; (try dsimp only at hSw); obtain ⟨s1, u0, u1, u2, u3, u4, u5⟩ := hSw; go_simp; try with_reducible rfl)
        (try simp only [Act.put, sZ])
        refine stp 5 rfl (fun K hK => ?_)
        go_simp
        go_at_call 26
        have C2 := Lib.hid (CQ.out w5.drew _ fq x.tx (HNQ5.out.later (Below.refl _ _).drew (Nat.le_refl _)))
        unfold ndV at C2
        refine C2.out.mono ?_
        rintro e w6 ⟨rfl, b0⟩
        have b6 : Below w5.heap.size w5 w6 := (Below.refl w5.heap.size w5).drew.trans b0
        have HR6 := Lib.hid (HR5.out.later b6)
        have HO6 := Lib.hid (HO5.out.below b6 HO5.out.lt)
        have HN6 := Lib.hid (HN5.out.later b6 (Nat.le_refl _))
        have HNQ6 := Lib.hid (HNQ5.out.later b6 (Nat.le_refl _))
        have HC6 := Lib.hid (HC5.out.block (b6.block g hgl5))
        have X16 : Hid (w6.cell? ⟨G, 1, none⟩ = some (.string ⟨x.tx.toArray⟩)) := HR6.out.a.c1
        refine hK.out _ _ (fun _ => ⟨X16.out, HC6.out⟩) (fun hHeld2 => ?_)
        clear hK K hHeld b6 b0 C2 HR5 HO5 HN5 HNQ5 HC5 hgl5 X15
        (try simp only [Act.put, sZ])
        refine stp 6 rfl (fun K hK => ?_)
        go_simp
        refine hK.out _ _ (fun _ => ⟨X16.out, HC6.out⟩) (fun hHeld3 => ?_)
        clear hK K hHeld2
        (try simp only [Act.put, sZ])
        refine anyZ_done (by kernel_rfl) ?_ _
        obtain ⟨ob, hob⟩ : ∃ ob, occF q x.tx = ob := ⟨_, rfl⟩
        have HRE2 : Hid (res = if (sb && !ob) = true then q else .mk x.kd x.tx x.nm x.at_ x.ns ys) := by
         show _ = _
         rw [HRE.out, ← hob]
         rfl
        rw [hob]
        clear hob HRE
        rcases sb with _ | _
        ·have HEQ : Hid (res = .mk x.kd x.tx x.nm x.at_ x.ns ys) := HRE2.out
         clear HRE2
         have n0 : w6.cell? ⟨O, 0, none⟩ = some (.int .i64 x.kd) := HO6.out.cell 0
         have n1 : w6.cell? ⟨O, 1, none⟩ = some (.string ⟨x.tx.toArray⟩) := HO6.out.cell 1
         have n2 : w6.cell? ⟨O, 2, none⟩ = some (.int .i64 x.nm) := HO6.out.cell 2
         have n3 : w6.cell? ⟨O, 3, none⟩ = some (.int .i64 (x.at_ : Int)) := HO6.out.cell 3
         have n4 : w6.cell? ⟨O, 4, none⟩ = some (.slice f.na x.ns.length f.nc) := HO6.out.cell 4
         have n5 : w6.cell? ⟨O, 5, none⟩ = some (.slice (some ⟨g, 0, none⟩) 2 c) := HO6.out.cell 5
         obtain ⟨z0, z1, z2, z3, z4, z5⟩ := zeroC (HR6.out.z)
         obtain ⟨y0, y1, y2, y3, y4, y5⟩ := freeC (HR6.out.z)
         go_wp2_with fail
         have HZF : Hid (Whole ((((((w6.setCell ⟨(G + 1), 0, none⟩ (.int .i64 x.kd)).setCell ⟨(G + 1), 1, none⟩ (.string ⟨x.tx.toArray⟩)).setCell ⟨(G + 1), 2, none⟩ (.int .i64 x.nm)).setCell ⟨(G + 1), 3, none⟩ (.int .i64 (x.at_ : Int))).setCell ⟨(G + 1), 4, none⟩ (.slice f.na x.ns.length f.nc)).setCell ⟨(G + 1), 5, none⟩ (.slice (some ⟨g, 0, none⟩) 2 c)) (G + 1) 25 #[.int .i64 x.kd, .string ⟨x.tx.toArray⟩, .int .i64 x.nm, .int .i64 (x.at_ : Int), .slice f.na x.ns.length f.nc, .slice (some ⟨g, 0, none⟩) 2 c]) := put6 HR6.out.z _ _ _ _ _ _
         have HBF : Hid (But (G + 1) w6.heap.size w6 ((((((w6.setCell ⟨(G + 1), 0, none⟩ (.int .i64 x.kd)).setCell ⟨(G + 1), 1, none⟩ (.string ⟨x.tx.toArray⟩)).setCell ⟨(G + 1), 2, none⟩ (.int .i64 x.nm)).setCell ⟨(G + 1), 3, none⟩ (.int .i64 (x.at_ : Int))).setCell ⟨(G + 1), 4, none⟩ (.slice f.na x.ns.length f.nc)).setCell ⟨(G + 1), 5, none⟩ (.slice (some ⟨g, 0, none⟩) 2 c))) := but6 _ _ _ _ _ _ _ _
         generalize ((((((w6.setCell ⟨(G + 1), 0, none⟩ (.int .i64 x.kd)).setCell ⟨(G + 1), 1, none⟩ (.string ⟨x.tx.toArray⟩)).setCell ⟨(G + 1), 2, none⟩ (.int .i64 x.nm)).setCell ⟨(G + 1), 3, none⟩ (.int .i64 (x.at_ : Int))).setCell ⟨(G + 1), 4, none⟩ (.slice f.na x.ns.length f.nc)).setCell ⟨(G + 1), 5, none⟩ (.slice (some ⟨g, 0, none⟩) 2 c)) = wf at *
         obtain ⟨g0, g1, g2, g3, g4, g5⟩ := cells6 HZF.out
         exact bodyPost_ret (v := ndV (.mk x.kd x.tx x.nm x.at_ x.ns ys) ⟨f.na, f.nc, A, c⟩) (by simp [results, Try.results12, go_sem, ndV, Nd.kd, Nd.tx, Nd.nm, Nd.at_, Nd.ns, Nd.ks, HA2.out, HL3.out, fr0, nd0, g0, g1, g2, g3, g4, g5]) rfl ⟨⟨f.na, f.nc, A, c⟩, by rw [HEQ.out]; rfl, by rw [HEQ.out]; exact exp_fin HBD.out HGS.out HG.out HR6.out.hb HR6.out.a.bel HN6.out HBF.out⟩
        ·rcases ob with _ | _
         ·have HEQ : Hid (res = q) := HRE2.out
          clear HRE2
          obtain ⟨d0, d1, d2, d3, d4, d5⟩ := HC6.out
          obtain ⟨z0, z1, z2, z3, z4, z5⟩ := zeroC (HR6.out.z)
          obtain ⟨y0, y1, y2, y3, y4, y5⟩ := freeC (HR6.out.z)
          go_wp2_with fail
          have HZF : Hid (Whole ((((((w6.setCell ⟨(G + 1), 0, none⟩ (.int .i64 q.kd)).setCell ⟨(G + 1), 1, none⟩ (.string ⟨q.tx.toArray⟩)).setCell ⟨(G + 1), 2, none⟩ (.int .i64 q.nm)).setCell ⟨(G + 1), 3, none⟩ (.int .i64 (q.at_ : Int))).setCell ⟨(G + 1), 4, none⟩ (.slice fq.na q.ns.length fq.nc)).setCell ⟨(G + 1), 5, none⟩ (.slice fq.ka q.ks.length fq.kc)) (G + 1) 25 #[.int .i64 q.kd, .string ⟨q.tx.toArray⟩, .int .i64 q.nm, .int .i64 (q.at_ : Int), .slice fq.na q.ns.length fq.nc, .slice fq.ka q.ks.length fq.kc]) := put6 HR6.out.z _ _ _ _ _ _
          have HBF : Hid (But (G + 1) w6.heap.size w6 ((((((w6.setCell ⟨(G + 1), 0, none⟩ (.int .i64 q.kd)).setCell ⟨(G + 1), 1, none⟩ (.string ⟨q.tx.toArray⟩)).setCell ⟨(G + 1), 2, none⟩ (.int .i64 q.nm)).setCell ⟨(G + 1), 3, none⟩ (.int .i64 (q.at_ : Int))).setCell ⟨(G + 1), 4, none⟩ (.slice fq.na q.ns.length fq.nc)).setCell ⟨(G + 1), 5, none⟩ (.slice fq.ka q.ks.length fq.kc))) := but6 _ _ _ _ _ _ _ _
          generalize ((((((w6.setCell ⟨(G + 1), 0, none⟩ (.int .i64 q.kd)).setCell ⟨(G + 1), 1, none⟩ (.string ⟨q.tx.toArray⟩)).setCell ⟨(G + 1), 2, none⟩ (.int .i64 q.nm)).setCell ⟨(G + 1), 3, none⟩ (.int .i64 (q.at_ : Int))).setCell ⟨(G + 1), 4, none⟩ (.slice fq.na q.ns.length fq.nc)).setCell ⟨(G + 1), 5, none⟩ (.slice fq.ka q.ks.length fq.kc)) = wf at *
          obtain ⟨g0, g1, g2, g3, g4, g5⟩ := cells6 HZF.out
          exact bodyPost_ret (v := ndV (q) fq) (by simp [results, Try.results12, go_sem, ndV, Nd.kd, Nd.tx, Nd.nm, Nd.at_, Nd.ns, Nd.ks, fr0, nd0, g0, g1, g2, g3, g4, g5]) rfl ⟨fq, by rw [HEQ.out]; rfl, by rw [HEQ.out]; exact exp_fin HBD.out HGS.out HG.out HR6.out.hb HR6.out.a.bel HNQ6.out HBF.out⟩
         ·have HEQ : Hid (res = .mk x.kd x.tx x.nm x.at_ x.ns ys) := HRE2.out
          clear HRE2
          have n0 : w6.cell? ⟨O, 0, none⟩ = some (.int .i64 x.kd) := HO6.out.cell 0
          have n1 : w6.cell? ⟨O, 1, none⟩ = some (.string ⟨x.tx.toArray⟩) := HO6.out.cell 1
          have n2 : w6.cell? ⟨O, 2, none⟩ = some (.int .i64 x.nm) := HO6.out.cell 2
          have n3 : w6.cell? ⟨O, 3, none⟩ = some (.int .i64 (x.at_ : Int)) := HO6.out.cell 3
          have n4 : w6.cell? ⟨O, 4, none⟩ = some (.slice f.na x.ns.length f.nc) := HO6.out.cell 4
          have n5 : w6.cell? ⟨O, 5, none⟩ = some (.slice (some ⟨g, 0, none⟩) 2 c) := HO6.out.cell 5
          obtain ⟨z0, z1, z2, z3, z4, z5⟩ := zeroC (HR6.out.z)
          obtain ⟨y0, y1, y2, y3, y4, y5⟩ := freeC (HR6.out.z)
          go_wp2_with fail
          have HZF : Hid (Whole ((((((w6.setCell ⟨(G + 1), 0, none⟩ (.int .i64 x.kd)).setCell ⟨(G + 1), 1, none⟩ (.string ⟨x.tx.toArray⟩)).setCell ⟨(G + 1), 2, none⟩ (.int .i64 x.nm)).setCell ⟨(G + 1), 3, none⟩ (.int .i64 (x.at_ : Int))).setCell ⟨(G + 1), 4, none⟩ (.slice f.na x.ns.length f.nc)).setCell ⟨(G + 1), 5, none⟩ (.slice (some ⟨g, 0, none⟩) 2 c)) (G + 1) 25 #[.int .i64 x.kd, .string ⟨x.tx.toArray⟩, .int .i64 x.nm, .int .i64 (x.at_ : Int), .slice f.na x.ns.length f.nc, .slice (some ⟨g, 0, none⟩) 2 c]) := put6 HR6.out.z _ _ _ _ _ _
          have HBF : Hid (But (G + 1) w6.heap.size w6 ((((((w6.setCell ⟨(G + 1), 0, none⟩ (.int .i64 x.kd)).setCell ⟨(G + 1), 1, none⟩ (.string ⟨x.tx.toArray⟩)).setCell ⟨(G + 1), 2, none⟩ (.int .i64 x.nm)).setCell ⟨(G + 1), 3, none⟩ (.int .i64 (x.at_ : Int))).setCell ⟨(G + 1), 4, none⟩ (.slice f.na x.ns.length f.nc)).setCell ⟨(G + 1), 5, none⟩ (.slice (some ⟨g, 0, none⟩) 2 c))) := but6 _ _ _ _ _ _ _ _
          generalize ((((((w6.setCell ⟨(G + 1), 0, none⟩ (.int .i64 x.kd)).setCell ⟨(G + 1), 1, none⟩ (.string ⟨x.tx.toArray⟩)).setCell ⟨(G + 1), 2, none⟩ (.int .i64 x.nm)).setCell ⟨(G + 1), 3, none⟩ (.int .i64 (x.at_ : Int))).setCell ⟨(G + 1), 4, none⟩ (.slice f.na x.ns.length f.nc)).setCell ⟨(G + 1), 5, none⟩ (.slice (some ⟨g, 0, none⟩) 2 c)) = wf at *
          obtain ⟨g0, g1, g2, g3, g4, g5⟩ := cells6 HZF.out
          exact bodyPost_ret (v := ndV (.mk x.kd x.tx x.nm x.at_ x.ns ys) ⟨f.na, f.nc, A, c⟩) (by simp [results, Try.results12, go_sem, ndV, Nd.kd, Nd.tx, Nd.nm, Nd.at_, Nd.ns, Nd.ks, HA2.out, HL3.out, fr0, nd0, g0, g1, g2, g3, g4, g5]) rfl ⟨⟨f.na, f.nc, A, c⟩, by rw [HEQ.out]; rfl, by rw [HEQ.out]; exact exp_fin HBD.out HGS.out HG.out HR6.out.hb HR6.out.a.bel HN6.out HBF.out⟩
      ·have q8 : (x.kd == 8) = false := beq_eq_false_iff_ne.2 fun h => h89 (.inl h)
       have q9 : (x.kd == 9) = false := beq_eq_false_iff_ne.2 fun h => h89 (.inr h)
       by_cases h14 : x.kd = 14
       ·obtain ⟨p, q, hks⟩ := HWX.out.two (.inr (.inr (.inr h14)))
        have HRE := Lib.hid (HEN.out.trans (red_seq (x := .mk x.kd x.tx x.nm x.at_ x.ns ys) h14 hks))
        have q14 : (x.kd == 14) = true := beq_iff_eq.2 h14
        have CS := Lib.hid (rstill_any p (HWX.out.ks p (by rw [hks]; simp)))
        obtain ⟨g, fp, fq, eA, ⟨hgl, hgb⟩, hc0, hc1, np, nq⟩ := kids2 HND.out hks
        have eA2 : A = some ⟨g, 0, none⟩ := eA
        have hl3 : ys.length = 2 := by have h := congrArg List.length hks; exact h
        have HC0 := Lib.hid hc0
        have HC1 := Lib.hid hc1
        have HNP := Lib.hid np
        have HNQ := Lib.hid nq
        have HO3 := Lib.hid HO.out
        have HA2 := Lib.hid eA2
        have HL3 := Lib.hid hl3
        rw [eA2, hl3] at HO3 ⊢
        obtain ⟨k0, k1, k2, k3, k4, k5⟩ := HC0.out
        clear eA eA2 hl3 hc0 hc1 np nq hgb hks
        have C1 := Lib.hid (CS.out wr _ fp HNP.out)
        unfold ndV at C1
        clear h14 h89 h13 h10
        go_wp2_with fail
        refine C1.out.mono ?_
        rintro e w6 ⟨rfl, b5⟩
        have HR6 := Lib.hid (HRR.out.later b5)
        have HO6 := Lib.hid (HO3.out.below b5 HO3.out.lt)
        have HN6 := Lib.hid (HND.out.later b5 (Nat.le_refl _))
        have HNQ6 := Lib.hid (HNQ.out.later b5 (Nat.le_refl _))
        have HC6 := Lib.hid (HC1.out.block (b5.block g hgl))
        clear b5 C1 CS HRR HO3 HND HNQ HC0 HC1 HNP k0 k1 k2 k3 k4 k5
        obtain ⟨sb, hsb⟩ : ∃ sb, stillF p = sb := ⟨_, rfl⟩
        rw [hsb] at HRE ⊢
        clear hsb
        rcases sb with _ | _
        ·have HEQ : Hid (res = .mk x.kd x.tx x.nm x.at_ x.ns ys) := HRE.out
         clear HRE
         have n0 : w6.cell? ⟨O, 0, none⟩ = some (.int .i64 x.kd) := HO6.out.cell 0
         have n1 : w6.cell? ⟨O, 1, none⟩ = some (.string ⟨x.tx.toArray⟩) := HO6.out.cell 1
         have n2 : w6.cell? ⟨O, 2, none⟩ = some (.int .i64 x.nm) := HO6.out.cell 2
         have n3 : w6.cell? ⟨O, 3, none⟩ = some (.int .i64 (x.at_ : Int)) := HO6.out.cell 3
         have n4 : w6.cell? ⟨O, 4, none⟩ = some (.slice f.na x.ns.length f.nc) := HO6.out.cell 4
         have n5 : w6.cell? ⟨O, 5, none⟩ = some (.slice (some ⟨g, 0, none⟩) 2 c) := HO6.out.cell 5
         obtain ⟨z0, z1, z2, z3, z4, z5⟩ := zeroC (HR6.out.z)
         obtain ⟨y0, y1, y2, y3, y4, y5⟩ := freeC (HR6.out.z)
         go_wp2_with fail
         have HZF : Hid (Whole ((((((w6.setCell ⟨(G + 1), 0, none⟩ (.int .i64 x.kd)).setCell ⟨(G + 1), 1, none⟩ (.string ⟨x.tx.toArray⟩)).setCell ⟨(G + 1), 2, none⟩ (.int .i64 x.nm)).setCell ⟨(G + 1), 3, none⟩ (.int .i64 (x.at_ : Int))).setCell ⟨(G + 1), 4, none⟩ (.slice f.na x.ns.length f.nc)).setCell ⟨(G + 1), 5, none⟩ (.slice (some ⟨g, 0, none⟩) 2 c)) (G + 1) 25 #[.int .i64 x.kd, .string ⟨x.tx.toArray⟩, .int .i64 x.nm, .int .i64 (x.at_ : Int), .slice f.na x.ns.length f.nc, .slice (some ⟨g, 0, none⟩) 2 c]) := put6 HR6.out.z _ _ _ _ _ _
         have HBF : Hid (But (G + 1) w6.heap.size w6 ((((((w6.setCell ⟨(G + 1), 0, none⟩ (.int .i64 x.kd)).setCell ⟨(G + 1), 1, none⟩ (.string ⟨x.tx.toArray⟩)).setCell ⟨(G + 1), 2, none⟩ (.int .i64 x.nm)).setCell ⟨(G + 1), 3, none⟩ (.int .i64 (x.at_ : Int))).setCell ⟨(G + 1), 4, none⟩ (.slice f.na x.ns.length f.nc)).setCell ⟨(G + 1), 5, none⟩ (.slice (some ⟨g, 0, none⟩) 2 c))) := but6 _ _ _ _ _ _ _ _
         generalize ((((((w6.setCell ⟨(G + 1), 0, none⟩ (.int .i64 x.kd)).setCell ⟨(G + 1), 1, none⟩ (.string ⟨x.tx.toArray⟩)).setCell ⟨(G + 1), 2, none⟩ (.int .i64 x.nm)).setCell ⟨(G + 1), 3, none⟩ (.int .i64 (x.at_ : Int))).setCell ⟨(G + 1), 4, none⟩ (.slice f.na x.ns.length f.nc)).setCell ⟨(G + 1), 5, none⟩ (.slice (some ⟨g, 0, none⟩) 2 c)) = wf at *
         obtain ⟨g0, g1, g2, g3, g4, g5⟩ := cells6 HZF.out
         exact bodyPost_ret (v := ndV (.mk x.kd x.tx x.nm x.at_ x.ns ys) ⟨f.na, f.nc, A, c⟩) (by simp [results, Try.results12, go_sem, ndV, Nd.kd, Nd.tx, Nd.nm, Nd.at_, Nd.ns, Nd.ks, HA2.out, HL3.out, fr0, nd0, g0, g1, g2, g3, g4, g5]) rfl ⟨⟨f.na, f.nc, A, c⟩, by rw [HEQ.out]; rfl, by rw [HEQ.out]; exact exp_fin HBD.out HGS.out HG.out HR6.out.hb HR6.out.a.bel HN6.out HBF.out⟩
        ·have HEQ : Hid (res = q) := HRE.out
         clear HRE
         obtain ⟨d0, d1, d2, d3, d4, d5⟩ := HC6.out
         obtain ⟨z0, z1, z2, z3, z4, z5⟩ := zeroC (HR6.out.z)
         obtain ⟨y0, y1, y2, y3, y4, y5⟩ := freeC (HR6.out.z)
         go_wp2_with fail
         have HZF : Hid (Whole ((((((w6.setCell ⟨(G + 1), 0, none⟩ (.int .i64 q.kd)).setCell ⟨(G + 1), 1, none⟩ (.string ⟨q.tx.toArray⟩)).setCell ⟨(G + 1), 2, none⟩ (.int .i64 q.nm)).setCell ⟨(G + 1), 3, none⟩ (.int .i64 (q.at_ : Int))).setCell ⟨(G + 1), 4, none⟩ (.slice fq.na q.ns.length fq.nc)).setCell ⟨(G + 1), 5, none⟩ (.slice fq.ka q.ks.length fq.kc)) (G + 1) 25 #[.int .i64 q.kd, .string ⟨q.tx.toArray⟩, .int .i64 q.nm, .int .i64 (q.at_ : Int), .slice fq.na q.ns.length fq.nc, .slice fq.ka q.ks.length fq.kc]) := put6 HR6.out.z _ _ _ _ _ _
         have HBF : Hid (But (G + 1) w6.heap.size w6 ((((((w6.setCell ⟨(G + 1), 0, none⟩ (.int .i64 q.kd)).setCell ⟨(G + 1), 1, none⟩ (.string ⟨q.tx.toArray⟩)).setCell ⟨(G + 1), 2, none⟩ (.int .i64 q.nm)).setCell ⟨(G + 1), 3, none⟩ (.int .i64 (q.at_ : Int))).setCell ⟨(G + 1), 4, none⟩ (.slice fq.na q.ns.length fq.nc)).setCell ⟨(G + 1), 5, none⟩ (.slice fq.ka q.ks.length fq.kc))) := but6 _ _ _ _ _ _ _ _
         generalize ((((((w6.setCell ⟨(G + 1), 0, none⟩ (.int .i64 q.kd)).setCell ⟨(G + 1), 1, none⟩ (.string ⟨q.tx.toArray⟩)).setCell ⟨(G + 1), 2, none⟩ (.int .i64 q.nm)).setCell ⟨(G + 1), 3, none⟩ (.int .i64 (q.at_ : Int))).setCell ⟨(G + 1), 4, none⟩ (.slice fq.na q.ns.length fq.nc)).setCell ⟨(G + 1), 5, none⟩ (.slice fq.ka q.ks.length fq.kc)) = wf at *
         obtain ⟨g0, g1, g2, g3, g4, g5⟩ := cells6 HZF.out
         exact bodyPost_ret (v := ndV (q) fq) (by simp [results, Try.results12, go_sem, ndV, Nd.kd, Nd.tx, Nd.nm, Nd.at_, Nd.ns, Nd.ks, fr0, nd0, g0, g1, g2, g3, g4, g5]) rfl ⟨fq, by rw [HEQ.out]; rfl, by rw [HEQ.out]; exact exp_fin HBD.out HGS.out HG.out HR6.out.hb HR6.out.a.bel HNQ6.out HBF.out⟩
       ·have q14 : (x.kd == 14) = false := beq_eq_false_iff_ne.2 h14
        have HEQ : Hid (res = .mk x.kd x.tx x.nm x.at_ x.ns ys) := HEN.out.trans (red_else (y := .mk x.kd x.tx x.nm x.at_ x.ns ys) q13 q10 q8 q9 q14)
        clear h14 h89 h13 h10 HEN HWX
        have n0 : wr.cell? ⟨O, 0, none⟩ = some (.int .i64 x.kd) := HO.out.cell 0
        have n1 : wr.cell? ⟨O, 1, none⟩ = some (.string ⟨x.tx.toArray⟩) := HO.out.cell 1
        have n2 : wr.cell? ⟨O, 2, none⟩ = some (.int .i64 x.nm) := HO.out.cell 2
        have n3 : wr.cell? ⟨O, 3, none⟩ = some (.int .i64 (x.at_ : Int)) := HO.out.cell 3
        have n4 : wr.cell? ⟨O, 4, none⟩ = some (.slice f.na x.ns.length f.nc) := HO.out.cell 4
        have n5 : wr.cell? ⟨O, 5, none⟩ = some (.slice A ys.length c) := HO.out.cell 5
        obtain ⟨z0, z1, z2, z3, z4, z5⟩ := zeroC (HRR.out.z)
        obtain ⟨y0, y1, y2, y3, y4, y5⟩ := freeC (HRR.out.z)
        go_wp2_with fail
        have HZF : Hid (Whole ((((((wr.setCell ⟨(G + 1), 0, none⟩ (.int .i64 x.kd)).setCell ⟨(G + 1), 1, none⟩ (.string ⟨x.tx.toArray⟩)).setCell ⟨(G + 1), 2, none⟩ (.int .i64 x.nm)).setCell ⟨(G + 1), 3, none⟩ (.int .i64 (x.at_ : Int))).setCell ⟨(G + 1), 4, none⟩ (.slice f.na x.ns.length f.nc)).setCell ⟨(G + 1), 5, none⟩ (.slice A ys.length c)) (G + 1) 25 #[.int .i64 x.kd, .string ⟨x.tx.toArray⟩, .int .i64 x.nm, .int .i64 (x.at_ : Int), .slice f.na x.ns.length f.nc, .slice A ys.length c]) := put6 HRR.out.z _ _ _ _ _ _
        have HBF : Hid (But (G + 1) wr.heap.size wr ((((((wr.setCell ⟨(G + 1), 0, none⟩ (.int .i64 x.kd)).setCell ⟨(G + 1), 1, none⟩ (.string ⟨x.tx.toArray⟩)).setCell ⟨(G + 1), 2, none⟩ (.int .i64 x.nm)).setCell ⟨(G + 1), 3, none⟩ (.int .i64 (x.at_ : Int))).setCell ⟨(G + 1), 4, none⟩ (.slice f.na x.ns.length f.nc)).setCell ⟨(G + 1), 5, none⟩ (.slice A ys.length c))) := but6 _ _ _ _ _ _ _ _
        generalize ((((((wr.setCell ⟨(G + 1), 0, none⟩ (.int .i64 x.kd)).setCell ⟨(G + 1), 1, none⟩ (.string ⟨x.tx.toArray⟩)).setCell ⟨(G + 1), 2, none⟩ (.int .i64 x.nm)).setCell ⟨(G + 1), 3, none⟩ (.int .i64 (x.at_ : Int))).setCell ⟨(G + 1), 4, none⟩ (.slice f.na x.ns.length f.nc)).setCell ⟨(G + 1), 5, none⟩ (.slice A ys.length c)) = wf at *
        obtain ⟨g0, g1, g2, g3, g4, g5⟩ := cells6 HZF.out
        exact bodyPost_ret (v := ndV (.mk x.kd x.tx x.nm x.at_ x.ns ys) ⟨f.na, f.nc, A, c⟩) (by simp [results, Try.results12, go_sem, ndV, Nd.kd, Nd.tx, Nd.nm, Nd.at_, Nd.ns, Nd.ks, fr0, nd0, g0, g1, g2, g3, g4, g5]) rfl ⟨⟨f.na, f.nc, A, c⟩, by rw [HEQ.out]; rfl, by rw [HEQ.out]; exact exp_fin HBD.out HGS.out HG.out HRR.out.hb HRR.out.a.bel HND.out HBF.out⟩
end Go.Proofs.Ytgjchgmlogbmmaa
