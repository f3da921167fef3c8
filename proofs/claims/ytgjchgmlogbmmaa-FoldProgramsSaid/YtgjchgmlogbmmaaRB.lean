/- A part of the proofs of chapter 11, squeezed, merged and shrunk by group.py: GDeep GTop GWalkR. -/
import Derived.Test.YtgjchgmlogbmmaaR1
import Derived.KernelRfl
import Derived.Test.YtgjchgmlogbmmaaRA
import Derived.Test.YtgjchgmlogbmmaaR6
import Derived.Test.YtgjchgmlogbmmaaR7
/- All rules of the grammar at once: each is walked, however deep. -/
namespace Go.Proofs.Ytgjchgmlogbmmaa
open Go.RowKit
set_option linter.unusedVariables false

theorem deep_rules (R g c : Nat) (T : List Tok) (E : Ends T) : ∀ n, Deep R g c T (rules T n) n
 | 0 => ⟨fun w s hp hd => absurd hp.deep (by omega), fun w s hp hd => absurd hp.deep (by omega), fun w s hp hd => absurd hp.deep (by omega)⟩
 | n + 1 => by
  have D := deep_rules R g c T E n
  have F := fine_rules E n
  have C : Calm (rules T n) := calm_rules n
  have atom := fun (w : World) (s : PS) (hp : PAt w R g c T s) (hd : 41 ≤ s.deep + n) => atom_any w R g c T (rules T n) n s E F C D hp hd
  have app := fun (w : World) (s : PS) (hp : PAt w R g c T s) (hd : 41 ≤ s.deep + n) => app_any w R g c T (rules T n) n s E F atom hp hd
  have prod := fun (w : World) (s : PS) (hp : PAt w R g c T s) (hd : 41 ≤ s.deep + n) => prod_any w R g c T (rules T n) n s E F app hp hd
  have sum := fun (w : World) (s : PS) (hp : PAt w R g c T s) (hd : 41 ≤ s.deep + n) => sum_any w R g c T (rules T n) n s E F prod hp hd
  have cmp := fun (w : World) (s : PS) (hp : PAt w R g c T s) (hd : 41 ≤ s.deep + n) => cmp_any w R g c T (rules T n) n s E F sum hp hd
  exact ⟨fun w s hp hd => exp_any w R g c T (rules T n) s E F hp fun hb wx hx => inner_any wx R g c T (rules T n) n (enterF T s) E F D cmp hx (by rw [(enter_in hp.lt hb).2.1]; omega),
   fun w s hp hd => pat_any w R g c T (rules T n) n s E F D hp hd,
   fun w s hp hd => ty_any w R g c T (rules T n) n s E F D hp hd⟩
theorem exp_rule (R g c : Nat) (T : List Tok) (E : Ends T) (w : World) (s : PS) (hp : PAt w R g c T s) (n : Nat) (hd : 41 ≤ s.deep + n) : Calls Try.prog 39 #[.pointer (some ⟨R, 0, none⟩)] w (Gives w R g c T ((rules T n).exp s)) := (deep_rules R g c T E n).exp w s hp hd
theorem decl_rule (R g c : Nat) (T : List Tok) (E : Ends T) (w : World) (s : PS) (hp : PAt w R g c T s) (n : Nat) (hd : 41 ≤ s.deep + n) : Calls Try.prog 37 #[.pointer (some ⟨R, 0, none⟩)] w (Gives w R g c T (declF T (rules T n) s)) :=
 decl_any w R g c T (rules T n) n s E (fine_rules E n) (deep_rules R g c T E n) hp hd
end Go.Proofs.Ytgjchgmlogbmmaa
/- A program's tokens as a parser has them. -/
namespace Go.Proofs.Ytgjchgmlogbmmaa
open Go.RowKit
set_option linter.unusedVariables false

theorem ends_toks {l : List UInt8} {i : Nat} {T : List Tok} (h : Toks l i T) : Ends T :=
 ⟨List.length_pos_iff.2 h.ne, fun k hk => (h.places k T[k] (List.getElem?_eq_getElem hk)).1⟩
theorem tkin_row {w : World} {A : Option Addr} {T : List Tok} (h : TokRow w A T) (hT : T ≠ []) : ∃ g, A = some ⟨g, 0, none⟩ ∧ TkIn w g T := by
 rcases h with h | ⟨g, h1, h2, h3⟩
 ·exact absurd h hT
 ·exact ⟨g, h1, h2, h3⟩
/-- A new parser's record. -/
theorem PAt.made {w : World} {g c : Nat} {T : List Tok} (h : TkIn w g T) (h0 : 0 < T.length) (hl : T.length ≤ 100000) :
  PAt (w.alloc (.cells #[.slice (some ⟨g, 0, none⟩) T.length c, .int .i64 0, .int .i64 0, .int .i64 0, .bool false, .int .i64 0] 61)) w.heap.size g c T ⟨0, 0, 0, false, 0⟩ :=
 ⟨Whole.made _ _ _, Nat.ne_of_lt h.1, h.block (by simp) (Below.heap_alloc w _ g h.1), h0, hl, by decide⟩
theorem decl_adv {T : List Tok} {r : Rec} {s : PS} (E : Ends T) (F : Fine T r) (h : s.i < T.length) (hk : kdF T s ≠ 0) : s.i + 1 ≤ (declF T r s).2.i := by
 have e1 : (stepF T s).i = s.i + 1 := by unfold stepF; rw [if_neg hk]
 have h1 : (stepF T s).i < T.length := (goes_step E h).lt
 have h0 : Goes T (stepF T s) (stepF T s) := .refl h1
 have up : ∀ {s'}, Goes T (stepF T s) s' → s.i + 1 ≤ s'.i := fun g => by have := g.i; omega
 unfold declF
 dsimp only
 split
 ·exact up ((((((h0.text E 3).namL E _ _).want E _).cosL E F _ _ _)).want E _)
 ·exact up ((((h0.flat true).value E F _).flat false).want E _)
end Go.Proofs.Ytgjchgmlogbmmaa
/- The walks of layer 5, the document's: a program. -/
namespace Go.Proofs.Ytgjchgmlogbmmaa
open Go.RowKit
set_option linter.unusedVariables false
set_option linter.unusedSimpArgs false
attribute [local go_sem ↓] Go.wp_at_zero Go.wp_at_succ

theorem drew_cell (w : World) (q : Addr) : w.drew.cell? q = w.cell? q := World.cell?_of_block ((Below.refl (q.block + 1) w).drew.block _ (Nat.lt_succ_self _))
theorem far6 {w : World} {G : Nat} {q : Addr} {v u0 u1 u2 u3 u4 u5 : Value} (h : w.cell? q = some v) (hne : q.block ≠ G) : ((((((w.setCell ⟨G, 0, none⟩ u0).setCell ⟨G, 1, none⟩ u1).setCell ⟨G, 2, none⟩ u2).setCell ⟨G, 3, none⟩ u3).setCell ⟨G, 4, none⟩ u4).setCell ⟨G, 5, none⟩ u5).drew.cell? q = some v := (drew_cell _ _).trans <|
 cell_far (cell_far (cell_far (cell_far (cell_far (cell_far h hne) hne) hne) hne) hne) hne
set_option maxRecDepth 100000 in
set_option maxHeartbeats 32000000 in
theorem program_any (w : World) (s : ByteArray) (hs : s.size ≤ 1000) :
  Calls Try.prog 17 #[.string s] w (fun e w' => ∃ f, e = .returned (.tuple #[ndV (progF s.data.toList).1 f, .int .i64 ((progF s.data.toList).2.1 : Int), .int .i64 (progF s.data.toList).2.2]) ∧ NodeIn w' (fun a => w.heap.size ≤ a) (progF s.data.toList).1 f ∧ Below w.heap.size w w') := by
 obtain ⟨q, hq⟩ : ∃ q, progF s.data.toList = q := ⟨_, rfl⟩
 have HQ := Lib.hid hq
 have HSZ := Lib.hid hs
 rw [hq]
 clear hq
 have CT := Lib.hid (fun wx => rtokens_any wx s (by omega) (shortQ _ (by rw [size_list]; exact hs)))
 have HBIG : Hid (s.data.toList.length ≤ 2000) := by show _ ≤ _; rw [size_list]; omega
 clear hs
 obtain ⟨T, at0, e0, htk⟩ : ∃ T at0 e0, tokensF s.data.toList = (T, at0, e0) := ⟨_, _, _, rfl⟩
 have HTK := Lib.hid htk
 clear htk
 go_enter Try.func17, Try.ntmps17
 go_upto_region 1 with (fail)
 have HZ0 : Hid (Whole (w.alloc (.cells #[.int .i64 0, .string ⟨#[]⟩, .int .i64 0, .int .i64 0, .slice none 0 0, .slice none 0 0] 25)) w.heap.size 25 #[.int .i64 0, .string ⟨#[]⟩, .int .i64 0, .int .i64 0, .slice none 0 0, .slice none 0 0]) := Whole.made _ _ _
 have HB0 : Hid (Below w.heap.size w (w.alloc (.cells #[.int .i64 0, .string ⟨#[]⟩, .int .i64 0, .int .i64 0, .slice none 0 0, .slice none 0 0] 25))) := (Below.refl _ _).alloc (Nat.le_refl _) _
 have HS0 : Hid (w.heap.size < (w.alloc (.cells #[.int .i64 0, .string ⟨#[]⟩, .int .i64 0, .int .i64 0, .slice none 0 0, .slice none 0 0] 25)).heap.size) := by show _ < _; simp
 generalize w.alloc (.cells #[.int .i64 0, .string ⟨#[]⟩, .int .i64 0, .int .i64 0, .slice none 0 0, .slice none 0 0] 25) = w2 at *
 go_wp2_with fail
 refine (CT.out w2).mono ?_
 rw [HTK.out]
 rintro e w3 ⟨v, rfl, htoks, hb3⟩
 have HB3 := Lib.hid (HB0.out.trans (hb3.mono (Nat.le_of_lt HS0.out)))
 have HZ3 := Lib.hid (HZ0.out.below hb3 HS0.out)
 have HTO := Lib.hid htoks
 have HS3 : Hid (w.heap.size < w3.heap.size) := Nat.lt_of_lt_of_le HS0.out hb3.size
 clear htoks hb3 HB0 HZ0 HS0 CT
 by_cases he : e0 = 0
 ·subst he
  have hT := of_tokensF HTK.out
  have E := ends_toks hT
  have hlen : T.length ≤ 100000 := by have := hT.len; have := HBIG.out; omega
  obtain ⟨A, c, rfl, hrow, _, _⟩ := toks_row HTO.out
  obtain ⟨g, rfl, htk⟩ := tkin_row hrow hT.ne
  have F := fine_rules E 42
  obtain ⟨s0, hs0⟩ : ∃ s0 : PS, (⟨0, 0, 0, false, 0⟩ : PS) = s0 := ⟨_, rfl⟩
  have H5 : Hid (Lo (w3.alloc (.cells #[.slice (some ⟨g, 0, none⟩) T.length c, .int .i64 0, .int .i64 0, .int .i64 0, .bool false, .int .i64 0] 61)).heap.size (w3.alloc (.cells #[.slice (some ⟨g, 0, none⟩) T.length c, .int .i64 0, .int .i64 0, .int .i64 0, .bool false, .int .i64 0] 61)) (w3.alloc (.cells #[.slice (some ⟨g, 0, none⟩) T.length c, .int .i64 0, .int .i64 0, .int .i64 0, .bool false, .int .i64 0] 61)) w3.heap.size g c T s0) := by
   rw [← hs0]
   exact ⟨PAt.made htk E.pos hlen, .refl _ _ _, by simp, by have := htk.1; simp; omega, Nat.le_refl _⟩
  have HZ4 := Lib.hid (HZ3.out.alloc (.cells #[.slice (some ⟨g, 0, none⟩) T.length c, .int .i64 0, .int .i64 0, .int .i64 0, .bool false, .int .i64 0] 61))
  have HB4 := Lib.hid (HB3.out.alloc (Nat.le_of_lt HS3.out) (.cells #[.slice (some ⟨g, 0, none⟩) T.length c, .int .i64 0, .int .i64 0, .int .i64 0, .bool false, .int .i64 0] 61))
  have HS4 : Hid (w.heap.size < w3.heap.size) := HS3.out
  have G_s0 : Hid (Goes T s0 s0) := .refl (by rw [← hs0]; exact E.pos)
  have HDP : Hid (s0.deep = 0) := by show _ = _; rw [← hs0]
  have HS00 := Lib.hid hs0
  clear hT hrow htk HZ3 HB3 HS3 HTO hs0
  obtain ⟨a, h_a⟩ : ∃ a, atF T s0 = a := ⟨_, rfl⟩
  have E_a := Lib.hid h_a
  clear h_a
  obtain ⟨zz0, h_zz0⟩ : ∃ z9, Nd.mk 30 [] 0 a [] [] = z9 := ⟨_, rfl⟩
  obtain ⟨res, hres⟩ : ∃ res, progL T (T.length + 1) zz0 s0 = res := ⟨_, rfl⟩
  have HQ2 : Hid ((if (if kdF T ((rules T 42).exp (wantF T res.2 [100, 111])).2 = 0 then ((rules T 42).exp (wantF T res.2 [100, 111])).2 else failF T ((rules T 42).exp (wantF T res.2 [100, 111])).2 14).e = 0 then (res.1.add ((rules T 42).exp (wantF T res.2 [100, 111])).1, 0, 0) else (nd0, (if kdF T ((rules T 42).exp (wantF T res.2 [100, 111])).2 = 0 then ((rules T 42).exp (wantF T res.2 [100, 111])).2 else failF T ((rules T 42).exp (wantF T res.2 [100, 111])).2 14).bad, (if kdF T ((rules T 42).exp (wantF T res.2 [100, 111])).2 = 0 then ((rules T 42).exp (wantF T res.2 [100, 111])).2 else failF T ((rules T 42).exp (wantF T res.2 [100, 111])).2 14).e)) = q) := by
   show _ = _
   rw [← HQ.out]; unfold progF; rw [HTK.out, if_pos rfl, ← hres, ← h_zz0, ← E_a.out, ← HS00.out]; rfl
  have Z_zz0 := Lib.hid h_zz0
  have HRES := Lib.hid hres
  clear HQ hres h_zz0 HTK
  go_upto_region 5 with (fail)
  generalize w3.alloc (.cells #[.slice (some ⟨g, 0, none⟩) T.length c, .int .i64 0, .int .i64 0, .int .i64 0, .bool false, .int .i64 0] 61) = w4 at *
  obtain ⟨R, hR⟩ : ∃ R, w3.heap.size = R := ⟨_, rfl⟩
  rw [hR] at H5 HS4
  simp only [hR]
  clear hR
  obtain ⟨Bs, hBs⟩ : ∃ Bs, w4.heap.size = Bs := ⟨_, rfl⟩
  rw [hBs] at H5
  have HBS := Lib.hid hBs
  clear hBs
  go_wp2_with fail
  refine (at_eq E_a.out H5.out.p).mono ?_
  rintro e w6 ⟨rfl, b6⟩
  have H6 := Lib.hid (H5.out.read b6)
  clear b6 H5
  have H7 := Lib.hid (H6.out.alloc (.cells #[.int .i64 30, .string ⟨#[]⟩, .int .i64 0, .int .i64 (a : Int), .slice none 0 0, .slice none 0 0] 25))
  have B_G7 : Hid (Box (w6.alloc (.cells #[.int .i64 30, .string ⟨#[]⟩, .int .i64 0, .int .i64 (a : Int), .slice none 0 0, .slice none 0 0] 25)) w6.heap.size Bs (Nd.mk 30 [] 0 a [] []) fr0 []) := Box.made w6 (base := Bs) (x := (Nd.mk 30 [] 0 a [] [])) H6.out.size rfl rfl
  rw [Z_zz0.out] at B_G7
  go_upto_block 0 with (fail)
  generalize w6.alloc (.cells #[.int .i64 30, .string ⟨#[]⟩, .int .i64 0, .int .i64 (a : Int), .slice none 0 0, .slice none 0 0] 25) = w7 at *
  generalize w6.heap.size = G at *
  clear H6
  go_cut [10, 11] (fun _ _ wx => ∃ z s3 f3 fs3, res = (z, s3) ∧ z.ks.length ≤ 60 ∧ Lo Bs w4 wx R g c T s3 ∧ Box wx G Bs z f3 fs3 ∧ Goes T s0 s3)
  case first =>
   go_wp2_with fail
   go_loopg [10, 11] (T.length + 1) (fun gk _ _ wr => ∃ z s3 f3 fs3, T.length + 1 ≤ gk + s3.i ∧ z.ks.length ≤ 60 ∧ progL T gk z s3 = res ∧ Box wr G Bs z f3 fs3 ∧ Lo Bs w4 wr R g c T s3 ∧ Goes T s0 s3)
   case atStart => exact ⟨zz0, s0, fr0, [], by omega, by rw [← Z_zz0.out]; exact Nat.zero_le _, HRES.out, B_G7.out, H7.out, G_s0.out⟩
   case round =>
    obtain ⟨z, s3, f3, fs3, hz, hz4, hpl, hbx, hst, hgo⟩ := hrel
    obtain ⟨m, rfl⟩ : ∃ m, gk = m + 1 := ⟨gk - 1, by have := hgo.lt; omega⟩
    have BX := Lib.hid hbx
    have HS := Lib.hid hst
    have G_s3 := Lib.hid hgo
    have HPL := Lib.hid (show (if isF T s3 [116, 121, 112, 101] = true ∨ isF T s3 [108, 101, 116] = true then if z.ks.length = 60 then (z, failF T s3 16) else progL T m (z.add (declF T (rules T 42) s3).1) (declF T (rules T 42) s3).2 else (z, s3)) = res from hpl)
    clear hbx hst hgo hpl HQ2 HRES B_G7 H7
    obtain ⟨bt, h_bt⟩ : ∃ bt, isF T s3 [116, 121, 112, 101] = bt := ⟨_, rfl⟩
    have E_bt := Lib.hid h_bt
    clear h_bt
    obtain ⟨bl, h_bl⟩ : ∃ bl, isF T s3 [108, 101, 116] = bl := ⟨_, rfl⟩
    have E_bl := Lib.hid h_bl
    clear h_bl
    go_wp2_with fail
    refine (is_eq E_bt.out HS.out.p).mono ?_
    rintro e w21 ⟨rfl, b21⟩
    have H21 := Lib.hid (HS.out.read b21)
    have B_G21 := Lib.hid (BX.out.below b21 (Nat.le_refl _))
    clear b21 HS BX
    go_wp2_with fail
    refine (is_eq E_bl.out H21.out.p).mono ?_
    rintro e w22 ⟨rfl, b22⟩
    have H22 := Lib.hid (H21.out.read b22)
    have B_G22 := Lib.hid (B_G21.out.below b22 (Nat.le_refl _))
    clear b22 H21 B_G21
    rcases bt with _ | _
    ·rcases bl with _ | _
     ·have hr := (if_neg (by rw [E_bt.out, E_bl.out]; decide)).symm.trans HPL.out
      subst hr
      clear HPL
      go_wp2_with fail
      go_meet
      exact ⟨z, s3, f3, fs3, rfl, hz4, H22.out, B_G22.out, G_s3.out⟩
     ·have HPL2 := Lib.hid ((if_pos (.inr E_bl.out)).symm.trans HPL.out)
      have HAD := Lib.hid (decl_adv E F G_s3.out.lt (is_kd E_bl.out))
      clear HPL
      have d5 := B_G22.out.c5
      go_upto_region 9 with (fail)
      obtain ⟨lb, ql⟩ : ∃ lb, ((z.ks.length : Int) == 60) = lb := ⟨_, rfl⟩
      rcases lb with _ | _
      ·obtain ⟨y, s4, h_s4⟩ : ∃ y s4, declF T (rules T 42) s3 = (y, s4) := ⟨_, _, rfl⟩
       have E_s4 := Lib.hid h_s4
       clear h_s4
       have G_s4 := Lib.hid (show Goes T s0 s4 from by have q := G_s3.out.trans (goes_decl E F G_s3.out.lt); rw [E_s4.out] at q; exact q)
       have HPL3 : Hid (progL T m (z.add y) s4 = res) := by
        show _ = _
        have q1 := (if_neg (fun h => beq_eq_false_iff_ne.1 ql (by omega))).symm.trans HPL2.out
        rw [E_s4.out] at q1; exact q1
       have HI2 : Hid (s3.i + 1 ≤ s4.i) := by have q1 := HAD.out; rw [E_s4.out] at q1; exact q1
       have hz6 : z.ks.length ≤ 59 := by have := beq_eq_false_iff_ne.1 ql; omega
       clear HPL2 HAD
       go_upto_region 11 with (fail)
       clear d5
       have C23 := Lib.hid (fun wx (h : PAt wx R g c T s3) => gives_eq E_s4.out (decl_rule R g c T E wx s3 h 42 (by omega)))
       refine region_Z (fun W => W.cell? ⟨G, 5, none⟩ = some (.slice f3.ka z.ks.length f3.kc)) (fun i => i == 7) (by kernel_rfl) B_G22.out.drew.c5 (fun hHeld => ?_)
       refine tke 0 rfl (v := ?_) ?_ ?_; rotate_left
       ·(intro w hSw; (try dsimp only at hSw); go_simp; try with_reducible rfl)
       (try simp only [Act.put, sZ])
       refine tke 1 rfl (v := ?_) ?_ ?_; rotate_left
       ·(intro w hSw; (try dsimp only at hSw); go_simp; try with_reducible rfl)
       (try simp only [Act.put, sZ])
       refine tke 2 rfl (v := ?_) ?_ ?_; rotate_left
       ·(intro w hSw; (try dsimp only at hSw); go_simp; try with_reducible rfl)
       (try simp only [Act.put, sZ])
       refine stp 3 rfl (fun K hK => ?_)
       go_simp
       go_at_call 37
       refine (C23.out _ H22.out.drew.p).mono ?_
       rintro e wc ⟨fy, rfl, hpc, ny, bc⟩
       have HC := Lib.hid (H22.out.drew.call hpc bc)
       have BC := Lib.hid (B_G22.out.drew.but bc (Nat.le_refl _) (by have := H22.out.r; omega))
       have NY : Hid (NodeIn wc (fun a => w22.heap.size ≤ a) y fy) := ny
       clear hpc ny bc
       unfold ndV
       refine hK.out _ _ (fun _ => BC.out.c5) (fun hHeld2 => ?_)
       clear hK K hHeld
       (try simp only [Act.put, sZ])
       refine stp 4 rfl (fun K hK => ?_)
       go_simp
       refine hK.out _ _ (fun _ => (BC.out.alloc _).c5) (fun hHeld3 => ?_)
       clear hK K hHeld2
       (try simp only [Act.put, sZ])
       refine stp 5 rfl (fun K hK => ?_)
       refine step_app ty_nd (v := .slice f3.ka z.ks.length f3.kc) (by rfl) _ _ (by rfl) (by rfl) (BC.out.alloc _).kid wc.heap.size 1 (ndL y fy) (by rfl) (Whole.made wc 25 _) (by rfl) (by simp [ndL, Value.oneCell']) (by decide) (by omega) (by decide) (by have := HC.out.size; simp; omega) ?_
       intro gv cv wd hap
       have HD := Lib.hid ((HC.out.alloc (.cells (ndL y fy).toArray 25)).low (hap.below (BC.out.alloc (.cells (ndL y fy).toArray 25)).kid (Below.refl _ _) (Nat.le_refl _) (by have := HC.out.size; simp; omega)))
       have BN0 := Lib.hid ((BC.out.alloc (.cells (ndL y fy).toArray 25)).app (B := w22.heap.size) B_G22.out.lt B_G22.out.nlt B_G22.out.klt (NY.out.alloc _) hap)
       have XD := Lib.hid (hap.far (BC.out.alloc (.cells (ndL y fy).toArray 25)).box (row_ne (BC.out.alloc (.cells (ndL y fy).toArray 25)).kid BC.out.kN))
       have z5 : wd.cell? ⟨G, 5, none⟩ = some (.slice f3.ka z.ks.length f3.kc) := XD.out.cell 5
       have y5 := XD.out.free 5
       refine hK.out _ _ (fun _ => z5) (fun hHeld4 => ?_)
       replace hHeld4 := hHeld4 (by decide)
       clear hK K hHeld3 hap
       (try simp only [Act.put, sZ])
       refine tke 6 rfl (v := ?_) ?_ ?_; rotate_left
       ·(intro w hSw; (try dsimp only at hSw); go_simp; try with_reducible rfl)
       (try simp only [Act.put, sZ])
       refine stp 7 rfl (fun K hK => ?_)
       go_simp
       refine hK.out _ _ (fun h => absurd h (by decide)) (fun _ => ?_)
       refine anyZ_done (by kernel_rfl) ?_ _
       have H23 := Lib.hid (HD.out.own (p := ⟨G, 5, none⟩) (id B_G22.out.lo) (.slice (some ⟨gv, 0, none⟩) (z.ks.length + 1) cv))
       obtain ⟨f23, fs23, BN1⟩ : ∃ f2 fs2, Box (wd.setCell ⟨G, 5, none⟩ (.slice (some ⟨gv, 0, none⟩) (z.ks.length + 1) cv)) G Bs (z.add y) f2 fs2 := ⟨_, _, BN0.out⟩
       have B_G23 := Lib.hid BN1
       clear hK K hHeld4 z5 y5 XD BN0 BN1 HD BC HC NY
       generalize wd.setCell ⟨G, 5, none⟩ (.slice (some ⟨gv, 0, none⟩) (z.ks.length + 1) cv) = w23 at *
       clear C23 H22 B_G22
       go_wp2_with fail
       go_roundg m
       case measure => exact Nat.lt_succ_self _
       case rel => exact ⟨_, s4, f23, fs23, by have := HI2.out; omega, by rw [add_ks]; simp; omega, HPL3.out, B_G23.out, H23.out, G_s4.out⟩
      ·obtain ⟨s5, h_s5⟩ : ∃ s5, failF T s3 16 = s5 := ⟨_, rfl⟩
       have E_s5 := Lib.hid h_s5
       clear h_s5
       have G_s5 := Lib.hid (show Goes T s0 s5 from by have q := (G_s3.out.fail 16); rw [E_s5.out] at q; exact q)
       have hr := (if_pos (by have := beq_iff_eq.1 ql; omega)).symm.trans HPL2.out
       rw [E_s5.out] at hr
       subst hr
       clear HPL2 HAD
       go_upto_region 10 with (fail)
       clear d5
       go_wp2_with fail
       refine (fail_eq E_s5.out H22.out.p).mono ?_
       rintro e w24 ⟨rfl, h24, b24⟩
       have H24 := Lib.hid (H22.out.call h24 b24)
       have B_G24 := Lib.hid (B_G22.out.but b24 (Nat.le_refl _) (by have := H22.out.r; omega))
       clear h24 b24 H22 B_G22
       go_wp2_with fail
       go_meet
       exact ⟨z, s5, f3, fs3, rfl, hz4, H24.out, B_G24.out, G_s5.out⟩
    ·rcases bl with _ | _
     ·have HPL2 := Lib.hid ((if_pos (.inl E_bt.out)).symm.trans HPL.out)
      have HAD := Lib.hid (decl_adv E F G_s3.out.lt (is_kd E_bt.out))
      clear HPL
      have d5 := B_G22.out.c5
      go_upto_region 9 with (fail)
      obtain ⟨lb, ql⟩ : ∃ lb, ((z.ks.length : Int) == 60) = lb := ⟨_, rfl⟩
      rcases lb with _ | _
      ·obtain ⟨y, s4, h_s4⟩ : ∃ y s4, declF T (rules T 42) s3 = (y, s4) := ⟨_, _, rfl⟩
       have E_s4 := Lib.hid h_s4
       clear h_s4
       have G_s4 := Lib.hid (show Goes T s0 s4 from by have q := G_s3.out.trans (goes_decl E F G_s3.out.lt); rw [E_s4.out] at q; exact q)
       have HPL3 : Hid (progL T m (z.add y) s4 = res) := by
        show _ = _
        have q1 := (if_neg (fun h => beq_eq_false_iff_ne.1 ql (by omega))).symm.trans HPL2.out
        rw [E_s4.out] at q1; exact q1
       have HI2 : Hid (s3.i + 1 ≤ s4.i) := by have q1 := HAD.out; rw [E_s4.out] at q1; exact q1
       have hz6 : z.ks.length ≤ 59 := by have := beq_eq_false_iff_ne.1 ql; omega
       clear HPL2 HAD
       go_upto_region 11 with (fail)
       clear d5
       have C25 := Lib.hid (fun wx (h : PAt wx R g c T s3) => gives_eq E_s4.out (decl_rule R g c T E wx s3 h 42 (by omega)))
       refine region_Z (fun W => W.cell? ⟨G, 5, none⟩ = some (.slice f3.ka z.ks.length f3.kc)) (fun i => i == 7) (by kernel_rfl) B_G22.out.drew.c5 (fun hHeld => ?_)
       refine tke 0 rfl (v := ?_) ?_ ?_; rotate_left
       ·(intro w hSw; (try dsimp only at hSw); go_simp; try with_reducible rfl)
       (try simp only [Act.put, sZ])
       refine tke 1 rfl (v := ?_) ?_ ?_; rotate_left
       ·(intro w hSw; (try dsimp only at hSw); go_simp; try with_reducible rfl)
       (try simp only [Act.put, sZ])
       refine tke 2 rfl (v := ?_) ?_ ?_; rotate_left
       ·(intro w hSw; (try dsimp only at hSw); go_simp; try with_reducible rfl)
       (try simp only [Act.put, sZ])
       refine stp 3 rfl (fun K hK => ?_)
       go_simp
       go_at_call 37
       refine (C25.out _ H22.out.drew.p).mono ?_
       rintro e wc ⟨fy, rfl, hpc, ny, bc⟩
       have HC := Lib.hid (H22.out.drew.call hpc bc)
       have BC := Lib.hid (B_G22.out.drew.but bc (Nat.le_refl _) (by have := H22.out.r; omega))
       have NY : Hid (NodeIn wc (fun a => w22.heap.size ≤ a) y fy) := ny
       clear hpc ny bc
       unfold ndV
       refine hK.out _ _ (fun _ => BC.out.c5) (fun hHeld2 => ?_)
       clear hK K hHeld
       (try simp only [Act.put, sZ])
       refine stp 4 rfl (fun K hK => ?_)
       go_simp
       refine hK.out _ _ (fun _ => (BC.out.alloc _).c5) (fun hHeld3 => ?_)
       clear hK K hHeld2
       (try simp only [Act.put, sZ])
       refine stp 5 rfl (fun K hK => ?_)
       refine step_app ty_nd (v := .slice f3.ka z.ks.length f3.kc) (by rfl) _ _ (by rfl) (by rfl) (BC.out.alloc _).kid wc.heap.size 1 (ndL y fy) (by rfl) (Whole.made wc 25 _) (by rfl) (by simp [ndL, Value.oneCell']) (by decide) (by omega) (by decide) (by have := HC.out.size; simp; omega) ?_
       intro gv cv wd hap
       have HD := Lib.hid ((HC.out.alloc (.cells (ndL y fy).toArray 25)).low (hap.below (BC.out.alloc (.cells (ndL y fy).toArray 25)).kid (Below.refl _ _) (Nat.le_refl _) (by have := HC.out.size; simp; omega)))
       have BN0 := Lib.hid ((BC.out.alloc (.cells (ndL y fy).toArray 25)).app (B := w22.heap.size) B_G22.out.lt B_G22.out.nlt B_G22.out.klt (NY.out.alloc _) hap)
       have XD := Lib.hid (hap.far (BC.out.alloc (.cells (ndL y fy).toArray 25)).box (row_ne (BC.out.alloc (.cells (ndL y fy).toArray 25)).kid BC.out.kN))
       have z5 : wd.cell? ⟨G, 5, none⟩ = some (.slice f3.ka z.ks.length f3.kc) := XD.out.cell 5
       have y5 := XD.out.free 5
       refine hK.out _ _ (fun _ => z5) (fun hHeld4 => ?_)
       replace hHeld4 := hHeld4 (by decide)
       clear hK K hHeld3 hap
       (try simp only [Act.put, sZ])
       refine tke 6 rfl (v := ?_) ?_ ?_; rotate_left
       ·(intro w hSw; (try dsimp only at hSw); go_simp; try with_reducible rfl)
       (try simp only [Act.put, sZ])
       refine stp 7 rfl (fun K hK => ?_)
       go_simp
       refine hK.out _ _ (fun h => absurd h (by decide)) (fun _ => ?_)
       refine anyZ_done (by kernel_rfl) ?_ _
       have H25 := Lib.hid (HD.out.own (p := ⟨G, 5, none⟩) (id B_G22.out.lo) (.slice (some ⟨gv, 0, none⟩) (z.ks.length + 1) cv))
       obtain ⟨f25, fs25, BN1⟩ : ∃ f2 fs2, Box (wd.setCell ⟨G, 5, none⟩ (.slice (some ⟨gv, 0, none⟩) (z.ks.length + 1) cv)) G Bs (z.add y) f2 fs2 := ⟨_, _, BN0.out⟩
       have B_G25 := Lib.hid BN1
       clear hK K hHeld4 z5 y5 XD BN0 BN1 HD BC HC NY
       generalize wd.setCell ⟨G, 5, none⟩ (.slice (some ⟨gv, 0, none⟩) (z.ks.length + 1) cv) = w25 at *
       clear C25 H22 B_G22
       go_wp2_with fail
       go_roundg m
       case measure => exact Nat.lt_succ_self _
       case rel => exact ⟨_, s4, f25, fs25, by have := HI2.out; omega, by rw [add_ks]; simp; omega, HPL3.out, B_G25.out, H25.out, G_s4.out⟩
      ·obtain ⟨s5, h_s5⟩ : ∃ s5, failF T s3 16 = s5 := ⟨_, rfl⟩
       have E_s5 := Lib.hid h_s5
       clear h_s5
       have G_s5 := Lib.hid (show Goes T s0 s5 from by have q := (G_s3.out.fail 16); rw [E_s5.out] at q; exact q)
       have hr := (if_pos (by have := beq_iff_eq.1 ql; omega)).symm.trans HPL2.out
       rw [E_s5.out] at hr
       subst hr
       clear HPL2 HAD
       go_upto_region 10 with (fail)
       clear d5
       go_wp2_with fail
       refine (fail_eq E_s5.out H22.out.p).mono ?_
       rintro e w26 ⟨rfl, h26, b26⟩
       have H26 := Lib.hid (H22.out.call h26 b26)
       have B_G26 := Lib.hid (B_G22.out.but b26 (Nat.le_refl _) (by have := H22.out.r; omega))
       clear h26 b26 H22 B_G22
       go_wp2_with fail
       go_meet
       exact ⟨z, s5, f3, fs3, rfl, hz4, H26.out, B_G26.out, G_s5.out⟩
     ·have HPL2 := Lib.hid ((if_pos (.inl E_bt.out)).symm.trans HPL.out)
      have HAD := Lib.hid (decl_adv E F G_s3.out.lt (is_kd E_bt.out))
      clear HPL
      have d5 := B_G22.out.c5
      go_upto_region 9 with (fail)
      obtain ⟨lb, ql⟩ : ∃ lb, ((z.ks.length : Int) == 60) = lb := ⟨_, rfl⟩
      rcases lb with _ | _
      ·obtain ⟨y, s4, h_s4⟩ : ∃ y s4, declF T (rules T 42) s3 = (y, s4) := ⟨_, _, rfl⟩
       have E_s4 := Lib.hid h_s4
       clear h_s4
       have G_s4 := Lib.hid (show Goes T s0 s4 from by have q := G_s3.out.trans (goes_decl E F G_s3.out.lt); rw [E_s4.out] at q; exact q)
       have HPL3 : Hid (progL T m (z.add y) s4 = res) := by
        show _ = _
        have q1 := (if_neg (fun h => beq_eq_false_iff_ne.1 ql (by omega))).symm.trans HPL2.out
        rw [E_s4.out] at q1; exact q1
       have HI2 : Hid (s3.i + 1 ≤ s4.i) := by have q1 := HAD.out; rw [E_s4.out] at q1; exact q1
       have hz6 : z.ks.length ≤ 59 := by have := beq_eq_false_iff_ne.1 ql; omega
       clear HPL2 HAD
       go_upto_region 11 with (fail)
       clear d5
       have C27 := Lib.hid (fun wx (h : PAt wx R g c T s3) => gives_eq E_s4.out (decl_rule R g c T E wx s3 h 42 (by omega)))
       refine region_Z (fun W => W.cell? ⟨G, 5, none⟩ = some (.slice f3.ka z.ks.length f3.kc)) (fun i => i == 7) (by kernel_rfl) B_G22.out.drew.c5 (fun hHeld => ?_)
       refine tke 0 rfl (v := ?_) ?_ ?_; rotate_left
       ·(intro w hSw; (try dsimp only at hSw); go_simp; try with_reducible rfl)
       (try simp only [Act.put, sZ])
       refine tke 1 rfl (v := ?_) ?_ ?_; rotate_left
       ·(intro w hSw; (try dsimp only at hSw); go_simp; try with_reducible rfl)
       (try simp only [Act.put, sZ])
       refine tke 2 rfl (v := ?_) ?_ ?_; rotate_left
       ·(intro w hSw; (try dsimp only at hSw); go_simp; try with_reducible rfl)
       (try simp only [Act.put, sZ])
       refine stp 3 rfl (fun K hK => ?_)
       go_simp
       go_at_call 37
       refine (C27.out _ H22.out.drew.p).mono ?_
       rintro e wc ⟨fy, rfl, hpc, ny, bc⟩
       have HC := Lib.hid (H22.out.drew.call hpc bc)
       have BC := Lib.hid (B_G22.out.drew.but bc (Nat.le_refl _) (by have := H22.out.r; omega))
       have NY : Hid (NodeIn wc (fun a => w22.heap.size ≤ a) y fy) := ny
       clear hpc ny bc
       unfold ndV
       refine hK.out _ _ (fun _ => BC.out.c5) (fun hHeld2 => ?_)
       clear hK K hHeld
       (try simp only [Act.put, sZ])
       refine stp 4 rfl (fun K hK => ?_)
       go_simp
       refine hK.out _ _ (fun _ => (BC.out.alloc _).c5) (fun hHeld3 => ?_)
       clear hK K hHeld2
       (try simp only [Act.put, sZ])
       refine stp 5 rfl (fun K hK => ?_)
       refine step_app ty_nd (v := .slice f3.ka z.ks.length f3.kc) (by rfl) _ _ (by rfl) (by rfl) (BC.out.alloc _).kid wc.heap.size 1 (ndL y fy) (by rfl) (Whole.made wc 25 _) (by rfl) (by simp [ndL, Value.oneCell']) (by decide) (by omega) (by decide) (by have := HC.out.size; simp; omega) ?_
       intro gv cv wd hap
       have HD := Lib.hid ((HC.out.alloc (.cells (ndL y fy).toArray 25)).low (hap.below (BC.out.alloc (.cells (ndL y fy).toArray 25)).kid (Below.refl _ _) (Nat.le_refl _) (by have := HC.out.size; simp; omega)))
       have BN0 := Lib.hid ((BC.out.alloc (.cells (ndL y fy).toArray 25)).app (B := w22.heap.size) B_G22.out.lt B_G22.out.nlt B_G22.out.klt (NY.out.alloc _) hap)
       have XD := Lib.hid (hap.far (BC.out.alloc (.cells (ndL y fy).toArray 25)).box (row_ne (BC.out.alloc (.cells (ndL y fy).toArray 25)).kid BC.out.kN))
       have z5 : wd.cell? ⟨G, 5, none⟩ = some (.slice f3.ka z.ks.length f3.kc) := XD.out.cell 5
       have y5 := XD.out.free 5
       refine hK.out _ _ (fun _ => z5) (fun hHeld4 => ?_)
       replace hHeld4 := hHeld4 (by decide)
       clear hK K hHeld3 hap
       (try simp only [Act.put, sZ])
       refine tke 6 rfl (v := ?_) ?_ ?_; rotate_left
       ·(intro w hSw; (try dsimp only at hSw); go_simp; try with_reducible rfl)
       (try simp only [Act.put, sZ])
       refine stp 7 rfl (fun K hK => ?_)
       go_simp
       refine hK.out _ _ (fun h => absurd h (by decide)) (fun _ => ?_)
       refine anyZ_done (by kernel_rfl) ?_ _
       have H27 := Lib.hid (HD.out.own (p := ⟨G, 5, none⟩) (id B_G22.out.lo) (.slice (some ⟨gv, 0, none⟩) (z.ks.length + 1) cv))
       obtain ⟨f27, fs27, BN1⟩ : ∃ f2 fs2, Box (wd.setCell ⟨G, 5, none⟩ (.slice (some ⟨gv, 0, none⟩) (z.ks.length + 1) cv)) G Bs (z.add y) f2 fs2 := ⟨_, _, BN0.out⟩
       have B_G27 := Lib.hid BN1
       clear hK K hHeld4 z5 y5 XD BN0 BN1 HD BC HC NY
       generalize wd.setCell ⟨G, 5, none⟩ (.slice (some ⟨gv, 0, none⟩) (z.ks.length + 1) cv) = w27 at *
       clear C27 H22 B_G22
       go_wp2_with fail
       go_roundg m
       case measure => exact Nat.lt_succ_self _
       case rel => exact ⟨_, s4, f27, fs27, by have := HI2.out; omega, by rw [add_ks]; simp; omega, HPL3.out, B_G27.out, H27.out, G_s4.out⟩
      ·obtain ⟨s5, h_s5⟩ : ∃ s5, failF T s3 16 = s5 := ⟨_, rfl⟩
       have E_s5 := Lib.hid h_s5
       clear h_s5
       have G_s5 := Lib.hid (show Goes T s0 s5 from by have q := (G_s3.out.fail 16); rw [E_s5.out] at q; exact q)
       have hr := (if_pos (by have := beq_iff_eq.1 ql; omega)).symm.trans HPL2.out
       rw [E_s5.out] at hr
       subst hr
       clear HPL2 HAD
       go_upto_region 10 with (fail)
       clear d5
       go_wp2_with fail
       refine (fail_eq E_s5.out H22.out.p).mono ?_
       rintro e w28 ⟨rfl, h28, b28⟩
       have H28 := Lib.hid (H22.out.call h28 b28)
       have B_G28 := Lib.hid (B_G22.out.but b28 (Nat.le_refl _) (by have := H22.out.r; omega))
       clear h28 b28 H22 B_G22
       go_wp2_with fail
       go_meet
       exact ⟨z, s5, f3, fs3, rfl, hz4, H28.out, B_G28.out, G_s5.out⟩
  case rest =>
   obtain ⟨z, s3, f3, fs3, hres, hz4, h5, b5, g5⟩ := hcut
   have H91 := Lib.hid h5
   have B91 := Lib.hid b5
   have G_s3 := Lib.hid g5
   have hq := HQ2.out
   rw [hres] at hq
   have HQ3 := Lib.hid hq
   clear hq HQ2 HRES hres h5 b5 g5 B_G7 H7
   have hwr : w.heap.size < R := HS4.out
   obtain ⟨s4, h_s4⟩ : ∃ s4, wantF T s3 [100, 111] = s4 := ⟨_, rfl⟩
   have E_s4 := Lib.hid h_s4
   clear h_s4
   have G_s4 := Lib.hid (show Goes T s0 s4 from by have q := (G_s3.out.want E [100, 111]); rw [E_s4.out] at q; exact q)
   obtain ⟨y, s5, h_s5⟩ : ∃ y s5, (rules T 42).exp s4 = (y, s5) := ⟨_, _, rfl⟩
   have E_s5 := Lib.hid h_s5
   clear h_s5
   have G_s5 := Lib.hid (show Goes T s0 s5 from by have q := (G_s4.out.exp F); rw [E_s5.out] at q; exact q)
   obtain ⟨k, h_k⟩ : ∃ k, kdF T s5 = k := ⟨_, rfl⟩
   have E_k := Lib.hid h_k
   clear h_k
   have hq := HQ3.out
   (try dsimp only at hq)
   rw [E_s4.out, E_s5.out] at hq
   (try dsimp only at hq)
   rw [E_k.out] at hq
   have HQ4 := Lib.hid hq
   clear hq HQ3
   go_upto_region 12 with (fail)
   go_wp2_with fail
   refine (want_eq E E_s4.out H91.out.p).mono ?_
   rintro e w93 ⟨rfl, h93, b93⟩
   have H93 := Lib.hid (H91.out.call h93 b93)
   have B_G93 := Lib.hid (B91.out.but b93 (Nat.le_refl _) (by have := H91.out.r; omega))
   clear h93 b93 H91 B91
   go_upto_region 13 with (fail)
   have C94 := Lib.hid (fun wx (h : PAt wx R g c T s4) => gives_eq E_s5.out (exp_rule R g c T E wx s4 h 42 (by omega)))
   refine region_Z (fun W => W.cell? ⟨G, 5, none⟩ = some (.slice f3.ka z.ks.length f3.kc)) (fun i => i == 7) (by kernel_rfl) B_G93.out.drew.c5 (fun hHeld => ?_)
   refine tke 0 rfl (v := ?_) ?_ ?_; rotate_left
   ·(intro w hSw; (try dsimp only at hSw); go_simp; try with_reducible rfl)
   (try simp only [Act.put, sZ])
   refine tke 1 rfl (v := ?_) ?_ ?_; rotate_left
   ·(intro w hSw; (try dsimp only at hSw); go_simp; try with_reducible rfl)
   (try simp only [Act.put, sZ])
   refine tke 2 rfl (v := ?_) ?_ ?_; rotate_left
   ·(intro w hSw; (try dsimp only at hSw); go_simp; try with_reducible rfl)
   (try simp only [Act.put, sZ])
   refine stp 3 rfl (fun K hK => ?_)
   go_simp
   go_at_call 39
   refine (C94.out _ H93.out.drew.p).mono ?_
   rintro e wc ⟨fy, rfl, hpc, ny, bc⟩
   have HC := Lib.hid (H93.out.drew.call hpc bc)
   have BC := Lib.hid (B_G93.out.drew.but bc (Nat.le_refl _) (by have := H93.out.r; omega))
   have NY : Hid (NodeIn wc (fun a => w93.heap.size ≤ a) y fy) := ny
   clear hpc ny bc
   unfold ndV
   refine hK.out _ _ (fun _ => BC.out.c5) (fun hHeld2 => ?_)
   clear hK K hHeld
   (try simp only [Act.put, sZ])
   refine stp 4 rfl (fun K hK => ?_)
   go_simp
   refine hK.out _ _ (fun _ => (BC.out.alloc _).c5) (fun hHeld3 => ?_)
   clear hK K hHeld2
   (try simp only [Act.put, sZ])
   refine stp 5 rfl (fun K hK => ?_)
   refine step_app ty_nd (v := .slice f3.ka z.ks.length f3.kc) (by rfl) _ _ (by rfl) (by rfl) (BC.out.alloc _).kid wc.heap.size 1 (ndL y fy) (by rfl) (Whole.made wc 25 _) (by rfl) (by simp [ndL, Value.oneCell']) (by decide) (by omega) (by decide) (by have := HC.out.size; simp; omega) ?_
   intro gv cv wd hap
   have HD := Lib.hid ((HC.out.alloc (.cells (ndL y fy).toArray 25)).low (hap.below (BC.out.alloc (.cells (ndL y fy).toArray 25)).kid (Below.refl _ _) (Nat.le_refl _) (by have := HC.out.size; simp; omega)))
   have BN0 := Lib.hid ((BC.out.alloc (.cells (ndL y fy).toArray 25)).app (B := w93.heap.size) B_G93.out.lt B_G93.out.nlt B_G93.out.klt (NY.out.alloc _) hap)
   have XD := Lib.hid (hap.far (BC.out.alloc (.cells (ndL y fy).toArray 25)).box (row_ne (BC.out.alloc (.cells (ndL y fy).toArray 25)).kid BC.out.kN))
   have z5 : wd.cell? ⟨G, 5, none⟩ = some (.slice f3.ka z.ks.length f3.kc) := XD.out.cell 5
   have y5 := XD.out.free 5
   refine hK.out _ _ (fun _ => z5) (fun hHeld4 => ?_)
   replace hHeld4 := hHeld4 (by decide)
   clear hK K hHeld3 hap
   (try simp only [Act.put, sZ])
   refine tke 6 rfl (v := ?_) ?_ ?_; rotate_left
   ·(intro w hSw; (try dsimp only at hSw); go_simp; try with_reducible rfl)
   (try simp only [Act.put, sZ])
   refine stp 7 rfl (fun K hK => ?_)
   go_simp
   refine hK.out _ _ (fun h => absurd h (by decide)) (fun _ => ?_)
   refine anyZ_done (by kernel_rfl) ?_ _
   have H94 := Lib.hid (HD.out.own (p := ⟨G, 5, none⟩) (id B_G93.out.lo) (.slice (some ⟨gv, 0, none⟩) (z.ks.length + 1) cv))
   obtain ⟨f94, fs94, BN1⟩ : ∃ f2 fs2, Box (wd.setCell ⟨G, 5, none⟩ (.slice (some ⟨gv, 0, none⟩) (z.ks.length + 1) cv)) G Bs (z.add y) f2 fs2 := ⟨_, _, BN0.out⟩
   have B_G94 := Lib.hid BN1
   clear hK K hHeld4 z5 y5 XD BN0 BN1 HD BC HC NY
   generalize wd.setCell ⟨G, 5, none⟩ (.slice (some ⟨gv, 0, none⟩) (z.ks.length + 1) cv) = w94 at *
   clear C94 H93 B_G93
   obtain ⟨za, h_za⟩ : ∃ z9, (z.add y) = z9 := ⟨_, rfl⟩
   rw [h_za] at B_G94
   have Z_za := Lib.hid h_za
   clear h_za
   go_wp2_with fail
   refine (kind_eq E_k.out H94.out.p).mono ?_
   rintro e w95 ⟨rfl, b95⟩
   have H95 := Lib.hid (H94.out.read b95)
   have B_G95 := Lib.hid (B_G94.out.below b95 (Nat.le_refl _))
   clear b95 H94 B_G94
   obtain ⟨kb, qk⟩ : ∃ kb, (k != 0) = kb := ⟨_, rfl⟩
   rcases kb with _ | _
   ·have hq := HQ4.out
    rw [if_pos (show k = 0 from by simpa using qk)] at hq
    have HQ5 := Lib.hid hq
    clear hq HQ4
    have c5 := H95.out.p.c5
    have ff := H95.out.p.free 5
    obtain ⟨eb, qe⟩ : ∃ eb, (s5.e != 0) = eb := ⟨_, rfl⟩
    rcases eb with _ | _
    ·have hq := HQ5.out
     rw [if_pos (by simpa using qe)] at hq
     rw [Z_za.out] at hq
     subst hq
     have HZ9 := Lib.hid (H95.out.b.whole HZ4.out (by have := H95.out.r; omega) (by omega))
     clear HQ5
     go_upto_region 18 with (fail)
     clear c5 ff
     obtain ⟨t0, t1, t2, t3, t4, t5⟩ := nodeC (B_G95.out.box)
     obtain ⟨z0, z1, z2, z3, z4, z5⟩ := zeroC (HZ9.out)
     obtain ⟨y0, y1, y2, y3, y4, y5⟩ := freeC (HZ9.out)
     go_wp2_with fail
     obtain ⟨wf, HZF, HBF, hwf⟩ := endsN (HZ9.out) za f94
     rw [hwf]
     clear hwf
     obtain ⟨g0, g1, g2, g3, g4, g5⟩ := cells6 HZF.out
     exact bodyPost_ret (v := .tuple #[ndV za f94, .int .i64 0, .int .i64 0]) (by simp [results, Try.results17, go_sem, ndV, Nd.kd, Nd.tx, Nd.nm, Nd.at_, Nd.ns, Nd.ks, leafN, fr0, nd0, g0, g1, g2, g3, g4, g5]) rfl ⟨f94, rfl, (B_G95.out.node.but HBF.out (Nat.le_refl _) (fun a ha e => by have := H95.out.r; have := ha.1; omega)).mono (fun a ha _ => by have := H95.out.r; have := ha.1; omega), HB4.out.trans ((H95.out.b.below (b := w.heap.size) (by have := H95.out.r; omega) (by omega)).trans (HBF.out.below (by have := H95.out.size; have := H95.out.r; omega) (Nat.le_refl _)))⟩
    ·have hq := HQ5.out
     rw [if_neg (by simpa using qe)] at hq
     subst hq
     have HZ9 := Lib.hid (H95.out.b.whole HZ4.out (by have := H95.out.r; omega) (by omega))
     clear HQ5
     go_upto_region 17 with (fail)
     clear c5 ff
     have HE := Lib.hid (And.intro H95.out.p.c3 H95.out.p.c5)
     have HNR : Hid (R ≠ w.heap.size) := by show _ ≠ _; omega
     refine region_Z (fun W => W.cell? ⟨R, 3, none⟩ = some (.int .i64 (s5.bad : Int)) ∧ W.cell? ⟨R, 5, none⟩ = some (.int .i64 s5.e)) (fun _ => false) (by kernel_rfl) HE.out (fun hHeld => ?_)
     refine tkf 0 rfl (v := ?_) ?_ ?_; rotate_left
     ·(intro w hSw; (try dsimp only at hSw); obtain ⟨hS1, hS2⟩ := hSw; go_simp; try with_reducible rfl)
     (try simp only [Act.put, sZ])
     refine tkf 1 rfl (v := ?_) ?_ ?_; rotate_left
     ·(intro w hSw; (try dsimp only at hSw); obtain ⟨hS1, hS2⟩ := hSw; go_simp; try with_reducible rfl)
     (try simp only [Act.put, sZ])
     refine tkf 2 rfl (v := ?_) ?_ ?_; rotate_left
     ·(intro w hSw; (try dsimp only at hSw); obtain ⟨hS1, hS2⟩ := hSw; go_simp; try with_reducible rfl)
     (try simp only [Act.put, sZ])
     refine tkf 3 rfl (v := ?_) ?_ ?_; rotate_left
     ·(intro w hSw; (try dsimp only at hSw); obtain ⟨hS1, hS2⟩ := hSw; go_simp; try with_reducible rfl)
     (try simp only [Act.put, sZ])
     refine tkf 4 rfl (v := ?_) ?_ ?_; rotate_left
     ·(intro w hSw; (try dsimp only at hSw); obtain ⟨hS1, hS2⟩ := hSw; go_simp; try with_reducible rfl)
     (try simp only [Act.put, sZ])
     refine tkf 5 rfl (v := ?_) ?_ ?_; rotate_left
     ·(intro w hSw; (try dsimp only at hSw); obtain ⟨hS1, hS2⟩ := hSw; go_simp; try with_reducible rfl)
     (try simp only [Act.put, sZ])
     refine tkf 6 rfl (v := ?_) ?_ ?_; rotate_left
     ·(intro w hSw; (try dsimp only at hSw); obtain ⟨hS1, hS2⟩ := hSw; go_simp; try with_reducible rfl)
     (try simp only [Act.put, sZ])
     refine tkf 7 rfl (v := ?_) ?_ ?_; rotate_left
     ·(intro w hSw; (try dsimp only at hSw); obtain ⟨hS1, hS2⟩ := hSw; go_simp; try with_reducible rfl)
     (try simp only [Act.put, sZ])
     refine tkf 8 rfl (v := ?_) ?_ ?_; rotate_left
     ·(intro w hSw; (try dsimp only at hSw); obtain ⟨hS1, hS2⟩ := hSw; go_simp; try with_reducible rfl)
     (try simp only [Act.put, sZ])
     obtain ⟨z0, z1, z2, z3, z4, z5⟩ := zeroC (HZ9.out)
     obtain ⟨y0, y1, y2, y3, y4, y5⟩ := freeC (HZ9.out)
     refine stp 9 rfl (fun K hK => ?_)
     go_simp
     refine hK.out _ _ (fun _ => ⟨far6 (w := w95) HE.out.1 HNR.out, far6 (w := w95) HE.out.2 HNR.out⟩) (fun hHeld2 => ?_)
     replace hHeld2 := hHeld2 rfl
     clear hK K hHeld
     (try simp only [Act.put, sZ])
     refine stp 10 rfl (fun K hK => ?_)
     go_simp
     refine hK.out _ _ (fun _ => hHeld2) (fun hHeld3 => ?_)
     clear hK K hHeld3
     (try simp only [Act.put, sZ])
     refine stp 11 rfl (fun K hK => ?_)
     go_simp
     refine hK.out _ _ (fun _ => hHeld2) (fun hHeld3 => ?_)
     clear hK K hHeld3 hHeld2
     (try simp only [Act.put, sZ])
     refine anyZ_done (by kernel_rfl) ?_ _
     go_wp2_with fail
     obtain ⟨wf, HZF, HBF, hwf⟩ := ends6 (HZ9.out) (.int .i64 0) (.string ⟨#[]⟩) (.int .i64 0) (.int .i64 0) (.slice none 0 0) (.slice none 0 0)
     rw [hwf]
     clear hwf
     obtain ⟨g0, g1, g2, g3, g4, g5⟩ := cells6 HZF.out
     exact bodyPost_ret (v := .tuple #[ndV nd0 fr0, .int .i64 (s5.bad : Int), .int .i64 s5.e]) (by simp [results, Try.results17, go_sem, ndV, Nd.kd, Nd.tx, Nd.nm, Nd.at_, Nd.ns, Nd.ks, leafN, fr0, nd0, g0, g1, g2, g3, g4, g5]) rfl ⟨fr0, rfl, .leaf _ _ rfl rfl, (HB4.out.trans ((H95.out.b.below (b := w.heap.size) (by have := H95.out.r; omega) (by omega)).trans (HBF.out.below (by have := H95.out.size; have := H95.out.r; omega) (Nat.le_refl _)))).drew⟩
   ·obtain ⟨s6, h_s6⟩ : ∃ s6, failF T s5 14 = s6 := ⟨_, rfl⟩
    have E_s6 := Lib.hid h_s6
    clear h_s6
    go_upto_region 15 with (fail)
    go_wp2_with fail
    refine (fail_eq E_s6.out H95.out.p).mono ?_
    rintro e w96 ⟨rfl, h96, b96⟩
    have H96 := Lib.hid (H95.out.call h96 b96)
    have B_G96 := Lib.hid (B_G95.out.but b96 (Nat.le_refl _) (by have := H95.out.r; omega))
    clear h96 b96 H95 B_G95
    have hq := HQ4.out
    rw [if_neg (show ¬ k = 0 from by simpa using qk), E_s6.out] at hq
    have HQ5 := Lib.hid hq
    clear hq HQ4
    have c5 := H96.out.p.c5
    have ff := H96.out.p.free 5
    obtain ⟨eb, qe⟩ : ∃ eb, (s6.e != 0) = eb := ⟨_, rfl⟩
    rcases eb with _ | _
    ·have hq := HQ5.out
     rw [if_pos (by simpa using qe)] at hq
     rw [Z_za.out] at hq
     subst hq
     have HZ9 := Lib.hid (H96.out.b.whole HZ4.out (by have := H96.out.r; omega) (by omega))
     clear HQ5
     go_upto_region 18 with (fail)
     clear c5 ff
     obtain ⟨t0, t1, t2, t3, t4, t5⟩ := nodeC (B_G96.out.box)
     obtain ⟨z0, z1, z2, z3, z4, z5⟩ := zeroC (HZ9.out)
     obtain ⟨y0, y1, y2, y3, y4, y5⟩ := freeC (HZ9.out)
     go_wp2_with fail
     obtain ⟨wf, HZF, HBF, hwf⟩ := endsN (HZ9.out) za f94
     rw [hwf]
     clear hwf
     obtain ⟨g0, g1, g2, g3, g4, g5⟩ := cells6 HZF.out
     exact bodyPost_ret (v := .tuple #[ndV za f94, .int .i64 0, .int .i64 0]) (by simp [results, Try.results17, go_sem, ndV, Nd.kd, Nd.tx, Nd.nm, Nd.at_, Nd.ns, Nd.ks, leafN, fr0, nd0, g0, g1, g2, g3, g4, g5]) rfl ⟨f94, rfl, (B_G96.out.node.but HBF.out (Nat.le_refl _) (fun a ha e => by have := H96.out.r; have := ha.1; omega)).mono (fun a ha _ => by have := H96.out.r; have := ha.1; omega), HB4.out.trans ((H96.out.b.below (b := w.heap.size) (by have := H96.out.r; omega) (by omega)).trans (HBF.out.below (by have := H96.out.size; have := H96.out.r; omega) (Nat.le_refl _)))⟩
    ·have hq := HQ5.out
     rw [if_neg (by simpa using qe)] at hq
     subst hq
     have HZ9 := Lib.hid (H96.out.b.whole HZ4.out (by have := H96.out.r; omega) (by omega))
     clear HQ5
     go_upto_region 17 with (fail)
     clear c5 ff
     have HE := Lib.hid (And.intro H96.out.p.c3 H96.out.p.c5)
     have HNR : Hid (R ≠ w.heap.size) := by show _ ≠ _; omega
     refine region_Z (fun W => W.cell? ⟨R, 3, none⟩ = some (.int .i64 (s6.bad : Int)) ∧ W.cell? ⟨R, 5, none⟩ = some (.int .i64 s6.e)) (fun _ => false) (by kernel_rfl) HE.out (fun hHeld => ?_)
     refine tkf 0 rfl (v := ?_) ?_ ?_; rotate_left
     ·(intro w hSw; (try dsimp only at hSw); obtain ⟨hS1, hS2⟩ := hSw; go_simp; try with_reducible rfl)
     (try simp only [Act.put, sZ])
     refine tkf 1 rfl (v := ?_) ?_ ?_; rotate_left
     ·(intro w hSw; (try dsimp only at hSw); obtain ⟨hS1, hS2⟩ := hSw; go_simp; try with_reducible rfl)
     (try simp only [Act.put, sZ])
     refine tkf 2 rfl (v := ?_) ?_ ?_; rotate_left
     ·(intro w hSw; (try dsimp only at hSw); obtain ⟨hS1, hS2⟩ := hSw; go_simp; try with_reducible rfl)
     (try simp only [Act.put, sZ])
     refine tkf 3 rfl (v := ?_) ?_ ?_; rotate_left
     ·(intro w hSw; (try dsimp only at hSw); obtain ⟨hS1, hS2⟩ := hSw; go_simp; try with_reducible rfl)
     (try simp only [Act.put, sZ])
     refine tkf 4 rfl (v := ?_) ?_ ?_; rotate_left
     ·(intro w hSw; (try dsimp only at hSw); obtain ⟨hS1, hS2⟩ := hSw; go_simp; try with_reducible rfl)
     (try simp only [Act.put, sZ])
     refine tkf 5 rfl (v := ?_) ?_ ?_; rotate_left
     ·(intro w hSw; (try dsimp only at hSw); obtain ⟨hS1, hS2⟩ := hSw; go_simp; try with_reducible rfl)
     (try simp only [Act.put, sZ])
     refine tkf 6 rfl (v := ?_) ?_ ?_; rotate_left
     ·(intro w hSw; (try dsimp only at hSw); obtain ⟨hS1, hS2⟩ := hSw; go_simp; try with_reducible rfl)
     (try simp only [Act.put, sZ])
     refine tkf 7 rfl (v := ?_) ?_ ?_; rotate_left
     ·(intro w hSw; (try dsimp only at hSw); obtain ⟨hS1, hS2⟩ := hSw; go_simp; try with_reducible rfl)
     (try simp only [Act.put, sZ])
     refine tkf 8 rfl (v := ?_) ?_ ?_; rotate_left
     ·(intro w hSw; (try dsimp only at hSw); obtain ⟨hS1, hS2⟩ := hSw; go_simp; try with_reducible rfl)
     (try simp only [Act.put, sZ])
     obtain ⟨z0, z1, z2, z3, z4, z5⟩ := zeroC (HZ9.out)
     obtain ⟨y0, y1, y2, y3, y4, y5⟩ := freeC (HZ9.out)
     refine stp 9 rfl (fun K hK => ?_)
     go_simp
     refine hK.out _ _ (fun _ => ⟨far6 (w := w96) HE.out.1 HNR.out, far6 (w := w96) HE.out.2 HNR.out⟩) (fun hHeld2 => ?_)
     replace hHeld2 := hHeld2 rfl
     clear hK K hHeld
     (try simp only [Act.put, sZ])
     refine stp 10 rfl (fun K hK => ?_)
     go_simp
     refine hK.out _ _ (fun _ => hHeld2) (fun hHeld3 => ?_)
     clear hK K hHeld3
     (try simp only [Act.put, sZ])
     refine stp 11 rfl (fun K hK => ?_)
     go_simp
     refine hK.out _ _ (fun _ => hHeld2) (fun hHeld3 => ?_)
     clear hK K hHeld3 hHeld2
     (try simp only [Act.put, sZ])
     refine anyZ_done (by kernel_rfl) ?_ _
     go_wp2_with fail
     obtain ⟨wf, HZF, HBF, hwf⟩ := ends6 (HZ9.out) (.int .i64 0) (.string ⟨#[]⟩) (.int .i64 0) (.int .i64 0) (.slice none 0 0) (.slice none 0 0)
     rw [hwf]
     clear hwf
     obtain ⟨g0, g1, g2, g3, g4, g5⟩ := cells6 HZF.out
     exact bodyPost_ret (v := .tuple #[ndV nd0 fr0, .int .i64 (s6.bad : Int), .int .i64 s6.e]) (by simp [results, Try.results17, go_sem, ndV, Nd.kd, Nd.tx, Nd.nm, Nd.at_, Nd.ns, Nd.ks, leafN, fr0, nd0, g0, g1, g2, g3, g4, g5]) rfl ⟨fr0, rfl, .leaf _ _ rfl rfl, (HB4.out.trans ((H96.out.b.below (b := w.heap.size) (by have := H96.out.r; omega) (by omega)).trans (HBF.out.below (by have := H96.out.size; have := H96.out.r; omega) (Nat.le_refl _)))).drew⟩
 ·have hq : (nd0, at0, e0) = q := by rw [← HQ.out]; unfold progF; rw [HTK.out, if_neg he]
  subst hq
  have q1 : (e0 != 0) = true := bne_iff_ne.2 he
  clear HQ HTK HTO
  obtain ⟨z0, z1, z2, z3, z4, z5⟩ := zeroC (HZ3.out)
  obtain ⟨y0, y1, y2, y3, y4, y5⟩ := freeC (HZ3.out)
  go_wp2_with fail
  obtain ⟨wf, HZF, HBF, hwf⟩ := ends6 (HZ3.out) (.int .i64 0) (.string ⟨#[]⟩) (.int .i64 0) (.int .i64 0) (.slice none 0 0) (.slice none 0 0)
  rw [hwf]
  clear hwf
  obtain ⟨g0, g1, g2, g3, g4, g5⟩ := cells6 HZF.out
  exact bodyPost_ret (v := .tuple #[ndV nd0 fr0, .int .i64 (at0 : Int), .int .i64 e0]) (by simp [results, Try.results17, go_sem, ndV, Nd.kd, Nd.tx, Nd.nm, Nd.at_, Nd.ns, Nd.ks, leafN, fr0, nd0, g0, g1, g2, g3, g4, g5]) rfl ⟨fr0, rfl, .leaf _ _ rfl rfl, HB3.out.trans (HBF.out.below (Nat.le_of_lt HS3.out) (Nat.le_refl _))⟩
end Go.Proofs.Ytgjchgmlogbmmaa
