/- A part of the proofs of chapter 11, squeezed, merged and shrunk by group.py: GKid GWalkO. -/
import Derived.Test.YtgjchgmlogbmmaaR1
import Derived.KernelRfl
import Derived.Test.YtgjchgmlogbmmaaR5
/- A kid is laid into a place that was made for it, ahead of or behind the store of the row. -/
namespace Go.Proofs.Ytgjchgmlogbmmaa
open Go.RowKit
set_option linter.unusedVariables false
set_option linter.unusedSimpArgs false

section
variable {w0 w wd : World} {R g c G N : Nat} {T : List Tok} {s : PS} {x y : Nd} {f fy : Fr} {fs : List Fr} {gv cv B : Nat}
theorem zero_cells {base m : Nat} {v : Value} {L : List Value} (h : Appended w base 25 6 v m (L ++ [.int .i64 0, .string ⟨#[]⟩, .int .i64 0, .int .i64 0, .slice none 0 0, .slice none 0 0]) (.slice (some ⟨gv, 0, none⟩) m cv) wd) (hm : m * 6 = L.length + 6) :
  ∀ j : Nat, j < 6 → wd.cell? ⟨gv, L.length + j, none⟩ = ([.int .i64 0, .string ⟨#[]⟩, .int .i64 0, .int .i64 0, .slice none 0 0, .slice none 0 0] : List Value)[j]? ∧ wd.frozen? ⟨gv, L.length + j, none⟩ = false := fun j hj => by
 obtain ⟨g', c', e, _, _, hc, hf⟩ := own_cell h.1 (k := L.length + j) (by omega)
 simp only [Value.slice.injEq] at e
 have eg : gv = g' := by have := e.1; simpa using this
 subst eg
 refine ⟨?_, hf⟩
 rw [hc, List.getElem?_append_right (by omega), Nat.add_sub_cancel_left]
def kidW (w : World) (gv N : Nat) (y : Nd) (fy : Fr) : World := ((((((w.setCell ⟨gv, N, none⟩ (.int .i64 y.kd)).setCell ⟨gv, N + 1, none⟩ (.string ⟨y.tx.toArray⟩)).setCell ⟨gv, N + 2, none⟩ (.int .i64 y.nm)).setCell ⟨gv, N + 3, none⟩ (.int .i64 (y.at_ : Int))).setCell ⟨gv, N + 4, none⟩ (.slice fy.na y.ns.length fy.nc)).setCell ⟨gv, N + 5, none⟩ (.slice fy.ka y.ks.length fy.kc))
theorem kid_comm (w : World) {gv G : Nat} (h : gv ≠ G) (N k : Nat) (u : Value) (y : Nd) (fy : Fr) : kidW (w.setCell ⟨G, k, none⟩ u) gv N y fy = (kidW w gv N y fy).setCell ⟨G, k, none⟩ u := by
 unfold kidW
 rw [set_comm w (p := ⟨G, k, none⟩) (q := ⟨gv, N, none⟩) (Ne.symm h), set_comm _ (p := ⟨G, k, none⟩) (q := ⟨gv, N + 1, none⟩) (Ne.symm h), set_comm _ (p := ⟨G, k, none⟩) (q := ⟨gv, N + 2, none⟩) (Ne.symm h), set_comm _ (p := ⟨G, k, none⟩) (q := ⟨gv, N + 3, none⟩) (Ne.symm h), set_comm _ (p := ⟨G, k, none⟩) (q := ⟨gv, N + 4, none⟩) (Ne.symm h), set_comm _ (p := ⟨G, k, none⟩) (q := ⟨gv, N + 5, none⟩) (Ne.symm h)]
/-- What stands behind such a region. -/
theorem kid_done {base : Nat} (hb2 : w0.heap.size + 1 = base) (H : St w0 w R g c T s) (BX : Box w G base x f fs) (hN : G < B) (hnB : ∀ a, f.na = some ⟨a, 0, none⟩ → a < B) (hkB : ∀ a, f.ka = some ⟨a, 0, none⟩ → a < B) (ny : NodeIn w (fun a => B ≤ a) y fy)
  (hap : Appended w base 25 6 (.slice f.ka x.ks.length f.kc) (x.ks.length + 1) (flatL x.ks fs ++ [.int .i64 0, .string ⟨#[]⟩, .int .i64 0, .int .i64 0, .slice none 0 0, .slice none 0 0]) (.slice (some ⟨gv, 0, none⟩) (x.ks.length + 1) cv) wd) :
  Box ((kidW wd gv (x.ks.length * 6) y fy).setCell ⟨G, 5, none⟩ (.slice (some ⟨gv, 0, none⟩) (x.ks.length + 1) cv)) G base (x.add y) ⟨f.na, f.nc, some ⟨gv, 0, none⟩, cv⟩ (fs ++ [fy]) ∧
  St w0 ((kidW wd gv (x.ks.length * 6) y fy).setCell ⟨G, 5, none⟩ (.slice (some ⟨gv, 0, none⟩) (x.ks.length + 1) cv)) R g c T s ∧ gv ≠ G := by
 subst hb2
 have hl : (flatL x.ks fs).length = x.ks.length * 6 := flatL_len _ _ BX.len
 have hk := hap.kid (y := y) (fy := fy) hl
 have hlo := BX.lo
 have hHD := H.low (hap.below BX.kid (Below.refl _ _) (Nat.le_refl _) (by have := H.size; omega))
 have hgb : w0.heap.size + 1 ≤ gv := (hap.1.lt gv rfl).1
 have hne : gv ≠ G := fun e => by
  rcases hap.2.2 gv rfl with h | h
  ·exact row_ne BX.kid BX.kN (by rw [h, e])
  ·have := BX.lt; omega
 refine ⟨BX.app hN hnB hkB ny hk, ?_, hne⟩
 exact ((((((hHD.own (p := ⟨gv, _, none⟩) hgb _).own (p := ⟨gv, _, none⟩) hgb _).own (p := ⟨gv, _, none⟩) hgb _).own (p := ⟨gv, _, none⟩) hgb _).own (p := ⟨gv, _, none⟩) hgb _).own (p := ⟨gv, _, none⟩) hgb _).own (p := ⟨G, 5, none⟩) hlo _
theorem kid_whole {t : TypeId} {cs : Array Value} (h : Whole w G t cs) (hne : G ≠ gv) (N : Nat) (y : Nd) (fy : Fr) : Whole (kidW w gv N y fy) G t cs :=
 (((((h.far (p := ⟨gv, N, none⟩) hne _).far (p := ⟨gv, N + 1, none⟩) hne _).far (p := ⟨gv, N + 2, none⟩) hne _).far (p := ⟨gv, N + 3, none⟩) hne _).far (p := ⟨gv, N + 4, none⟩) hne _).far (p := ⟨gv, N + 5, none⟩) hne _
end
/-- Where a rule stands that has no result's block of its own: what lies below base is as it was, but the record. -/
structure Lo (base : Nat) (w0 w : World) (R g c : Nat) (T : List Tok) (s : PS) : Prop where
 p : PAt w R g c T s
 b : But R base w0 w
 r : R < base
 l : g < base
 size : base ≤ w.heap.size
section
variable {base : Nat} {w0 w w' : World} {R g c : Nat} {T : List Tok} {s s' : PS}
theorem Lo.call (h : Lo base w0 w R g c T s) (p : PAt w' R g c T s') (b : But R w.heap.size w w') : Lo base w0 w' R g c T s' :=
 ⟨p, h.b.trans (b.mono h.size), h.r, h.l, Nat.le_trans h.size b.size⟩
theorem Lo.read (h : Lo base w0 w R g c T s) (b : Below w.heap.size w w') : Lo base w0 w' R g c T s := h.call (h.p.below b (Nat.le_refl _)) (.of_below b)
theorem Lo.alloc (h : Lo base w0 w R g c T s) (o : Obj) : Lo base w0 (w.alloc o) R g c T s := h.read ((Below.refl _ _).alloc (Nat.le_refl _) o)
theorem Lo.drew (h : Lo base w0 w R g c T s) : Lo base w0 w.drew R g c T s := h.read (Below.refl _ _).drew
theorem Lo.own (h : Lo base w0 w R g c T s) {p : Addr} (hp : base ≤ p.block) (u : Value) : Lo base w0 (w.setCell p u) R g c T s :=
 ⟨h.p.setCell (by have := h.r; omega) (by have := h.l; omega) u, h.b.setCell hp u, h.r, h.l, by simp [World.setCell]; exact h.size⟩
theorem Lo.low (h : Lo base w0 w R g c T s) (b : Below base w w') : Lo base w0 w' R g c T s :=
 ⟨⟨(b.block R h.r).trans h.p.box, h.p.ne, h.p.tk.block b.size (b.block g h.l), h.p.lt, h.p.len, h.p.deep⟩, h.b.trans (.of_below b), h.r, h.l, Nat.le_trans h.size b.size⟩
/-- What lies low is as it was, but the record, which is told. -/
theorem St.lowR (h : St w0 w R g c T s) (b : But R (w0.heap.size + 1) w w') (p : PAt w' R g c T s') : St w0 w' R g c T s' :=
 ⟨p, (b.block _ (Nat.lt_succ_self _) (Nat.ne_of_gt h.r)).trans h.z, h.b.trans (b.mono (Nat.le_succ _)), h.r, h.l⟩
variable {x y : Nd} {f fy : Fr} {fs : List Fr} {G B gv cv : Nat} {wd : World}
theorem kid_done2 (H : Lo base w0 w R g c T s) (BX : Box w G base x f fs) (hN : G < B) (hnB : ∀ a, f.na = some ⟨a, 0, none⟩ → a < B) (hkB : ∀ a, f.ka = some ⟨a, 0, none⟩ → a < B) (ny : NodeIn w (fun a => B ≤ a) y fy)
  (hap : Appended w base 25 6 (.slice f.ka x.ks.length f.kc) (x.ks.length + 1) (flatL x.ks fs ++ [.int .i64 0, .string ⟨#[]⟩, .int .i64 0, .int .i64 0, .slice none 0 0, .slice none 0 0]) (.slice (some ⟨gv, 0, none⟩) (x.ks.length + 1) cv) wd) :
  Box ((kidW wd gv (x.ks.length * 6) y fy).setCell ⟨G, 5, none⟩ (.slice (some ⟨gv, 0, none⟩) (x.ks.length + 1) cv)) G base (x.add y) ⟨f.na, f.nc, some ⟨gv, 0, none⟩, cv⟩ (fs ++ [fy]) ∧
  Lo base w0 ((kidW wd gv (x.ks.length * 6) y fy).setCell ⟨G, 5, none⟩ (.slice (some ⟨gv, 0, none⟩) (x.ks.length + 1) cv)) R g c T s ∧ gv ≠ G := by
 have hl : (flatL x.ks fs).length = x.ks.length * 6 := flatL_len _ _ BX.len
 have hk := hap.kid (y := y) (fy := fy) hl
 have hlo := BX.lo
 have hHD := H.low (hap.below BX.kid (Below.refl _ _) (Nat.le_refl _) H.size)
 have hgb : base ≤ gv := (hap.1.lt gv rfl).1
 have hne : gv ≠ G := fun e => by
  rcases hap.2.2 gv rfl with h | h
  ·exact row_ne BX.kid BX.kN (by rw [h, e])
  ·have := BX.lt; omega
 refine ⟨BX.app hN hnB hkB ny hk, ?_, hne⟩
 exact ((((((hHD.own (p := ⟨gv, _, none⟩) hgb _).own (p := ⟨gv, _, none⟩) hgb _).own (p := ⟨gv, _, none⟩) hgb _).own (p := ⟨gv, _, none⟩) hgb _).own (p := ⟨gv, _, none⟩) hgb _).own (p := ⟨gv, _, none⟩) hgb _).own (p := ⟨G, 5, none⟩) hlo _
end
end Go.Proofs.Ytgjchgmlogbmmaa
/- The walks of layer 5, the document's: what a name is to mean. -/
namespace Go.Proofs.Ytgjchgmlogbmmaa
open Go.RowKit
set_option linter.unusedVariables false
set_option linter.unusedSimpArgs false
attribute [local go_sem ↓] Go.wp_at_zero Go.wp_at_succ

theorem frozen_far {w : World} {p q : Addr} {u : Value} (hne : q.block ≠ p.block) : (w.setCell p u).frozen? q = w.frozen? q := by
 unfold World.frozen?; rw [Below.heap_setCell w p u q.block hne]
set_option maxRecDepth 100000 in
set_option maxHeartbeats 16000000 in
theorem value_any (w : World) (R g c base N : Nat) (T : List Tok) (r : Rec) (n : Nat) (s : PS) (x : Nd) (f : Fr) (fs : List Fr) (E : Ends T) (F : Fine T r) (D : Deep R g c T r n) (hp : PAt w R g c T s) (hr : R < base) (hg : g < base) (hbx : Box w N base x f fs) (hks : x.ks.length ≤ 100000) (hd : 41 ≤ s.deep + n) :
  Calls Try.prog 53 #[.pointer (some ⟨R, 0, none⟩), .pointer (some ⟨N, 0, none⟩)] w (fun e w' => e = .returned (.bool (valueB T s)) ∧ (∃ f2 fs2, Box w' N base (valueF T r x s).1 f2 fs2) ∧ PAt w' R g c T (valueF T r x s).2 ∧ But R base w w') := by
 have H0 := Lib.hid (show Lo base w w R g c T s from ⟨hp, .refl _ _ _, hr, hg, by have := hbx.lt; have := hbx.lo; omega⟩)
 have HD := Lib.hid hd
 have HL := Lib.hid hp.lt
 have G_s := Lib.hid (Goes.refl hp.lt)
 have BX := Lib.hid hbx
 clear hp hd hbx hr hg
 obtain ⟨b, hb⟩ : ∃ b, valueB T s = b := ⟨_, rfl⟩
 obtain ⟨q, hq⟩ : ∃ q, valueF T r x s = q := ⟨_, rfl⟩
 rw [hb, hq]
 have HQ := Lib.hid hq
 have E_b := Lib.hid (show isF T s [114, 101, 99] = b from hb)
 clear hq hb
 go_enter Try.func53, Try.ntmps53
 go_wp2_with fail
 refine (is_eq E_b.out H0.out.p).mono ?_
 rintro e w1 ⟨rfl, b1⟩
 have H1 := Lib.hid (H0.out.read b1)
 have B_N1 := Lib.hid (BX.out.below b1 (Nat.le_refl _))
 clear b1 H0 BX
 rcases b with _ | _
 ·obtain ⟨tx, h_tx⟩ : ∃ tx, textT T s 3 = tx := ⟨_, rfl⟩
  have E_tx := Lib.hid h_tx
  clear h_tx
  obtain ⟨s2, h_s2⟩ : ∃ s2, textF T s 3 = s2 := ⟨_, rfl⟩
  have E_s2 := Lib.hid h_s2
  clear h_s2
  have G_s2 := Lib.hid (show Goes T s s2 from by have q := (G_s.out.text E 3); rw [E_s2.out] at q; exact q)
  obtain ⟨s3, h_s3⟩ : ∃ s3, wantF T s2 [61] = s3 := ⟨_, rfl⟩
  have E_s3 := Lib.hid h_s3
  clear h_s3
  have G_s3 := Lib.hid (show Goes T s s3 from by have q := (G_s2.out.want E [61]); rw [E_s3.out] at q; exact q)
  obtain ⟨bf, h_bf⟩ : ∃ bf, isF T s3 [102, 117, 110] = bf := ⟨_, rfl⟩
  have E_bf := Lib.hid h_bf
  clear h_bf
  go_upto_region 4 with (fail)
  go_wp2_with fail
  refine (text_eq E E_tx.out E_s2.out H1.out.p).mono ?_
  rintro e w2 ⟨rfl, h2, b2⟩
  have H2 := Lib.hid (H1.out.call h2 b2)
  have B_N2 := Lib.hid (B_N1.out.but b2 (Nat.le_refl _) (by have := H1.out.r; omega))
  clear h2 b2 H1 B_N1
  have c1 := B_N2.out.c1
  have f1 := B_N2.out.free 1
  go_upto_region 5 with (fail)
  have B_N3 := Lib.hid (B_N2.out.putTx tx)
  have H3 := Lib.hid (H2.out.own (p := ⟨N, 1, none⟩) B_N2.out.lo (.string ⟨tx.toArray⟩))
  clear c1 f1 B_N2 H2
  generalize w2.setCell ⟨N, 1, none⟩ (.string ⟨tx.toArray⟩) = w3 at *
  obtain ⟨zz1, h_zz1⟩ : ∃ z9, (x.setTx tx) = z9 := ⟨_, rfl⟩
  rw [h_zz1] at B_N3
  have Z_zz1 := Lib.hid h_zz1
  clear h_zz1
  go_wp2_with fail
  refine (want_eq E E_s3.out H3.out.p).mono ?_
  rintro e w4 ⟨rfl, h4, b4⟩
  have H4 := Lib.hid (H3.out.call h4 b4)
  have B_N4 := Lib.hid (B_N3.out.but b4 (Nat.le_refl _) (by have := H3.out.r; omega))
  clear h4 b4 H3 B_N3
  go_wp2_with fail
  refine (is_eq E_bf.out H4.out.p).mono ?_
  rintro e w5 ⟨rfl, b5⟩
  have H5 := Lib.hid (H4.out.read b5)
  have B_N5 := Lib.hid (B_N4.out.below b5 (Nat.le_refl _))
  clear b5 H4 B_N4
  obtain ⟨y, s5, h_s5⟩ : ∃ y s5, r.exp s3 = (y, s5) := ⟨_, _, rfl⟩
  have E_s5 := Lib.hid h_s5
  clear h_s5
  have l1 : zz1.ks.length ≤ 100000 := by rw [← Z_zz1.out, setTx_ks]; exact hks
  have hq : (zz1.add y, s5) = q := by
   rw [← HQ.out, ← Z_zz1.out]; unfold valueF; dsimp only; rw [E_b.out, if_neg (by decide), E_tx.out, E_s2.out, E_s3.out, E_bf.out, if_neg (fun h => absurd h.1 (by decide)), E_s5.out]
  have HQ2 := Lib.hid hq
  clear hq HQ
  go_upto_region 9 with (fail)
  have C9 := Lib.hid (fun wx (h : PAt wx R g c T s3) => gives_eq E_s5.out (D.exp wx s3 h (by rw [G_s3.out.deep]; exact HD.out)))
  go_cut [38] (fun _ wx => ∃ f2 fs2, Box wx N base (zz1.add y) f2 fs2 ∧ Lo base w wx R g c T s5)
  case first =>
   refine region_Z (fun W => W.cell? ⟨N, 5, none⟩ = some (.slice f.ka zz1.ks.length f.kc)) (fun i => decide (8 ≤ i ∧ i < 14)) (by kernel_rfl) B_N5.out.drew.c5 (fun hHeld => ?_)
   refine tkg 0 rfl (fun k hk => by have hk2 : 14 ≤ k := hk; simp; omega) (v := ?_) ?_ ?_; rotate_left
   ·(intro w hSw; (try dsimp only at hSw); go_simp; try with_reducible rfl)
   (try simp only [Act.put, sZ])
   refine tkg 1 rfl (fun k hk => by have hk2 : 14 ≤ k := hk; simp; omega) (v := ?_) ?_ ?_; rotate_left
   ·(intro w hSw; (try dsimp only at hSw); go_simp; try with_reducible rfl)
   (try simp only [Act.put, sZ])
   refine tkg 2 rfl (fun k hk => by have hk2 : 14 ≤ k := hk; simp; omega) (v := ?_) ?_ ?_; rotate_left
   ·(intro w hSw; (try dsimp only at hSw); go_simp; try with_reducible rfl)
   (try simp only [Act.put, sZ])
   refine tkg 3 rfl (fun k hk => by have hk2 : 14 ≤ k := hk; simp; omega) (v := ?_) ?_ ?_; rotate_left
   ·(intro w hSw; (try dsimp only at hSw); go_simp; try with_reducible rfl)
   (try simp only [Act.put, sZ])
   refine tkg 4 rfl (fun k hk => by have hk2 : 14 ≤ k := hk; simp; omega) (v := ?_) ?_ ?_; rotate_left
   ·(intro w hSw; (try dsimp only at hSw); go_simp; try with_reducible rfl)
   (try simp only [Act.put, sZ])
   refine tkg 6 rfl (fun k hk => by have hk2 : 14 ≤ k := hk; simp; omega) (v := ?_) ?_ ?_; rotate_left
   ·(intro w hSw; (try dsimp only at hSw); go_simp; try with_reducible rfl)
   (try simp only [Act.put, sZ])
   refine anyZ_split (i := 5) (j := 7) (by kernel_rfl) rfl rfl (fun K hK => ?_) (fun K hK => ?_)
   ·go_simp
    go_at_call 39
    refine (C9.out _ H5.out.drew.p).mono ?_
    rintro e wc ⟨fy, rfl, hpc, ny, bc⟩
    have HC := Lib.hid (H5.out.drew.call hpc bc)
    have BC := Lib.hid (B_N5.out.drew.but bc (Nat.le_refl _) (by have := H5.out.r; omega))
    have NY : Hid (NodeIn wc (fun a => w5.heap.size ≤ a) y fy) := ny
    clear hpc ny bc
    unfold ndV
    refine hK.out _ _ (fun _ => BC.out.c5) (fun hHeld2 => ?_)
    replace hHeld2 := hHeld2 (by decide)
    clear hK K hHeld
    (try simp only [Act.put, sZ])
    refine stp 7 rfl (fun K hK => ?_)
    go_simp
    refine hK.out _ _ (fun _ => (BC.out.alloc _).c5) (fun hHeld3 => ?_)
    clear hK K hHeld2 hHeld3
    (try simp only [Act.put, sZ])
    have HA := Lib.hid (HC.out.alloc (.cells #[.int .i64 0, .string ⟨#[]⟩, .int .i64 0, .int .i64 0, .slice none 0 0, .slice none 0 0] 25))
    have BA := Lib.hid (BC.out.alloc (.cells #[.int .i64 0, .string ⟨#[]⟩, .int .i64 0, .int .i64 0, .slice none 0 0, .slice none 0 0] 25))
    have NA := Lib.hid (NY.out.alloc (.cells #[.int .i64 0, .string ⟨#[]⟩, .int .i64 0, .int .i64 0, .slice none 0 0, .slice none 0 0] 25))
    have ZA : Hid (Whole (wc.alloc (.cells #[.int .i64 0, .string ⟨#[]⟩, .int .i64 0, .int .i64 0, .slice none 0 0, .slice none 0 0] 25)) wc.heap.size 25 #[.int .i64 0, .string ⟨#[]⟩, .int .i64 0, .int .i64 0, .slice none 0 0, .slice none 0 0]) := Whole.made _ _ _
    clear HC BC NY
    generalize wc.alloc (.cells #[.int .i64 0, .string ⟨#[]⟩, .int .i64 0, .int .i64 0, .slice none 0 0, .slice none 0 0] 25) = wa at *
    generalize wc.heap.size = Zb at *
    refine stp 8 rfl (fun K hK => ?_)
    refine step_app ty_nd (v := .slice f.ka zz1.ks.length f.kc) (by rfl) _ _ (by rfl) (by rfl) BA.out.kid Zb 1 [.int .i64 0, .string ⟨#[]⟩, .int .i64 0, .int .i64 0, .slice none 0 0, .slice none 0 0] (by rfl) ZA.out (by rfl) (by simp [Value.oneCell']) (by decide) (by omega) (by decide) (by have := HA.out.size; omega) ?_
    intro gv cv wd hap
    have KD := Lib.hid (kid_done2 HA.out BA.out B_N5.out.lt B_N5.out.nlt B_N5.out.klt NA.out hap)
    have hln := flatL_len _ _ BA.out.len
    have ZC := Lib.hid (zero_cells hap (by rw [hln]; omega))
    rw [hln] at ZC
    have XD := Lib.hid (hap.far BA.out.box (row_ne BA.out.kid BA.out.kN))
    have hgn : gv ≠ N := KD.out.2.2
    have hgn2 : N ≠ gv := Ne.symm hgn
    have HGN := Lib.hid hgn
    have HGN2 := Lib.hid hgn2
    clear hln hgn hgn2 hap HA BA NA ZA
    refine hK.out _ _ (fun h => absurd h (by decide)) (fun _ => ?_)
    clear hK K
    (try simp only [Act.put, sZ])
    refine anyZ_free _ _ _ _ (by decide) ?_
    have hT : True := trivial
    have hix : (zz1.ks.length : Int) < (zz1.ks.length : Int) + 1 := by omega
    refine tkf 9 rfl (v := ?_) ?_ ?_; rotate_left
    ·(intro w hSw; (try dsimp only at hSw); go_simp; try with_reducible rfl)
    (try simp only [Act.put, sZ])
    refine tkf 11 rfl (v := ?_) ?_ ?_; rotate_left
    ·(intro w hSw; (try dsimp only at hSw); go_simp; try with_reducible rfl)
    (try simp only [Act.put, sZ])
    refine tkf 12 rfl (v := ?_) ?_ ?_; rotate_left
    ·(intro w hSw; (try dsimp only at hSw); go_simp; try with_reducible rfl)
    (try simp only [Act.put, sZ])
    refine anyZ_split (i := 10) (j := 13) (by kernel_rfl) rfl rfl (fun K hK => ?_) (fun K hK => ?_)
    ·obtain ⟨u0, v0, u1, v1, u2, v2, u3, v3, u4, v4, u5, v5⟩ := zcA ZC.out
     go_simp
     refine hK.out _ _ (fun _ => trivial) (fun _ => ?_)
     clear hK K u0 u1 u2 u3 u4 u5 v0 v1 v2 v3 v4 v5
     have XK := Lib.hid (kid_whole XD.out HGN2.out (zz1.ks.length * 6) y fy)
     have c5 : (kidW wd gv (zz1.ks.length * 6) y fy).cell? ⟨N, 5, none⟩ = some (.slice f.ka zz1.ks.length f.kc) := XK.out.cell 5
     have v5 := XK.out.free 5
     change anyZ _ _ _ _ _ _ _ _ _ (kidW wd gv (zz1.ks.length * 6) y fy)
     generalize kidW wd gv (zz1.ks.length * 6) y fy = wk at *
     clear XK
     (try simp only [Act.put, sZ])
     refine stp 13 rfl (fun K hK => ?_)
     go_simp
     refine hK.out _ _ (fun _ => trivial) (fun _ => ?_)
     refine anyZ_done (by kernel_rfl) ?_ _
     clear hK K c5 v5
     go_wp2_with fail
     go_meet
     exact ⟨_, _, KD.out.1, KD.out.2.1⟩
    ·have c5 : wd.cell? ⟨N, 5, none⟩ = some (.slice f.ka zz1.ks.length f.kc) := XD.out.cell 5
     have v5 := XD.out.free 5
     go_simp
     refine hK.out _ _ (fun _ => trivial) (fun _ => ?_)
     clear hK K c5 v5
     obtain ⟨u0, v0, u1, v1, u2, v2, u3, v3, u4, v4, u5, v5⟩ := zcB (p := ⟨N, 5, none⟩) ZC.out HGN.out (.slice (some ⟨gv, 0, none⟩) (zz1.ks.length + 1) cv)
     have KD2 := Lib.hid (show Box (kidW (wd.setCell ⟨N, 5, none⟩ (.slice (some ⟨gv, 0, none⟩) (zz1.ks.length + 1) cv)) gv (zz1.ks.length * 6) y fy) N base (zz1.add y) _ _ ∧ Lo base w (kidW (wd.setCell ⟨N, 5, none⟩ (.slice (some ⟨gv, 0, none⟩) (zz1.ks.length + 1) cv)) gv (zz1.ks.length * 6) y fy) R g c T s5 from by rw [kid_comm _ HGN.out]; exact ⟨KD.out.1, KD.out.2.1⟩)
     clear KD
     generalize wd.setCell ⟨N, 5, none⟩ (.slice (some ⟨gv, 0, none⟩) (zz1.ks.length + 1) cv) = wk at *
     (try simp only [Act.put, sZ])
     refine stp 10 rfl (fun K hK => ?_)
     go_simp
     refine hK.out _ _ (fun _ => trivial) (fun _ => ?_)
     refine anyZ_done (by kernel_rfl) ?_ _
     clear hK K u0 u1 u2 u3 u4 u5 v0 v1 v2 v3 v4 v5
     go_wp2_with fail
     go_meet
     exact ⟨_, _, KD2.out.1, KD2.out.2⟩
   ·go_simp
    refine hK.out _ _ (fun _ => (B_N5.out.drew.alloc _).c5) (fun hHeld2 => ?_)
    replace hHeld2 := hHeld2 (by decide)
    clear hK K hHeld
    (try simp only [Act.put, sZ])
    refine stp 5 rfl (fun K hK => ?_)
    go_simp
    go_at_call 39
    refine (C9.out _ (H5.out.drew.alloc (.cells #[.int .i64 0, .string ⟨#[]⟩, .int .i64 0, .int .i64 0, .slice none 0 0, .slice none 0 0] 25)).p).mono ?_
    rintro e wc ⟨fy, rfl, hpc, ny, bc⟩
    have HA := Lib.hid ((H5.out.drew.alloc (.cells #[.int .i64 0, .string ⟨#[]⟩, .int .i64 0, .int .i64 0, .slice none 0 0, .slice none 0 0] 25)).call hpc bc)
    have BA := Lib.hid ((B_N5.out.drew.alloc (.cells #[.int .i64 0, .string ⟨#[]⟩, .int .i64 0, .int .i64 0, .slice none 0 0, .slice none 0 0] 25)).but bc (Nat.le_refl _) (by have := H5.out.r; omega))
    have NA : Hid (NodeIn wc (fun a => w5.heap.size ≤ a) y fy) := ny.mono fun a ha _ => by simp at ha; omega
    have ZA : Hid (Whole wc w5.heap.size 25 #[.int .i64 0, .string ⟨#[]⟩, .int .i64 0, .int .i64 0, .slice none 0 0, .slice none 0 0]) := bc.whole (Whole.made w5.drew 25 #[.int .i64 0, .string ⟨#[]⟩, .int .i64 0, .int .i64 0, .slice none 0 0, .slice none 0 0]) (by simp) (by have := H5.out.r; have := H5.out.size; simp; omega)
    clear hpc ny bc
    unfold ndV
    refine hK.out _ _ (fun _ => BA.out.c5) (fun hHeld3 => ?_)
    clear hK K hHeld2 hHeld3
    (try simp only [Act.put, sZ])
    refine stp 8 rfl (fun K hK => ?_)
    refine step_app ty_nd (v := .slice f.ka zz1.ks.length f.kc) (by rfl) _ _ (by rfl) (by rfl) BA.out.kid w5.heap.size 1 [.int .i64 0, .string ⟨#[]⟩, .int .i64 0, .int .i64 0, .slice none 0 0, .slice none 0 0] (by rfl) ZA.out (by rfl) (by simp [Value.oneCell']) (by decide) (by omega) (by decide) (by have := HA.out.size; omega) ?_
    intro gv cv wd hap
    have KD := Lib.hid (kid_done2 HA.out BA.out B_N5.out.lt B_N5.out.nlt B_N5.out.klt NA.out hap)
    have hln := flatL_len _ _ BA.out.len
    have ZC := Lib.hid (zero_cells hap (by rw [hln]; omega))
    rw [hln] at ZC
    have XD := Lib.hid (hap.far BA.out.box (row_ne BA.out.kid BA.out.kN))
    have hgn : gv ≠ N := KD.out.2.2
    have hgn2 : N ≠ gv := Ne.symm hgn
    have HGN := Lib.hid hgn
    have HGN2 := Lib.hid hgn2
    clear hln hgn hgn2 hap HA BA NA ZA
    refine hK.out _ _ (fun h => absurd h (by decide)) (fun _ => ?_)
    clear hK K
    (try simp only [Act.put, sZ])
    refine anyZ_free _ _ _ _ (by decide) ?_
    have hT : True := trivial
    have hix : (zz1.ks.length : Int) < (zz1.ks.length : Int) + 1 := by omega
    refine tkf 9 rfl (v := ?_) ?_ ?_; rotate_left
    ·(intro w hSw; (try dsimp only at hSw); go_simp; try with_reducible rfl)
    (try simp only [Act.put, sZ])
    refine tkf 11 rfl (v := ?_) ?_ ?_; rotate_left
    ·(intro w hSw; (try dsimp only at hSw); go_simp; try with_reducible rfl)
    (try simp only [Act.put, sZ])
    refine tkf 12 rfl (v := ?_) ?_ ?_; rotate_left
    ·(intro w hSw; (try dsimp only at hSw); go_simp; try with_reducible rfl)
    (try simp only [Act.put, sZ])
    refine anyZ_split (i := 10) (j := 13) (by kernel_rfl) rfl rfl (fun K hK => ?_) (fun K hK => ?_)
    ·obtain ⟨u0, v0, u1, v1, u2, v2, u3, v3, u4, v4, u5, v5⟩ := zcA ZC.out
     go_simp
     refine hK.out _ _ (fun _ => trivial) (fun _ => ?_)
     clear hK K u0 u1 u2 u3 u4 u5 v0 v1 v2 v3 v4 v5
     have XK := Lib.hid (kid_whole XD.out HGN2.out (zz1.ks.length * 6) y fy)
     have c5 : (kidW wd gv (zz1.ks.length * 6) y fy).cell? ⟨N, 5, none⟩ = some (.slice f.ka zz1.ks.length f.kc) := XK.out.cell 5
     have v5 := XK.out.free 5
     change anyZ _ _ _ _ _ _ _ _ _ (kidW wd gv (zz1.ks.length * 6) y fy)
     generalize kidW wd gv (zz1.ks.length * 6) y fy = wk at *
     clear XK
     (try simp only [Act.put, sZ])
     refine stp 13 rfl (fun K hK => ?_)
     go_simp
     refine hK.out _ _ (fun _ => trivial) (fun _ => ?_)
     refine anyZ_done (by kernel_rfl) ?_ _
     clear hK K c5 v5
     go_wp2_with fail
     go_meet
     exact ⟨_, _, KD.out.1, KD.out.2.1⟩
    ·have c5 : wd.cell? ⟨N, 5, none⟩ = some (.slice f.ka zz1.ks.length f.kc) := XD.out.cell 5
     have v5 := XD.out.free 5
     go_simp
     refine hK.out _ _ (fun _ => trivial) (fun _ => ?_)
     clear hK K c5 v5
     obtain ⟨u0, v0, u1, v1, u2, v2, u3, v3, u4, v4, u5, v5⟩ := zcB (p := ⟨N, 5, none⟩) ZC.out HGN.out (.slice (some ⟨gv, 0, none⟩) (zz1.ks.length + 1) cv)
     have KD2 := Lib.hid (show Box (kidW (wd.setCell ⟨N, 5, none⟩ (.slice (some ⟨gv, 0, none⟩) (zz1.ks.length + 1) cv)) gv (zz1.ks.length * 6) y fy) N base (zz1.add y) _ _ ∧ Lo base w (kidW (wd.setCell ⟨N, 5, none⟩ (.slice (some ⟨gv, 0, none⟩) (zz1.ks.length + 1) cv)) gv (zz1.ks.length * 6) y fy) R g c T s5 from by rw [kid_comm _ HGN.out]; exact ⟨KD.out.1, KD.out.2.1⟩)
     clear KD
     generalize wd.setCell ⟨N, 5, none⟩ (.slice (some ⟨gv, 0, none⟩) (zz1.ks.length + 1) cv) = wk at *
     (try simp only [Act.put, sZ])
     refine stp 10 rfl (fun K hK => ?_)
     go_simp
     refine hK.out _ _ (fun _ => trivial) (fun _ => ?_)
     refine anyZ_done (by kernel_rfl) ?_ _
     clear hK K u0 u1 u2 u3 u4 u5 v0 v1 v2 v3 v4 v5
     go_wp2_with fail
     go_meet
     exact ⟨_, _, KD2.out.1, KD2.out.2⟩
  case rest =>
   obtain ⟨f2, fs2, hbx, hlo⟩ := hcut
   have BXE := Lib.hid hbx
   have HE := Lib.hid hlo
   have hq := HQ2.out
   subst hq
   clear hbx hlo HQ2 C9 l1 B_N5 H5
   go_wp2_with fail
   exact bodyPost_ret (v := .bool false) (by simp [results, Try.results53, go_sem]) rfl ⟨rfl, ⟨f2, fs2, BXE.out⟩, HE.out.p, HE.out.b⟩
 ·obtain ⟨t, h_t⟩ : ∃ t, stepT T s = t := ⟨_, rfl⟩
  have E_t := Lib.hid h_t
  clear h_t
  obtain ⟨s1, h_s1⟩ : ∃ s1, stepF T s = s1 := ⟨_, rfl⟩
  have E_s1 := Lib.hid h_s1
  clear h_s1
  have G_s1 := Lib.hid (show Goes T s s1 from by have q := (goes_step E HL.out); rw [E_s1.out] at q; exact q)
  go_upto_region 3 with (fail)
  go_wp2_with fail
  refine (step_eq E E_t.out E_s1.out H1.out.p).mono ?_
  rintro e w6 ⟨rfl, h6, b6⟩
  have H6 := Lib.hid (H1.out.call h6 b6)
  have B_N6 := Lib.hid (B_N1.out.but b6 (Nat.le_refl _) (by have := H1.out.r; omega))
  clear h6 b6 H1 B_N1
  obtain ⟨tx, h_tx⟩ : ∃ tx, textT T s1 3 = tx := ⟨_, rfl⟩
  have E_tx := Lib.hid h_tx
  clear h_tx
  obtain ⟨s2, h_s2⟩ : ∃ s2, textF T s1 3 = s2 := ⟨_, rfl⟩
  have E_s2 := Lib.hid h_s2
  clear h_s2
  have G_s2 := Lib.hid (show Goes T s s2 from by have q := (G_s1.out.text E 3); rw [E_s2.out] at q; exact q)
  obtain ⟨s3, h_s3⟩ : ∃ s3, wantF T s2 [61] = s3 := ⟨_, rfl⟩
  have E_s3 := Lib.hid h_s3
  clear h_s3
  have G_s3 := Lib.hid (show Goes T s s3 from by have q := (G_s2.out.want E [61]); rw [E_s3.out] at q; exact q)
  obtain ⟨bf, h_bf⟩ : ∃ bf, isF T s3 [102, 117, 110] = bf := ⟨_, rfl⟩
  have E_bf := Lib.hid h_bf
  clear h_bf
  go_upto_region 4 with (fail)
  go_wp2_with fail
  refine (text_eq E E_tx.out E_s2.out H6.out.p).mono ?_
  rintro e w7 ⟨rfl, h7, b7⟩
  have H7 := Lib.hid (H6.out.call h7 b7)
  have B_N7 := Lib.hid (B_N6.out.but b7 (Nat.le_refl _) (by have := H6.out.r; omega))
  clear h7 b7 H6 B_N6
  have c1 := B_N7.out.c1
  have f1 := B_N7.out.free 1
  go_upto_region 5 with (fail)
  have B_N8 := Lib.hid (B_N7.out.putTx tx)
  have H8 := Lib.hid (H7.out.own (p := ⟨N, 1, none⟩) B_N7.out.lo (.string ⟨tx.toArray⟩))
  clear c1 f1 B_N7 H7
  generalize w7.setCell ⟨N, 1, none⟩ (.string ⟨tx.toArray⟩) = w8 at *
  obtain ⟨zz1, h_zz1⟩ : ∃ z9, (x.setTx tx) = z9 := ⟨_, rfl⟩
  rw [h_zz1] at B_N8
  have Z_zz1 := Lib.hid h_zz1
  clear h_zz1
  go_wp2_with fail
  refine (want_eq E E_s3.out H8.out.p).mono ?_
  rintro e w9 ⟨rfl, h9, b9⟩
  have H9 := Lib.hid (H8.out.call h9 b9)
  have B_N9 := Lib.hid (B_N8.out.but b9 (Nat.le_refl _) (by have := H8.out.r; omega))
  clear h9 b9 H8 B_N8
  go_wp2_with fail
  refine (is_eq E_bf.out H9.out.p).mono ?_
  rintro e w10 ⟨rfl, b10⟩
  have H10 := Lib.hid (H9.out.read b10)
  have B_N10 := Lib.hid (B_N9.out.below b10 (Nat.le_refl _))
  clear b10 H9 B_N9
  rcases bf with _ | _
  ·have c2 := H10.out.p.c2
   have ff := H10.out.p.free 2
   rcases Nat.lt_or_ge s3.deep 40 with hdp | hdp
   ·obtain ⟨s4, h_s4⟩ : ∃ s4, failF T s3 14 = s4 := ⟨_, rfl⟩
    have E_s4 := Lib.hid h_s4
    clear h_s4
    have G_s4 := Lib.hid (show Goes T s s4 from by have q := (G_s3.out.fail 14); rw [E_s4.out] at q; exact q)
    have hdp2 : (s3.deep : Int) < 40 := by omega
    go_upto_region 8 with (fail)
    clear c2 ff
    go_wp2_with fail
    refine (fail_eq E_s4.out H10.out.p).mono ?_
    rintro e w11 ⟨rfl, h11, b11⟩
    have H11 := Lib.hid (H10.out.call h11 b11)
    have B_N11 := Lib.hid (B_N10.out.but b11 (Nat.le_refl _) (by have := H10.out.r; omega))
    clear h11 b11 H10 B_N10
    obtain ⟨y, s5, h_s5⟩ : ∃ y s5, r.exp s4 = (y, s5) := ⟨_, _, rfl⟩
    have E_s5 := Lib.hid h_s5
    clear h_s5
    have l1 : zz1.ks.length ≤ 100000 := by rw [← Z_zz1.out, setTx_ks]; exact hks
    have hq : (zz1.add y, s5) = q := by
     rw [← HQ.out, ← Z_zz1.out]; unfold valueF; dsimp only; rw [E_b.out, if_pos rfl, E_s1.out, E_tx.out, E_s2.out, E_s3.out, E_bf.out, if_pos ⟨rfl, rfl, hdp⟩, E_s4.out, E_s5.out]
    have HQ2 := Lib.hid hq
    clear hq HQ
    go_upto_region 9 with (fail)
    have C9 := Lib.hid (fun wx (h : PAt wx R g c T s4) => gives_eq E_s5.out (D.exp wx s4 h (by rw [G_s4.out.deep]; exact HD.out)))
    go_cut [38] (fun _ wx => ∃ f2 fs2, Box wx N base (zz1.add y) f2 fs2 ∧ Lo base w wx R g c T s5)
    case first =>
     refine region_Z (fun W => W.cell? ⟨N, 5, none⟩ = some (.slice f.ka zz1.ks.length f.kc)) (fun i => decide (8 ≤ i ∧ i < 14)) (by kernel_rfl) B_N11.out.drew.c5 (fun hHeld => ?_)
     refine tkg 0 rfl (fun k hk => by have hk2 : 14 ≤ k := hk; simp; omega) (v := ?_) ?_ ?_; rotate_left
     ·(intro w hSw; (try dsimp only at hSw); go_simp; try with_reducible rfl)
     (try simp only [Act.put, sZ])
     refine tkg 1 rfl (fun k hk => by have hk2 : 14 ≤ k := hk; simp; omega) (v := ?_) ?_ ?_; rotate_left
     ·(intro w hSw; (try dsimp only at hSw); go_simp; try with_reducible rfl)
     (try simp only [Act.put, sZ])
     refine tkg 2 rfl (fun k hk => by have hk2 : 14 ≤ k := hk; simp; omega) (v := ?_) ?_ ?_; rotate_left
     ·(intro w hSw; (try dsimp only at hSw); go_simp; try with_reducible rfl)
     (try simp only [Act.put, sZ])
     refine tkg 3 rfl (fun k hk => by have hk2 : 14 ≤ k := hk; simp; omega) (v := ?_) ?_ ?_; rotate_left
     ·(intro w hSw; (try dsimp only at hSw); go_simp; try with_reducible rfl)
     (try simp only [Act.put, sZ])
     refine tkg 4 rfl (fun k hk => by have hk2 : 14 ≤ k := hk; simp; omega) (v := ?_) ?_ ?_; rotate_left
     ·(intro w hSw; (try dsimp only at hSw); go_simp; try with_reducible rfl)
     (try simp only [Act.put, sZ])
     refine tkg 6 rfl (fun k hk => by have hk2 : 14 ≤ k := hk; simp; omega) (v := ?_) ?_ ?_; rotate_left
     ·(intro w hSw; (try dsimp only at hSw); go_simp; try with_reducible rfl)
     (try simp only [Act.put, sZ])
     refine anyZ_split (i := 5) (j := 7) (by kernel_rfl) rfl rfl (fun K hK => ?_) (fun K hK => ?_)
     ·go_simp
      go_at_call 39
      refine (C9.out _ H11.out.drew.p).mono ?_
      rintro e wc ⟨fy, rfl, hpc, ny, bc⟩
      have HC := Lib.hid (H11.out.drew.call hpc bc)
      have BC := Lib.hid (B_N11.out.drew.but bc (Nat.le_refl _) (by have := H11.out.r; omega))
      have NY : Hid (NodeIn wc (fun a => w11.heap.size ≤ a) y fy) := ny
      clear hpc ny bc
      unfold ndV
      refine hK.out _ _ (fun _ => BC.out.c5) (fun hHeld2 => ?_)
      replace hHeld2 := hHeld2 (by decide)
      clear hK K hHeld
      (try simp only [Act.put, sZ])
      refine stp 7 rfl (fun K hK => ?_)
      go_simp
      refine hK.out _ _ (fun _ => (BC.out.alloc _).c5) (fun hHeld3 => ?_)
      clear hK K hHeld2 hHeld3
      (try simp only [Act.put, sZ])
      have HA := Lib.hid (HC.out.alloc (.cells #[.int .i64 0, .string ⟨#[]⟩, .int .i64 0, .int .i64 0, .slice none 0 0, .slice none 0 0] 25))
      have BA := Lib.hid (BC.out.alloc (.cells #[.int .i64 0, .string ⟨#[]⟩, .int .i64 0, .int .i64 0, .slice none 0 0, .slice none 0 0] 25))
      have NA := Lib.hid (NY.out.alloc (.cells #[.int .i64 0, .string ⟨#[]⟩, .int .i64 0, .int .i64 0, .slice none 0 0, .slice none 0 0] 25))
      have ZA : Hid (Whole (wc.alloc (.cells #[.int .i64 0, .string ⟨#[]⟩, .int .i64 0, .int .i64 0, .slice none 0 0, .slice none 0 0] 25)) wc.heap.size 25 #[.int .i64 0, .string ⟨#[]⟩, .int .i64 0, .int .i64 0, .slice none 0 0, .slice none 0 0]) := Whole.made _ _ _
      clear HC BC NY
      generalize wc.alloc (.cells #[.int .i64 0, .string ⟨#[]⟩, .int .i64 0, .int .i64 0, .slice none 0 0, .slice none 0 0] 25) = wa at *
      generalize wc.heap.size = Zb at *
      refine stp 8 rfl (fun K hK => ?_)
      refine step_app ty_nd (v := .slice f.ka zz1.ks.length f.kc) (by rfl) _ _ (by rfl) (by rfl) BA.out.kid Zb 1 [.int .i64 0, .string ⟨#[]⟩, .int .i64 0, .int .i64 0, .slice none 0 0, .slice none 0 0] (by rfl) ZA.out (by rfl) (by simp [Value.oneCell']) (by decide) (by omega) (by decide) (by have := HA.out.size; omega) ?_
      intro gv cv wd hap
      have KD := Lib.hid (kid_done2 HA.out BA.out B_N11.out.lt B_N11.out.nlt B_N11.out.klt NA.out hap)
      have hln := flatL_len _ _ BA.out.len
      have ZC := Lib.hid (zero_cells hap (by rw [hln]; omega))
      rw [hln] at ZC
      have XD := Lib.hid (hap.far BA.out.box (row_ne BA.out.kid BA.out.kN))
      have hgn : gv ≠ N := KD.out.2.2
      have hgn2 : N ≠ gv := Ne.symm hgn
      have HGN := Lib.hid hgn
      have HGN2 := Lib.hid hgn2
      clear hln hgn hgn2 hap HA BA NA ZA
      refine hK.out _ _ (fun h => absurd h (by decide)) (fun _ => ?_)
      clear hK K
      (try simp only [Act.put, sZ])
      refine anyZ_free _ _ _ _ (by decide) ?_
      have hT : True := trivial
      have hix : (zz1.ks.length : Int) < (zz1.ks.length : Int) + 1 := by omega
      refine tkf 9 rfl (v := ?_) ?_ ?_; rotate_left
      ·(intro w hSw; (try dsimp only at hSw); go_simp; try with_reducible rfl)
      (try simp only [Act.put, sZ])
      refine tkf 11 rfl (v := ?_) ?_ ?_; rotate_left
      ·(intro w hSw; (try dsimp only at hSw); go_simp; try with_reducible rfl)
      (try simp only [Act.put, sZ])
      refine tkf 12 rfl (v := ?_) ?_ ?_; rotate_left
      ·(intro w hSw; (try dsimp only at hSw); go_simp; try with_reducible rfl)
      (try simp only [Act.put, sZ])
      refine anyZ_split (i := 10) (j := 13) (by kernel_rfl) rfl rfl (fun K hK => ?_) (fun K hK => ?_)
      ·obtain ⟨u0, v0, u1, v1, u2, v2, u3, v3, u4, v4, u5, v5⟩ := zcA ZC.out
       go_simp
       refine hK.out _ _ (fun _ => trivial) (fun _ => ?_)
       clear hK K u0 u1 u2 u3 u4 u5 v0 v1 v2 v3 v4 v5
       have XK := Lib.hid (kid_whole XD.out HGN2.out (zz1.ks.length * 6) y fy)
       have c5 : (kidW wd gv (zz1.ks.length * 6) y fy).cell? ⟨N, 5, none⟩ = some (.slice f.ka zz1.ks.length f.kc) := XK.out.cell 5
       have v5 := XK.out.free 5
       change anyZ _ _ _ _ _ _ _ _ _ (kidW wd gv (zz1.ks.length * 6) y fy)
       generalize kidW wd gv (zz1.ks.length * 6) y fy = wk at *
       clear XK
       (try simp only [Act.put, sZ])
       refine stp 13 rfl (fun K hK => ?_)
       go_simp
       refine hK.out _ _ (fun _ => trivial) (fun _ => ?_)
       refine anyZ_done (by kernel_rfl) ?_ _
       clear hK K c5 v5
       go_wp2_with fail
       go_meet
       exact ⟨_, _, KD.out.1, KD.out.2.1⟩
      ·have c5 : wd.cell? ⟨N, 5, none⟩ = some (.slice f.ka zz1.ks.length f.kc) := XD.out.cell 5
       have v5 := XD.out.free 5
       go_simp
       refine hK.out _ _ (fun _ => trivial) (fun _ => ?_)
       clear hK K c5 v5
       obtain ⟨u0, v0, u1, v1, u2, v2, u3, v3, u4, v4, u5, v5⟩ := zcB (p := ⟨N, 5, none⟩) ZC.out HGN.out (.slice (some ⟨gv, 0, none⟩) (zz1.ks.length + 1) cv)
       have KD2 := Lib.hid (show Box (kidW (wd.setCell ⟨N, 5, none⟩ (.slice (some ⟨gv, 0, none⟩) (zz1.ks.length + 1) cv)) gv (zz1.ks.length * 6) y fy) N base (zz1.add y) _ _ ∧ Lo base w (kidW (wd.setCell ⟨N, 5, none⟩ (.slice (some ⟨gv, 0, none⟩) (zz1.ks.length + 1) cv)) gv (zz1.ks.length * 6) y fy) R g c T s5 from by rw [kid_comm _ HGN.out]; exact ⟨KD.out.1, KD.out.2.1⟩)
       clear KD
       generalize wd.setCell ⟨N, 5, none⟩ (.slice (some ⟨gv, 0, none⟩) (zz1.ks.length + 1) cv) = wk at *
       (try simp only [Act.put, sZ])
       refine stp 10 rfl (fun K hK => ?_)
       go_simp
       refine hK.out _ _ (fun _ => trivial) (fun _ => ?_)
       refine anyZ_done (by kernel_rfl) ?_ _
       clear hK K u0 u1 u2 u3 u4 u5 v0 v1 v2 v3 v4 v5
       go_wp2_with fail
       go_meet
       exact ⟨_, _, KD2.out.1, KD2.out.2⟩
     ·go_simp
      refine hK.out _ _ (fun _ => (B_N11.out.drew.alloc _).c5) (fun hHeld2 => ?_)
      replace hHeld2 := hHeld2 (by decide)
      clear hK K hHeld
      (try simp only [Act.put, sZ])
      refine stp 5 rfl (fun K hK => ?_)
      go_simp
      go_at_call 39
      refine (C9.out _ (H11.out.drew.alloc (.cells #[.int .i64 0, .string ⟨#[]⟩, .int .i64 0, .int .i64 0, .slice none 0 0, .slice none 0 0] 25)).p).mono ?_
      rintro e wc ⟨fy, rfl, hpc, ny, bc⟩
      have HA := Lib.hid ((H11.out.drew.alloc (.cells #[.int .i64 0, .string ⟨#[]⟩, .int .i64 0, .int .i64 0, .slice none 0 0, .slice none 0 0] 25)).call hpc bc)
      have BA := Lib.hid ((B_N11.out.drew.alloc (.cells #[.int .i64 0, .string ⟨#[]⟩, .int .i64 0, .int .i64 0, .slice none 0 0, .slice none 0 0] 25)).but bc (Nat.le_refl _) (by have := H11.out.r; omega))
      have NA : Hid (NodeIn wc (fun a => w11.heap.size ≤ a) y fy) := ny.mono fun a ha _ => by simp at ha; omega
      have ZA : Hid (Whole wc w11.heap.size 25 #[.int .i64 0, .string ⟨#[]⟩, .int .i64 0, .int .i64 0, .slice none 0 0, .slice none 0 0]) := bc.whole (Whole.made w11.drew 25 #[.int .i64 0, .string ⟨#[]⟩, .int .i64 0, .int .i64 0, .slice none 0 0, .slice none 0 0]) (by simp) (by have := H11.out.r; have := H11.out.size; simp; omega)
      clear hpc ny bc
      unfold ndV
      refine hK.out _ _ (fun _ => BA.out.c5) (fun hHeld3 => ?_)
      clear hK K hHeld2 hHeld3
      (try simp only [Act.put, sZ])
      refine stp 8 rfl (fun K hK => ?_)
      refine step_app ty_nd (v := .slice f.ka zz1.ks.length f.kc) (by rfl) _ _ (by rfl) (by rfl) BA.out.kid w11.heap.size 1 [.int .i64 0, .string ⟨#[]⟩, .int .i64 0, .int .i64 0, .slice none 0 0, .slice none 0 0] (by rfl) ZA.out (by rfl) (by simp [Value.oneCell']) (by decide) (by omega) (by decide) (by have := HA.out.size; omega) ?_
      intro gv cv wd hap
      have KD := Lib.hid (kid_done2 HA.out BA.out B_N11.out.lt B_N11.out.nlt B_N11.out.klt NA.out hap)
      have hln := flatL_len _ _ BA.out.len
      have ZC := Lib.hid (zero_cells hap (by rw [hln]; omega))
      rw [hln] at ZC
      have XD := Lib.hid (hap.far BA.out.box (row_ne BA.out.kid BA.out.kN))
      have hgn : gv ≠ N := KD.out.2.2
      have hgn2 : N ≠ gv := Ne.symm hgn
      have HGN := Lib.hid hgn
      have HGN2 := Lib.hid hgn2
      clear hln hgn hgn2 hap HA BA NA ZA
      refine hK.out _ _ (fun h => absurd h (by decide)) (fun _ => ?_)
      clear hK K
      (try simp only [Act.put, sZ])
      refine anyZ_free _ _ _ _ (by decide) ?_
      have hT : True := trivial
      have hix : (zz1.ks.length : Int) < (zz1.ks.length : Int) + 1 := by omega
      refine tkf 9 rfl (v := ?_) ?_ ?_; rotate_left
      ·(intro w hSw; (try dsimp only at hSw); go_simp; try with_reducible rfl)
      (try simp only [Act.put, sZ])
      refine tkf 11 rfl (v := ?_) ?_ ?_; rotate_left
      ·(intro w hSw; (try dsimp only at hSw); go_simp; try with_reducible rfl)
      (try simp only [Act.put, sZ])
      refine tkf 12 rfl (v := ?_) ?_ ?_; rotate_left
      ·(intro w hSw; (try dsimp only at hSw); go_simp; try with_reducible rfl)
      (try simp only [Act.put, sZ])
      refine anyZ_split (i := 10) (j := 13) (by kernel_rfl) rfl rfl (fun K hK => ?_) (fun K hK => ?_)
      ·obtain ⟨u0, v0, u1, v1, u2, v2, u3, v3, u4, v4, u5, v5⟩ := zcA ZC.out
       go_simp
       refine hK.out _ _ (fun _ => trivial) (fun _ => ?_)
       clear hK K u0 u1 u2 u3 u4 u5 v0 v1 v2 v3 v4 v5
       have XK := Lib.hid (kid_whole XD.out HGN2.out (zz1.ks.length * 6) y fy)
       have c5 : (kidW wd gv (zz1.ks.length * 6) y fy).cell? ⟨N, 5, none⟩ = some (.slice f.ka zz1.ks.length f.kc) := XK.out.cell 5
       have v5 := XK.out.free 5
       change anyZ _ _ _ _ _ _ _ _ _ (kidW wd gv (zz1.ks.length * 6) y fy)
       generalize kidW wd gv (zz1.ks.length * 6) y fy = wk at *
       clear XK
       (try simp only [Act.put, sZ])
       refine stp 13 rfl (fun K hK => ?_)
       go_simp
       refine hK.out _ _ (fun _ => trivial) (fun _ => ?_)
       refine anyZ_done (by kernel_rfl) ?_ _
       clear hK K c5 v5
       go_wp2_with fail
       go_meet
       exact ⟨_, _, KD.out.1, KD.out.2.1⟩
      ·have c5 : wd.cell? ⟨N, 5, none⟩ = some (.slice f.ka zz1.ks.length f.kc) := XD.out.cell 5
       have v5 := XD.out.free 5
       go_simp
       refine hK.out _ _ (fun _ => trivial) (fun _ => ?_)
       clear hK K c5 v5
       obtain ⟨u0, v0, u1, v1, u2, v2, u3, v3, u4, v4, u5, v5⟩ := zcB (p := ⟨N, 5, none⟩) ZC.out HGN.out (.slice (some ⟨gv, 0, none⟩) (zz1.ks.length + 1) cv)
       have KD2 := Lib.hid (show Box (kidW (wd.setCell ⟨N, 5, none⟩ (.slice (some ⟨gv, 0, none⟩) (zz1.ks.length + 1) cv)) gv (zz1.ks.length * 6) y fy) N base (zz1.add y) _ _ ∧ Lo base w (kidW (wd.setCell ⟨N, 5, none⟩ (.slice (some ⟨gv, 0, none⟩) (zz1.ks.length + 1) cv)) gv (zz1.ks.length * 6) y fy) R g c T s5 from by rw [kid_comm _ HGN.out]; exact ⟨KD.out.1, KD.out.2.1⟩)
       clear KD
       generalize wd.setCell ⟨N, 5, none⟩ (.slice (some ⟨gv, 0, none⟩) (zz1.ks.length + 1) cv) = wk at *
       (try simp only [Act.put, sZ])
       refine stp 10 rfl (fun K hK => ?_)
       go_simp
       refine hK.out _ _ (fun _ => trivial) (fun _ => ?_)
       refine anyZ_done (by kernel_rfl) ?_ _
       clear hK K u0 u1 u2 u3 u4 u5 v0 v1 v2 v3 v4 v5
       go_wp2_with fail
       go_meet
       exact ⟨_, _, KD2.out.1, KD2.out.2⟩
    case rest =>
     obtain ⟨f2, fs2, hbx, hlo⟩ := hcut
     have BXE := Lib.hid hbx
     have HE := Lib.hid hlo
     have hq := HQ2.out
     subst hq
     clear hbx hlo HQ2 C9 l1 B_N11 H11
     go_wp2_with fail
     exact bodyPost_ret (v := .bool true) (by simp [results, Try.results53, go_sem]) rfl ⟨rfl, ⟨f2, fs2, BXE.out⟩, HE.out.p, HE.out.b⟩
   ·have hdp2 : (40 : Int) ≤ s3.deep := by omega
    go_upto_region 9 with (fail)
    clear c2 ff
    obtain ⟨y, s5, h_s5⟩ : ∃ y s5, r.exp s3 = (y, s5) := ⟨_, _, rfl⟩
    have E_s5 := Lib.hid h_s5
    clear h_s5
    have l1 : zz1.ks.length ≤ 100000 := by rw [← Z_zz1.out, setTx_ks]; exact hks
    have hq : (zz1.add y, s5) = q := by
     rw [← HQ.out, ← Z_zz1.out]; unfold valueF; dsimp only; rw [E_b.out, if_pos rfl, E_s1.out, E_tx.out, E_s2.out, E_s3.out, E_bf.out, if_neg (fun h => absurd h.2.2 (by omega)), E_s5.out]
    have HQ2 := Lib.hid hq
    clear hq HQ
    go_upto_region 9 with (fail)
    have C9 := Lib.hid (fun wx (h : PAt wx R g c T s3) => gives_eq E_s5.out (D.exp wx s3 h (by rw [G_s3.out.deep]; exact HD.out)))
    go_cut [38] (fun _ wx => ∃ f2 fs2, Box wx N base (zz1.add y) f2 fs2 ∧ Lo base w wx R g c T s5)
    case first =>
     refine region_Z (fun W => W.cell? ⟨N, 5, none⟩ = some (.slice f.ka zz1.ks.length f.kc)) (fun i => decide (8 ≤ i ∧ i < 14)) (by kernel_rfl) B_N10.out.drew.c5 (fun hHeld => ?_)
     refine tkg 0 rfl (fun k hk => by have hk2 : 14 ≤ k := hk; simp; omega) (v := ?_) ?_ ?_; rotate_left
     ·(intro w hSw; (try dsimp only at hSw); go_simp; try with_reducible rfl)
     (try simp only [Act.put, sZ])
     refine tkg 1 rfl (fun k hk => by have hk2 : 14 ≤ k := hk; simp; omega) (v := ?_) ?_ ?_; rotate_left
     ·(intro w hSw; (try dsimp only at hSw); go_simp; try with_reducible rfl)
     (try simp only [Act.put, sZ])
     refine tkg 2 rfl (fun k hk => by have hk2 : 14 ≤ k := hk; simp; omega) (v := ?_) ?_ ?_; rotate_left
     ·(intro w hSw; (try dsimp only at hSw); go_simp; try with_reducible rfl)
     (try simp only [Act.put, sZ])
     refine tkg 3 rfl (fun k hk => by have hk2 : 14 ≤ k := hk; simp; omega) (v := ?_) ?_ ?_; rotate_left
     ·(intro w hSw; (try dsimp only at hSw); go_simp; try with_reducible rfl)
     (try simp only [Act.put, sZ])
     refine tkg 4 rfl (fun k hk => by have hk2 : 14 ≤ k := hk; simp; omega) (v := ?_) ?_ ?_; rotate_left
     ·(intro w hSw; (try dsimp only at hSw); go_simp; try with_reducible rfl)
     (try simp only [Act.put, sZ])
     refine tkg 6 rfl (fun k hk => by have hk2 : 14 ≤ k := hk; simp; omega) (v := ?_) ?_ ?_; rotate_left
     ·(intro w hSw; (try dsimp only at hSw); go_simp; try with_reducible rfl)
     (try simp only [Act.put, sZ])
     refine anyZ_split (i := 5) (j := 7) (by kernel_rfl) rfl rfl (fun K hK => ?_) (fun K hK => ?_)
     ·go_simp
      go_at_call 39
      refine (C9.out _ H10.out.drew.p).mono ?_
      rintro e wc ⟨fy, rfl, hpc, ny, bc⟩
      have HC := Lib.hid (H10.out.drew.call hpc bc)
      have BC := Lib.hid (B_N10.out.drew.but bc (Nat.le_refl _) (by have := H10.out.r; omega))
      have NY : Hid (NodeIn wc (fun a => w10.heap.size ≤ a) y fy) := ny
      clear hpc ny bc
      unfold ndV
      refine hK.out _ _ (fun _ => BC.out.c5) (fun hHeld2 => ?_)
      replace hHeld2 := hHeld2 (by decide)
      clear hK K hHeld
      (try simp only [Act.put, sZ])
      refine stp 7 rfl (fun K hK => ?_)
      go_simp
      refine hK.out _ _ (fun _ => (BC.out.alloc _).c5) (fun hHeld3 => ?_)
      clear hK K hHeld2 hHeld3
      (try simp only [Act.put, sZ])
      have HA := Lib.hid (HC.out.alloc (.cells #[.int .i64 0, .string ⟨#[]⟩, .int .i64 0, .int .i64 0, .slice none 0 0, .slice none 0 0] 25))
      have BA := Lib.hid (BC.out.alloc (.cells #[.int .i64 0, .string ⟨#[]⟩, .int .i64 0, .int .i64 0, .slice none 0 0, .slice none 0 0] 25))
      have NA := Lib.hid (NY.out.alloc (.cells #[.int .i64 0, .string ⟨#[]⟩, .int .i64 0, .int .i64 0, .slice none 0 0, .slice none 0 0] 25))
      have ZA : Hid (Whole (wc.alloc (.cells #[.int .i64 0, .string ⟨#[]⟩, .int .i64 0, .int .i64 0, .slice none 0 0, .slice none 0 0] 25)) wc.heap.size 25 #[.int .i64 0, .string ⟨#[]⟩, .int .i64 0, .int .i64 0, .slice none 0 0, .slice none 0 0]) := Whole.made _ _ _
      clear HC BC NY
      generalize wc.alloc (.cells #[.int .i64 0, .string ⟨#[]⟩, .int .i64 0, .int .i64 0, .slice none 0 0, .slice none 0 0] 25) = wa at *
      generalize wc.heap.size = Zb at *
      refine stp 8 rfl (fun K hK => ?_)
      refine step_app ty_nd (v := .slice f.ka zz1.ks.length f.kc) (by rfl) _ _ (by rfl) (by rfl) BA.out.kid Zb 1 [.int .i64 0, .string ⟨#[]⟩, .int .i64 0, .int .i64 0, .slice none 0 0, .slice none 0 0] (by rfl) ZA.out (by rfl) (by simp [Value.oneCell']) (by decide) (by omega) (by decide) (by have := HA.out.size; omega) ?_
      intro gv cv wd hap
      have KD := Lib.hid (kid_done2 HA.out BA.out B_N10.out.lt B_N10.out.nlt B_N10.out.klt NA.out hap)
      have hln := flatL_len _ _ BA.out.len
      have ZC := Lib.hid (zero_cells hap (by rw [hln]; omega))
      rw [hln] at ZC
      have XD := Lib.hid (hap.far BA.out.box (row_ne BA.out.kid BA.out.kN))
      have hgn : gv ≠ N := KD.out.2.2
      have hgn2 : N ≠ gv := Ne.symm hgn
      have HGN := Lib.hid hgn
      have HGN2 := Lib.hid hgn2
      clear hln hgn hgn2 hap HA BA NA ZA
      refine hK.out _ _ (fun h => absurd h (by decide)) (fun _ => ?_)
      clear hK K
      (try simp only [Act.put, sZ])
      refine anyZ_free _ _ _ _ (by decide) ?_
      have hT : True := trivial
      have hix : (zz1.ks.length : Int) < (zz1.ks.length : Int) + 1 := by omega
      refine tkf 9 rfl (v := ?_) ?_ ?_; rotate_left
      ·(intro w hSw; (try dsimp only at hSw); go_simp; try with_reducible rfl)
      (try simp only [Act.put, sZ])
      refine tkf 11 rfl (v := ?_) ?_ ?_; rotate_left
      ·(intro w hSw; (try dsimp only at hSw); go_simp; try with_reducible rfl)
      (try simp only [Act.put, sZ])
      refine tkf 12 rfl (v := ?_) ?_ ?_; rotate_left
      ·(intro w hSw; (try dsimp only at hSw); go_simp; try with_reducible rfl)
      (try simp only [Act.put, sZ])
      refine anyZ_split (i := 10) (j := 13) (by kernel_rfl) rfl rfl (fun K hK => ?_) (fun K hK => ?_)
      ·obtain ⟨u0, v0, u1, v1, u2, v2, u3, v3, u4, v4, u5, v5⟩ := zcA ZC.out
       go_simp
       refine hK.out _ _ (fun _ => trivial) (fun _ => ?_)
       clear hK K u0 u1 u2 u3 u4 u5 v0 v1 v2 v3 v4 v5
       have XK := Lib.hid (kid_whole XD.out HGN2.out (zz1.ks.length * 6) y fy)
       have c5 : (kidW wd gv (zz1.ks.length * 6) y fy).cell? ⟨N, 5, none⟩ = some (.slice f.ka zz1.ks.length f.kc) := XK.out.cell 5
       have v5 := XK.out.free 5
       change anyZ _ _ _ _ _ _ _ _ _ (kidW wd gv (zz1.ks.length * 6) y fy)
       generalize kidW wd gv (zz1.ks.length * 6) y fy = wk at *
       clear XK
       (try simp only [Act.put, sZ])
       refine stp 13 rfl (fun K hK => ?_)
       go_simp
       refine hK.out _ _ (fun _ => trivial) (fun _ => ?_)
       refine anyZ_done (by kernel_rfl) ?_ _
       clear hK K c5 v5
       go_wp2_with fail
       go_meet
       exact ⟨_, _, KD.out.1, KD.out.2.1⟩
      ·have c5 : wd.cell? ⟨N, 5, none⟩ = some (.slice f.ka zz1.ks.length f.kc) := XD.out.cell 5
       have v5 := XD.out.free 5
       go_simp
       refine hK.out _ _ (fun _ => trivial) (fun _ => ?_)
       clear hK K c5 v5
       obtain ⟨u0, v0, u1, v1, u2, v2, u3, v3, u4, v4, u5, v5⟩ := zcB (p := ⟨N, 5, none⟩) ZC.out HGN.out (.slice (some ⟨gv, 0, none⟩) (zz1.ks.length + 1) cv)
       have KD2 := Lib.hid (show Box (kidW (wd.setCell ⟨N, 5, none⟩ (.slice (some ⟨gv, 0, none⟩) (zz1.ks.length + 1) cv)) gv (zz1.ks.length * 6) y fy) N base (zz1.add y) _ _ ∧ Lo base w (kidW (wd.setCell ⟨N, 5, none⟩ (.slice (some ⟨gv, 0, none⟩) (zz1.ks.length + 1) cv)) gv (zz1.ks.length * 6) y fy) R g c T s5 from by rw [kid_comm _ HGN.out]; exact ⟨KD.out.1, KD.out.2.1⟩)
       clear KD
       generalize wd.setCell ⟨N, 5, none⟩ (.slice (some ⟨gv, 0, none⟩) (zz1.ks.length + 1) cv) = wk at *
       (try simp only [Act.put, sZ])
       refine stp 10 rfl (fun K hK => ?_)
       go_simp
       refine hK.out _ _ (fun _ => trivial) (fun _ => ?_)
       refine anyZ_done (by kernel_rfl) ?_ _
       clear hK K u0 u1 u2 u3 u4 u5 v0 v1 v2 v3 v4 v5
       go_wp2_with fail
       go_meet
       exact ⟨_, _, KD2.out.1, KD2.out.2⟩
     ·go_simp
      refine hK.out _ _ (fun _ => (B_N10.out.drew.alloc _).c5) (fun hHeld2 => ?_)
      replace hHeld2 := hHeld2 (by decide)
      clear hK K hHeld
      (try simp only [Act.put, sZ])
      refine stp 5 rfl (fun K hK => ?_)
      go_simp
      go_at_call 39
      refine (C9.out _ (H10.out.drew.alloc (.cells #[.int .i64 0, .string ⟨#[]⟩, .int .i64 0, .int .i64 0, .slice none 0 0, .slice none 0 0] 25)).p).mono ?_
      rintro e wc ⟨fy, rfl, hpc, ny, bc⟩
      have HA := Lib.hid ((H10.out.drew.alloc (.cells #[.int .i64 0, .string ⟨#[]⟩, .int .i64 0, .int .i64 0, .slice none 0 0, .slice none 0 0] 25)).call hpc bc)
      have BA := Lib.hid ((B_N10.out.drew.alloc (.cells #[.int .i64 0, .string ⟨#[]⟩, .int .i64 0, .int .i64 0, .slice none 0 0, .slice none 0 0] 25)).but bc (Nat.le_refl _) (by have := H10.out.r; omega))
      have NA : Hid (NodeIn wc (fun a => w10.heap.size ≤ a) y fy) := ny.mono fun a ha _ => by simp at ha; omega
      have ZA : Hid (Whole wc w10.heap.size 25 #[.int .i64 0, .string ⟨#[]⟩, .int .i64 0, .int .i64 0, .slice none 0 0, .slice none 0 0]) := bc.whole (Whole.made w10.drew 25 #[.int .i64 0, .string ⟨#[]⟩, .int .i64 0, .int .i64 0, .slice none 0 0, .slice none 0 0]) (by simp) (by have := H10.out.r; have := H10.out.size; simp; omega)
      clear hpc ny bc
      unfold ndV
      refine hK.out _ _ (fun _ => BA.out.c5) (fun hHeld3 => ?_)
      clear hK K hHeld2 hHeld3
      (try simp only [Act.put, sZ])
      refine stp 8 rfl (fun K hK => ?_)
      refine step_app ty_nd (v := .slice f.ka zz1.ks.length f.kc) (by rfl) _ _ (by rfl) (by rfl) BA.out.kid w10.heap.size 1 [.int .i64 0, .string ⟨#[]⟩, .int .i64 0, .int .i64 0, .slice none 0 0, .slice none 0 0] (by rfl) ZA.out (by rfl) (by simp [Value.oneCell']) (by decide) (by omega) (by decide) (by have := HA.out.size; omega) ?_
      intro gv cv wd hap
      have KD := Lib.hid (kid_done2 HA.out BA.out B_N10.out.lt B_N10.out.nlt B_N10.out.klt NA.out hap)
      have hln := flatL_len _ _ BA.out.len
      have ZC := Lib.hid (zero_cells hap (by rw [hln]; omega))
      rw [hln] at ZC
      have XD := Lib.hid (hap.far BA.out.box (row_ne BA.out.kid BA.out.kN))
      have hgn : gv ≠ N := KD.out.2.2
      have hgn2 : N ≠ gv := Ne.symm hgn
      have HGN := Lib.hid hgn
      have HGN2 := Lib.hid hgn2
      clear hln hgn hgn2 hap HA BA NA ZA
      refine hK.out _ _ (fun h => absurd h (by decide)) (fun _ => ?_)
      clear hK K
      (try simp only [Act.put, sZ])
      refine anyZ_free _ _ _ _ (by decide) ?_
      have hT : True := trivial
      have hix : (zz1.ks.length : Int) < (zz1.ks.length : Int) + 1 := by omega
      refine tkf 9 rfl (v := ?_) ?_ ?_; rotate_left
      ·(intro w hSw; (try dsimp only at hSw); go_simp; try with_reducible rfl)
      (try simp only [Act.put, sZ])
      refine tkf 11 rfl (v := ?_) ?_ ?_; rotate_left
      ·(intro w hSw; (try dsimp only at hSw); go_simp; try with_reducible rfl)
      (try simp only [Act.put, sZ])
      refine tkf 12 rfl (v := ?_) ?_ ?_; rotate_left
      ·(intro w hSw; (try dsimp only at hSw); go_simp; try with_reducible rfl)
      (try simp only [Act.put, sZ])
      refine anyZ_split (i := 10) (j := 13) (by kernel_rfl) rfl rfl (fun K hK => ?_) (fun K hK => ?_)
      ·obtain ⟨u0, v0, u1, v1, u2, v2, u3, v3, u4, v4, u5, v5⟩ := zcA ZC.out
       go_simp
       refine hK.out _ _ (fun _ => trivial) (fun _ => ?_)
       clear hK K u0 u1 u2 u3 u4 u5 v0 v1 v2 v3 v4 v5
       have XK := Lib.hid (kid_whole XD.out HGN2.out (zz1.ks.length * 6) y fy)
       have c5 : (kidW wd gv (zz1.ks.length * 6) y fy).cell? ⟨N, 5, none⟩ = some (.slice f.ka zz1.ks.length f.kc) := XK.out.cell 5
       have v5 := XK.out.free 5
       change anyZ _ _ _ _ _ _ _ _ _ (kidW wd gv (zz1.ks.length * 6) y fy)
       generalize kidW wd gv (zz1.ks.length * 6) y fy = wk at *
       clear XK
       (try simp only [Act.put, sZ])
       refine stp 13 rfl (fun K hK => ?_)
       go_simp
       refine hK.out _ _ (fun _ => trivial) (fun _ => ?_)
       refine anyZ_done (by kernel_rfl) ?_ _
       clear hK K c5 v5
       go_wp2_with fail
       go_meet
       exact ⟨_, _, KD.out.1, KD.out.2.1⟩
      ·have c5 : wd.cell? ⟨N, 5, none⟩ = some (.slice f.ka zz1.ks.length f.kc) := XD.out.cell 5
       have v5 := XD.out.free 5
       go_simp
       refine hK.out _ _ (fun _ => trivial) (fun _ => ?_)
       clear hK K c5 v5
       obtain ⟨u0, v0, u1, v1, u2, v2, u3, v3, u4, v4, u5, v5⟩ := zcB (p := ⟨N, 5, none⟩) ZC.out HGN.out (.slice (some ⟨gv, 0, none⟩) (zz1.ks.length + 1) cv)
       have KD2 := Lib.hid (show Box (kidW (wd.setCell ⟨N, 5, none⟩ (.slice (some ⟨gv, 0, none⟩) (zz1.ks.length + 1) cv)) gv (zz1.ks.length * 6) y fy) N base (zz1.add y) _ _ ∧ Lo base w (kidW (wd.setCell ⟨N, 5, none⟩ (.slice (some ⟨gv, 0, none⟩) (zz1.ks.length + 1) cv)) gv (zz1.ks.length * 6) y fy) R g c T s5 from by rw [kid_comm _ HGN.out]; exact ⟨KD.out.1, KD.out.2.1⟩)
       clear KD
       generalize wd.setCell ⟨N, 5, none⟩ (.slice (some ⟨gv, 0, none⟩) (zz1.ks.length + 1) cv) = wk at *
       (try simp only [Act.put, sZ])
       refine stp 10 rfl (fun K hK => ?_)
       go_simp
       refine hK.out _ _ (fun _ => trivial) (fun _ => ?_)
       refine anyZ_done (by kernel_rfl) ?_ _
       clear hK K u0 u1 u2 u3 u4 u5 v0 v1 v2 v3 v4 v5
       go_wp2_with fail
       go_meet
       exact ⟨_, _, KD2.out.1, KD2.out.2⟩
    case rest =>
     obtain ⟨f2, fs2, hbx, hlo⟩ := hcut
     have BXE := Lib.hid hbx
     have HE := Lib.hid hlo
     have hq := HQ2.out
     subst hq
     clear hbx hlo HQ2 C9 l1 B_N10 H10
     go_wp2_with fail
     exact bodyPost_ret (v := .bool true) (by simp [results, Try.results53, go_sem]) rfl ⟨rfl, ⟨f2, fs2, BXE.out⟩, HE.out.p, HE.out.b⟩
  ·obtain ⟨y, s5, h_s5⟩ : ∃ y s5, r.exp s3 = (y, s5) := ⟨_, _, rfl⟩
   have E_s5 := Lib.hid h_s5
   clear h_s5
   have l1 : zz1.ks.length ≤ 100000 := by rw [← Z_zz1.out, setTx_ks]; exact hks
   have hq : (zz1.add y, s5) = q := by
    rw [← HQ.out, ← Z_zz1.out]; unfold valueF; dsimp only; rw [E_b.out, if_pos rfl, E_s1.out, E_tx.out, E_s2.out, E_s3.out, E_bf.out, if_neg (fun h => absurd h.2.1 (by decide)), E_s5.out]
   have HQ2 := Lib.hid hq
   clear hq HQ
   go_upto_region 9 with (fail)
   have C9 := Lib.hid (fun wx (h : PAt wx R g c T s3) => gives_eq E_s5.out (D.exp wx s3 h (by rw [G_s3.out.deep]; exact HD.out)))
   go_cut [38] (fun _ wx => ∃ f2 fs2, Box wx N base (zz1.add y) f2 fs2 ∧ Lo base w wx R g c T s5)
   case first =>
    refine region_Z (fun W => W.cell? ⟨N, 5, none⟩ = some (.slice f.ka zz1.ks.length f.kc)) (fun i => decide (8 ≤ i ∧ i < 14)) (by kernel_rfl) B_N10.out.drew.c5 (fun hHeld => ?_)
    refine tkg 0 rfl (fun k hk => by have hk2 : 14 ≤ k := hk; simp; omega) (v := ?_) ?_ ?_; rotate_left
    ·(intro w hSw; (try dsimp only at hSw); go_simp; try with_reducible rfl)
    (try simp only [Act.put, sZ])
    refine tkg 1 rfl (fun k hk => by have hk2 : 14 ≤ k := hk; simp; omega) (v := ?_) ?_ ?_; rotate_left
    ·(intro w hSw; (try dsimp only at hSw); go_simp; try with_reducible rfl)
    (try simp only [Act.put, sZ])
    refine tkg 2 rfl (fun k hk => by have hk2 : 14 ≤ k := hk; simp; omega) (v := ?_) ?_ ?_; rotate_left
    ·(intro w hSw; (try dsimp only at hSw); go_simp; try with_reducible rfl)
    (try simp only [Act.put, sZ])
    refine tkg 3 rfl (fun k hk => by have hk2 : 14 ≤ k := hk; simp; omega) (v := ?_) ?_ ?_; rotate_left
    ·(intro w hSw; (try dsimp only at hSw); go_simp; try with_reducible rfl)
    (try simp only [Act.put, sZ])
    refine tkg 4 rfl (fun k hk => by have hk2 : 14 ≤ k := hk; simp; omega) (v := ?_) ?_ ?_; rotate_left
    ·(intro w hSw; (try dsimp only at hSw); go_simp; try with_reducible rfl)
    (try simp only [Act.put, sZ])
    refine tkg 6 rfl (fun k hk => by have hk2 : 14 ≤ k := hk; simp; omega) (v := ?_) ?_ ?_; rotate_left
    ·(intro w hSw; (try dsimp only at hSw); go_simp; try with_reducible rfl)
    (try simp only [Act.put, sZ])
    refine anyZ_split (i := 5) (j := 7) (by kernel_rfl) rfl rfl (fun K hK => ?_) (fun K hK => ?_)
    ·go_simp
     go_at_call 39
     refine (C9.out _ H10.out.drew.p).mono ?_
     rintro e wc ⟨fy, rfl, hpc, ny, bc⟩
     have HC := Lib.hid (H10.out.drew.call hpc bc)
     have BC := Lib.hid (B_N10.out.drew.but bc (Nat.le_refl _) (by have := H10.out.r; omega))
     have NY : Hid (NodeIn wc (fun a => w10.heap.size ≤ a) y fy) := ny
     clear hpc ny bc
     unfold ndV
     refine hK.out _ _ (fun _ => BC.out.c5) (fun hHeld2 => ?_)
     replace hHeld2 := hHeld2 (by decide)
     clear hK K hHeld
     (try simp only [Act.put, sZ])
     refine stp 7 rfl (fun K hK => ?_)
     go_simp
     refine hK.out _ _ (fun _ => (BC.out.alloc _).c5) (fun hHeld3 => ?_)
     clear hK K hHeld2 hHeld3
     (try simp only [Act.put, sZ])
     have HA := Lib.hid (HC.out.alloc (.cells #[.int .i64 0, .string ⟨#[]⟩, .int .i64 0, .int .i64 0, .slice none 0 0, .slice none 0 0] 25))
     have BA := Lib.hid (BC.out.alloc (.cells #[.int .i64 0, .string ⟨#[]⟩, .int .i64 0, .int .i64 0, .slice none 0 0, .slice none 0 0] 25))
     have NA := Lib.hid (NY.out.alloc (.cells #[.int .i64 0, .string ⟨#[]⟩, .int .i64 0, .int .i64 0, .slice none 0 0, .slice none 0 0] 25))
     have ZA : Hid (Whole (wc.alloc (.cells #[.int .i64 0, .string ⟨#[]⟩, .int .i64 0, .int .i64 0, .slice none 0 0, .slice none 0 0] 25)) wc.heap.size 25 #[.int .i64 0, .string ⟨#[]⟩, .int .i64 0, .int .i64 0, .slice none 0 0, .slice none 0 0]) := Whole.made _ _ _
     clear HC BC NY
     generalize wc.alloc (.cells #[.int .i64 0, .string ⟨#[]⟩, .int .i64 0, .int .i64 0, .slice none 0 0, .slice none 0 0] 25) = wa at *
     generalize wc.heap.size = Zb at *
     refine stp 8 rfl (fun K hK => ?_)
     refine step_app ty_nd (v := .slice f.ka zz1.ks.length f.kc) (by rfl) _ _ (by rfl) (by rfl) BA.out.kid Zb 1 [.int .i64 0, .string ⟨#[]⟩, .int .i64 0, .int .i64 0, .slice none 0 0, .slice none 0 0] (by rfl) ZA.out (by rfl) (by simp [Value.oneCell']) (by decide) (by omega) (by decide) (by have := HA.out.size; omega) ?_
     intro gv cv wd hap
     have KD := Lib.hid (kid_done2 HA.out BA.out B_N10.out.lt B_N10.out.nlt B_N10.out.klt NA.out hap)
     have hln := flatL_len _ _ BA.out.len
     have ZC := Lib.hid (zero_cells hap (by rw [hln]; omega))
     rw [hln] at ZC
     have XD := Lib.hid (hap.far BA.out.box (row_ne BA.out.kid BA.out.kN))
     have hgn : gv ≠ N := KD.out.2.2
     have hgn2 : N ≠ gv := Ne.symm hgn
     have HGN := Lib.hid hgn
     have HGN2 := Lib.hid hgn2
     clear hln hgn hgn2 hap HA BA NA ZA
     refine hK.out _ _ (fun h => absurd h (by decide)) (fun _ => ?_)
     clear hK K
     (try simp only [Act.put, sZ])
     refine anyZ_free _ _ _ _ (by decide) ?_
     have hT : True := trivial
     have hix : (zz1.ks.length : Int) < (zz1.ks.length : Int) + 1 := by omega
     refine tkf 9 rfl (v := ?_) ?_ ?_; rotate_left
     ·(intro w hSw; (try dsimp only at hSw); go_simp; try with_reducible rfl)
     (try simp only [Act.put, sZ])
     refine tkf 11 rfl (v := ?_) ?_ ?_; rotate_left
     ·(intro w hSw; (try dsimp only at hSw); go_simp; try with_reducible rfl)
     (try simp only [Act.put, sZ])
     refine tkf 12 rfl (v := ?_) ?_ ?_; rotate_left
     ·(intro w hSw; (try dsimp only at hSw); go_simp; try with_reducible rfl)
     (try simp only [Act.put, sZ])
     refine anyZ_split (i := 10) (j := 13) (by kernel_rfl) rfl rfl (fun K hK => ?_) (fun K hK => ?_)
     ·obtain ⟨u0, v0, u1, v1, u2, v2, u3, v3, u4, v4, u5, v5⟩ := zcA ZC.out
      go_simp
      refine hK.out _ _ (fun _ => trivial) (fun _ => ?_)
      clear hK K u0 u1 u2 u3 u4 u5 v0 v1 v2 v3 v4 v5
      have XK := Lib.hid (kid_whole XD.out HGN2.out (zz1.ks.length * 6) y fy)
      have c5 : (kidW wd gv (zz1.ks.length * 6) y fy).cell? ⟨N, 5, none⟩ = some (.slice f.ka zz1.ks.length f.kc) := XK.out.cell 5
      have v5 := XK.out.free 5
      change anyZ _ _ _ _ _ _ _ _ _ (kidW wd gv (zz1.ks.length * 6) y fy)
      generalize kidW wd gv (zz1.ks.length * 6) y fy = wk at *
      clear XK
      (try simp only [Act.put, sZ])
      refine stp 13 rfl (fun K hK => ?_)
      go_simp
      refine hK.out _ _ (fun _ => trivial) (fun _ => ?_)
      refine anyZ_done (by kernel_rfl) ?_ _
      clear hK K c5 v5
      go_wp2_with fail
      go_meet
      exact ⟨_, _, KD.out.1, KD.out.2.1⟩
     ·have c5 : wd.cell? ⟨N, 5, none⟩ = some (.slice f.ka zz1.ks.length f.kc) := XD.out.cell 5
      have v5 := XD.out.free 5
      go_simp
      refine hK.out _ _ (fun _ => trivial) (fun _ => ?_)
      clear hK K c5 v5
      obtain ⟨u0, v0, u1, v1, u2, v2, u3, v3, u4, v4, u5, v5⟩ := zcB (p := ⟨N, 5, none⟩) ZC.out HGN.out (.slice (some ⟨gv, 0, none⟩) (zz1.ks.length + 1) cv)
      have KD2 := Lib.hid (show Box (kidW (wd.setCell ⟨N, 5, none⟩ (.slice (some ⟨gv, 0, none⟩) (zz1.ks.length + 1) cv)) gv (zz1.ks.length * 6) y fy) N base (zz1.add y) _ _ ∧ Lo base w (kidW (wd.setCell ⟨N, 5, none⟩ (.slice (some ⟨gv, 0, none⟩) (zz1.ks.length + 1) cv)) gv (zz1.ks.length * 6) y fy) R g c T s5 from by rw [kid_comm _ HGN.out]; exact ⟨KD.out.1, KD.out.2.1⟩)
      clear KD
      generalize wd.setCell ⟨N, 5, none⟩ (.slice (some ⟨gv, 0, none⟩) (zz1.ks.length + 1) cv) = wk at *
      (try simp only [Act.put, sZ])
      refine stp 10 rfl (fun K hK => ?_)
      go_simp
      refine hK.out _ _ (fun _ => trivial) (fun _ => ?_)
      refine anyZ_done (by kernel_rfl) ?_ _
      clear hK K u0 u1 u2 u3 u4 u5 v0 v1 v2 v3 v4 v5
      go_wp2_with fail
      go_meet
      exact ⟨_, _, KD2.out.1, KD2.out.2⟩
    ·go_simp
     refine hK.out _ _ (fun _ => (B_N10.out.drew.alloc _).c5) (fun hHeld2 => ?_)
     replace hHeld2 := hHeld2 (by decide)
     clear hK K hHeld
     (try simp only [Act.put, sZ])
     refine stp 5 rfl (fun K hK => ?_)
     go_simp
     go_at_call 39
     refine (C9.out _ (H10.out.drew.alloc (.cells #[.int .i64 0, .string ⟨#[]⟩, .int .i64 0, .int .i64 0, .slice none 0 0, .slice none 0 0] 25)).p).mono ?_
     rintro e wc ⟨fy, rfl, hpc, ny, bc⟩
     have HA := Lib.hid ((H10.out.drew.alloc (.cells #[.int .i64 0, .string ⟨#[]⟩, .int .i64 0, .int .i64 0, .slice none 0 0, .slice none 0 0] 25)).call hpc bc)
     have BA := Lib.hid ((B_N10.out.drew.alloc (.cells #[.int .i64 0, .string ⟨#[]⟩, .int .i64 0, .int .i64 0, .slice none 0 0, .slice none 0 0] 25)).but bc (Nat.le_refl _) (by have := H10.out.r; omega))
     have NA : Hid (NodeIn wc (fun a => w10.heap.size ≤ a) y fy) := ny.mono fun a ha _ => by simp at ha; omega
     have ZA : Hid (Whole wc w10.heap.size 25 #[.int .i64 0, .string ⟨#[]⟩, .int .i64 0, .int .i64 0, .slice none 0 0, .slice none 0 0]) := bc.whole (Whole.made w10.drew 25 #[.int .i64 0, .string ⟨#[]⟩, .int .i64 0, .int .i64 0, .slice none 0 0, .slice none 0 0]) (by simp) (by have := H10.out.r; have := H10.out.size; simp; omega)
     clear hpc ny bc
     unfold ndV
     refine hK.out _ _ (fun _ => BA.out.c5) (fun hHeld3 => ?_)
     clear hK K hHeld2 hHeld3
     (try simp only [Act.put, sZ])
     refine stp 8 rfl (fun K hK => ?_)
     refine step_app ty_nd (v := .slice f.ka zz1.ks.length f.kc) (by rfl) _ _ (by rfl) (by rfl) BA.out.kid w10.heap.size 1 [.int .i64 0, .string ⟨#[]⟩, .int .i64 0, .int .i64 0, .slice none 0 0, .slice none 0 0] (by rfl) ZA.out (by rfl) (by simp [Value.oneCell']) (by decide) (by omega) (by decide) (by have := HA.out.size; omega) ?_
     intro gv cv wd hap
     have KD := Lib.hid (kid_done2 HA.out BA.out B_N10.out.lt B_N10.out.nlt B_N10.out.klt NA.out hap)
     have hln := flatL_len _ _ BA.out.len
     have ZC := Lib.hid (zero_cells hap (by rw [hln]; omega))
     rw [hln] at ZC
     have XD := Lib.hid (hap.far BA.out.box (row_ne BA.out.kid BA.out.kN))
     have hgn : gv ≠ N := KD.out.2.2
     have hgn2 : N ≠ gv := Ne.symm hgn
     have HGN := Lib.hid hgn
     have HGN2 := Lib.hid hgn2
     clear hln hgn hgn2 hap HA BA NA ZA
     refine hK.out _ _ (fun h => absurd h (by decide)) (fun _ => ?_)
     clear hK K
     (try simp only [Act.put, sZ])
     refine anyZ_free _ _ _ _ (by decide) ?_
     have hT : True := trivial
     have hix : (zz1.ks.length : Int) < (zz1.ks.length : Int) + 1 := by omega
     refine tkf 9 rfl (v := ?_) ?_ ?_; rotate_left
     ·(intro w hSw; (try dsimp only at hSw); go_simp; try with_reducible rfl)
     (try simp only [Act.put, sZ])
     refine tkf 11 rfl (v := ?_) ?_ ?_; rotate_left
     ·(intro w hSw; (try dsimp only at hSw); go_simp; try with_reducible rfl)
     (try simp only [Act.put, sZ])
     refine tkf 12 rfl (v := ?_) ?_ ?_; rotate_left
     ·(intro w hSw; (try dsimp only at hSw); go_simp; try with_reducible rfl)
     (try simp only [Act.put, sZ])
     refine anyZ_split (i := 10) (j := 13) (by kernel_rfl) rfl rfl (fun K hK => ?_) (fun K hK => ?_)
     ·obtain ⟨u0, v0, u1, v1, u2, v2, u3, v3, u4, v4, u5, v5⟩ := zcA ZC.out
      go_simp
      refine hK.out _ _ (fun _ => trivial) (fun _ => ?_)
      clear hK K u0 u1 u2 u3 u4 u5 v0 v1 v2 v3 v4 v5
      have XK := Lib.hid (kid_whole XD.out HGN2.out (zz1.ks.length * 6) y fy)
      have c5 : (kidW wd gv (zz1.ks.length * 6) y fy).cell? ⟨N, 5, none⟩ = some (.slice f.ka zz1.ks.length f.kc) := XK.out.cell 5
      have v5 := XK.out.free 5
      change anyZ _ _ _ _ _ _ _ _ _ (kidW wd gv (zz1.ks.length * 6) y fy)
      generalize kidW wd gv (zz1.ks.length * 6) y fy = wk at *
      clear XK
      (try simp only [Act.put, sZ])
      refine stp 13 rfl (fun K hK => ?_)
      go_simp
      refine hK.out _ _ (fun _ => trivial) (fun _ => ?_)
      refine anyZ_done (by kernel_rfl) ?_ _
      clear hK K c5 v5
      go_wp2_with fail
      go_meet
      exact ⟨_, _, KD.out.1, KD.out.2.1⟩
     ·have c5 : wd.cell? ⟨N, 5, none⟩ = some (.slice f.ka zz1.ks.length f.kc) := XD.out.cell 5
      have v5 := XD.out.free 5
      go_simp
      refine hK.out _ _ (fun _ => trivial) (fun _ => ?_)
      clear hK K c5 v5
      obtain ⟨u0, v0, u1, v1, u2, v2, u3, v3, u4, v4, u5, v5⟩ := zcB (p := ⟨N, 5, none⟩) ZC.out HGN.out (.slice (some ⟨gv, 0, none⟩) (zz1.ks.length + 1) cv)
      have KD2 := Lib.hid (show Box (kidW (wd.setCell ⟨N, 5, none⟩ (.slice (some ⟨gv, 0, none⟩) (zz1.ks.length + 1) cv)) gv (zz1.ks.length * 6) y fy) N base (zz1.add y) _ _ ∧ Lo base w (kidW (wd.setCell ⟨N, 5, none⟩ (.slice (some ⟨gv, 0, none⟩) (zz1.ks.length + 1) cv)) gv (zz1.ks.length * 6) y fy) R g c T s5 from by rw [kid_comm _ HGN.out]; exact ⟨KD.out.1, KD.out.2.1⟩)
      clear KD
      generalize wd.setCell ⟨N, 5, none⟩ (.slice (some ⟨gv, 0, none⟩) (zz1.ks.length + 1) cv) = wk at *
      (try simp only [Act.put, sZ])
      refine stp 10 rfl (fun K hK => ?_)
      go_simp
      refine hK.out _ _ (fun _ => trivial) (fun _ => ?_)
      refine anyZ_done (by kernel_rfl) ?_ _
      clear hK K u0 u1 u2 u3 u4 u5 v0 v1 v2 v3 v4 v5
      go_wp2_with fail
      go_meet
      exact ⟨_, _, KD2.out.1, KD2.out.2⟩
   case rest =>
    obtain ⟨f2, fs2, hbx, hlo⟩ := hcut
    have BXE := Lib.hid hbx
    have HE := Lib.hid hlo
    have hq := HQ2.out
    subst hq
    clear hbx hlo HQ2 C9 l1 B_N10 H10
    go_wp2_with fail
    exact bodyPost_ret (v := .bool true) (by simp [results, Try.results53, go_sem]) rfl ⟨rfl, ⟨f2, fs2, BXE.out⟩, HE.out.p, HE.out.b⟩
end Go.Proofs.Ytgjchgmlogbmmaa
