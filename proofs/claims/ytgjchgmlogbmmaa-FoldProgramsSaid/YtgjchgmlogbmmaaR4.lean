/- A part of the proofs of chapter 11, squeezed, merged and shrunk by group.py: GRow GWalkJ GWalkK GVar. -/
import Derived.Test.YtgjchgmlogbmmaaR1
import Derived.KernelRfl
import Derived.Test.YtgjchgmlogbmmaaR3
/- Rows of nodes: a node that is laid into a place that was made for it; two kids; the contracts with their answers named. -/
namespace Go.Proofs.Ytgjchgmlogbmmaa
open Go.RowKit
set_option linter.unusedVariables false
set_option linter.unusedSimpArgs false

theorem set_comm (w : World) {p q : Addr} (h : p.block ≠ q.block) (u v : Value) : (w.setCell p u).setCell q v = (w.setCell q v).setCell p u := by
 simp only [World.setCell, World.mk.injEq, and_true]
 apply Array.ext
 ·simp
 ·intro i h1 h2
  simp only [Array.getElem_modify]
  split <;> split <;> simp_all
theorem own_set1 {w : World} {base : Nat} {e : TypeId} {size n c g : Nat} {xs : List Value} (ho : w.ownsRow base e size (.slice (some ⟨g, 0, none⟩) n c) n xs) (i : Nat) (u : Value) :
  (w.setCell ⟨g, i, none⟩ u).ownsRow base e size (.slice (some ⟨g, 0, none⟩) n c) n (xs.set i u) := by
 refine ⟨by rw [List.length_set]; exact ho.1, ?_⟩
 rcases ho.2 with ⟨e1, _⟩ | ⟨g', c', cur, e1, hb, hh, hn, hc, hs, ht⟩
 ·cases e1
 ·simp only [Value.slice.injEq] at e1
  have eg : g = g' := by have := e1.1; simpa using this
  subst eg
  have ec := e1.2.2
  subst ec
  refine .inr ⟨g, c, cur.setIfInBounds i u, rfl, hb, by simp [World.setCell, Array.getElem?_modify, hh], hn, hc, by simpa using hs, ?_⟩
  rw [← ht, Array.toList_setIfInBounds, List.take_set]
theorem Appended.put {w w' : World} {base : Nat} {e : TypeId} {size n c g : Nat} {v : Value} {xs : List Value} (h : Appended w base e size v n xs (.slice (some ⟨g, 0, none⟩) n c) w') (i : Nat) (u : Value) :
  Appended w base e size v n (xs.set i u) (.slice (some ⟨g, 0, none⟩) n c) (w'.setCell ⟨g, i, none⟩ u) := by
 refine ⟨own_set1 h.1 i u, ?_, h.2.2⟩
 have hg := h.2.2 g rfl
 refine ⟨h.2.1.os, h.2.1.tape, h.2.1.output, by simp [World.setCell]; exact h.2.1.size, fun k hk hn => ?_⟩
 rw [Below.heap_setCell w' ⟨g, i, none⟩ u k (by
  show k ≠ g
  rintro rfl
  rcases hg with hg | hg
  ·exact hn hg.symm
  ·omega)]
 exact h.2.1.block k hk hn
theorem set6 (L : List Value) (a0 a1 a2 a3 a4 a5 v0 v1 v2 v3 v4 v5 : Value) (n : Nat) (h : L.length = n) :
  ((((((L ++ [a0, a1, a2, a3, a4, a5]).set n v0).set (n + 1) v1).set (n + 2) v2).set (n + 3) v3).set (n + 4) v4).set (n + 5) v5 = L ++ [v0, v1, v2, v3, v4, v5] := by
 subst h
 simp
/-- The kid is laid into the place made for it. -/
theorem Appended.kid {w w' : World} {base : Nat} {v : Value} {m c g N : Nat} {L : List Value} {y : Nd} {fy : Fr} (h : Appended w base 25 6 v m (L ++ [.int .i64 0, .string ⟨#[]⟩, .int .i64 0, .int .i64 0, .slice none 0 0, .slice none 0 0]) (.slice (some ⟨g, 0, none⟩) m c) w') (hl : L.length = N) :
  Appended w base 25 6 v m (L ++ ndL y fy) (.slice (some ⟨g, 0, none⟩) m c)
   ((((((w'.setCell ⟨g, N, none⟩ (.int .i64 y.kd)).setCell ⟨g, N + 1, none⟩ (.string ⟨y.tx.toArray⟩)).setCell ⟨g, N + 2, none⟩ (.int .i64 y.nm)).setCell ⟨g, N + 3, none⟩ (.int .i64 (y.at_ : Int))).setCell ⟨g, N + 4, none⟩ (.slice fy.na y.ns.length fy.nc)).setCell ⟨g, N + 5, none⟩ (.slice fy.ka y.ks.length fy.kc)) := by
 have h2 := (((((h.put N (.int .i64 y.kd)).put (N + 1) (.string ⟨y.tx.toArray⟩)).put (N + 2) (.int .i64 y.nm)).put (N + 3) (.int .i64 (y.at_ : Int))).put (N + 4) (.slice fy.na y.ns.length fy.nc)).put (N + 5) (.slice fy.ka y.ks.length fy.kc)
 rw [set6 _ _ _ _ _ _ _ _ _ _ _ _ _ N hl] at h2
 exact h2
theorem NodeIn.pair {w : World} {b : Nat → Prop} {x y : Nd} {f fy : Fr} {B : Nat} (kd : Int) (o : List UInt8) (at_ : Nat) (hB : Whole w B 25 (ndL x f ++ ndL y fy).toArray) (hb : b B)
  (nx : NodeIn w (fun a => b a ∧ a ≠ B) x f) (ny : NodeIn w (fun a => b a ∧ a ≠ B) y fy) : NodeIn w b (.mk kd o 0 at_ [] [x, y]) ⟨none, 0, some ⟨B, 0, none⟩, 2⟩ := by
 refine .mk (fun _ => ⟨rfl, rfl⟩) (fun h => absurd rfl h) (fun h => by cases h) B (fun k => if k = 0 then f else fy) (fun _ => ⟨rfl, hb, hB.lt⟩) (fun k h j v hv => ?_) (fun k h => ?_)
 ·have hk : k = 0 ∨ k = 1 := by
   have : k < 2 := h
   omega
  have hj : j < 6 := by
   have := (List.getElem?_eq_some_iff.1 hv).1
   rw [ndL_len] at this; exact this
  rw [hB.cell]
  rcases hk with rfl | rfl
  ·rw [List.getElem?_toArray, List.getElem?_append_left (by rw [ndL_len]; omega)]
   simpa [Nd.ks] using hv
  ·rw [List.getElem?_toArray, List.getElem?_append_right (by rw [ndL_len]; omega), ndL_len, show 1 * 6 + j - 6 = j by omega]
   simpa [Nd.ks] using hv
 ·have hk : k = 0 ∨ k = 1 := by
   have : k < 2 := h
   omega
  rcases hk with rfl | rfl
  ·exact nx
  ·exact ny
section
variable {P : Program} {F : Nat} {ar : Array Value} {w : World} {R g c : Nat} {T : List Tok} {s s' : PS}
theorem gives_eq {q : Nd × PS} {x : Nd} (h : q = (x, s')) (C : Calls P F ar w (Gives w R g c T q)) : Calls P F ar w (Gives w R g c T (x, s')) := h ▸ C
theorem kind_eq {k : Int} (h : kdF T s = k) (hp : PAt w R g c T s) : Calls Try.prog 40 #[.pointer (some ⟨R, 0, none⟩)] w fun e w' => e = .returned (.int .i64 k) ∧ Below w.heap.size w w' := h ▸ kind_any w R g c T s hp
theorem at_eq {k : Nat} (h : atF T s = k) (hp : PAt w R g c T s) : Calls Try.prog 34 #[.pointer (some ⟨R, 0, none⟩)] w fun e w' => e = .returned (.int .i64 (k : Int)) ∧ Below w.heap.size w w' := h ▸ at_any w R g c T s hp
theorem is_eq {x : List UInt8} {b : Bool} (h : isF T s x = b) (hp : PAt w R g c T s) : Calls Try.prog 35 #[.pointer (some ⟨R, 0, none⟩), .string ⟨x.toArray⟩] w fun e w' => e = .returned (.bool b) ∧ Below w.heap.size w w' := h ▸ is_any w R g c T s x hp
theorem fail_eq {k : Int} (h : failF T s k = s') (hp : PAt w R g c T s) : Calls Try.prog 36 #[.pointer (some ⟨R, 0, none⟩), .int .i64 k] w fun e w' => e = .returned (.tuple #[]) ∧ PAt w' R g c T s' ∧ But R w.heap.size w w' := h ▸ fail_any w R g c T s k hp
theorem step_eq {t : Tok} (E : Ends T) (ht : stepT T s = t) (h : stepF T s = s') (hp : PAt w R g c T s) : Calls Try.prog 50 #[.pointer (some ⟨R, 0, none⟩)] w fun e w' => e = .returned (tokV t) ∧ PAt w' R g c T s' ∧ But R w.heap.size w w' := ht ▸ h ▸ step_any w R g c T s E hp
theorem want_eq {x : List UInt8} (E : Ends T) (h : wantF T s x = s') (hp : PAt w R g c T s) : Calls Try.prog 38 #[.pointer (some ⟨R, 0, none⟩), .string ⟨x.toArray⟩] w fun e w' => e = .returned (.tuple #[]) ∧ PAt w' R g c T s' ∧ But R w.heap.size w w' := h ▸ want_any w R g c T s x E hp
theorem text_eq {k : Int} {t : List UInt8} (E : Ends T) (ht : textT T s k = t) (h : textF T s k = s') (hp : PAt w R g c T s) : Calls Try.prog 51 #[.pointer (some ⟨R, 0, none⟩), .int .i64 k] w fun e w' => e = .returned (.string ⟨t.toArray⟩) ∧ PAt w' R g c T s' ∧ But R w.heap.size w w' := ht ▸ h ▸ text_any w R g c T s k E hp
theorem enter_eq {b : Bool} (hb : enterB T s = b) (h : enterF T s = s') (hp : PAt w R g c T s) : Calls Try.prog 54 #[.pointer (some ⟨R, 0, none⟩)] w fun e w' => e = .returned (.bool b) ∧ PAt w' R g c T s' ∧ But R w.heap.size w w' := hb ▸ h ▸ enter_any w R g c T s hp
theorem op_eq {x y z o : List UInt8} (h : opF T s x y z = o) (hp : PAt w R g c T s) : Calls Try.prog 76 #[.pointer (some ⟨R, 0, none⟩), .string ⟨x.toArray⟩, .string ⟨y.toArray⟩, .string ⟨z.toArray⟩] w fun e w' => e = .returned (.string ⟨o.toArray⟩) ∧ Below w.heap.size w w' := h ▸ op_any w R g c T s x y z hp
theorem begins_eq {b : Bool} (h : beginsF T s = b) (hp : PAt w R g c T s) : Calls Try.prog 81 #[.pointer (some ⟨R, 0, none⟩)] w fun e w' => e = .returned (.bool b) ∧ Below w.heap.size w w' := h ▸ begins_any w R g c T s hp
end
end Go.Proofs.Ytgjchgmlogbmmaa
/- The walks of layer 5, the document's: a type with what it is applied to. -/
namespace Go.Proofs.Ytgjchgmlogbmmaa
open Go.RowKit
set_option linter.unusedVariables false
set_option linter.unusedSimpArgs false
attribute [local go_sem ↓] Go.wp_at_zero Go.wp_at_succ

set_option maxRecDepth 100000 in
set_option maxHeartbeats 8000000 in
theorem ty_any (w : World) (R g c : Nat) (T : List Tok) (r : Rec) (n : Nat) (s : PS) (E : Ends T) (F : Fine T r) (D : Deep R g c T r n) (hp : PAt w R g c T s) (hd : 41 ≤ s.deep + (n + 1)) :
  Calls Try.prog 67 #[.pointer (some ⟨R, 0, none⟩)] w (Gives w R g c T (tyF T r s)) := by
 have H0 := Lib.hid (St.start hp)
 have HD := Lib.hid hd
 have HL := Lib.hid hp.lt
 have HLen := Lib.hid hp.len
 clear hp hd
 obtain ⟨q, hq⟩ : ∃ q, tyF T r s = q := ⟨_, rfl⟩
 rw [hq]
 have HQ := Lib.hid hq
 clear hq
 go_enter Try.func67, Try.ntmps67
 go_upto_region 1 with (fail)
 generalize w.alloc (.cells #[.int .i64 0, .string ⟨#[]⟩, .int .i64 0, .int .i64 0, .slice none 0 0, .slice none 0 0] 25) = w1 at *
 obtain ⟨b, h_b⟩ : ∃ b, enterB T s = b := ⟨_, rfl⟩
 have E_b := Lib.hid h_b
 clear h_b
 obtain ⟨s1, h_s1⟩ : ∃ s1, enterF T s = s1 := ⟨_, rfl⟩
 have E_s1 := Lib.hid h_s1
 clear h_s1
 go_wp2_with fail
 refine (enter_eq E_b.out E_s1.out H0.out.p).mono ?_
 rintro e w2 ⟨rfl, h2, b2⟩
 have H2 := Lib.hid (H0.out.call h2 b2)
 clear h2 b2 H0
 rcases b with _ | _
 ·have hq : (nd0, s1) = q := by rw [← HQ.out]; unfold tyF; rw [if_neg (by rw [E_b.out]; decide), E_s1.out]
  subst hq
  clear HQ E_b E_s1 HL
  obtain ⟨z0, z1, z2, z3, z4, z5⟩ := zeroC (H2.out.z)
  obtain ⟨y0, y1, y2, y3, y4, y5⟩ := freeC (H2.out.z)
  go_wp2_with fail
  obtain ⟨wf, HZF, HBF, hwf⟩ := ends6 (H2.out.z) (.int .i64 0) (.string ⟨#[]⟩) (.int .i64 0) (.int .i64 0) (.slice none 0 0) (.slice none 0 0)
  rw [hwf]
  clear hwf
  obtain ⟨g0, g1, g2, g3, g4, g5⟩ := cells6 HZF.out
  exact bodyPost_ret (v := ndV nd0 fr0) (by simp [results, Try.results67, go_sem, ndV, Nd.kd, Nd.tx, Nd.nm, Nd.at_, Nd.ns, Nd.ks, leafN, fr0, nd0, g0, g1, g2, g3, g4, g5]) rfl (H2.out.done (x := nd0) (f := fr0) (.leaf _ _ rfl rfl) HBF.out)
 ·obtain ⟨a, h_a⟩ : ∃ a, atF T s1 = a := ⟨_, rfl⟩
  have E_a := Lib.hid h_a
  clear h_a
  obtain ⟨tx, h_tx⟩ : ∃ tx, textT T s1 3 = tx := ⟨_, rfl⟩
  have E_tx := Lib.hid h_tx
  clear h_tx
  obtain ⟨s2, h_s2⟩ : ∃ s2, textF T s1 3 = s2 := ⟨_, rfl⟩
  have E_s2 := Lib.hid h_s2
  clear h_s2
  have HA : Hid (s1.i = s.i ∧ s1.deep = s.deep + 1) := by
   obtain ⟨a1, a2, _⟩ := enter_in HL.out E_b.out
   rw [E_s1.out] at a1 a2
   exact ⟨a1, a2⟩
  have hL1 : s1.i < T.length := by rw [HA.out.1]; exact HL.out
  have G_s2 := Lib.hid (show Goes T s1 s2 from by have q := goes_text E hL1 3; rw [E_s2.out] at q; exact q)
  have hd1 : 41 ≤ s1.deep + n := by rw [HA.out.2]; have := HD.out; omega
  clear hL1
  have HQ2 : Hid (((tyL T r T.length (.mk 27 tx 0 a [] []) s2).1, up (tyL T r T.length (.mk 27 tx 0 a [] []) s2).2) = q) := by
   show _ = _
   rw [← HQ.out, ← E_tx.out, ← E_s2.out, ← E_a.out, ← E_s1.out]; unfold tyF; rw [if_pos E_b.out]
  clear HQ
  generalize hres : tyL T r T.length (.mk 27 tx 0 a [] []) s2 = res at *
  have HRES := Lib.hid hres
  clear hres
  go_wp2_with fail
  refine (at_eq E_a.out H2.out.p).mono ?_
  rintro e w3 ⟨rfl, b3⟩
  have H3 := Lib.hid (H2.out.read b3)
  clear b3 H2
  have S_G : Hid (w.heap.size < w3.heap.size) := H3.out.size
  have H4 := Lib.hid (H3.out.alloc (.cells #[.int .i64 27, .string ⟨#[]⟩, .int .i64 0, .int .i64 (a : Int), .slice none 0 0, .slice none 0 0] 25))
  have B_G4 : Hid (Box (w3.alloc (.cells #[.int .i64 27, .string ⟨#[]⟩, .int .i64 0, .int .i64 (a : Int), .slice none 0 0, .slice none 0 0] 25)) w3.heap.size (w.heap.size + 1) (Nd.mk 27 [] 0 a [] []) fr0 []) := Box.made w3 (base := w.heap.size + 1) (x := (Nd.mk 27 [] 0 a [] [])) H3.out.size rfl rfl
  go_upto_region 5 with (fail)
  generalize w3.alloc (.cells #[.int .i64 27, .string ⟨#[]⟩, .int .i64 0, .int .i64 (a : Int), .slice none 0 0, .slice none 0 0] 25) = w4 at *
  generalize w3.heap.size = G at *
  clear H3
  go_wp2_with fail
  refine (text_eq E E_tx.out E_s2.out H4.out.p).mono ?_
  rintro e w5 ⟨rfl, h5, b5⟩
  have H5 := Lib.hid (H4.out.call h5 b5)
  have B_G5 := Lib.hid (B_G4.out.but b5 (Nat.le_refl _) (by have := H4.out.r; omega))
  clear h5 b5 H4 B_G4
  have c1 := B_G5.out.c1
  have f1 := B_G5.out.free 1
  have q0 := H5.out.p
  go_upto_block 0 with (fail)
  have BZ : Hid (Box (w5.setCell ⟨G, 1, none⟩ (.string ⟨tx.toArray⟩)) G (w.heap.size + 1) (Nd.mk 27 tx 0 a [] []) fr0 []) := B_G5.out.put 1 (.string ⟨tx.toArray⟩) (y := (Nd.mk 27 tx 0 a [] [])) rfl rfl rfl
  have HZ := Lib.hid (H5.out.own (p := ⟨G, 1, none⟩) B_G5.out.lo (.string ⟨tx.toArray⟩))
  clear c1 f1 q0 B_G5 H5
  generalize w5.setCell ⟨G, 1, none⟩ (.string ⟨tx.toArray⟩) = w20 at *
  go_cut [6] (fun _ wx => ∃ z s3 f3 fs3, q = (z, up s3) ∧ St w wx R g c T s3 ∧ Box wx G (w.heap.size + 1) z f3 fs3 ∧ Goes T s1 s3)
  case first =>
   go_wp2_with fail
   go_loopg [6] T.length (fun gk ks wr => ∃ z s3 f3 fs3, T.length ≤ gk + s3.i ∧ z.ks.length ≤ s3.i ∧ tyL T r gk z s3 = res ∧ Box wr G (w.heap.size + 1) z f3 fs3 ∧ St w wr R g c T s3 ∧ Goes T s1 s3)
   case atStart => exact ⟨_, s2, fr0, [], by omega, Nat.zero_le _, HRES.out, BZ.out, HZ.out, G_s2.out⟩
   case round =>
    obtain ⟨z, s3, f3, fs3, hz, hz4, hpl, hbx, hst, hgo⟩ := hrel
    obtain ⟨m, rfl⟩ : ∃ m, gk = m + 1 := ⟨gk - 1, by have := hgo.lt; omega⟩
    have hz5 : z.ks.length ≤ 100000 := by have := hgo.lt; have := hst.p.len; omega
    have BX := Lib.hid hbx
    have HS := Lib.hid hst
    have G_s3 := Lib.hid hgo
    have HPL := Lib.hid (show (if s3.e = 0 then if kdF T s3 = 3 then tyL T r m (z.add (.mk 27 (stepT T s3).text 0 (stepT T s3).at_ [] [])) (stepF T s3) else if isF T s3 [40] = true then tyL T r m (z.add (r.ty (stepF T s3)).1) (wantF T (r.ty (stepF T s3)).2 [41]) else (z, s3) else (z, s3)) = res from hpl)
    clear hbx hst hgo HRES hpl HZ BZ
    have c5 := HS.out.p.c5
    have ff := HS.out.p.free 5
    obtain ⟨es, qe⟩ : ∃ es, (s3.e == 0) = es := ⟨_, rfl⟩
    rcases es with _ | _
    ·have hr := HPL.out
     rw [if_neg (beq_eq_false_iff_ne.1 qe)] at hr
     subst hr
     clear HPL
     go_wp2_with fail
     go_meet
     exact ⟨z, s3, f3, fs3, HQ2.out.symm, HS.out, BX.out, G_s3.out⟩
    ·have HPL2 := Lib.hid ((if_pos (beq_iff_eq.1 qe)).symm.trans HPL.out)
     clear HPL
     obtain ⟨k, h_k⟩ : ∃ k, kdF T s3 = k := ⟨_, rfl⟩
     have E_k := Lib.hid h_k
     clear h_k
     obtain ⟨kb, q4⟩ : ∃ kb, (k == 3) = kb := ⟨_, rfl⟩
     go_upto_region 7 with (fail)
     clear c5 ff
     go_wp2_with fail
     refine (kind_eq E_k.out HS.out.p).mono ?_
     rintro e w21 ⟨rfl, b21⟩
     have H21 := Lib.hid (HS.out.read b21)
     have B_G21 := Lib.hid (BX.out.below b21 (Nat.le_refl _))
     clear b21 HS BX
     rcases kb with _ | _
     ·obtain ⟨b40, h_b40⟩ : ∃ b40, isF T s3 [40] = b40 := ⟨_, rfl⟩
      have E_b40 := Lib.hid h_b40
      clear h_b40
      have HPL3 := Lib.hid ((if_neg (by rw [E_k.out]; exact beq_eq_false_iff_ne.1 q4)).symm.trans HPL2.out)
      clear HPL2
      go_wp2_with fail
      refine (is_eq E_b40.out H21.out.p).mono ?_
      rintro e w22 ⟨rfl, b22⟩
      have H22 := Lib.hid (H21.out.read b22)
      have B_G22 := Lib.hid (B_G21.out.below b22 (Nat.le_refl _))
      clear b22 H21 B_G21
      rcases b40 with _ | _
      ·have hr := (if_neg (by rw [E_b40.out]; decide)).symm.trans HPL3.out
       subst hr
       clear HPL3
       go_wp2_with fail
       go_meet
       exact ⟨z, s3, f3, fs3, HQ2.out.symm, H22.out, B_G22.out, G_s3.out⟩
      ·obtain ⟨t, h_t⟩ : ∃ t, stepT T s3 = t := ⟨_, rfl⟩
       have E_t := Lib.hid h_t
       clear h_t
       obtain ⟨s4, h_s4⟩ : ∃ s4, stepF T s3 = s4 := ⟨_, rfl⟩
       have E_s4 := Lib.hid h_s4
       clear h_s4
       have HI : Hid (s4.i = s3.i + 1) := by
        show _ = _
        rw [← E_s4.out]; unfold stepF; rw [if_neg (fun h => by have e := E_b40.out; unfold isF at e; rw [h] at e; simp at e)]
       have G_s4 := Lib.hid (show Goes T s1 s4 from by have q := (G_s3.out.step E); rw [E_s4.out] at q; exact q)
       obtain ⟨y, s5, h_s5⟩ : ∃ y s5, r.ty s4 = (y, s5) := ⟨_, _, rfl⟩
       have E_s5 := Lib.hid h_s5
       clear h_s5
       have G_s5 := Lib.hid (show Goes T s1 s5 from by have q := G_s4.out.ty F; rw [E_s5.out] at q; exact q)
       obtain ⟨s6, h_s6⟩ : ∃ s6, wantF T s5 [41] = s6 := ⟨_, rfl⟩
       have E_s6 := Lib.hid h_s6
       clear h_s6
       have G_s6 := Lib.hid (show Goes T s1 s6 from by have q := G_s5.out.want E [41]; rw [E_s6.out] at q; exact q)
       have HI2 : Hid (s3.i + 1 ≤ s6.i) := by
        show _ ≤ _
        have h1 : Goes T s4 s5 := by have q := F.ty s4 G_s4.out.lt; rw [E_s5.out] at q; exact q
        have h2 : Goes T s5 s6 := by have q := goes_want E G_s5.out.lt [41]; rw [E_s6.out] at q; exact q
        have := h1.i; have := h2.i; have := HI.out; omega
       have HPL4 : Hid (tyL T r m (z.add y) s6 = res) := by
        show _ = _
        have q := (if_pos E_b40.out).symm.trans HPL3.out
        rw [E_s4.out, E_s5.out, E_s6.out] at q; exact q
       clear HPL3
       go_wp2_with fail
       refine (step_eq E E_t.out E_s4.out H22.out.p).mono ?_
       rintro e w23 ⟨rfl, h23, b23⟩
       have H23 := Lib.hid (H22.out.call h23 b23)
       have B_G23 := Lib.hid (B_G22.out.but b23 (Nat.le_refl _) (by have := H22.out.r; omega))
       clear h23 b23 H22 B_G22
       go_upto_region 13 with (fail)
       have C24 := Lib.hid (fun wx (h : PAt wx R g c T s4) => gives_eq E_s5.out (D.ty wx s4 h (by rw [G_s4.out.deep]; exact hd1)))
       refine region_Z (fun W => W.cell? ⟨G, 5, none⟩ = some (.slice f3.ka z.ks.length f3.kc)) (fun i => i == 7) (by kernel_rfl) B_G23.out.drew.c5 (fun hHeld => ?_)
       refine tke 0 rfl (v := ?_) ?_ ?_; rotate_left
       ·(intro w hSw; (try dsimp only at hSw); go_simp; try with_reducible rfl)
       (try simp only [Act.put, sZ])
       refine tke 1 rfl (v := ?_) ?_ ?_; rotate_left
       ·(intro w hSw; (try dsimp only at hSw); go_simp; try with_reducible rfl)
       (try simp only [Act.put, sZ])
       refine tke 2 rfl (v := ?_) ?_ ?_; rotate_left
       ·(intro w hSw; (try dsimp only at hSw); go_simp; try with_reducible rfl)
       (try simp only [Act.put, sZ])
       refine stp 3 rfl (fun K hK => ?_)
       go_simp
       go_at_call 67
       refine (C24.out _ H23.out.drew.p).mono ?_
       rintro e wc ⟨fy, rfl, hpc, ny, bc⟩
       have HC := Lib.hid (H23.out.drew.call hpc bc)
       have BC := Lib.hid (B_G23.out.drew.but bc (Nat.le_refl _) (by have := H23.out.r; omega))
       have NY : Hid (NodeIn wc (fun a => w23.heap.size ≤ a) y fy) := ny
       clear hpc ny bc
       unfold ndV
       refine hK.out _ _ (fun _ => BC.out.c5) (fun hHeld2 => ?_)
       clear hK K hHeld
       (try simp only [Act.put, sZ])
       refine stp 4 rfl (fun K hK => ?_)
       go_simp
       refine hK.out _ _ (fun _ => (BC.out.alloc _).c5) (fun hHeld3 => ?_)
       clear hK K hHeld2
       (try simp only [Act.put, sZ])
       refine stp 5 rfl (fun K hK => ?_)
       refine step_app ty_nd (v := .slice f3.ka z.ks.length f3.kc) (by rfl) _ _ (by rfl) (by rfl) (BC.out.alloc _).kid wc.heap.size 1 (ndL y fy) (by rfl) (Whole.made wc 25 _) (by rfl) (by simp [ndL, Value.oneCell']) (by decide) (by omega) (by decide) (by have := HC.out.size; simp; omega) ?_
       intro gv cv wd hap
       have HD := Lib.hid ((HC.out.alloc (.cells (ndL y fy).toArray 25)).low (hap.below (BC.out.alloc (.cells (ndL y fy).toArray 25)).kid (Below.refl _ _) (Nat.le_refl _) (by have := HC.out.size; simp; omega)))
       have BN0 := Lib.hid ((BC.out.alloc (.cells (ndL y fy).toArray 25)).app (B := w23.heap.size) B_G23.out.lt B_G23.out.nlt B_G23.out.klt (NY.out.alloc _) hap)
       have XD := Lib.hid (hap.far (BC.out.alloc (.cells (ndL y fy).toArray 25)).box (row_ne (BC.out.alloc (.cells (ndL y fy).toArray 25)).kid BC.out.kN))
       have z5 : wd.cell? ⟨G, 5, none⟩ = some (.slice f3.ka z.ks.length f3.kc) := XD.out.cell 5
       have y5 := XD.out.free 5
       refine hK.out _ _ (fun _ => z5) (fun hHeld4 => ?_)
       replace hHeld4 := hHeld4 (by decide)
       clear hK K hHeld3 hap
       (try simp only [Act.put, sZ])
       refine tke 6 rfl (v := ?_) ?_ ?_; rotate_left
       ·(intro w hSw; (try dsimp only at hSw); go_simp; try with_reducible rfl)
       (try simp only [Act.put, sZ])
       refine stp 7 rfl (fun K hK => ?_)
       go_simp
       refine hK.out _ _ (fun h => absurd h (by decide)) (fun _ => ?_)
       refine anyZ_done (by kernel_rfl) ?_ _
       have H24 := Lib.hid (HD.out.own (p := ⟨G, 5, none⟩) (Nat.lt_of_succ_le B_G23.out.lo) (.slice (some ⟨gv, 0, none⟩) (z.ks.length + 1) cv))
       obtain ⟨f24, fs24, BN1⟩ : ∃ f2 fs2, Box (wd.setCell ⟨G, 5, none⟩ (.slice (some ⟨gv, 0, none⟩) (z.ks.length + 1) cv)) G (w.heap.size + 1) (z.add y) f2 fs2 := ⟨_, _, BN0.out⟩
       have B_G24 := Lib.hid BN1
       clear hK K hHeld4 z5 y5 XD BN0 BN1 HD BC HC NY
       generalize wd.setCell ⟨G, 5, none⟩ (.slice (some ⟨gv, 0, none⟩) (z.ks.length + 1) cv) = w24 at *
       clear C24 H23 B_G23
       go_wp2_with fail
       refine (want_eq E E_s6.out H24.out.p).mono ?_
       rintro e w25 ⟨rfl, h25, b25⟩
       have H25 := Lib.hid (H24.out.call h25 b25)
       have B_G25 := Lib.hid (B_G24.out.but b25 (Nat.le_refl _) (by have := H24.out.r; omega))
       clear h25 b25 H24 B_G24
       go_wp2_with fail
       go_roundg m
       case measure => exact Nat.lt_succ_self _
       case rel => exact ⟨_, s6, f24, fs24, by have := HI2.out; omega, by rw [add_ks]; have := HI2.out; simp; omega, HPL4.out, B_G25.out, H25.out, G_s6.out⟩
     ·obtain ⟨t, h_t⟩ : ∃ t, stepT T s3 = t := ⟨_, rfl⟩
      have E_t := Lib.hid h_t
      clear h_t
      obtain ⟨s4, h_s4⟩ : ∃ s4, stepF T s3 = s4 := ⟨_, rfl⟩
      have E_s4 := Lib.hid h_s4
      clear h_s4
      have HI : Hid (s4.i = s3.i + 1) := by
       show _ = _
       rw [← E_s4.out]; unfold stepF; rw [if_neg (by rw [E_k.out, beq_iff_eq.1 q4]; decide)]
      have G_s4 := Lib.hid (show Goes T s1 s4 from by have q := (G_s3.out.step E); rw [E_s4.out] at q; exact q)
      have HPL4 : Hid (tyL T r m (z.add (.mk 27 t.text 0 t.at_ [] [])) s4 = res) := by
       show _ = _
       have q := (if_pos (by rw [E_k.out, beq_iff_eq.1 q4])).symm.trans HPL2.out
       rw [E_s4.out, E_t.out] at q; exact q
      clear HPL2
      go_wp2_with fail
      refine (step_eq E E_t.out E_s4.out H21.out.p).mono ?_
      rintro e w61 ⟨rfl, h61, b61⟩
      have H61 := Lib.hid (H21.out.call h61 b61)
      have B_G61 := Lib.hid (B_G21.out.but b61 (Nat.le_refl _) (by have := H21.out.r; omega))
      clear h61 b61 H21 B_G21
      unfold tokV
      have S_K : Hid (w.heap.size < w61.heap.size) := H61.out.size
      have H62 := Lib.hid (H61.out.alloc (.cells #[.int .i64 t.kind, .string ⟨t.text.toArray⟩, .int .i64 t.num, .int .i64 (t.at_ : Int)] 67))
      have B_G62 := Lib.hid (B_G61.out.alloc (.cells #[.int .i64 t.kind, .string ⟨t.text.toArray⟩, .int .i64 t.num, .int .i64 (t.at_ : Int)] 67))
      have X_K62 : Hid (Whole (w61.alloc (.cells #[.int .i64 t.kind, .string ⟨t.text.toArray⟩, .int .i64 t.num, .int .i64 (t.at_ : Int)] 67)) w61.heap.size 67 #[.int .i64 t.kind, .string ⟨t.text.toArray⟩, .int .i64 t.num, .int .i64 (t.at_ : Int)]) := Whole.made _ _ _
      go_upto_region 9 with (fail)
      generalize w61.alloc (.cells #[.int .i64 t.kind, .string ⟨t.text.toArray⟩, .int .i64 t.num, .int .i64 (t.at_ : Int)] 67) = w62 at *
      generalize w61.heap.size = K at *
      clear H61 B_G61
      have c5 := B_G62.out.c5
      have z1 := X_K62.out.cell 1
      have z3 := X_K62.out.cell 3
      go_wp2_with (at_builtin; refine list_app ty_nd (v := .slice f3.ka z.ks.length f3.kc) rfl _ _ rfl rfl (B_G62.out.alloc _).kid w62.heap.size 1 (ndL (.mk 27 t.text 0 t.at_ [] []) fr0) rfl (Whole.made w62 25 _) rfl (by simp [ndL, Value.oneCell']) (by decide) (by omega) (by decide) (by have := H62.out.size; simp; omega) ?_; intro gv cv wd hap; have HD := Lib.hid ((H62.out.alloc (.cells (ndL (.mk 27 t.text 0 t.at_ [] []) fr0).toArray 25)).low (hap.below (B_G62.out.alloc (.cells (ndL (.mk 27 t.text 0 t.at_ [] []) fr0).toArray 25)).kid (Below.refl _ _) (Nat.le_refl _) (by have := H62.out.size; simp; omega))); have BN0 := Lib.hid ((B_G62.out.alloc (.cells (ndL (.mk 27 t.text 0 t.at_ [] []) fr0).toArray 25)).app (y := (.mk 27 t.text 0 t.at_ [] [])) (fy := fr0) (B := w62.heap.size) B_G62.out.lt B_G62.out.nlt B_G62.out.klt (.leaf _ _ rfl rfl) hap); have XD := Lib.hid (hap.far (B_G62.out.alloc (.cells (ndL (.mk 27 t.text 0 t.at_ [] []) fr0).toArray 25)).box (row_ne (B_G62.out.alloc (.cells (ndL (.mk 27 t.text 0 t.at_ [] []) fr0).toArray 25)).kid B_G62.out.kN)); have z5 : wd.cell? ⟨G, 5, none⟩ = some (.slice f3.ka z.ks.length f3.kc) := XD.out.cell 5; have y5 := XD.out.free 5; clear hap c5 z1 z3)
      have H90 := Lib.hid (HD.out.own (p := ⟨G, 5, none⟩) (Nat.lt_of_succ_le B_G62.out.lo) (.slice (some ⟨gv, 0, none⟩) (z.ks.length + 1) cv))
      obtain ⟨f90, fs90, BN1⟩ : ∃ f2 fs2, Box (wd.setCell ⟨G, 5, none⟩ (.slice (some ⟨gv, 0, none⟩) (z.ks.length + 1) cv)) G (w.heap.size + 1) (z.add (.mk 27 t.text 0 t.at_ [] [])) f2 fs2 := ⟨_, _, BN0.out⟩
      have B90 := Lib.hid BN1
      clear z5 y5 XD BN0 BN1 HD X_K62
      generalize wd.setCell ⟨G, 5, none⟩ (.slice (some ⟨gv, 0, none⟩) (z.ks.length + 1) cv) = w90 at *
      go_wp2_with fail
      go_roundg m
      case measure => exact Nat.lt_succ_self _
      case rel => exact ⟨_, s4, f90, fs90, by have := HI.out; omega, by rw [add_ks]; have := HI.out; simp; omega, HPL4.out, B90.out, H90.out, G_s4.out⟩
  case rest =>
   obtain ⟨z, s3, f3, fs3, hq, h5, b5, g5⟩ := hcut
   subst hq
   have H5 := Lib.hid h5
   have B5 := Lib.hid b5
   have G_s3 := Lib.hid g5
   clear HQ2 HRES h5 b5 g5 HZ BZ
   have c2 := H5.out.p.c2
   have f2 := H5.out.p.free 2
   have d3 : s3.deep = s.deep + 1 := by rw [G_s3.out.deep]; exact HA.out.2
   have d4 : (s3.deep : Int) - 1 = (s.deep : Int) := by omega
   have d5 : s3.deep - 1 = s.deep := by omega
   have d6 : (s3.deep : Int) ≤ 40 := by have := H5.out.p.deep; omega
   have HU : Hid (up s3 = { s3 with deep := s.deep }) := by show _ = _; unfold up; rw [d5]
   clear d5 d3
   go_upto_region 16 with (fail)
   have H6 : Hid (St w (wc.setCell ⟨R, 2, none⟩ (.int .i64 (s.deep : Int))) R g c T (up s3)) := by
    show St _ _ _ _ _ _ _
    rw [HU.out]
    exact H5.out.upd (s' := { s3 with deep := s.deep }) 2 _ rfl H5.out.p.lt (by show s.deep ≤ 40; omega)
   have B6 := Lib.hid (B5.out.but ((But.refl R wc.heap.size wc).set 2 (.int .i64 (s.deep : Int))) (Nat.le_refl _) (by have := H5.out.r; omega))
   clear c2 f2 H5 B5
   generalize wc.setCell ⟨R, 2, none⟩ (.int .i64 (s.deep : Int)) = w6 at *
   have N6 := Lib.hid (B6.out.node.mono (b' := fun a => w.heap.size < a) (fun a ha _ => by omega))
   obtain ⟨t0, t1, t2, t3, t4, t5⟩ := nodeC (B6.out.box)
   obtain ⟨z0, z1, z2, z3, z4, z5⟩ := zeroC (H6.out.z)
   obtain ⟨y0, y1, y2, y3, y4, y5⟩ := freeC (H6.out.z)
   go_wp2_with fail
   obtain ⟨wf, HZF, HBF, hwf⟩ := endsN (H6.out.z) z f3
   rw [hwf]
   clear hwf
   obtain ⟨g0, g1, g2, g3, g4, g5⟩ := cells6 HZF.out
   exact bodyPost_ret (v := ndV z f3) (by simp [results, Try.results67, go_sem, ndV, Nd.kd, Nd.tx, Nd.nm, Nd.at_, Nd.ns, Nd.ks, leafN, fr0, nd0, g0, g1, g2, g3, g4, g5]) rfl (H6.out.done N6.out HBF.out)
end Go.Proofs.Ytgjchgmlogbmmaa
/- The walks of layer 5, the document's: a constructor. -/
namespace Go.Proofs.Ytgjchgmlogbmmaa
open Go.RowKit
set_option linter.unusedVariables false
set_option linter.unusedSimpArgs false
attribute [local go_sem ↓] Go.wp_at_zero Go.wp_at_succ

theorem is_kd {T : List Tok} {s : PS} {x : List UInt8} (h : isF T s x = true) : kdF T s ≠ 0 := fun h0 => by
 unfold isF at h; rw [h0] at h; simp at h
set_option maxRecDepth 100000 in
set_option maxHeartbeats 8000000 in
theorem con_any (w : World) (R g c : Nat) (T : List Tok) (r : Rec) (n : Nat) (s : PS) (E : Ends T) (F : Fine T r) (D : Deep R g c T r n) (hp : PAt w R g c T s) (hd : 41 ≤ s.deep + n) :
  Calls Try.prog 52 #[.pointer (some ⟨R, 0, none⟩)] w (Gives w R g c T (conF T r s)) := by
 have H0 := Lib.hid (St.start hp)
 have HD := Lib.hid hd
 have HL := Lib.hid hp.lt
 clear hp hd
 obtain ⟨q, hq⟩ : ∃ q, conF T r s = q := ⟨_, rfl⟩
 rw [hq]
 have HQ := Lib.hid hq
 clear hq
 obtain ⟨a, h_a⟩ : ∃ a, atF T s = a := ⟨_, rfl⟩
 have E_a := Lib.hid h_a
 clear h_a
 obtain ⟨tx, h_tx⟩ : ∃ tx, textT T s 4 = tx := ⟨_, rfl⟩
 have E_tx := Lib.hid h_tx
 clear h_tx
 obtain ⟨s2, h_s2⟩ : ∃ s2, textF T s 4 = s2 := ⟨_, rfl⟩
 have E_s2 := Lib.hid h_s2
 clear h_s2
 obtain ⟨b0, h_b0⟩ : ∃ b0, isF T s2 [111, 102] = b0 := ⟨_, rfl⟩
 have E_b0 := Lib.hid h_b0
 clear h_b0
 have G_s2 := Lib.hid (show Goes T s s2 from by have q := (goes_text E HL.out 4); rw [E_s2.out] at q; exact q)
 have HQ2 : Hid (conL T r (T.length + 1) b0 (.mk 26 tx 0 a [] []) s2 = q) := by
  show _ = _
  rw [← HQ.out, ← E_b0.out, ← E_tx.out, ← E_s2.out, ← E_a.out]; rfl
 have HB0 : Hid (b0 = true → kdF T s2 ≠ 0) := fun h => is_kd (E_b0.out.trans h)
 clear HQ
 go_enter Try.func52, Try.ntmps52
 go_upto_region 1 with (fail)
 generalize w.alloc (.cells #[.int .i64 0, .string ⟨#[]⟩, .int .i64 0, .int .i64 0, .slice none 0 0, .slice none 0 0] 25) = w1 at *
 go_wp2_with fail
 refine (at_eq E_a.out H0.out.p).mono ?_
 rintro e w2 ⟨rfl, b2⟩
 have H2 := Lib.hid (H0.out.read b2)
 clear b2 H0
 have S_G : Hid (w.heap.size < w2.heap.size) := H2.out.size
 have H3 := Lib.hid (H2.out.alloc (.cells #[.int .i64 26, .string ⟨#[]⟩, .int .i64 0, .int .i64 (a : Int), .slice none 0 0, .slice none 0 0] 25))
 have B_G3 : Hid (Box (w2.alloc (.cells #[.int .i64 26, .string ⟨#[]⟩, .int .i64 0, .int .i64 (a : Int), .slice none 0 0, .slice none 0 0] 25)) w2.heap.size (w.heap.size + 1) (Nd.mk 26 [] 0 a [] []) fr0 []) := Box.made w2 (base := w.heap.size + 1) (x := (Nd.mk 26 [] 0 a [] [])) H2.out.size rfl rfl
 go_upto_region 2 with (fail)
 generalize w2.alloc (.cells #[.int .i64 26, .string ⟨#[]⟩, .int .i64 0, .int .i64 (a : Int), .slice none 0 0, .slice none 0 0] 25) = w3 at *
 generalize w2.heap.size = G at *
 clear H2
 go_wp2_with fail
 refine (text_eq E E_tx.out E_s2.out H3.out.p).mono ?_
 rintro e w4 ⟨rfl, h4, b4⟩
 have H4 := Lib.hid (H3.out.call h4 b4)
 have B_G4 := Lib.hid (B_G3.out.but b4 (Nat.le_refl _) (by have := H3.out.r; omega))
 clear h4 b4 H3 B_G3
 have c1 := B_G4.out.c1
 have f1 := B_G4.out.free 1
 go_upto_region 3 with (fail)
 have B_G5 : Hid (Box (w4.setCell ⟨G, 1, none⟩ (.string ⟨tx.toArray⟩)) G (w.heap.size + 1) (Nd.mk 26 tx 0 a [] []) fr0 []) := B_G4.out.put 1 (.string ⟨tx.toArray⟩) (y := (Nd.mk 26 tx 0 a [] [])) (by rfl) rfl rfl
 have H5 := Lib.hid (H4.out.own (p := ⟨G, 1, none⟩) B_G4.out.lo (.string ⟨tx.toArray⟩))
 clear c1 f1 B_G4 H4
 generalize w4.setCell ⟨G, 1, none⟩ (.string ⟨tx.toArray⟩) = w5 at *
 go_wp2_with fail
 refine (is_eq E_b0.out H5.out.p).mono ?_
 rintro e w6 ⟨rfl, b6⟩
 have H6 := Lib.hid (H5.out.read b6)
 have B_G6 := Lib.hid (B_G5.out.below b6 (Nat.le_refl _))
 clear b6 H5 B_G5
 go_upto_block 0 with (fail)
 go_cut [4] (fun _ wx => ∃ z s3 f3 fs3, q = (z, s3) ∧ St w wx R g c T s3 ∧ Box wx G (w.heap.size + 1) z f3 fs3)
 case first =>
  go_wp2_with fail
  go_loopg [4] (T.length + 1) (fun gk mo wr => ∃ b z s3 f3 fs3, mo = .bool b ∧ T.length + 1 ≤ gk + s3.i ∧ z.ks.length ≤ s3.i ∧ conL T r gk b z s3 = q ∧ Box wr G (w.heap.size + 1) z f3 fs3 ∧ St w wr R g c T s3 ∧ Goes T s s3 ∧ (b = true → kdF T s3 ≠ 0))
  case atStart => exact ⟨b0, _, s2, fr0, [], rfl, by omega, Nat.zero_le _, HQ2.out, B_G6.out, H6.out, G_s2.out, HB0.out⟩
  case round =>
   obtain ⟨b, z, s3, f3, fs3, rfl, hz, hz4, hpl, hbx, hst, hgo, hk⟩ := hrel
   obtain ⟨m, rfl⟩ : ∃ m, gk = m + 1 := ⟨gk - 1, by have := hgo.lt; omega⟩
   have hz5 : z.ks.length ≤ 100000 := by have := hgo.lt; have := hst.p.len; omega
   have BX := Lib.hid hbx
   have HS := Lib.hid hst
   have G_s3 := Lib.hid hgo
   have HK := Lib.hid hk
   have HPL := Lib.hid (show (if b = true ∧ s3.e = 0 then conL T r m (isF T (r.ty (if z.ks.length = 4 then failF T (stepF T s3) 16 else stepF T s3)).2 [44]) (z.add (r.ty (if z.ks.length = 4 then failF T (stepF T s3) 16 else stepF T s3)).1) (r.ty (if z.ks.length = 4 then failF T (stepF T s3) 16 else stepF T s3)).2 else (z, s3)) = q from hpl)
   clear hbx hst hgo hpl hk HQ2 HB0 B_G6 H6
   rcases b with _ | _
   ·have hr := HPL.out
    rw [if_neg (by exact fun h => by cases h.1)] at hr
    subst hr
    clear HPL
    go_wp2_with fail
    go_meet
    exact ⟨z, s3, f3, fs3, rfl, HS.out, BX.out⟩
   ·have c5 := HS.out.p.c5
    have ff := HS.out.p.free 5
    obtain ⟨es, qe⟩ : ∃ es, (s3.e == 0) = es := ⟨_, rfl⟩
    rcases es with _ | _
    ·have hr := HPL.out
     rw [if_neg (by exact fun h => beq_eq_false_iff_ne.1 qe h.2)] at hr
     subst hr
     clear HPL
     go_wp2_with fail
     go_meet
     exact ⟨z, s3, f3, fs3, rfl, HS.out, BX.out⟩
    ·have HPL2 := Lib.hid ((if_pos ⟨rfl, beq_iff_eq.1 qe⟩).symm.trans HPL.out)
     clear HPL
     obtain ⟨t, h_t⟩ : ∃ t, stepT T s3 = t := ⟨_, rfl⟩
     have E_t := Lib.hid h_t
     clear h_t
     obtain ⟨s4, h_s4⟩ : ∃ s4, stepF T s3 = s4 := ⟨_, rfl⟩
     have E_s4 := Lib.hid h_s4
     clear h_s4
     have HI : Hid (s4.i = s3.i + 1) := by
      show _ = _
      rw [← E_s4.out]; unfold stepF; rw [if_neg (HK.out rfl)]
     have G_s4 := Lib.hid (show Goes T s s4 from by have q := (G_s3.out.step E); rw [E_s4.out] at q; exact q)
     go_upto_region 5 with (fail)
     clear c5 ff
     go_wp2_with fail
     refine (step_eq E E_t.out E_s4.out HS.out.p).mono ?_
     rintro e w31 ⟨rfl, h31, b31⟩
     have H31 := Lib.hid (HS.out.call h31 b31)
     have B_G31 := Lib.hid (BX.out.but b31 (Nat.le_refl _) (by have := HS.out.r; omega))
     clear h31 b31 HS BX
     go_upto_region 6 with (fail)
     have d5 := B_G31.out.c5
     obtain ⟨lb, ql⟩ : ∃ lb, ((z.ks.length : Int) == 4) = lb := ⟨_, rfl⟩
     rcases lb with _ | _
     ·obtain ⟨y, s6, h_s6⟩ : ∃ y s6, r.ty s4 = (y, s6) := ⟨_, _, rfl⟩
      have E_s6 := Lib.hid h_s6
      clear h_s6
      have G_s6 := Lib.hid (show Goes T s s6 from by have q := G_s4.out.ty F; rw [E_s6.out] at q; exact q)
      obtain ⟨b2, h_b2⟩ : ∃ b2, isF T s6 [44] = b2 := ⟨_, rfl⟩
      have E_b2 := Lib.hid h_b2
      clear h_b2
      have HPL3 : Hid (conL T r m b2 (z.add y) s6 = q) := by
       show _ = _
       have q1 := HPL2.out
       rw [if_neg (fun h => beq_eq_false_iff_ne.1 ql (by omega)), E_s4.out, E_s6.out, E_b2.out] at q1; exact q1
      have HI2 : Hid (s3.i + 1 ≤ s6.i) := by
       show _ ≤ _
       have h1 : Goes T s4 s6 := by have q := F.ty s4 G_s4.out.lt; rw [E_s6.out] at q; exact q
       have := h1.i; have := HI.out; omega
      have HB2 : Hid (b2 = true → kdF T s6 ≠ 0) := fun h => is_kd (E_b2.out.trans h)
      clear HPL2
      go_upto_region 8 with (fail)
      clear d5
      have C32 := Lib.hid (fun wx (h : PAt wx R g c T s4) => gives_eq E_s6.out (D.ty wx s4 h (by rw [G_s4.out.deep]; exact HD.out)))
      refine region_Z (fun W => W.cell? ⟨G, 5, none⟩ = some (.slice f3.ka z.ks.length f3.kc)) (fun i => i == 7) (by kernel_rfl) B_G31.out.drew.c5 (fun hHeld => ?_)
      refine tke 0 rfl (v := ?_) ?_ ?_; rotate_left
      ·(intro w hSw; (try dsimp only at hSw); go_simp; try with_reducible rfl)
      (try simp only [Act.put, sZ])
      refine tke 1 rfl (v := ?_) ?_ ?_; rotate_left
      ·(intro w hSw; (try dsimp only at hSw); go_simp; try with_reducible rfl)
      (try simp only [Act.put, sZ])
      refine tke 2 rfl (v := ?_) ?_ ?_; rotate_left
      ·(intro w hSw; (try dsimp only at hSw); go_simp; try with_reducible rfl)
      (try simp only [Act.put, sZ])
      refine stp 3 rfl (fun K hK => ?_)
      go_simp
      go_at_call 67
      refine (C32.out _ H31.out.drew.p).mono ?_
      rintro e wc ⟨fy, rfl, hpc, ny, bc⟩
      have HC := Lib.hid (H31.out.drew.call hpc bc)
      have BC := Lib.hid (B_G31.out.drew.but bc (Nat.le_refl _) (by have := H31.out.r; omega))
      have NY : Hid (NodeIn wc (fun a => w31.heap.size ≤ a) y fy) := ny
      clear hpc ny bc
      unfold ndV
      refine hK.out _ _ (fun _ => BC.out.c5) (fun hHeld2 => ?_)
      clear hK K hHeld
      (try simp only [Act.put, sZ])
      refine stp 4 rfl (fun K hK => ?_)
      go_simp
      refine hK.out _ _ (fun _ => (BC.out.alloc _).c5) (fun hHeld3 => ?_)
      clear hK K hHeld2
      (try simp only [Act.put, sZ])
      refine stp 5 rfl (fun K hK => ?_)
      refine step_app ty_nd (v := .slice f3.ka z.ks.length f3.kc) (by rfl) _ _ (by rfl) (by rfl) (BC.out.alloc _).kid wc.heap.size 1 (ndL y fy) (by rfl) (Whole.made wc 25 _) (by rfl) (by simp [ndL, Value.oneCell']) (by decide) (by omega) (by decide) (by have := HC.out.size; simp; omega) ?_
      intro gv cv wd hap
      have HD := Lib.hid ((HC.out.alloc (.cells (ndL y fy).toArray 25)).low (hap.below (BC.out.alloc (.cells (ndL y fy).toArray 25)).kid (Below.refl _ _) (Nat.le_refl _) (by have := HC.out.size; simp; omega)))
      have BN0 := Lib.hid ((BC.out.alloc (.cells (ndL y fy).toArray 25)).app (B := w31.heap.size) B_G31.out.lt B_G31.out.nlt B_G31.out.klt (NY.out.alloc _) hap)
      have XD := Lib.hid (hap.far (BC.out.alloc (.cells (ndL y fy).toArray 25)).box (row_ne (BC.out.alloc (.cells (ndL y fy).toArray 25)).kid BC.out.kN))
      have z5 : wd.cell? ⟨G, 5, none⟩ = some (.slice f3.ka z.ks.length f3.kc) := XD.out.cell 5
      have y5 := XD.out.free 5
      refine hK.out _ _ (fun _ => z5) (fun hHeld4 => ?_)
      replace hHeld4 := hHeld4 (by decide)
      clear hK K hHeld3 hap
      (try simp only [Act.put, sZ])
      refine tke 6 rfl (v := ?_) ?_ ?_; rotate_left
      ·(intro w hSw; (try dsimp only at hSw); go_simp; try with_reducible rfl)
      (try simp only [Act.put, sZ])
      refine stp 7 rfl (fun K hK => ?_)
      go_simp
      refine hK.out _ _ (fun h => absurd h (by decide)) (fun _ => ?_)
      refine anyZ_done (by kernel_rfl) ?_ _
      have H32 := Lib.hid (HD.out.own (p := ⟨G, 5, none⟩) (Nat.lt_of_succ_le B_G31.out.lo) (.slice (some ⟨gv, 0, none⟩) (z.ks.length + 1) cv))
      obtain ⟨f32, fs32, BN1⟩ : ∃ f2 fs2, Box (wd.setCell ⟨G, 5, none⟩ (.slice (some ⟨gv, 0, none⟩) (z.ks.length + 1) cv)) G (w.heap.size + 1) (z.add y) f2 fs2 := ⟨_, _, BN0.out⟩
      have B_G32 := Lib.hid BN1
      clear hK K hHeld4 z5 y5 XD BN0 BN1 HD BC HC NY
      generalize wd.setCell ⟨G, 5, none⟩ (.slice (some ⟨gv, 0, none⟩) (z.ks.length + 1) cv) = w32 at *
      clear C32 H31 B_G31
      go_wp2_with fail
      refine (is_eq E_b2.out H32.out.p).mono ?_
      rintro e w33 ⟨rfl, b33⟩
      have H33 := Lib.hid (H32.out.read b33)
      have B_G33 := Lib.hid (B_G32.out.below b33 (Nat.le_refl _))
      clear b33 H32 B_G32
      go_wp2_with fail
      go_roundg m
      case measure => exact Nat.lt_succ_self _
      case rel => exact ⟨b2, _, s6, f32, fs32, rfl, by have := HI2.out; omega, by rw [add_ks]; have := HI2.out; simp; omega, HPL3.out, B_G33.out, H33.out, G_s6.out, HB2.out⟩
     ·obtain ⟨s5, h_s5⟩ : ∃ s5, failF T s4 16 = s5 := ⟨_, rfl⟩
      have E_s5 := Lib.hid h_s5
      clear h_s5
      have G_s5 := Lib.hid (show Goes T s s5 from by have q := G_s4.out.fail 16; rw [E_s5.out] at q; exact q)
      go_upto_region 7 with (fail)
      clear d5
      go_wp2_with fail
      refine (fail_eq E_s5.out H31.out.p).mono ?_
      rintro e w34 ⟨rfl, h34, b34⟩
      have H34 := Lib.hid (H31.out.call h34 b34)
      have B_G34 := Lib.hid (B_G31.out.but b34 (Nat.le_refl _) (by have := H31.out.r; omega))
      clear h34 b34 H31 B_G31
      have d5 := B_G34.out.c5
      obtain ⟨y, s6, h_s6⟩ : ∃ y s6, r.ty s5 = (y, s6) := ⟨_, _, rfl⟩
      have E_s6 := Lib.hid h_s6
      clear h_s6
      have G_s6 := Lib.hid (show Goes T s s6 from by have q := G_s5.out.ty F; rw [E_s6.out] at q; exact q)
      obtain ⟨b2, h_b2⟩ : ∃ b2, isF T s6 [44] = b2 := ⟨_, rfl⟩
      have E_b2 := Lib.hid h_b2
      clear h_b2
      have HPL3 : Hid (conL T r m b2 (z.add y) s6 = q) := by
       show _ = _
       have q1 := HPL2.out
       rw [if_pos (by have := beq_iff_eq.1 ql; omega), E_s4.out, E_s5.out, E_s6.out, E_b2.out] at q1; exact q1
      have HI2 : Hid (s3.i + 1 ≤ s6.i) := by
       show _ ≤ _
       have h1 : Goes T s5 s6 := by have q := F.ty s5 G_s5.out.lt; rw [E_s6.out] at q; exact q
       have h2 : Goes T s4 s5 := by have q := goes_fail G_s4.out.lt 16; rw [E_s5.out] at q; exact q
       have := h2.i; have := h1.i; have := HI.out; omega
      have HB2 : Hid (b2 = true → kdF T s6 ≠ 0) := fun h => is_kd (E_b2.out.trans h)
      clear HPL2
      go_upto_region 8 with (fail)
      clear d5
      have C35 := Lib.hid (fun wx (h : PAt wx R g c T s5) => gives_eq E_s6.out (D.ty wx s5 h (by rw [G_s5.out.deep]; exact HD.out)))
      refine region_Z (fun W => W.cell? ⟨G, 5, none⟩ = some (.slice f3.ka z.ks.length f3.kc)) (fun i => i == 7) (by kernel_rfl) B_G34.out.drew.c5 (fun hHeld => ?_)
      refine tke 0 rfl (v := ?_) ?_ ?_; rotate_left
      ·(intro w hSw; (try dsimp only at hSw); go_simp; try with_reducible rfl)
      (try simp only [Act.put, sZ])
      refine tke 1 rfl (v := ?_) ?_ ?_; rotate_left
      ·(intro w hSw; (try dsimp only at hSw); go_simp; try with_reducible rfl)
      (try simp only [Act.put, sZ])
      refine tke 2 rfl (v := ?_) ?_ ?_; rotate_left
      ·(intro w hSw; (try dsimp only at hSw); go_simp; try with_reducible rfl)
      (try simp only [Act.put, sZ])
      refine stp 3 rfl (fun K hK => ?_)
      go_simp
      go_at_call 67
      refine (C35.out _ H34.out.drew.p).mono ?_
      rintro e wc ⟨fy, rfl, hpc, ny, bc⟩
      have HC := Lib.hid (H34.out.drew.call hpc bc)
      have BC := Lib.hid (B_G34.out.drew.but bc (Nat.le_refl _) (by have := H34.out.r; omega))
      have NY : Hid (NodeIn wc (fun a => w34.heap.size ≤ a) y fy) := ny
      clear hpc ny bc
      unfold ndV
      refine hK.out _ _ (fun _ => BC.out.c5) (fun hHeld2 => ?_)
      clear hK K hHeld
      (try simp only [Act.put, sZ])
      refine stp 4 rfl (fun K hK => ?_)
      go_simp
      refine hK.out _ _ (fun _ => (BC.out.alloc _).c5) (fun hHeld3 => ?_)
      clear hK K hHeld2
      (try simp only [Act.put, sZ])
      refine stp 5 rfl (fun K hK => ?_)
      refine step_app ty_nd (v := .slice f3.ka z.ks.length f3.kc) (by rfl) _ _ (by rfl) (by rfl) (BC.out.alloc _).kid wc.heap.size 1 (ndL y fy) (by rfl) (Whole.made wc 25 _) (by rfl) (by simp [ndL, Value.oneCell']) (by decide) (by omega) (by decide) (by have := HC.out.size; simp; omega) ?_
      intro gv cv wd hap
      have HD := Lib.hid ((HC.out.alloc (.cells (ndL y fy).toArray 25)).low (hap.below (BC.out.alloc (.cells (ndL y fy).toArray 25)).kid (Below.refl _ _) (Nat.le_refl _) (by have := HC.out.size; simp; omega)))
      have BN0 := Lib.hid ((BC.out.alloc (.cells (ndL y fy).toArray 25)).app (B := w34.heap.size) B_G34.out.lt B_G34.out.nlt B_G34.out.klt (NY.out.alloc _) hap)
      have XD := Lib.hid (hap.far (BC.out.alloc (.cells (ndL y fy).toArray 25)).box (row_ne (BC.out.alloc (.cells (ndL y fy).toArray 25)).kid BC.out.kN))
      have z5 : wd.cell? ⟨G, 5, none⟩ = some (.slice f3.ka z.ks.length f3.kc) := XD.out.cell 5
      have y5 := XD.out.free 5
      refine hK.out _ _ (fun _ => z5) (fun hHeld4 => ?_)
      replace hHeld4 := hHeld4 (by decide)
      clear hK K hHeld3 hap
      (try simp only [Act.put, sZ])
      refine tke 6 rfl (v := ?_) ?_ ?_; rotate_left
      ·(intro w hSw; (try dsimp only at hSw); go_simp; try with_reducible rfl)
      (try simp only [Act.put, sZ])
      refine stp 7 rfl (fun K hK => ?_)
      go_simp
      refine hK.out _ _ (fun h => absurd h (by decide)) (fun _ => ?_)
      refine anyZ_done (by kernel_rfl) ?_ _
      have H35 := Lib.hid (HD.out.own (p := ⟨G, 5, none⟩) (Nat.lt_of_succ_le B_G34.out.lo) (.slice (some ⟨gv, 0, none⟩) (z.ks.length + 1) cv))
      obtain ⟨f35, fs35, BN1⟩ : ∃ f2 fs2, Box (wd.setCell ⟨G, 5, none⟩ (.slice (some ⟨gv, 0, none⟩) (z.ks.length + 1) cv)) G (w.heap.size + 1) (z.add y) f2 fs2 := ⟨_, _, BN0.out⟩
      have B_G35 := Lib.hid BN1
      clear hK K hHeld4 z5 y5 XD BN0 BN1 HD BC HC NY
      generalize wd.setCell ⟨G, 5, none⟩ (.slice (some ⟨gv, 0, none⟩) (z.ks.length + 1) cv) = w35 at *
      clear C35 H34 B_G34
      go_wp2_with fail
      refine (is_eq E_b2.out H35.out.p).mono ?_
      rintro e w36 ⟨rfl, b36⟩
      have H36 := Lib.hid (H35.out.read b36)
      have B_G36 := Lib.hid (B_G35.out.below b36 (Nat.le_refl _))
      clear b36 H35 B_G35
      go_wp2_with fail
      go_roundg m
      case measure => exact Nat.lt_succ_self _
      case rel => exact ⟨b2, _, s6, f35, fs35, rfl, by have := HI2.out; omega, by rw [add_ks]; have := HI2.out; simp; omega, HPL3.out, B_G36.out, H36.out, G_s6.out, HB2.out⟩
 case rest =>
  obtain ⟨z, s3, f3, fs3, hq, h5, b5⟩ := hcut
  subst hq
  have H5 := Lib.hid h5
  have B5 := Lib.hid b5
  clear HQ2 HB0 h5 b5 B_G6 H6
  have N6 := Lib.hid (B5.out.node.mono (b' := fun a => w.heap.size < a) (fun a ha _ => by omega))
  obtain ⟨t0, t1, t2, t3, t4, t5⟩ := nodeC (B5.out.box)
  obtain ⟨z0, z1, z2, z3, z4, z5⟩ := zeroC (H5.out.z)
  obtain ⟨y0, y1, y2, y3, y4, y5⟩ := freeC (H5.out.z)
  go_wp2_with fail
  obtain ⟨wf, HZF, HBF, hwf⟩ := endsN (H5.out.z) z f3
  rw [hwf]
  clear hwf
  obtain ⟨g0, g1, g2, g3, g4, g5⟩ := cells6 HZF.out
  exact bodyPost_ret (v := ndV z f3) (by simp [results, Try.results52, go_sem, ndV, Nd.kd, Nd.tx, Nd.nm, Nd.at_, Nd.ns, Nd.ks, leafN, fr0, nd0, g0, g1, g2, g3, g4, g5]) rfl (H5.out.done N6.out HBF.out)
end Go.Proofs.Ytgjchgmlogbmmaa
/- A variable of the call's own that holds a node; two of them become the kids of a new one. -/
namespace Go.Proofs.Ytgjchgmlogbmmaa
open Go.RowKit
set_option linter.unusedVariables false
set_option linter.unusedSimpArgs false

structure Var (w0 w : World) (G : Nat) (x : Nd) (f : Fr) : Prop where
 lo : w0.heap.size < G
 X : Whole w G 25 (ndL x f).toArray
 n : NodeIn w (fun a => w0.heap.size < a ∧ a ≠ G) x f
section
variable {w0 w w' : World} {R g c G : Nat} {T : List Tok} {s : PS} {x y : Nd} {f fy : Fr}
theorem Var.later {B : Nat} (h : Var w0 w G x f) (b : Below B w w') (hB : w.heap.size ≤ B) : Var w0 w' G x f := ⟨h.lo, h.X.below b (Nat.lt_of_lt_of_le h.X.lt hB), h.n.later b hB⟩
theorem Var.call (h : Var w0 w G x f) (H : St w0 w R g c T s) (b : But R w.heap.size w w') : Var w0 w' G x f :=
 ⟨h.lo, h.X.call H h.lo b, h.n.but b (Nat.le_refl _) fun a ha e => by have := H.r; have := ha.1; omega⟩
theorem Var.alloc (h : Var w0 w G x f) (o : Obj) : Var w0 (w.alloc o) G x f := h.later ((Below.refl _ _).alloc (Nat.le_refl _) o) (Nat.le_refl _)
theorem Var.drew (h : Var w0 w G x f) : Var w0 w.drew G x f := h.later (Below.refl _ _).drew (Nat.le_refl _)
theorem Var.made (H : St w0 w R g c T s) (n : NodeIn w (fun a => w0.heap.size < a) x f) : Var w0 (w.alloc (.cells (ndL x f).toArray 25)) w.heap.size x f :=
 ⟨H.size, Whole.made _ _ _, (n.mono (b' := fun a => w0.heap.size < a ∧ a ≠ w.heap.size) fun a ha hl => ⟨ha, Nat.ne_of_lt hl⟩).alloc _⟩
theorem Var.node (h : Var w0 w G x f) : NodeIn w (fun a => w0.heap.size < a) x f := h.n.mono fun a ha _ => ha.1
theorem Box.var {fs : List Fr} (h : Box w G (w0.heap.size + 1) x f fs) : Var w0 w G x f := ⟨h.lo, h.box, h.node.mono fun a ha _ => ⟨ha.1, ha.2⟩⟩
theorem NodeIn.new {w1 : World} (n : NodeIn w (fun a => w1.heap.size ≤ a) y fy) (H : St w0 w1 R g c T s) (v : Var w0 w1 G x f) : NodeIn w (fun a => w0.heap.size < a ∧ a ≠ G) y fy :=
 n.mono fun a ha _ => ⟨by have := H.size; omega, by have := v.X.lt; omega⟩
theorem Var.pair (v : Var w0 w G x f) (H : St w0 w R g c T s) (ny : NodeIn w (fun a => w0.heap.size < a ∧ a ≠ G) y fy) (kd : Int) (o : List UInt8) (at_ : Nat) :
  Var w0 ((((((((w.alloc (.cells (ndL x f ++ ndL y fy).toArray 25)).setCell ⟨G, 0, none⟩ (.int .i64 kd)).setCell ⟨G, 1, none⟩ (.string ⟨o.toArray⟩)).setCell ⟨G, 2, none⟩ (.int .i64 0)).setCell ⟨G, 3, none⟩ (.int .i64 (at_ : Int))).setCell ⟨G, 4, none⟩ (.slice none 0 0)).setCell ⟨G, 5, none⟩ (.slice (some ⟨w.heap.size, 0, none⟩) 2 2)))
   G (.mk kd o 0 at_ [] [x, y]) ⟨none, 0, some ⟨w.heap.size, 0, none⟩, 2⟩ ∧
  St w0 ((((((((w.alloc (.cells (ndL x f ++ ndL y fy).toArray 25)).setCell ⟨G, 0, none⟩ (.int .i64 kd)).setCell ⟨G, 1, none⟩ (.string ⟨o.toArray⟩)).setCell ⟨G, 2, none⟩ (.int .i64 0)).setCell ⟨G, 3, none⟩ (.int .i64 (at_ : Int))).setCell ⟨G, 4, none⟩ (.slice none 0 0)).setCell ⟨G, 5, none⟩ (.slice (some ⟨w.heap.size, 0, none⟩) 2 2))) R g c T s := by
 have X1 : Whole (w.alloc (.cells (ndL x f ++ ndL y fy).toArray 25)) G 25 (ndL x f).toArray := v.X.alloc _
 have B1 : Whole (w.alloc (.cells (ndL x f ++ ndL y fy).toArray 25)) w.heap.size 25 (ndL x f ++ ndL y fy).toArray := Whole.made _ _ _
 have hbu := but6 (w := w.alloc (.cells (ndL x f ++ ndL y fy).toArray 25)) G (w.alloc (.cells (ndL x f ++ ndL y fy).toArray 25)).heap.size (.int .i64 kd) (.string ⟨o.toArray⟩) (.int .i64 0) (.int .i64 (at_ : Int)) (.slice none 0 0) (.slice (some ⟨w.heap.size, 0, none⟩) 2 2)
 have hlt := v.X.lt
 have nx1 : NodeIn (w.alloc (.cells (ndL x f ++ ndL y fy).toArray 25)) (fun a => (w0.heap.size < a ∧ a ≠ G) ∧ a ≠ w.heap.size) x f := (v.n.mono (b' := fun a => (w0.heap.size < a ∧ a ≠ G) ∧ a ≠ w.heap.size) fun a ha hl => ⟨ha, Nat.ne_of_lt hl⟩).alloc _
 have ny1 : NodeIn (w.alloc (.cells (ndL x f ++ ndL y fy).toArray 25)) (fun a => (w0.heap.size < a ∧ a ≠ G) ∧ a ≠ w.heap.size) y fy := (ny.mono (b' := fun a => (w0.heap.size < a ∧ a ≠ G) ∧ a ≠ w.heap.size) fun a ha hl => ⟨ha, Nat.ne_of_lt hl⟩).alloc _
 refine ⟨⟨v.lo, put6 X1 _ _ _ _ _ _, ?_⟩, ?_⟩
 ·exact .pair kd o at_ (hbu.whole B1 B1.lt (by omega)) ⟨H.size, by omega⟩ (nx1.but hbu (Nat.le_refl _) fun a ha => ha.1.2) (ny1.but hbu (Nat.le_refl _) fun a ha => ha.1.2)
 ·exact (((((((H.alloc _).own (p := ⟨G, 0, none⟩) v.lo _).own (p := ⟨G, 1, none⟩) v.lo _).own (p := ⟨G, 2, none⟩) v.lo _).own (p := ⟨G, 3, none⟩) v.lo _).own (p := ⟨G, 4, none⟩) v.lo _).own (p := ⟨G, 5, none⟩) v.lo _)
end
theorem op_kd {T : List Tok} {s : PS} {a b c : List UInt8} (h : opF T s a b c ≠ []) : kdF T s ≠ 0 := by
 unfold opF at h
 by_cases h1 : isF T s a = true
 ·exact is_kd h1
 by_cases h2 : isF T s b = true
 ·exact is_kd h2
 by_cases h3 : isF T s c = true
 ·exact is_kd h3
 rw [if_neg h1, if_neg h2, if_neg h3] at h
 exact absurd rfl h
end Go.Proofs.Ytgjchgmlogbmmaa
