/- A part of the proofs of chapter 11, squeezed, merged and shrunk by group.py: GKey GWalkN. -/
import Derived.Test.YtgjchgmlogbmmaaR1
import Derived.KernelRfl
import Derived.Test.YtgjchgmlogbmmaaR5
/- Which key stands next; an atom that begins goes on. -/
namespace Go.Proofs.Ytgjchgmlogbmmaa
open Go.RowKit
set_option linter.unusedVariables false
set_option linter.unusedSimpArgs false

section
variable {T : List Tok} {s : PS} {r : Rec}
theorem key_at {i : Nat} (hi : i < 8) (h : ∀ j, j < i → isF T s (appKeys.getD j []) = false) (hb : isF T s (appKeys.getD i []) = true) : keyN T s = i := by
 have hl : appKeys.length = 8 := rfl
 have g : ∀ j (hj : j < appKeys.length), appKeys.getD j [] = appKeys[j] := fun j hj => by rw [List.getD_eq_getElem?_getD, List.getElem?_eq_getElem hj]; rfl
 unfold keyN
 have e : appKeys.findIdx? (fun k => isF T s k) = some i := List.findIdx?_eq_some_iff_getElem.2 ⟨by omega, by rw [g i (by omega)] at hb; exact hb, fun j hj => by have := h j hj; rw [g j (by omega)] at this; rw [this]; decide⟩
 rw [e]; rfl
theorem key_none (h : ∀ j, j < 8 → isF T s (appKeys.getD j []) = false) : keyN T s = 8 := by
 have hl : appKeys.length = 8 := rfl
 have g : ∀ j (hj : j < appKeys.length), appKeys.getD j [] = appKeys[j] := fun j hj => by rw [List.getD_eq_getElem?_getD, List.getElem?_eq_getElem hj]; rfl
 unfold keyN
 have e : appKeys.findIdx? (fun k => isF T s k) = none := List.findIdx?_eq_none_iff.2 fun x hx => by
  obtain ⟨j, hj, rfl⟩ := List.getElem_of_mem hx
  have := h j (by omega); rw [g j hj] at this; exact this
 rw [e]; rfl
theorem keys_get {i : Nat} (hi : i < 8) : (appKeys.map strV).toArray[i]? = some (.string ⟨(appKeys.getD i []).toArray⟩) := by
 have hl : appKeys.length = 8 := rfl
 rw [List.getElem?_toArray, List.getElem?_map, List.getD_eq_getElem?_getD, List.getElem?_eq_getElem (by omega)]; rfl
theorem kinds_get {i : Nat} (hi : i < 8) : (appKinds.map (fun k => Value.int .i64 k)).toArray[i]? = some (.int .i64 (appKinds.getD i 0)) := by
 have hl : appKinds.length = 8 := rfl
 rw [List.getElem?_toArray, List.getElem?_map, List.getD_eq_getElem?_getD, List.getElem?_eq_getElem (by omega)]; rfl
theorem begins_kd (h : beginsF T s = true) : kdF T s ≠ 0 := fun h0 => by
 have ho : opF T s [40] retK matK = [] := Classical.byContradiction fun hn => op_kd hn h0
 have ht : isF T s tryK = false := by
  cases hb : isF T s tryK
  ·rfl
  ·exact absurd h0 (is_kd hb)
 unfold beginsF at h
 rw [h0, ho, ht] at h
 exact absurd h (by decide)
theorem atom_adv (E : Ends T) (F : Fine T r) (h : s.i < T.length) (hb : beginsF T s = true) : s.i + 1 ≤ (atomF T r s).2.i := by
 have e1 : (stepF T s).i = s.i + 1 := by unfold stepF; rw [if_neg (begins_kd hb)]
 have h1 : (stepF T s).i < T.length := (goes_step E h).lt
 have up : ∀ {s'}, Goes T (stepF T s) s' → s.i + 1 ≤ s'.i := fun g => by have := g.i; omega
 have h0 : Goes T (stepF T s) (stepF T s) := .refl h1
 have bb := hb
 unfold beginsF opF at bb
 unfold atomF
 split
 ·exact up h0
 split
 ·exact up h0
 split
 ·exact up h0
 split
 ·exact up h0
 rename_i n1 n2 n3 n4
 dsimp only
 split
 ·exact up h0
 split
 ·split
  ·exact up (h0.step E)
  ·exact up ((h0.whole F).want E _)
 split
 ·exact up ((((((h0.whole F).want E _).text E 3).want E _).whole F).want E _)
 split
 ·exact up ((((h0.whole F).want E _).matL E F _ _ _).want E _)
 ·rename_i m1 m2 m3 m4
  exfalso
  rw [if_neg m2, if_neg m1, if_neg m4] at bb
  have k1 : (kdF T s == 1) = false := beq_eq_false_iff_ne.2 n1
  have k2 : (kdF T s == 2) = false := beq_eq_false_iff_ne.2 n2
  have k3 : (kdF T s == 3) = false := beq_eq_false_iff_ne.2 n3
  have k4 : (kdF T s == 4) = false := beq_eq_false_iff_ne.2 n4
  have k5 : isF T s tryK = false := by simpa using m3
  rw [k1, k2, k3, k4, k5] at bb
  exact absurd bb (by decide)
end
end Go.Proofs.Ytgjchgmlogbmmaa
/- The walks of layer 5, the document's: what is put to what. -/
namespace Go.Proofs.Ytgjchgmlogbmmaa
open Go.RowKit
set_option linter.unusedVariables false
set_option linter.unusedSimpArgs false
attribute [local go_sem ↓] Go.wp_at_zero Go.wp_at_succ

set_option maxRecDepth 100000 in
set_option maxHeartbeats 16000000 in
theorem app_any (w : World) (R g c : Nat) (T : List Tok) (r : Rec) (n : Nat) (s : PS) (E : Ends T) (F : Fine T r) (CA : ∀ (w : World) (s : PS), PAt w R g c T s → 41 ≤ s.deep + n → Calls Try.prog 80 #[.pointer (some ⟨R, 0, none⟩)] w (Gives w R g c T (atomF T r s))) (hp : PAt w R g c T s) (hd : 41 ≤ s.deep + n) :
  Calls Try.prog 79 #[.pointer (some ⟨R, 0, none⟩)] w (Gives w R g c T (appF T r s)) := by
 have H0 := Lib.hid (St.start hp)
 have HD := Lib.hid hd
 have HL := Lib.hid hp.lt
 have G_s := Lib.hid (Goes.refl hp.lt)
 clear hp hd
 obtain ⟨q, hq⟩ : ∃ q, appF T r s = q := ⟨_, rfl⟩
 rw [hq]
 have HQ := Lib.hid hq
 clear hq
 go_enter Try.func79, Try.ntmps79
 go_upto_region 1 with (fail)
 generalize w.alloc (.cells #[.int .i64 0, .string ⟨#[]⟩, .int .i64 0, .int .i64 0, .slice none 0 0, .slice none 0 0] 25) = w1 at *
 have S_KB : Hid (w.heap.size < w1.heap.size) := H0.out.size
 have H2 := Lib.hid (H0.out.alloc (.cells #[.string ⟨#[112, 114, 105, 110, 116]⟩, .string ⟨#[114, 97, 105, 115, 101]⟩, .string ⟨#[115, 112, 97, 119, 110]⟩, .string ⟨#[97, 116, 111, 109, 105, 99, 97, 108, 108, 121]⟩, .string ⟨#[116, 118, 97, 114]⟩, .string ⟨#[114, 101, 97, 100]⟩, .string ⟨#[119, 114, 105, 116, 101]⟩, .string ⟨#[111, 114, 101, 108, 115, 101]⟩] 9))
 have X_KB2 : Hid (Whole (w1.alloc (.cells #[.string ⟨#[112, 114, 105, 110, 116]⟩, .string ⟨#[114, 97, 105, 115, 101]⟩, .string ⟨#[115, 112, 97, 119, 110]⟩, .string ⟨#[97, 116, 111, 109, 105, 99, 97, 108, 108, 121]⟩, .string ⟨#[116, 118, 97, 114]⟩, .string ⟨#[114, 101, 97, 100]⟩, .string ⟨#[119, 114, 105, 116, 101]⟩, .string ⟨#[111, 114, 101, 108, 115, 101]⟩] 9)) w1.heap.size 9 #[.string ⟨#[112, 114, 105, 110, 116]⟩, .string ⟨#[114, 97, 105, 115, 101]⟩, .string ⟨#[115, 112, 97, 119, 110]⟩, .string ⟨#[97, 116, 111, 109, 105, 99, 97, 108, 108, 121]⟩, .string ⟨#[116, 118, 97, 114]⟩, .string ⟨#[114, 101, 97, 100]⟩, .string ⟨#[119, 114, 105, 116, 101]⟩, .string ⟨#[111, 114, 101, 108, 115, 101]⟩]) := Whole.made _ _ _
 go_upto_region 2 with (fail)
 generalize w1.alloc (.cells #[.string ⟨#[112, 114, 105, 110, 116]⟩, .string ⟨#[114, 97, 105, 115, 101]⟩, .string ⟨#[115, 112, 97, 119, 110]⟩, .string ⟨#[97, 116, 111, 109, 105, 99, 97, 108, 108, 121]⟩, .string ⟨#[116, 118, 97, 114]⟩, .string ⟨#[114, 101, 97, 100]⟩, .string ⟨#[119, 114, 105, 116, 101]⟩, .string ⟨#[111, 114, 101, 108, 115, 101]⟩] 9) = w2 at *
 generalize w1.heap.size = KB at *
 clear H0
 have S_CB : Hid (w.heap.size < w2.heap.size) := H2.out.size
 have H3 := Lib.hid (H2.out.alloc (.cells #[.int .i64 15, .int .i64 16, .int .i64 17, .int .i64 18, .int .i64 21, .int .i64 22, .int .i64 23, .int .i64 20] 3))
 have X_KB3 := Lib.hid (X_KB2.out.alloc (.cells #[.int .i64 15, .int .i64 16, .int .i64 17, .int .i64 18, .int .i64 21, .int .i64 22, .int .i64 23, .int .i64 20] 3))
 have X_CB3 : Hid (Whole (w2.alloc (.cells #[.int .i64 15, .int .i64 16, .int .i64 17, .int .i64 18, .int .i64 21, .int .i64 22, .int .i64 23, .int .i64 20] 3)) w2.heap.size 3 #[.int .i64 15, .int .i64 16, .int .i64 17, .int .i64 18, .int .i64 21, .int .i64 22, .int .i64 23, .int .i64 20]) := Whole.made _ _ _
 go_upto_block 0 with (fail)
 generalize w2.alloc (.cells #[.int .i64 15, .int .i64 16, .int .i64 17, .int .i64 18, .int .i64 21, .int .i64 22, .int .i64 23, .int .i64 20] 3) = w3 at *
 generalize w2.heap.size = CB at *
 clear H2 X_KB2
 have HAL : Hid (∀ j : Nat, j < 0 → isF T s (appKeys.getD j []) = false) := fun j hj => absurd hj (Nat.not_lt_zero j)
 go_cut [5] (fun _ wx => keyN T s = 8 ∧ St w wx R g c T s)
 case first =>
  go_wp2_with fail
  go_loopg [5] 9 (fun gk ki wr => ∃ i : Nat, ki = .int .i64 (i : Int) ∧ i + gk = 9 ∧ i ≤ 8 ∧ (∀ j, j < i → isF T s (appKeys.getD j []) = false) ∧ St w wr R g c T s ∧ Whole wr KB 9 #[.string ⟨#[112, 114, 105, 110, 116]⟩, .string ⟨#[114, 97, 105, 115, 101]⟩, .string ⟨#[115, 112, 97, 119, 110]⟩, .string ⟨#[97, 116, 111, 109, 105, 99, 97, 108, 108, 121]⟩, .string ⟨#[116, 118, 97, 114]⟩, .string ⟨#[114, 101, 97, 100]⟩, .string ⟨#[119, 114, 105, 116, 101]⟩, .string ⟨#[111, 114, 101, 108, 115, 101]⟩] ∧ Whole wr CB 3 #[.int .i64 15, .int .i64 16, .int .i64 17, .int .i64 18, .int .i64 21, .int .i64 22, .int .i64 23, .int .i64 20])
  case atStart => exact ⟨0, rfl, rfl, Nat.zero_le _, HAL.out, H3.out, X_KB3.out, X_CB3.out⟩
  case round =>
   obtain ⟨i, rfl, hz, hi8, hall, hst, hxk, hxc⟩ := hrel
   have HS := Lib.hid hst
   have XK := Lib.hid hxk
   have XC := Lib.hid hxc
   have HALL := Lib.hid hall
   clear hst hxk hxc hall HAL H3 X_KB3 X_CB3
   obtain ⟨m, rfl⟩ : ∃ m, gk = m + 1 := ⟨gk - 1, by omega⟩
   rcases Nat.lt_or_ge i 8 with hi | hi
   ·have hi2 : (i : Int) < 8 := by omega
    obtain ⟨key, hkey⟩ : ∃ key, appKeys.getD i [] = key := ⟨_, rfl⟩
    have kc : wr.cell? ⟨KB, i, none⟩ = some (.string ⟨key.toArray⟩) := by rw [← hkey]; exact (XK.out.cell i).trans (keys_get hi)
    have HKY := Lib.hid hkey
    clear hkey
    obtain ⟨b, h_b⟩ : ∃ b, isF T s key = b := ⟨_, rfl⟩
    have E_b := Lib.hid h_b
    clear h_b
    go_upto_region 6 with (fail)
    go_wp2_with fail
    refine (is_eq E_b.out HS.out.p).mono ?_
    rintro e w21 ⟨rfl, b21⟩
    have H21 := Lib.hid (HS.out.read b21)
    have X_KB21 := Lib.hid (XK.out.call HS.out S_KB.out (.of_below b21))
    have X_CB21 := Lib.hid (XC.out.call HS.out S_CB.out (.of_below b21))
    clear b21 HS XK XC
    rcases b with _ | _
    ·clear kc
     have HALL2 : Hid (∀ j, j < i + 1 → isF T s (appKeys.getD j []) = false) := fun j hj => by
      rcases Nat.lt_or_ge j i with h | h
      ·exact HALL.out j h
      ·have e : j = i := by omega
       rw [e, HKY.out]; exact E_b.out
     clear HALL
     go_wp2_with fail
     go_roundg m
     case measure => exact Nat.lt_succ_self _
     case rel => exact ⟨i + 1, by first | rfl | (simp), by omega, by omega, HALL2.out, H21.out, X_KB21.out, X_CB21.out⟩
    ·have hkn : keyN T s = i := key_at hi HALL.out (by rw [HKY.out]; exact E_b.out)
     have HKN := Lib.hid hkn
     obtain ⟨kk, hkk⟩ : ∃ kk, appKinds.getD i 0 = kk := ⟨_, rfl⟩
     have HKK := Lib.hid hkk
     clear hkn hkk kc HALL HKY
     obtain ⟨t, h_t⟩ : ∃ t, stepT T s = t := ⟨_, rfl⟩
     have E_t := Lib.hid h_t
     clear h_t
     obtain ⟨s1, h_s1⟩ : ∃ s1, stepF T s = s1 := ⟨_, rfl⟩
     have E_s1 := Lib.hid h_s1
     clear h_s1
     have G_s1 := Lib.hid (show Goes T s s1 from by have q := (goes_step E HL.out); rw [E_s1.out] at q; exact q)
     obtain ⟨x, s2, h_s2⟩ : ∃ x s2, atomF T r s1 = (x, s2) := ⟨_, _, rfl⟩
     have E_s2 := Lib.hid h_s2
     clear h_s2
     have G_s2 := Lib.hid (show Goes T s s2 from by have q := (G_s1.out.atom E F); rw [E_s2.out] at q; exact q)
     go_upto_region 8 with (fail)
     go_wp2_with fail
     refine (step_eq E E_t.out E_s1.out H21.out.p).mono ?_
     rintro e w22 ⟨rfl, h22, b22⟩
     have H22 := Lib.hid (H21.out.call h22 b22)
     have X_CB22 := Lib.hid (X_CB21.out.call H21.out S_CB.out b22)
     clear h22 b22 H21 X_CB21
     unfold tokV
     have S_K : Hid (w.heap.size < w22.heap.size) := H22.out.size
     have H23 := Lib.hid (H22.out.alloc (.cells #[.int .i64 t.kind, .string ⟨t.text.toArray⟩, .int .i64 t.num, .int .i64 (t.at_ : Int)] 67))
     have X_CB23 := Lib.hid (X_CB22.out.alloc (.cells #[.int .i64 t.kind, .string ⟨t.text.toArray⟩, .int .i64 t.num, .int .i64 (t.at_ : Int)] 67))
     have X_K23 : Hid (Whole (w22.alloc (.cells #[.int .i64 t.kind, .string ⟨t.text.toArray⟩, .int .i64 t.num, .int .i64 (t.at_ : Int)] 67)) w22.heap.size 67 #[.int .i64 t.kind, .string ⟨t.text.toArray⟩, .int .i64 t.num, .int .i64 (t.at_ : Int)]) := Whole.made _ _ _
     go_upto_region 9 with (fail)
     generalize w22.alloc (.cells #[.int .i64 t.kind, .string ⟨t.text.toArray⟩, .int .i64 t.num, .int .i64 (t.at_ : Int)] 67) = w23 at *
     generalize w22.heap.size = K at *
     clear H22 X_CB22
     have e1 : w23.cell? ⟨CB, i, none⟩ = some (.int .i64 kk) := by rw [← HKK.out]; exact (X_CB23.out.cell i).trans (kinds_get hi)
     have e3 : w23.cell? ⟨K, 3, none⟩ = some (.int .i64 (t.at_ : Int)) := X_K23.out.cell 3
     have e4 : (w23.alloc (.cells #[.int .i64 0, .string ⟨#[]⟩, .int .i64 0, .int .i64 0, .slice none 0 0, .slice none 0 0] 25)).cell? ⟨CB, i, none⟩ = some (.int .i64 kk) := by rw [← HKK.out]; exact ((X_CB23.out.alloc _).cell i).trans (kinds_get hi)
     have e5 : (w23.alloc (.cells #[.int .i64 0, .string ⟨#[]⟩, .int .i64 0, .int .i64 0, .slice none 0 0, .slice none 0 0] 25)).cell? ⟨K, 3, none⟩ = some (.int .i64 (t.at_ : Int)) := (X_K23.out.alloc _).cell 3
     have HE := Lib.hid (And.intro e1 e3)
     have HE2 := Lib.hid (And.intro e4 e5)
     clear e1 e3 e4 e5
     refine region_Z (fun W => W.cell? ⟨CB, i, none⟩ = some (.int .i64 kk) ∧ W.cell? ⟨K, 3, none⟩ = some (.int .i64 (t.at_ : Int))) (fun i => i == 8) (by kernel_rfl) HE.out (fun hHeld => ?_)
     refine tke 0 rfl (v := ?_) ?_ ?_; rotate_left
     ·(intro w hSw; (try dsimp only at hSw); obtain ⟨hS1, hS2⟩ := hSw; go_simp; try with_reducible rfl)
     (try simp only [Act.put, sZ])
     refine tke 1 rfl (v := ?_) ?_ ?_; rotate_left
     ·(intro w hSw; (try dsimp only at hSw); obtain ⟨hS1, hS2⟩ := hSw; go_simp; try with_reducible rfl)
     (try simp only [Act.put, sZ])
     refine tke 2 rfl (v := ?_) ?_ ?_; rotate_left
     ·(intro w hSw; (try dsimp only at hSw); obtain ⟨hS1, hS2⟩ := hSw; go_simp; try with_reducible rfl)
     (try simp only [Act.put, sZ])
     refine tke 3 rfl (v := ?_) ?_ ?_; rotate_left
     ·(intro w hSw; (try dsimp only at hSw); obtain ⟨hS1, hS2⟩ := hSw; go_simp; try with_reducible rfl)
     (try simp only [Act.put, sZ])
     refine tke 4 rfl (v := ?_) ?_ ?_; rotate_left
     ·(intro w hSw; (try dsimp only at hSw); obtain ⟨hS1, hS2⟩ := hSw; go_simp; try with_reducible rfl)
     (try simp only [Act.put, sZ])
     refine tke 5 rfl (v := ?_) ?_ ?_; rotate_left
     ·(intro w hSw; (try dsimp only at hSw); obtain ⟨hS1, hS2⟩ := hSw; go_simp; try with_reducible rfl)
     (try simp only [Act.put, sZ])
     refine tke 6 rfl (v := ?_) ?_ ?_; rotate_left
     ·(intro w hSw; (try dsimp only at hSw); obtain ⟨hS1, hS2⟩ := hSw; go_simp; try with_reducible rfl)
     (try simp only [Act.put, sZ])
     refine stp 7 rfl (fun K hK => ?_)
     go_simp
     refine hK.out _ _ (fun _ => HE2.out) (fun hHeld2 => ?_)
     clear hK K hHeld hHeld2
     (try simp only [Act.put, sZ])
     have H24 := Lib.hid (H23.out.alloc (.cells #[.int .i64 kk, .string ⟨#[]⟩, .int .i64 0, .int .i64 (t.at_ : Int), .slice none 0 0, .slice none 0 0] 25)).drew
     have S_G : Hid (w.heap.size < w23.heap.size) := H23.out.size
     have B_G24 : Hid (Box (w23.alloc (.cells #[.int .i64 kk, .string ⟨#[]⟩, .int .i64 0, .int .i64 (t.at_ : Int), .slice none 0 0, .slice none 0 0] 25)).drew w23.heap.size (w.heap.size + 1) (Nd.mk kk [] 0 t.at_ [] []) fr0 []) := (Box.made w23 (base := w.heap.size + 1) (x := (Nd.mk kk [] 0 t.at_ [] [])) H23.out.size rfl rfl).drew
     refine stp 8 rfl (fun K hK => ?_)
     go_simp
     refine hK.out _ _ (fun h => absurd h (by decide)) (fun _ => ?_)
     refine anyZ_done (by kernel_rfl) ?_ _
     clear hK K HE HE2 X_CB23 X_K23 H23
     generalize (w23.alloc (.cells #[.int .i64 kk, .string ⟨#[]⟩, .int .i64 0, .int .i64 (t.at_ : Int), .slice none 0 0, .slice none 0 0] 25)).drew = w24 at *
     generalize w23.heap.size = G at *
     obtain ⟨zz0, h_zz0⟩ : ∃ z9, (Nd.mk kk [] 0 t.at_ [] []) = z9 := ⟨_, rfl⟩
     rw [h_zz0] at B_G24
     have Z_zz0 := Lib.hid h_zz0
     clear h_zz0
     go_upto_region 10 with (fail)
     have l0 : zz0.ks.length ≤ 5 := by rw [← Z_zz0.out]; exact Nat.zero_le 5
     have C25 := Lib.hid (fun wx (h : PAt wx R g c T s1) => gives_eq E_s2.out (CA wx s1 h (by rw [G_s1.out.deep]; exact HD.out)))
     refine region_Z (fun W => W.cell? ⟨G, 5, none⟩ = some (.slice fr0.ka zz0.ks.length fr0.kc)) (fun i => i == 7) (by kernel_rfl) B_G24.out.drew.c5 (fun hHeld => ?_)
     refine tke 0 rfl (v := ?_) ?_ ?_; rotate_left
     ·(intro w hSw; (try dsimp only at hSw); go_simp; try with_reducible rfl)
     (try simp only [Act.put, sZ])
     refine tke 1 rfl (v := ?_) ?_ ?_; rotate_left
     ·(intro w hSw; (try dsimp only at hSw); go_simp; try with_reducible rfl)
     (try simp only [Act.put, sZ])
     refine tke 2 rfl (v := ?_) ?_ ?_; rotate_left
     ·(intro w hSw; (try dsimp only at hSw); go_simp; try with_reducible rfl)
     (try simp only [Act.put, sZ])
     refine stp 3 rfl (fun K hK => ?_)
     go_simp
     go_at_call 80
     refine (C25.out _ H24.out.drew.p).mono ?_
     rintro e wc ⟨fy, rfl, hpc, ny, bc⟩
     have HC := Lib.hid (H24.out.drew.call hpc bc)
     have BC := Lib.hid (B_G24.out.drew.but bc (Nat.le_refl _) (by have := H24.out.r; omega))
     have NY : Hid (NodeIn wc (fun a => w24.heap.size ≤ a) x fy) := ny
     clear hpc ny bc
     unfold ndV
     refine hK.out _ _ (fun _ => BC.out.c5) (fun hHeld2 => ?_)
     clear hK K hHeld
     (try simp only [Act.put, sZ])
     refine stp 4 rfl (fun K hK => ?_)
     go_simp
     refine hK.out _ _ (fun _ => (BC.out.alloc _).c5) (fun hHeld3 => ?_)
     clear hK K hHeld2
     (try simp only [Act.put, sZ])
     refine stp 5 rfl (fun K hK => ?_)
     refine step_app ty_nd (v := .slice fr0.ka zz0.ks.length fr0.kc) (by rfl) _ _ (by rfl) (by rfl) (BC.out.alloc _).kid wc.heap.size 1 (ndL x fy) (by rfl) (Whole.made wc 25 _) (by rfl) (by simp [ndL, Value.oneCell']) (by decide) (by omega) (by decide) (by have := HC.out.size; simp; omega) ?_
     intro gv cv wd hap
     have HD := Lib.hid ((HC.out.alloc (.cells (ndL x fy).toArray 25)).low (hap.below (BC.out.alloc (.cells (ndL x fy).toArray 25)).kid (Below.refl _ _) (Nat.le_refl _) (by have := HC.out.size; simp; omega)))
     have BN0 := Lib.hid ((BC.out.alloc (.cells (ndL x fy).toArray 25)).app (B := w24.heap.size) B_G24.out.lt B_G24.out.nlt B_G24.out.klt (NY.out.alloc _) hap)
     have XD := Lib.hid (hap.far (BC.out.alloc (.cells (ndL x fy).toArray 25)).box (row_ne (BC.out.alloc (.cells (ndL x fy).toArray 25)).kid BC.out.kN))
     have z5 : wd.cell? ⟨G, 5, none⟩ = some (.slice fr0.ka zz0.ks.length fr0.kc) := XD.out.cell 5
     have y5 := XD.out.free 5
     refine hK.out _ _ (fun _ => z5) (fun hHeld4 => ?_)
     replace hHeld4 := hHeld4 (by decide)
     clear hK K hHeld3 hap
     (try simp only [Act.put, sZ])
     refine tke 6 rfl (v := ?_) ?_ ?_; rotate_left
     ·(intro w hSw; (try dsimp only at hSw); go_simp; try with_reducible rfl)
     (try simp only [Act.put, sZ])
     refine stp 7 rfl (fun K hK => ?_)
     go_simp
     refine hK.out _ _ (fun h => absurd h (by decide)) (fun _ => ?_)
     refine anyZ_done (by kernel_rfl) ?_ _
     have H25 := Lib.hid (HD.out.own (p := ⟨G, 5, none⟩) (Nat.lt_of_succ_le B_G24.out.lo) (.slice (some ⟨gv, 0, none⟩) (zz0.ks.length + 1) cv))
     obtain ⟨f25, fs25, BN1⟩ : ∃ f2 fs2, Box (wd.setCell ⟨G, 5, none⟩ (.slice (some ⟨gv, 0, none⟩) (zz0.ks.length + 1) cv)) G (w.heap.size + 1) (zz0.add x) f2 fs2 := ⟨_, _, BN0.out⟩
     have B_G25 := Lib.hid BN1
     clear hK K hHeld4 z5 y5 XD BN0 BN1 HD BC HC NY
     generalize wd.setCell ⟨G, 5, none⟩ (.slice (some ⟨gv, 0, none⟩) (zz0.ks.length + 1) cv) = w25 at *
     clear C25 H24 B_G24
     obtain ⟨zz1, h_zz1⟩ : ∃ z9, (zz0.add x) = z9 := ⟨_, rfl⟩
     rw [h_zz1] at B_G25
     have Z_zz1 := Lib.hid h_zz1
     clear h_zz1
     rcases Nat.lt_or_ge i 6 with h6 | h6
     ·have h62 : (i : Int) < 6 := by omega
      have hq : (zz1, s2) = q := by
       rw [← HQ.out, ← Z_zz1.out, ← Z_zz0.out]; unfold appF; rw [HKN.out, if_pos hi, if_neg (by omega), HKK.out, E_t.out, E_s1.out, E_s2.out]
      subst hq
      clear HQ l0 h6
      obtain ⟨t0, t1, t2, t3, t4, t5⟩ := nodeC (B_G25.out.box)
      obtain ⟨z0, z1, z2, z3, z4, z5⟩ := zeroC (H25.out.z)
      obtain ⟨y0, y1, y2, y3, y4, y5⟩ := freeC (H25.out.z)
      go_wp2_with fail
      obtain ⟨wf, HZF, HBF, hwf⟩ := endsN (H25.out.z) zz1 f25
      rw [hwf]
      clear hwf
      obtain ⟨g0, g1, g2, g3, g4, g5⟩ := cells6 HZF.out
      exact bodyPost_ret (v := ndV zz1 f25) (by simp [results, Try.results79, go_sem, ndV, Nd.kd, Nd.tx, Nd.nm, Nd.at_, Nd.ns, Nd.ks, leafN, fr0, nd0, g0, g1, g2, g3, g4, g5]) rfl (H25.out.done B_G25.out.var.node HBF.out)
     ·obtain ⟨y, s3, h_s3⟩ : ∃ y s3, atomF T r s2 = (y, s3) := ⟨_, _, rfl⟩
      have E_s3 := Lib.hid h_s3
      clear h_s3
      have h62 : (6 : Int) ≤ i := by omega
      have l1 : zz1.ks.length ≤ 5 := by rw [← Z_zz1.out, add_ks, ← Z_zz0.out]; simp [Nd.ks]
      go_upto_region 12 with (fail)
      have C26 := Lib.hid (fun wx (h : PAt wx R g c T s2) => gives_eq E_s3.out (CA wx s2 h (by rw [G_s2.out.deep]; exact HD.out)))
      refine region_Z (fun W => W.cell? ⟨G, 5, none⟩ = some (.slice f25.ka zz1.ks.length f25.kc)) (fun i => i == 7) (by kernel_rfl) B_G25.out.drew.c5 (fun hHeld => ?_)
      refine tke 0 rfl (v := ?_) ?_ ?_; rotate_left
      ·(intro w hSw; (try dsimp only at hSw); go_simp; try with_reducible rfl)
      (try simp only [Act.put, sZ])
      refine tke 1 rfl (v := ?_) ?_ ?_; rotate_left
      ·(intro w hSw; (try dsimp only at hSw); go_simp; try with_reducible rfl)
      (try simp only [Act.put, sZ])
      refine tke 2 rfl (v := ?_) ?_ ?_; rotate_left
      ·(intro w hSw; (try dsimp only at hSw); go_simp; try with_reducible rfl)
      (try simp only [Act.put, sZ])
      refine stp 3 rfl (fun K hK => ?_)
      go_simp
      go_at_call 80
      refine (C26.out _ H25.out.drew.p).mono ?_
      rintro e wc ⟨fy, rfl, hpc, ny, bc⟩
      have HC := Lib.hid (H25.out.drew.call hpc bc)
      have BC := Lib.hid (B_G25.out.drew.but bc (Nat.le_refl _) (by have := H25.out.r; omega))
      have NY : Hid (NodeIn wc (fun a => w25.heap.size ≤ a) y fy) := ny
      clear hpc ny bc
      unfold ndV
      refine hK.out _ _ (fun _ => BC.out.c5) (fun hHeld2 => ?_)
      clear hK K hHeld
      (try simp only [Act.put, sZ])
      refine stp 4 rfl (fun K hK => ?_)
      go_simp
      refine hK.out _ _ (fun _ => (BC.out.alloc _).c5) (fun hHeld3 => ?_)
      clear hK K hHeld2
      (try simp only [Act.put, sZ])
      refine stp 5 rfl (fun K hK => ?_)
      refine step_app ty_nd (v := .slice f25.ka zz1.ks.length f25.kc) (by rfl) _ _ (by rfl) (by rfl) (BC.out.alloc _).kid wc.heap.size 1 (ndL y fy) (by rfl) (Whole.made wc 25 _) (by rfl) (by simp [ndL, Value.oneCell']) (by decide) (by omega) (by decide) (by have := HC.out.size; simp; omega) ?_
      intro gv cv wd hap
      have HD := Lib.hid ((HC.out.alloc (.cells (ndL y fy).toArray 25)).low (hap.below (BC.out.alloc (.cells (ndL y fy).toArray 25)).kid (Below.refl _ _) (Nat.le_refl _) (by have := HC.out.size; simp; omega)))
      have BN0 := Lib.hid ((BC.out.alloc (.cells (ndL y fy).toArray 25)).app (B := w25.heap.size) B_G25.out.lt B_G25.out.nlt B_G25.out.klt (NY.out.alloc _) hap)
      have XD := Lib.hid (hap.far (BC.out.alloc (.cells (ndL y fy).toArray 25)).box (row_ne (BC.out.alloc (.cells (ndL y fy).toArray 25)).kid BC.out.kN))
      have z5 : wd.cell? ⟨G, 5, none⟩ = some (.slice f25.ka zz1.ks.length f25.kc) := XD.out.cell 5
      have y5 := XD.out.free 5
      refine hK.out _ _ (fun _ => z5) (fun hHeld4 => ?_)
      replace hHeld4 := hHeld4 (by decide)
      clear hK K hHeld3 hap
      (try simp only [Act.put, sZ])
      refine tke 6 rfl (v := ?_) ?_ ?_; rotate_left
      ·(intro w hSw; (try dsimp only at hSw); go_simp; try with_reducible rfl)
      (try simp only [Act.put, sZ])
      refine stp 7 rfl (fun K hK => ?_)
      go_simp
      refine hK.out _ _ (fun h => absurd h (by decide)) (fun _ => ?_)
      refine anyZ_done (by kernel_rfl) ?_ _
      have H26 := Lib.hid (HD.out.own (p := ⟨G, 5, none⟩) (Nat.lt_of_succ_le B_G25.out.lo) (.slice (some ⟨gv, 0, none⟩) (zz1.ks.length + 1) cv))
      obtain ⟨f26, fs26, BN1⟩ : ∃ f2 fs2, Box (wd.setCell ⟨G, 5, none⟩ (.slice (some ⟨gv, 0, none⟩) (zz1.ks.length + 1) cv)) G (w.heap.size + 1) (zz1.add y) f2 fs2 := ⟨_, _, BN0.out⟩
      have B_G26 := Lib.hid BN1
      clear hK K hHeld4 z5 y5 XD BN0 BN1 HD BC HC NY
      generalize wd.setCell ⟨G, 5, none⟩ (.slice (some ⟨gv, 0, none⟩) (zz1.ks.length + 1) cv) = w26 at *
      clear C26 H25 B_G25
      obtain ⟨zz2, h_zz2⟩ : ∃ z9, (zz1.add y) = z9 := ⟨_, rfl⟩
      rw [h_zz2] at B_G26
      have Z_zz2 := Lib.hid h_zz2
      clear h_zz2
      have hq : (zz2, s3) = q := by
       rw [← HQ.out, ← Z_zz2.out, ← Z_zz1.out, ← Z_zz0.out]; unfold appF; rw [HKN.out, if_pos hi, if_pos h6, HKK.out, E_t.out, E_s1.out, E_s2.out, E_s3.out]
      subst hq
      clear HQ l0 l1 h6
      obtain ⟨t0, t1, t2, t3, t4, t5⟩ := nodeC (B_G26.out.box)
      obtain ⟨z0, z1, z2, z3, z4, z5⟩ := zeroC (H26.out.z)
      obtain ⟨y0, y1, y2, y3, y4, y5⟩ := freeC (H26.out.z)
      go_wp2_with fail
      obtain ⟨wf, HZF, HBF, hwf⟩ := endsN (H26.out.z) zz2 f26
      rw [hwf]
      clear hwf
      obtain ⟨g0, g1, g2, g3, g4, g5⟩ := cells6 HZF.out
      exact bodyPost_ret (v := ndV zz2 f26) (by simp [results, Try.results79, go_sem, ndV, Nd.kd, Nd.tx, Nd.nm, Nd.at_, Nd.ns, Nd.ks, leafN, fr0, nd0, g0, g1, g2, g3, g4, g5]) rfl (H26.out.done B_G26.out.var.node HBF.out)
   ·have hi9 : i = 8 := by omega
    subst hi9
    have HKN := Lib.hid (key_none HALL.out)
    clear HALL XK XC
    go_wp2_with fail
    go_meet
    exact ⟨HKN.out, HS.out⟩
 case rest =>
  obtain ⟨hkn, hst⟩ := hcut
  have HS := Lib.hid hst
  have HKN := Lib.hid hkn
  clear hst hkn HAL H3 X_KB3 X_CB3
  obtain ⟨k, h_k⟩ : ∃ k, kdF T s = k := ⟨_, rfl⟩
  have E_k := Lib.hid h_k
  clear h_k
  obtain ⟨x, s2, h_s2⟩ : ∃ x s2, atomF T r s = (x, s2) := ⟨_, _, rfl⟩
  have E_s2 := Lib.hid h_s2
  clear h_s2
  have G_s2 := Lib.hid (show Goes T s s2 from by have q := (goes_atom E F HL.out); rw [E_s2.out] at q; exact q)
  obtain ⟨cb, hcb⟩ : ∃ cb, (k == 4) = cb := ⟨_, rfl⟩
  have HQ2 : Hid (appL T r (T.length + 1) cb x s2 = q) := by
   show _ = _
   rw [← HQ.out]; unfold appF; rw [HKN.out, if_neg (by decide), E_s2.out, E_k.out, ← hcb]
   congr 1
  have HCB : Hid (cb = true → x.ns = [] ∧ x.ks = []) := fun h => by
   have hk : kdF T s = 4 := E_k.out.trans (beq_iff_eq.1 (hcb.trans h))
   have hx := E_s2.out
   unfold atomF at hx
   rw [if_neg (by rw [hk]; decide), if_neg (by rw [hk]; decide), if_neg (by rw [hk]; decide), if_pos hk] at hx
   rw [← (Prod.mk.inj hx).1]; exact ⟨rfl, rfl⟩
  clear HQ HKN
  go_upto_region 14 with (fail)
  go_wp2_with fail
  refine (kind_eq E_k.out HS.out.p).mono ?_
  rintro e w51 ⟨rfl, b51⟩
  have H51 := Lib.hid (HS.out.read b51)
  clear b51 HS
  go_upto_region 15 with (fail)
  clear hcb
  go_wp2_with fail
  refine (gives_eq E_s2.out (CA w51 s H51.out.p HD.out)).mono ?_
  rintro e w52 ⟨f, rfl, h52, n52, b52⟩
  have N_x52 := Lib.hid (n52.gt H51.out)
  have H52 := Lib.hid (H51.out.call h52 b52)
  clear h52 b52 H51 n52
  unfold ndV
  rcases cb with _ | _
  ·clear HCB
   have S_G : Hid (w.heap.size < w52.heap.size) := H52.out.size
   have H53 := Lib.hid (H52.out.alloc (.cells #[.int .i64 x.kd, .string ⟨x.tx.toArray⟩, .int .i64 x.nm, .int .i64 (x.at_ : Int), .slice f.na x.ns.length f.nc, .slice f.ka x.ks.length f.kc] 25))
   have N_x53 := Lib.hid (N_x52.out.alloc (.cells #[.int .i64 x.kd, .string ⟨x.tx.toArray⟩, .int .i64 x.nm, .int .i64 (x.at_ : Int), .slice f.na x.ns.length f.nc, .slice f.ka x.ks.length f.kc] 25))
   have V_G53 : Hid (Var w (w52.alloc (.cells #[.int .i64 x.kd, .string ⟨x.tx.toArray⟩, .int .i64 x.nm, .int .i64 (x.at_ : Int), .slice f.na x.ns.length f.nc, .slice f.ka x.ks.length f.kc] 25)) w52.heap.size x f) := Var.made H52.out N_x52.out
   go_upto_block 2 with (fail)
   generalize w52.alloc (.cells #[.int .i64 x.kd, .string ⟨x.tx.toArray⟩, .int .i64 x.nm, .int .i64 (x.at_ : Int), .slice f.na x.ns.length f.nc, .slice f.ka x.ks.length f.kc] 25) = w53 at *
   generalize w52.heap.size = G at *
   clear H52 N_x52
   go_wp2_with fail
   go_loopg [11] (T.length + 1) (fun gk mo wr => ∃ z s3 f3, T.length + 1 ≤ gk + s3.i ∧ appL T r gk false z s3 = q ∧ Var w wr G z f3 ∧ St w wr R g c T s3 ∧ Goes T s s3)
   case atStart => exact ⟨x, s2, f, by omega, HQ2.out, V_G53.out, H53.out, G_s2.out⟩
   case round =>
    obtain ⟨z, s3, f3, hz, hpl, hbx, hst, hgo⟩ := hrel
    obtain ⟨m, rfl⟩ : ∃ m, gk = m + 1 := ⟨gk - 1, by have := hgo.lt; omega⟩
    have VX := Lib.hid hbx
    have HS := Lib.hid hst
    have G_s3 := Lib.hid hgo
    have HPL := Lib.hid (show (if beginsF T s3 = true then
      if false = true then
       if z.ks.length = 4 then (z, failF T s3 16)
       else appL T r m false (z.add (atomF T r s3).1) (atomF T r s3).2
      else appL T r m false (.mk 7 [] 0 z.at_ [] [z, (atomF T r s3).1]) (atomF T r s3).2
     else (z, s3)) = q from hpl)
    clear hbx hst hgo hpl HQ2 V_G53 H53
    obtain ⟨bb, h_bb⟩ : ∃ bb, beginsF T s3 = bb := ⟨_, rfl⟩
    have E_bb := Lib.hid h_bb
    clear h_bb
    go_wp2_with fail
    refine (begins_eq E_bb.out HS.out.p).mono ?_
    rintro e w71 ⟨rfl, b71⟩
    have H71 := Lib.hid (HS.out.read b71)
    have V_G71 := Lib.hid (VX.out.later b71 (Nat.le_refl _))
    clear b71 HS VX
    rcases bb with _ | _
    ·have hr := (if_neg (by rw [E_bb.out]; decide)).symm.trans HPL.out
     subst hr
     clear HPL
     obtain ⟨t0, t1, t2, t3, t4, t5⟩ := nodeC (V_G71.out.X)
     obtain ⟨z0, z1, z2, z3, z4, z5⟩ := zeroC (H71.out.z)
     obtain ⟨y0, y1, y2, y3, y4, y5⟩ := freeC (H71.out.z)
     go_wp2_with fail
     obtain ⟨wf, HZF, HBF, hwf⟩ := endsN (H71.out.z) z f3
     rw [hwf]
     clear hwf
     obtain ⟨g0, g1, g2, g3, g4, g5⟩ := cells6 HZF.out
     exact bodyPost_ret (v := ndV z f3) (by simp [results, Try.results79, go_sem, ndV, Nd.kd, Nd.tx, Nd.nm, Nd.at_, Nd.ns, Nd.ks, leafN, fr0, nd0, g0, g1, g2, g3, g4, g5]) rfl (H71.out.done V_G71.out.node HBF.out)
    ·have HAD := Lib.hid (atom_adv E F (r := r) G_s3.out.lt E_bb.out)
     obtain ⟨y, s4, h_s4⟩ : ∃ y s4, atomF T r s3 = (y, s4) := ⟨_, _, rfl⟩
     have E_s4 := Lib.hid h_s4
     clear h_s4
     have G_s4 := Lib.hid (show Goes T s s4 from by have q := (G_s3.out.atom E F); rw [E_s4.out] at q; exact q)
     have HPL3 : Hid (appL T r m false (.mk 7 [] 0 z.at_ [] [z, y]) s4 = q) := by
      show _ = _
      have q1 := (if_neg (by decide)).symm.trans ((if_pos E_bb.out).symm.trans HPL.out)
      rw [E_s4.out] at q1; exact q1
     have HI2 : Hid (s3.i + 1 ≤ s4.i) := by have q1 := HAD.out; rw [E_s4.out] at q1; exact q1
     clear HPL HAD
     go_upto_region 20 with (fail)
     have C72 := Lib.hid (fun wx (h : PAt wx R g c T s3) => gives_eq E_s4.out (CA wx s3 h (by rw [G_s3.out.deep]; exact HD.out)))
     refine region_Z (fun W => Whole W G 25 (ndL z f3).toArray) (fun i => i == 7) (by kernel_rfl) V_G71.out.drew.X (fun hHeld => ?_)
     refine tke 0 rfl (v := ?_) ?_ ?_; rotate_left
     ·(intro w hSw; (try dsimp only at hSw); have u0 := hSw.cell 0; have u1 := hSw.cell 1; have u2 := hSw.cell 2; have u3 := hSw.cell 3; have u4 := hSw.cell 4; have u5 := hSw.cell 5; simp only [ndL, List.getElem?_toArray, List.getElem?_cons_zero, List.getElem?_cons_succ] at u0 u1 u2 u3 u4 u5; clear hSw; go_simp; try with_reducible rfl)
     (try simp only [Act.put, sZ])
     refine tke 1 rfl (v := ?_) ?_ ?_; rotate_left
     ·(intro w hSw; (try dsimp only at hSw); have u0 := hSw.cell 0; have u1 := hSw.cell 1; have u2 := hSw.cell 2; have u3 := hSw.cell 3; have u4 := hSw.cell 4; have u5 := hSw.cell 5; simp only [ndL, List.getElem?_toArray, List.getElem?_cons_zero, List.getElem?_cons_succ] at u0 u1 u2 u3 u4 u5; clear hSw; go_simp; try with_reducible rfl)
     (try simp only [Act.put, sZ])
     refine tke 2 rfl (v := ?_) ?_ ?_; rotate_left
     ·(intro w hSw; (try dsimp only at hSw); have u0 := hSw.cell 0; have u1 := hSw.cell 1; have u2 := hSw.cell 2; have u3 := hSw.cell 3; have u4 := hSw.cell 4; have u5 := hSw.cell 5; simp only [ndL, List.getElem?_toArray, List.getElem?_cons_zero, List.getElem?_cons_succ] at u0 u1 u2 u3 u4 u5; clear hSw; go_simp; try with_reducible rfl)
     (try simp only [Act.put, sZ])
     refine tke 3 rfl (v := ?_) ?_ ?_; rotate_left
     ·(intro w hSw; (try dsimp only at hSw); have u0 := hSw.cell 0; have u1 := hSw.cell 1; have u2 := hSw.cell 2; have u3 := hSw.cell 3; have u4 := hSw.cell 4; have u5 := hSw.cell 5; simp only [ndL, List.getElem?_toArray, List.getElem?_cons_zero, List.getElem?_cons_succ] at u0 u1 u2 u3 u4 u5; clear hSw; go_simp; try with_reducible rfl)
     (try simp only [Act.put, sZ])
     refine stp 4 rfl (fun K hK => ?_)
     go_simp
     go_at_call 80
     refine (C72.out _ H71.out.drew.p).mono ?_
     rintro e wc ⟨fy, rfl, hpc, ny, bc⟩
     have HC := Lib.hid (H71.out.drew.call hpc bc)
     have VC := Lib.hid (V_G71.out.drew.call H71.out.drew bc)
     have NY := Lib.hid (ny.new H71.out.drew V_G71.out.drew)
     clear hpc ny bc
     unfold ndV
     refine hK.out _ _ (fun _ => VC.out.X) (fun hHeld2 => ?_)
     replace hHeld2 := hHeld2 (by decide)
     clear hK K hHeld
     (try simp only [Act.put, sZ])
     refine stp 5 rfl (fun K hK => ?_)
     go_simp
     refine hK.out _ _ (fun _ => (VC.out.alloc (.cells #[.int .i64 z.kd, .string ⟨z.tx.toArray⟩, .int .i64 z.nm, .int .i64 (z.at_ : Int), .slice f3.na z.ns.length f3.nc, .slice f3.ka z.ks.length f3.kc, .int .i64 y.kd, .string ⟨y.tx.toArray⟩, .int .i64 y.nm, .int .i64 (y.at_ : Int), .slice fy.na y.ns.length fy.nc, .slice fy.ka y.ks.length fy.kc] 25)).X) (fun hHeld3 => ?_)
     replace hHeld3 := hHeld3 (by decide)
     clear hK K hHeld2
     (try simp only [Act.put, sZ])
     refine tke 6 rfl (v := ?_) ?_ ?_; rotate_left
     ·(intro w hSw; (try dsimp only at hSw); have u0 := hSw.cell 0; have u1 := hSw.cell 1; have u2 := hSw.cell 2; have u3 := hSw.cell 3; have u4 := hSw.cell 4; have u5 := hSw.cell 5; simp only [ndL, List.getElem?_toArray, List.getElem?_cons_zero, List.getElem?_cons_succ] at u0 u1 u2 u3 u4 u5; clear hSw; go_simp; try with_reducible rfl)
     (try simp only [Act.put, sZ])
     have VP : Var w (((((((wc.alloc (.cells #[.int .i64 z.kd, .string ⟨z.tx.toArray⟩, .int .i64 z.nm, .int .i64 (z.at_ : Int), .slice f3.na z.ns.length f3.nc, .slice f3.ka z.ks.length f3.kc, .int .i64 y.kd, .string ⟨y.tx.toArray⟩, .int .i64 y.nm, .int .i64 (y.at_ : Int), .slice fy.na y.ns.length fy.nc, .slice fy.ka y.ks.length fy.kc] 25)).setCell ⟨G, 0, none⟩ (.int .i64 7)).setCell ⟨G, 1, none⟩ (.string ⟨([] : List UInt8).toArray⟩)).setCell ⟨G, 2, none⟩ (.int .i64 0)).setCell ⟨G, 3, none⟩ (.int .i64 (z.at_ : Int))).setCell ⟨G, 4, none⟩ (.slice none 0 0)).setCell ⟨G, 5, none⟩ (.slice (some ⟨wc.heap.size, 0, none⟩) 2 2)) G (.mk 7 ([] : List UInt8) 0 z.at_ [] [z, y]) ⟨none, 0, some ⟨wc.heap.size, 0, none⟩, 2⟩ := (VC.out.pair HC.out NY.out 7 ([] : List UInt8) z.at_).1
     have V_G72 := Lib.hid VP
     have HP1 : St w (((((((wc.alloc (.cells #[.int .i64 z.kd, .string ⟨z.tx.toArray⟩, .int .i64 z.nm, .int .i64 (z.at_ : Int), .slice f3.na z.ns.length f3.nc, .slice f3.ka z.ks.length f3.kc, .int .i64 y.kd, .string ⟨y.tx.toArray⟩, .int .i64 y.nm, .int .i64 (y.at_ : Int), .slice fy.na y.ns.length fy.nc, .slice fy.ka y.ks.length fy.kc] 25)).setCell ⟨G, 0, none⟩ (.int .i64 7)).setCell ⟨G, 1, none⟩ (.string ⟨([] : List UInt8).toArray⟩)).setCell ⟨G, 2, none⟩ (.int .i64 0)).setCell ⟨G, 3, none⟩ (.int .i64 (z.at_ : Int))).setCell ⟨G, 4, none⟩ (.slice none 0 0)).setCell ⟨G, 5, none⟩ (.slice (some ⟨wc.heap.size, 0, none⟩) 2 2)) R g c T _ := (VC.out.pair HC.out NY.out 7 ([] : List UInt8) z.at_).2
     have H72 := Lib.hid HP1
     have VA : Var w (wc.alloc (.cells #[.int .i64 z.kd, .string ⟨z.tx.toArray⟩, .int .i64 z.nm, .int .i64 (z.at_ : Int), .slice f3.na z.ns.length f3.nc, .slice f3.ka z.ks.length f3.kc, .int .i64 y.kd, .string ⟨y.tx.toArray⟩, .int .i64 y.nm, .int .i64 (y.at_ : Int), .slice fy.na y.ns.length fy.nc, .slice fy.ka y.ks.length fy.kc] 25)) G z f3 := VC.out.alloc _
     clear VP HP1 VC HC NY hHeld3
     generalize wc.alloc (.cells #[.int .i64 z.kd, .string ⟨z.tx.toArray⟩, .int .i64 z.nm, .int .i64 (z.at_ : Int), .slice f3.na z.ns.length f3.nc, .slice f3.ka z.ks.length f3.kc, .int .i64 y.kd, .string ⟨y.tx.toArray⟩, .int .i64 y.nm, .int .i64 (y.at_ : Int), .slice fy.na y.ns.length fy.nc, .slice fy.ka y.ks.length fy.kc] 25) = wq at *
     have u0 := VA.X.cell 0
     have u1 := VA.X.cell 1
     have u2 := VA.X.cell 2
     have u3 := VA.X.cell 3
     have u4 := VA.X.cell 4
     have u5 := VA.X.cell 5
     have v0 := VA.X.free 0
     have v1 := VA.X.free 1
     have v2 := VA.X.free 2
     have v3 := VA.X.free 3
     have v4 := VA.X.free 4
     have v5 := VA.X.free 5
     simp only [ndL, List.getElem?_toArray, List.getElem?_cons_zero, List.getElem?_cons_succ] at u0 u1 u2 u3 u4 u5
     clear VA
     refine stp 7 rfl (fun K hK => ?_)
     go_simp
     refine hK.out _ _ (fun h => absurd h (by decide)) (fun _ => ?_)
     refine anyZ_done (by kernel_rfl) ?_ _
     clear hK K v0 v1 v2 v3 v4 v5 u0 u1 u2 u3 u4 u5
     obtain ⟨fw72, qf⟩ : ∃ f, (⟨none, 0, some ⟨wc.heap.size, 0, none⟩, 2⟩ : Fr) = f := ⟨_, rfl⟩
     rw [qf] at V_G72
     clear qf
     generalize ((((((wq.setCell ⟨G, 0, none⟩ (.int .i64 7)).setCell ⟨G, 1, none⟩ (.string ⟨([] : List UInt8).toArray⟩)).setCell ⟨G, 2, none⟩ (.int .i64 0)).setCell ⟨G, 3, none⟩ (.int .i64 (z.at_ : Int))).setCell ⟨G, 4, none⟩ (.slice none 0 0)).setCell ⟨G, 5, none⟩ (.slice (some ⟨wc.heap.size, 0, none⟩) 2 2)) = w72 at *
     clear C72 H71 V_G71
     go_wp2_with fail
     go_roundg m
     case measure => exact Nat.lt_succ_self _
     case rel => exact ⟨_, s4, _, by have := HI2.out; omega, HPL3.out, V_G72.out, H72.out, G_s4.out⟩
  ·obtain ⟨x1, x2⟩ := HCB.out rfl
   have hf : f = fr0 := N_x52.out.nil x1 x2
   subst hf
   clear HCB N_x52
   have H73 := Lib.hid (H52.out.alloc (.cells #[.int .i64 x.kd, .string ⟨x.tx.toArray⟩, .int .i64 x.nm, .int .i64 (x.at_ : Int), .slice fr0.na x.ns.length fr0.nc, .slice fr0.ka x.ks.length fr0.kc] 25))
   have B_G73 : Hid (Box (w52.alloc (.cells #[.int .i64 x.kd, .string ⟨x.tx.toArray⟩, .int .i64 x.nm, .int .i64 (x.at_ : Int), .slice fr0.na x.ns.length fr0.nc, .slice fr0.ka x.ks.length fr0.kc] 25)) w52.heap.size (w.heap.size + 1) x fr0 []) := Box.made w52 (base := w.heap.size + 1) (x := x) H52.out.size x1 x2
   have hx0 := Lib.hid (show x.ks.length = 0 by rw [x2]; rfl)
   clear x1 x2
   go_upto_block 2 with (fail)
   generalize w52.alloc (.cells #[.int .i64 x.kd, .string ⟨x.tx.toArray⟩, .int .i64 x.nm, .int .i64 (x.at_ : Int), .slice fr0.na x.ns.length fr0.nc, .slice fr0.ka x.ks.length fr0.kc] 25) = w73 at *
   generalize w52.heap.size = G at *
   clear H52
   go_wp2_with fail
   go_loopg [11] (T.length + 1) (fun gk mo wr => ∃ z s3 f3 fs3, T.length + 1 ≤ gk + s3.i ∧ appL T r gk true z s3 = q ∧ z.ks.length ≤ 4 ∧ Box wr G (w.heap.size + 1) z f3 fs3 ∧ St w wr R g c T s3 ∧ Goes T s s3)
   case atStart => exact ⟨x, s2, fr0, [], by omega, HQ2.out, by have := hx0.out; omega, B_G73.out, H73.out, G_s2.out⟩
   case round =>
    obtain ⟨z, s3, f3, fs3, hz, hpl, hz4, hbx, hst, hgo⟩ := hrel
    obtain ⟨m, rfl⟩ : ∃ m, gk = m + 1 := ⟨gk - 1, by have := hgo.lt; omega⟩
    have VX := Lib.hid hbx
    have HS := Lib.hid hst
    have G_s3 := Lib.hid hgo
    have HPL := Lib.hid (show (if beginsF T s3 = true then
      if true = true then
       if z.ks.length = 4 then (z, failF T s3 16)
       else appL T r m true (z.add (atomF T r s3).1) (atomF T r s3).2
      else appL T r m true (.mk 7 [] 0 z.at_ [] [z, (atomF T r s3).1]) (atomF T r s3).2
     else (z, s3)) = q from hpl)
    clear hbx hst hgo hpl HQ2 B_G73 H73
    obtain ⟨bb, h_bb⟩ : ∃ bb, beginsF T s3 = bb := ⟨_, rfl⟩
    have E_bb := Lib.hid h_bb
    clear h_bb
    go_wp2_with fail
    refine (begins_eq E_bb.out HS.out.p).mono ?_
    rintro e w71 ⟨rfl, b71⟩
    have H71 := Lib.hid (HS.out.read b71)
    have B_G71 := Lib.hid (VX.out.below b71 (Nat.le_refl _))
    clear b71 HS VX
    rcases bb with _ | _
    ·have hr := (if_neg (by rw [E_bb.out]; decide)).symm.trans HPL.out
     subst hr
     clear HPL
     obtain ⟨t0, t1, t2, t3, t4, t5⟩ := nodeC (B_G71.out.box)
     obtain ⟨z0, z1, z2, z3, z4, z5⟩ := zeroC (H71.out.z)
     obtain ⟨y0, y1, y2, y3, y4, y5⟩ := freeC (H71.out.z)
     go_wp2_with fail
     obtain ⟨wf, HZF, HBF, hwf⟩ := endsN (H71.out.z) z f3
     rw [hwf]
     clear hwf
     obtain ⟨g0, g1, g2, g3, g4, g5⟩ := cells6 HZF.out
     exact bodyPost_ret (v := ndV z f3) (by simp [results, Try.results79, go_sem, ndV, Nd.kd, Nd.tx, Nd.nm, Nd.at_, Nd.ns, Nd.ks, leafN, fr0, nd0, g0, g1, g2, g3, g4, g5]) rfl (H71.out.done B_G71.out.var.node HBF.out)
    ·have HAD := Lib.hid (atom_adv E F (r := r) G_s3.out.lt E_bb.out)
     obtain ⟨y, s4, h_s4⟩ : ∃ y s4, atomF T r s3 = (y, s4) := ⟨_, _, rfl⟩
     have E_s4 := Lib.hid h_s4
     clear h_s4
     have G_s4 := Lib.hid (show Goes T s s4 from by have q := (G_s3.out.atom E F); rw [E_s4.out] at q; exact q)
     have HPL2 := Lib.hid ((if_pos (by trivial)).symm.trans ((if_pos E_bb.out).symm.trans HPL.out))
     clear HPL
     have d5 := B_G71.out.c5
     go_upto_region 21 with (fail)
     obtain ⟨lb, ql⟩ : ∃ lb, ((z.ks.length : Int) == 4) = lb := ⟨_, rfl⟩
     rcases lb with _ | _
     ·have HPL3 : Hid (appL T r m true (z.add y) s4 = q) := by
       show _ = _
       have q1 := (if_neg (fun h => beq_eq_false_iff_ne.1 ql (by omega))).symm.trans HPL2.out
       rw [E_s4.out] at q1; exact q1
      have HI2 : Hid (s3.i + 1 ≤ s4.i) := by have q1 := HAD.out; rw [E_s4.out] at q1; exact q1
      have hz6 : z.ks.length ≤ 3 := by have := beq_eq_false_iff_ne.1 ql; omega
      clear HPL2 HAD
      go_upto_region 24 with (fail)
      clear d5
      have C72 := Lib.hid (fun wx (h : PAt wx R g c T s3) => gives_eq E_s4.out (CA wx s3 h (by rw [G_s3.out.deep]; exact HD.out)))
      refine region_Z (fun W => W.cell? ⟨G, 5, none⟩ = some (.slice f3.ka z.ks.length f3.kc)) (fun i => i == 7) (by kernel_rfl) B_G71.out.drew.c5 (fun hHeld => ?_)
      refine tke 0 rfl (v := ?_) ?_ ?_; rotate_left
      ·(intro w hSw; (try dsimp only at hSw); go_simp; try with_reducible rfl)
      (try simp only [Act.put, sZ])
      refine tke 1 rfl (v := ?_) ?_ ?_; rotate_left
      ·(intro w hSw; (try dsimp only at hSw); go_simp; try with_reducible rfl)
      (try simp only [Act.put, sZ])
      refine tke 2 rfl (v := ?_) ?_ ?_; rotate_left
      ·(intro w hSw; (try dsimp only at hSw); go_simp; try with_reducible rfl)
      (try simp only [Act.put, sZ])
      refine stp 3 rfl (fun K hK => ?_)
      go_simp
      go_at_call 80
      refine (C72.out _ H71.out.drew.p).mono ?_
      rintro e wc ⟨fy, rfl, hpc, ny, bc⟩
      have HC := Lib.hid (H71.out.drew.call hpc bc)
      have BC := Lib.hid (B_G71.out.drew.but bc (Nat.le_refl _) (by have := H71.out.r; omega))
      have NY : Hid (NodeIn wc (fun a => w71.heap.size ≤ a) y fy) := ny
      clear hpc ny bc
      unfold ndV
      refine hK.out _ _ (fun _ => BC.out.c5) (fun hHeld2 => ?_)
      clear hK K hHeld
      (try simp only [Act.put, sZ])
      refine stp 4 rfl (fun K hK => ?_)
      go_simp
      refine hK.out _ _ (fun _ => (BC.out.alloc _).c5) (fun hHeld3 => ?_)
      clear hK K hHeld2
      (try simp only [Act.put, sZ])
      refine stp 5 rfl (fun K hK => ?_)
      refine step_app ty_nd (v := .slice f3.ka z.ks.length f3.kc) (by rfl) _ _ (by rfl) (by rfl) (BC.out.alloc _).kid wc.heap.size 1 (ndL y fy) (by rfl) (Whole.made wc 25 _) (by rfl) (by simp [ndL, Value.oneCell']) (by decide) (by omega) (by decide) (by have := HC.out.size; simp; omega) ?_
      intro gv cv wd hap
      have HD := Lib.hid ((HC.out.alloc (.cells (ndL y fy).toArray 25)).low (hap.below (BC.out.alloc (.cells (ndL y fy).toArray 25)).kid (Below.refl _ _) (Nat.le_refl _) (by have := HC.out.size; simp; omega)))
      have BN0 := Lib.hid ((BC.out.alloc (.cells (ndL y fy).toArray 25)).app (B := w71.heap.size) B_G71.out.lt B_G71.out.nlt B_G71.out.klt (NY.out.alloc _) hap)
      have XD := Lib.hid (hap.far (BC.out.alloc (.cells (ndL y fy).toArray 25)).box (row_ne (BC.out.alloc (.cells (ndL y fy).toArray 25)).kid BC.out.kN))
      have z5 : wd.cell? ⟨G, 5, none⟩ = some (.slice f3.ka z.ks.length f3.kc) := XD.out.cell 5
      have y5 := XD.out.free 5
      refine hK.out _ _ (fun _ => z5) (fun hHeld4 => ?_)
      replace hHeld4 := hHeld4 (by decide)
      clear hK K hHeld3 hap
      (try simp only [Act.put, sZ])
      refine tke 6 rfl (v := ?_) ?_ ?_; rotate_left
      ·(intro w hSw; (try dsimp only at hSw); go_simp; try with_reducible rfl)
      (try simp only [Act.put, sZ])
      refine stp 7 rfl (fun K hK => ?_)
      go_simp
      refine hK.out _ _ (fun h => absurd h (by decide)) (fun _ => ?_)
      refine anyZ_done (by kernel_rfl) ?_ _
      have H72 := Lib.hid (HD.out.own (p := ⟨G, 5, none⟩) (Nat.lt_of_succ_le B_G71.out.lo) (.slice (some ⟨gv, 0, none⟩) (z.ks.length + 1) cv))
      obtain ⟨f72, fs72, BN1⟩ : ∃ f2 fs2, Box (wd.setCell ⟨G, 5, none⟩ (.slice (some ⟨gv, 0, none⟩) (z.ks.length + 1) cv)) G (w.heap.size + 1) (z.add y) f2 fs2 := ⟨_, _, BN0.out⟩
      have B_G72 := Lib.hid BN1
      clear hK K hHeld4 z5 y5 XD BN0 BN1 HD BC HC NY
      generalize wd.setCell ⟨G, 5, none⟩ (.slice (some ⟨gv, 0, none⟩) (z.ks.length + 1) cv) = w72 at *
      clear C72 H71 B_G71
      go_wp2_with fail
      go_roundg m
      case measure => exact Nat.lt_succ_self _
      case rel => exact ⟨_, s4, f72, fs72, by have := HI2.out; omega, HPL3.out, by rw [add_ks]; simp; omega, B_G72.out, H72.out, G_s4.out⟩
     ·obtain ⟨s5, h_s5⟩ : ∃ s5, failF T s3 16 = s5 := ⟨_, rfl⟩
      have E_s5 := Lib.hid h_s5
      clear h_s5
      have hr := (if_pos (by have := beq_iff_eq.1 ql; omega)).symm.trans HPL2.out
      rw [E_s5.out] at hr
      subst hr
      clear HPL2 HAD
      go_upto_region 22 with (fail)
      clear d5
      go_wp2_with fail
      refine (fail_eq E_s5.out H71.out.p).mono ?_
      rintro e w73 ⟨rfl, h73, b73⟩
      have H73 := Lib.hid (H71.out.call h73 b73)
      have B_G73 := Lib.hid (B_G71.out.but b73 (Nat.le_refl _) (by have := H71.out.r; omega))
      clear h73 b73 H71 B_G71
      obtain ⟨t0, t1, t2, t3, t4, t5⟩ := nodeC (B_G73.out.box)
      obtain ⟨z0, z1, z2, z3, z4, z5⟩ := zeroC (H73.out.z)
      obtain ⟨y0, y1, y2, y3, y4, y5⟩ := freeC (H73.out.z)
      go_wp2_with fail
      obtain ⟨wf, HZF, HBF, hwf⟩ := endsN (H73.out.z) z f3
      rw [hwf]
      clear hwf
      obtain ⟨g0, g1, g2, g3, g4, g5⟩ := cells6 HZF.out
      exact bodyPost_ret (v := ndV z f3) (by simp [results, Try.results79, go_sem, ndV, Nd.kd, Nd.tx, Nd.nm, Nd.at_, Nd.ns, Nd.ks, leafN, fr0, nd0, g0, g1, g2, g3, g4, g5]) rfl (H73.out.done B_G73.out.var.node HBF.out)
end Go.Proofs.Ytgjchgmlogbmmaa
