import Derived.Test.YtgjchgmlogbmmaaN11
/- The walks of layer 5, the document's: what is put to what. -/
namespace Go.Proofs.Ytgjchgmlogbmmaa
open Go.RowKit
set_option linter.unusedVariables false
set_option linter.unusedSimpArgs false
attribute [local go_sem ↓] Go.wp_at_zero Go.wp_at_succ

set_option maxRecDepth 100000 in
set_option maxHeartbeats 16000000 in
theorem app_any (w : World) (R g c : Nat) (T : List Tok) (r : Rec) (n : Nat) (s : PS) (E : Ends T) (F : Fine T r) (CA : ∀ (w : World) (s : PS), PAt w R g c T s → 41 ≤ s.deep + n → Calls Try.prog 80 #[.pointer (some ⟨R, 0, none⟩)] w (Gives w R g c T (atomF T r s))) (hp : PAt w R g c T s) (hd : 41 ≤ s.deep + n) :
    Calls Try.prog 79 #[.pointer (some ⟨R, 0, none⟩)] w (Gives w R g c T (appF T r s)) := by
  have H0 := Lib.hid (St.start hp)
  have HD := Lib.hid hd
  have HL := Lib.hid hp.lt
  have G_s := Lib.hid (Goes.refl hp.lt)
  clear hp hd
  obtain ⟨q, hq⟩ : ∃ q, appF T r s = q := ⟨_, rfl⟩
  rw [hq]
  have HQ := Lib.hid hq
  clear hq
  go_enter Try.func79, Try.ntmps79
  go_upto_region 1 with (fail)
  generalize w.alloc (.cells zZ 25) = w1 at *
  have S_KB : Hid (w.heap.size < w1.heap.size) := H0.out.size
  have H2 := Lib.hid (H0.out.alloc (.cells #[.string ⟨#[112, 114, 105, 110, 116]⟩, .string ⟨#[114, 97, 105, 115, 101]⟩, .string ⟨#[115, 112, 97, 119, 110]⟩, .string ⟨#[97, 116, 111, 109, 105, 99, 97, 108, 108, 121]⟩, .string ⟨#[116, 118, 97, 114]⟩, .string ⟨#[114, 101, 97, 100]⟩, .string ⟨#[119, 114, 105, 116, 101]⟩, .string ⟨#[111, 114, 101, 108, 115, 101]⟩] 9))
  have X_KB2 : Hid (Whole (w1.alloc (.cells #[.string ⟨#[112, 114, 105, 110, 116]⟩, .string ⟨#[114, 97, 105, 115, 101]⟩, .string ⟨#[115, 112, 97, 119, 110]⟩, .string ⟨#[97, 116, 111, 109, 105, 99, 97, 108, 108, 121]⟩, .string ⟨#[116, 118, 97, 114]⟩, .string ⟨#[114, 101, 97, 100]⟩, .string ⟨#[119, 114, 105, 116, 101]⟩, .string ⟨#[111, 114, 101, 108, 115, 101]⟩] 9)) w1.heap.size 9 #[.string ⟨#[112, 114, 105, 110, 116]⟩, .string ⟨#[114, 97, 105, 115, 101]⟩, .string ⟨#[115, 112, 97, 119, 110]⟩, .string ⟨#[97, 116, 111, 109, 105, 99, 97, 108, 108, 121]⟩, .string ⟨#[116, 118, 97, 114]⟩, .string ⟨#[114, 101, 97, 100]⟩, .string ⟨#[119, 114, 105, 116, 101]⟩, .string ⟨#[111, 114, 101, 108, 115, 101]⟩]) := Whole.made _ _ _
  go_upto_region 2 with (fail)
  generalize w1.alloc (.cells #[.string ⟨#[112, 114, 105, 110, 116]⟩, .string ⟨#[114, 97, 105, 115, 101]⟩, .string ⟨#[115, 112, 97, 119, 110]⟩, .string ⟨#[97, 116, 111, 109, 105, 99, 97, 108, 108, 121]⟩, .string ⟨#[116, 118, 97, 114]⟩, .string ⟨#[114, 101, 97, 100]⟩, .string ⟨#[119, 114, 105, 116, 101]⟩, .string ⟨#[111, 114, 101, 108, 115, 101]⟩] 9) = w2 at *
  generalize w1.heap.size = KB at *
  clear H0
  have S_CB : Hid (w.heap.size < w2.heap.size) := H2.out.size
  have H3 := Lib.hid (H2.out.alloc (.cells #[.int .i64 15, .int .i64 16, .int .i64 17, .int .i64 18, .int .i64 21, .int .i64 22, .int .i64 23, .int .i64 20] 3))
  have X_KB3 := Lib.hid (X_KB2.out.alloc (.cells #[.int .i64 15, .int .i64 16, .int .i64 17, .int .i64 18, .int .i64 21, .int .i64 22, .int .i64 23, .int .i64 20] 3))
  have X_CB3 : Hid (Whole (w2.alloc (.cells #[.int .i64 15, .int .i64 16, .int .i64 17, .int .i64 18, .int .i64 21, .int .i64 22, .int .i64 23, .int .i64 20] 3)) w2.heap.size 3 #[.int .i64 15, .int .i64 16, .int .i64 17, .int .i64 18, .int .i64 21, .int .i64 22, .int .i64 23, .int .i64 20]) := Whole.made _ _ _
  go_upto_block 0 with (fail)
  generalize w2.alloc (.cells #[.int .i64 15, .int .i64 16, .int .i64 17, .int .i64 18, .int .i64 21, .int .i64 22, .int .i64 23, .int .i64 20] 3) = w3 at *
  generalize w2.heap.size = CB at *
  clear H2 X_KB2
  have HAL : Hid (∀ j : Nat, j < 0 → isF T s (appKeys.getD j []) = false) := fun j hj => absurd hj (Nat.not_lt_zero j)
  go_cut [5] (fun _ wx => keyN T s = 8 ∧ St w wx R g c T s)
  case first =>
    go_wp2_with fail
    go_loopg [5] 9 (fun gk ki wr => ∃ i : Nat, ki = .int .i64 (i : Int) ∧ i + gk = 9 ∧ i ≤ 8 ∧ (∀ j, j < i → isF T s (appKeys.getD j []) = false) ∧ St w wr R g c T s ∧ Whole wr KB 9 #[.string ⟨#[112, 114, 105, 110, 116]⟩, .string ⟨#[114, 97, 105, 115, 101]⟩, .string ⟨#[115, 112, 97, 119, 110]⟩, .string ⟨#[97, 116, 111, 109, 105, 99, 97, 108, 108, 121]⟩, .string ⟨#[116, 118, 97, 114]⟩, .string ⟨#[114, 101, 97, 100]⟩, .string ⟨#[119, 114, 105, 116, 101]⟩, .string ⟨#[111, 114, 101, 108, 115, 101]⟩] ∧ Whole wr CB 3 #[.int .i64 15, .int .i64 16, .int .i64 17, .int .i64 18, .int .i64 21, .int .i64 22, .int .i64 23, .int .i64 20])
    case atStart => exact ⟨0, rfl, rfl, Nat.zero_le _, HAL.out, H3.out, X_KB3.out, X_CB3.out⟩
    case round =>
      obtain ⟨i, rfl, hz, hi8, hall, hst, hxk, hxc⟩ := hrel
      have HS := Lib.hid hst
      have XK := Lib.hid hxk
      have XC := Lib.hid hxc
      have HALL := Lib.hid hall
      clear hst hxk hxc hall HAL H3 X_KB3 X_CB3
      obtain ⟨m, rfl⟩ : ∃ m, gk = m + 1 := ⟨gk - 1, by omega⟩
      rcases Nat.lt_or_ge i 8 with hi | hi
      · have hi2 : (i : Int) < 8 := by omega
        obtain ⟨key, hkey⟩ : ∃ key, appKeys.getD i [] = key := ⟨_, rfl⟩
        have kc : wr.cell? ⟨KB, i, none⟩ = some (.string ⟨key.toArray⟩) := by rw [← hkey]; exact (XK.out.cell i).trans (keys_get hi)
        have HKY := Lib.hid hkey
        clear hkey
        obtain ⟨b, h_b⟩ : ∃ b, isF T s key = b := ⟨_, rfl⟩
        have E_b := Lib.hid h_b
        clear h_b
        go_upto_region 6 with (fail)
        go_wp2_with fail
        refine (is_eq E_b.out HS.out.p).mono ?_
        rintro e w21 ⟨rfl, b21⟩
        have H21 := Lib.hid (HS.out.read b21)
        have X_KB21 := Lib.hid (XK.out.call HS.out S_KB.out (.of_below b21))
        have X_CB21 := Lib.hid (XC.out.call HS.out S_CB.out (.of_below b21))
        clear b21 HS XK XC
        rcases b with _ | _
        · clear kc
          have HALL2 : Hid (∀ j, j < i + 1 → isF T s (appKeys.getD j []) = false) := fun j hj => by
            rcases Nat.lt_or_ge j i with h | h
            · exact HALL.out j h
            · have e : j = i := by omega
              rw [e, HKY.out]; exact E_b.out
          clear HALL
          go_wp2_with fail
          go_roundg m
          case measure => exact Nat.lt_succ_self _
          case rel => exact ⟨i + 1, by first | rfl | (simp), by omega, by omega, HALL2.out, H21.out, X_KB21.out, X_CB21.out⟩
        · have hkn : keyN T s = i := key_at hi HALL.out (by rw [HKY.out]; exact E_b.out)
          have HKN := Lib.hid hkn
          obtain ⟨kk, hkk⟩ : ∃ kk, appKinds.getD i 0 = kk := ⟨_, rfl⟩
          have HKK := Lib.hid hkk
          clear hkn hkk kc HALL HKY
          obtain ⟨t, h_t⟩ : ∃ t, stepT T s = t := ⟨_, rfl⟩
          have E_t := Lib.hid h_t
          clear h_t
          obtain ⟨s1, h_s1⟩ : ∃ s1, stepF T s = s1 := ⟨_, rfl⟩
          have E_s1 := Lib.hid h_s1
          clear h_s1
          have G_s1 := Lib.hid (show Goes T s s1 from by have q := (goes_step E HL.out); rw [E_s1.out] at q; exact q)
          obtain ⟨x, s2, h_s2⟩ : ∃ x s2, atomF T r s1 = (x, s2) := ⟨_, _, rfl⟩
          have E_s2 := Lib.hid h_s2
          clear h_s2
          have G_s2 := Lib.hid (show Goes T s s2 from by have q := (G_s1.out.atom E F); rw [E_s2.out] at q; exact q)
          go_upto_region 8 with (fail)
          go_wp2_with fail
          refine (step_eq E E_t.out E_s1.out H21.out.p).mono ?_
          rintro e w22 ⟨rfl, h22, b22⟩
          have H22 := Lib.hid (H21.out.call h22 b22)
          have X_CB22 := Lib.hid (X_CB21.out.call H21.out S_CB.out b22)
          clear h22 b22 H21 X_CB21
          unfold tokV
          have S_K : Hid (w.heap.size < w22.heap.size) := H22.out.size
          have H23 := Lib.hid (H22.out.alloc (.cells #[.int .i64 t.kind, .string ⟨t.text.toArray⟩, .int .i64 t.num, .int .i64 (t.at_ : Int)] 67))
          have X_CB23 := Lib.hid (X_CB22.out.alloc (.cells #[.int .i64 t.kind, .string ⟨t.text.toArray⟩, .int .i64 t.num, .int .i64 (t.at_ : Int)] 67))
          have X_K23 : Hid (Whole (w22.alloc (.cells #[.int .i64 t.kind, .string ⟨t.text.toArray⟩, .int .i64 t.num, .int .i64 (t.at_ : Int)] 67)) w22.heap.size 67 #[.int .i64 t.kind, .string ⟨t.text.toArray⟩, .int .i64 t.num, .int .i64 (t.at_ : Int)]) := Whole.made _ _ _
          go_upto_region 9 with (fail)
          generalize w22.alloc (.cells #[.int .i64 t.kind, .string ⟨t.text.toArray⟩, .int .i64 t.num, .int .i64 (t.at_ : Int)] 67) = w23 at *
          generalize w22.heap.size = K at *
          clear H22 X_CB22
          have e1 : w23.cell? ⟨CB, i, none⟩ = some (.int .i64 kk) := by rw [← HKK.out]; exact (X_CB23.out.cell i).trans (kinds_get hi)
          have e3 : w23.cell? ⟨K, 3, none⟩ = some (.int .i64 (t.at_ : Int)) := X_K23.out.cell 3
          have e4 : (w23.alloc (.cells zZ 25)).cell? ⟨CB, i, none⟩ = some (.int .i64 kk) := by rw [← HKK.out]; exact ((X_CB23.out.alloc _).cell i).trans (kinds_get hi)
          have e5 : (w23.alloc (.cells zZ 25)).cell? ⟨K, 3, none⟩ = some (.int .i64 (t.at_ : Int)) := (X_K23.out.alloc _).cell 3
          have HE := Lib.hid (And.intro e1 e3)
          have HE2 := Lib.hid (And.intro e4 e5)
          clear e1 e3 e4 e5
          refine region_Z (fun W => W.cell? ⟨CB, i, none⟩ = some (.int .i64 kk) ∧ W.cell? ⟨K, 3, none⟩ = some (.int .i64 (t.at_ : Int))) (fun i => i == 8) (by kernel_rfl) HE.out (fun hHeld => ?_)
          ztk 0 9
          · (intro w hSw; (try dsimp only at hSw); obtain ⟨hS1, hS2⟩ := hSw; go_simp; try with_reducible rfl)
          zput
          ztk 1 9
          · (intro w hSw; (try dsimp only at hSw); obtain ⟨hS1, hS2⟩ := hSw; go_simp; try with_reducible rfl)
          zput
          ztk 2 9
          · (intro w hSw; (try dsimp only at hSw); obtain ⟨hS1, hS2⟩ := hSw; go_simp; try with_reducible rfl)
          zput
          ztk 3 9
          · (intro w hSw; (try dsimp only at hSw); obtain ⟨hS1, hS2⟩ := hSw; go_simp; try with_reducible rfl)
          zput
          ztk 4 9
          · (intro w hSw; (try dsimp only at hSw); obtain ⟨hS1, hS2⟩ := hSw; go_simp; try with_reducible rfl)
          zput
          ztk 5 9
          · (intro w hSw; (try dsimp only at hSw); obtain ⟨hS1, hS2⟩ := hSw; go_simp; try with_reducible rfl)
          zput
          ztk 6 9
          · (intro w hSw; (try dsimp only at hSw); obtain ⟨hS1, hS2⟩ := hSw; go_simp; try with_reducible rfl)
          zput
          zstep 7
          go_simp
          refine hK.out _ _ (fun _ => HE2.out) (fun hHeld2 => ?_)
          clear hK K hHeld hHeld2
          zput
          have H24 := Lib.hid (H23.out.alloc (.cells #[.int .i64 kk, .string ⟨#[]⟩, .int .i64 0, .int .i64 (t.at_ : Int), .slice none 0 0, .slice none 0 0] 25)).drew
          have S_G : Hid (w.heap.size < w23.heap.size) := H23.out.size
          have B_G24 : Hid (Box (w23.alloc (.cells #[.int .i64 kk, .string ⟨#[]⟩, .int .i64 0, .int .i64 (t.at_ : Int), .slice none 0 0, .slice none 0 0] 25)).drew w23.heap.size (w.heap.size + 1) (Nd.mk kk [] 0 t.at_ [] []) fr0 []) := (Box.made w23 (base := w.heap.size + 1) (x := (Nd.mk kk [] 0 t.at_ [] [])) H23.out.size rfl rfl).drew
          zstep 8
          go_simp
          zgoz
          zdone
          clear hK K HE HE2 X_CB23 X_K23 H23
          generalize (w23.alloc (.cells #[.int .i64 kk, .string ⟨#[]⟩, .int .i64 0, .int .i64 (t.at_ : Int), .slice none 0 0, .slice none 0 0] 25)).drew = w24 at *
          generalize w23.heap.size = G at *
          obtain ⟨zz0, h_zz0⟩ : ∃ z9, (Nd.mk kk [] 0 t.at_ [] []) = z9 := ⟨_, rfl⟩
          rw [h_zz0] at B_G24
          have Z_zz0 := Lib.hid h_zz0
          clear h_zz0
          go_upto_region 10 with (fail)
          have l0 : zz0.ks.length ≤ 5 := by rw [← Z_zz0.out]; exact Nat.zero_le 5
          have C25 := Lib.hid (fun wx (h : PAt wx R g c T s1) => gives_eq E_s2.out (CA wx s1 h (by rw [G_s1.out.deep]; exact HD.out)))
          refine region_Z (fun W => W.cell? ⟨G, 5, none⟩ = some (.slice fr0.ka zz0.ks.length fr0.kc)) (fun i => i == 7) (by kernel_rfl) B_G24.out.drew.c5 (fun hHeld => ?_)
          ztake 0 8
          ztake 1 8
          ztake 2 8
          zstep 3
          go_simp
          go_at_call 80
          refine (C25.out _ H24.out.drew.p).mono ?_
          rintro e wc ⟨fy, rfl, hpc, ny, bc⟩
          have HC := Lib.hid (H24.out.drew.call hpc bc)
          have BC := Lib.hid (B_G24.out.drew.but bc (Nat.le_refl _) (by have := H24.out.r; omega))
          have NY : Hid (NodeIn wc (fun a => w24.heap.size ≤ a) x fy) := ny
          clear hpc ny bc
          unfold ndV
          refine hK.out _ _ (fun _ => BC.out.c5) (fun hHeld2 => ?_)
          clear hK K hHeld
          zput
          zstep 4
          go_simp
          refine hK.out _ _ (fun _ => (BC.out.alloc _).c5) (fun hHeld3 => ?_)
          clear hK K hHeld2
          zput
          zstep 5
          refine step_app ty_nd (v := .slice fr0.ka zz0.ks.length fr0.kc) (by rfl) _ _ (by rfl) (by rfl) (BC.out.alloc _).kid wc.heap.size 1 (ndL x fy) (by rfl) (Whole.made wc 25 _) (by rfl) (by simp [ndL, Value.oneCell']) (by decide) (by omega) (by decide) (by have := HC.out.size; simp; omega) ?_
          intro gv cv wd hap
          have HD := Lib.hid ((HC.out.alloc (.cells (ndL x fy).toArray 25)).low (hap.below (BC.out.alloc (.cells (ndL x fy).toArray 25)).kid (Below.refl _ _) (Nat.le_refl _) (by have := HC.out.size; simp; omega)))
          have BN0 := Lib.hid ((BC.out.alloc (.cells (ndL x fy).toArray 25)).app (B := w24.heap.size) B_G24.out.lt B_G24.out.nlt B_G24.out.klt (NY.out.alloc _) hap)
          have XD := Lib.hid (hap.far (BC.out.alloc (.cells (ndL x fy).toArray 25)).box (row_ne (BC.out.alloc (.cells (ndL x fy).toArray 25)).kid BC.out.kN))
          have z5 : wd.cell? ⟨G, 5, none⟩ = some (.slice fr0.ka zz0.ks.length fr0.kc) := XD.out.cell 5
          have y5 := XD.out.free 5
          refine hK.out _ _ (fun _ => z5) (fun hHeld4 => ?_)
          replace hHeld4 := hHeld4 (by decide)
          clear hK K hHeld3 hap
          zput
          ztake 6 8
          zstep 7
          go_simp
          zgoz
          zdone
          have H25 := Lib.hid (HD.out.own (p := ⟨G, 5, none⟩) (Nat.lt_of_succ_le B_G24.out.lo) (.slice (some ⟨gv, 0, none⟩) (zz0.ks.length + 1) cv))
          obtain ⟨f25, fs25, BN1⟩ : ∃ f2 fs2, Box (wd.setCell ⟨G, 5, none⟩ (.slice (some ⟨gv, 0, none⟩) (zz0.ks.length + 1) cv)) G (w.heap.size + 1) (zz0.add x) f2 fs2 := ⟨_, _, BN0.out⟩
          have B_G25 := Lib.hid BN1
          clear hK K hHeld4 z5 y5 XD BN0 BN1 HD BC HC NY
          generalize wd.setCell ⟨G, 5, none⟩ (.slice (some ⟨gv, 0, none⟩) (zz0.ks.length + 1) cv) = w25 at *
          clear C25 H24 B_G24
          obtain ⟨zz1, h_zz1⟩ : ∃ z9, (zz0.add x) = z9 := ⟨_, rfl⟩
          rw [h_zz1] at B_G25
          have Z_zz1 := Lib.hid h_zz1
          clear h_zz1
          rcases Nat.lt_or_ge i 6 with h6 | h6
          · have h62 : (i : Int) < 6 := by omega
            have hq : (zz1, s2) = q := by
              rw [← HQ.out, ← Z_zz1.out, ← Z_zz0.out]; unfold appF; rw [HKN.out, if_pos hi, if_neg (by omega), HKK.out, E_t.out, E_s1.out, E_s2.out]
            subst hq
            clear HQ l0 h6
            have t0 : w25.cell? ⟨G, 0, none⟩ = some (.int .i64 zz1.kd) := B_G25.out.box.cell 0
            have t1 : w25.cell? ⟨G, 1, none⟩ = some (.string ⟨zz1.tx.toArray⟩) := B_G25.out.box.cell 1
            have t2 : w25.cell? ⟨G, 2, none⟩ = some (.int .i64 zz1.nm) := B_G25.out.box.cell 2
            have t3 : w25.cell? ⟨G, 3, none⟩ = some (.int .i64 (zz1.at_ : Int)) := B_G25.out.box.cell 3
            have t4 : w25.cell? ⟨G, 4, none⟩ = some (.slice f25.na zz1.ns.length f25.nc) := B_G25.out.box.cell 4
            have t5 : w25.cell? ⟨G, 5, none⟩ = some (.slice f25.ka zz1.ks.length f25.kc) := B_G25.out.box.cell 5
            zzero w25 (w.heap.size) (H25.out.z)
            zfree (H25.out.z)
            go_wp2_with fail
            have HZF : Hid (Whole (zP(w25, w.heap.size, zz1, f25)) w.heap.size 25 zN(zz1, f25)) := put6 H25.out.z _ _ _ _ _ _
            have HBF : Hid (But w.heap.size w25.heap.size w25 (zP(w25, w.heap.size, zz1, f25))) := but6 _ _ _ _ _ _ _ _
            generalize (zP(w25, w.heap.size, zz1, f25)) = wf at *
            gcells
            exact bodyPost_ret (v := ndV zz1 f25) (by simp [results, Try.results79, go_sem, ndV, Nd.kd, Nd.tx, Nd.nm, Nd.at_, Nd.ns, Nd.ks, leafN, fr0, nd0, g0, g1, g2, g3, g4, g5]) rfl (H25.out.done B_G25.out.var.node HBF.out)
          · obtain ⟨y, s3, h_s3⟩ : ∃ y s3, atomF T r s2 = (y, s3) := ⟨_, _, rfl⟩
            have E_s3 := Lib.hid h_s3
            clear h_s3
            have h62 : (6 : Int) ≤ i := by omega
            have l1 : zz1.ks.length ≤ 5 := by rw [← Z_zz1.out, add_ks, ← Z_zz0.out]; simp [Nd.ks]
            go_upto_region 12 with (fail)
            have C26 := Lib.hid (fun wx (h : PAt wx R g c T s2) => gives_eq E_s3.out (CA wx s2 h (by rw [G_s2.out.deep]; exact HD.out)))
            refine region_Z (fun W => W.cell? ⟨G, 5, none⟩ = some (.slice f25.ka zz1.ks.length f25.kc)) (fun i => i == 7) (by kernel_rfl) B_G25.out.drew.c5 (fun hHeld => ?_)
            ztake 0 8
            ztake 1 8
            ztake 2 8
            zstep 3
            go_simp
            go_at_call 80
            refine (C26.out _ H25.out.drew.p).mono ?_
            rintro e wc ⟨fy, rfl, hpc, ny, bc⟩
            have HC := Lib.hid (H25.out.drew.call hpc bc)
            have BC := Lib.hid (B_G25.out.drew.but bc (Nat.le_refl _) (by have := H25.out.r; omega))
            have NY : Hid (NodeIn wc (fun a => w25.heap.size ≤ a) y fy) := ny
            clear hpc ny bc
            unfold ndV
            refine hK.out _ _ (fun _ => BC.out.c5) (fun hHeld2 => ?_)
            clear hK K hHeld
            zput
            zstep 4
            go_simp
            refine hK.out _ _ (fun _ => (BC.out.alloc _).c5) (fun hHeld3 => ?_)
            clear hK K hHeld2
            zput
            zstep 5
            refine step_app ty_nd (v := .slice f25.ka zz1.ks.length f25.kc) (by rfl) _ _ (by rfl) (by rfl) (BC.out.alloc _).kid wc.heap.size 1 (ndL y fy) (by rfl) (Whole.made wc 25 _) (by rfl) (by simp [ndL, Value.oneCell']) (by decide) (by omega) (by decide) (by have := HC.out.size; simp; omega) ?_
            intro gv cv wd hap
            have HD := Lib.hid ((HC.out.alloc (.cells (ndL y fy).toArray 25)).low (hap.below (BC.out.alloc (.cells (ndL y fy).toArray 25)).kid (Below.refl _ _) (Nat.le_refl _) (by have := HC.out.size; simp; omega)))
            have BN0 := Lib.hid ((BC.out.alloc (.cells (ndL y fy).toArray 25)).app (B := w25.heap.size) B_G25.out.lt B_G25.out.nlt B_G25.out.klt (NY.out.alloc _) hap)
            have XD := Lib.hid (hap.far (BC.out.alloc (.cells (ndL y fy).toArray 25)).box (row_ne (BC.out.alloc (.cells (ndL y fy).toArray 25)).kid BC.out.kN))
            have z5 : wd.cell? ⟨G, 5, none⟩ = some (.slice f25.ka zz1.ks.length f25.kc) := XD.out.cell 5
            have y5 := XD.out.free 5
            refine hK.out _ _ (fun _ => z5) (fun hHeld4 => ?_)
            replace hHeld4 := hHeld4 (by decide)
            clear hK K hHeld3 hap
            zput
            ztake 6 8
            zstep 7
            go_simp
            zgoz
            zdone
            have H26 := Lib.hid (HD.out.own (p := ⟨G, 5, none⟩) (Nat.lt_of_succ_le B_G25.out.lo) (.slice (some ⟨gv, 0, none⟩) (zz1.ks.length + 1) cv))
            obtain ⟨f26, fs26, BN1⟩ : ∃ f2 fs2, Box (wd.setCell ⟨G, 5, none⟩ (.slice (some ⟨gv, 0, none⟩) (zz1.ks.length + 1) cv)) G (w.heap.size + 1) (zz1.add y) f2 fs2 := ⟨_, _, BN0.out⟩
            have B_G26 := Lib.hid BN1
            clear hK K hHeld4 z5 y5 XD BN0 BN1 HD BC HC NY
            generalize wd.setCell ⟨G, 5, none⟩ (.slice (some ⟨gv, 0, none⟩) (zz1.ks.length + 1) cv) = w26 at *
            clear C26 H25 B_G25
            obtain ⟨zz2, h_zz2⟩ : ∃ z9, (zz1.add y) = z9 := ⟨_, rfl⟩
            rw [h_zz2] at B_G26
            have Z_zz2 := Lib.hid h_zz2
            clear h_zz2
            have hq : (zz2, s3) = q := by
              rw [← HQ.out, ← Z_zz2.out, ← Z_zz1.out, ← Z_zz0.out]; unfold appF; rw [HKN.out, if_pos hi, if_pos h6, HKK.out, E_t.out, E_s1.out, E_s2.out, E_s3.out]
            subst hq
            clear HQ l0 l1 h6
            have t0 : w26.cell? ⟨G, 0, none⟩ = some (.int .i64 zz2.kd) := B_G26.out.box.cell 0
            have t1 : w26.cell? ⟨G, 1, none⟩ = some (.string ⟨zz2.tx.toArray⟩) := B_G26.out.box.cell 1
            have t2 : w26.cell? ⟨G, 2, none⟩ = some (.int .i64 zz2.nm) := B_G26.out.box.cell 2
            have t3 : w26.cell? ⟨G, 3, none⟩ = some (.int .i64 (zz2.at_ : Int)) := B_G26.out.box.cell 3
            have t4 : w26.cell? ⟨G, 4, none⟩ = some (.slice f26.na zz2.ns.length f26.nc) := B_G26.out.box.cell 4
            have t5 : w26.cell? ⟨G, 5, none⟩ = some (.slice f26.ka zz2.ks.length f26.kc) := B_G26.out.box.cell 5
            zzero w26 (w.heap.size) (H26.out.z)
            zfree (H26.out.z)
            go_wp2_with fail
            have HZF : Hid (Whole (zP(w26, w.heap.size, zz2, f26)) w.heap.size 25 zN(zz2, f26)) := put6 H26.out.z _ _ _ _ _ _
            have HBF : Hid (But w.heap.size w26.heap.size w26 (zP(w26, w.heap.size, zz2, f26))) := but6 _ _ _ _ _ _ _ _
            generalize (zP(w26, w.heap.size, zz2, f26)) = wf at *
            gcells
            exact bodyPost_ret (v := ndV zz2 f26) (by simp [results, Try.results79, go_sem, ndV, Nd.kd, Nd.tx, Nd.nm, Nd.at_, Nd.ns, Nd.ks, leafN, fr0, nd0, g0, g1, g2, g3, g4, g5]) rfl (H26.out.done B_G26.out.var.node HBF.out)
      · have hi9 : i = 8 := by omega
        subst hi9
        have HKN := Lib.hid (key_none HALL.out)
        clear HALL XK XC
        go_wp2_with fail
        go_meet
        exact ⟨HKN.out, HS.out⟩
  case rest =>
    obtain ⟨hkn, hst⟩ := hcut
    have HS := Lib.hid hst
    have HKN := Lib.hid hkn
    clear hst hkn HAL H3 X_KB3 X_CB3
    obtain ⟨k, h_k⟩ : ∃ k, kdF T s = k := ⟨_, rfl⟩
    have E_k := Lib.hid h_k
    clear h_k
    obtain ⟨x, s2, h_s2⟩ : ∃ x s2, atomF T r s = (x, s2) := ⟨_, _, rfl⟩
    have E_s2 := Lib.hid h_s2
    clear h_s2
    have G_s2 := Lib.hid (show Goes T s s2 from by have q := (goes_atom E F HL.out); rw [E_s2.out] at q; exact q)
    obtain ⟨cb, hcb⟩ : ∃ cb, (k == 4) = cb := ⟨_, rfl⟩
    have HQ2 : Hid (appL T r (T.length + 1) cb x s2 = q) := by
      show _ = _
      rw [← HQ.out]; unfold appF; rw [HKN.out, if_neg (by decide), E_s2.out, E_k.out, ← hcb]
      congr 1
    have HCB : Hid (cb = true → x.ns = [] ∧ x.ks = []) := fun h => by
      have hk : kdF T s = 4 := E_k.out.trans (beq_iff_eq.1 (hcb.trans h))
      have hx := E_s2.out
      unfold atomF at hx
      rw [if_neg (by rw [hk]; decide), if_neg (by rw [hk]; decide), if_neg (by rw [hk]; decide), if_pos hk] at hx
      rw [← (Prod.mk.inj hx).1]; exact ⟨rfl, rfl⟩
    clear HQ HKN
    go_upto_region 14 with (fail)
    go_wp2_with fail
    refine (kind_eq E_k.out HS.out.p).mono ?_
    rintro e w51 ⟨rfl, b51⟩
    have H51 := Lib.hid (HS.out.read b51)
    clear b51 HS
    go_upto_region 15 with (fail)
    clear hcb
    go_wp2_with fail
    refine (gives_eq E_s2.out (CA w51 s H51.out.p HD.out)).mono ?_
    rintro e w52 ⟨f, rfl, h52, n52, b52⟩
    have N_x52 := Lib.hid (n52.gt H51.out)
    have H52 := Lib.hid (H51.out.call h52 b52)
    clear h52 b52 H51 n52
    unfold ndV
    rcases cb with _ | _
    · clear HCB
      have S_G : Hid (w.heap.size < w52.heap.size) := H52.out.size
      have H53 := Lib.hid (H52.out.alloc (.cells zN(x, f) 25))
      have N_x53 := Lib.hid (N_x52.out.alloc (.cells zN(x, f) 25))
      have V_G53 : Hid (Var w (w52.alloc (.cells zN(x, f) 25)) w52.heap.size x f) := Var.made H52.out N_x52.out
      go_upto_block 2 with (fail)
      generalize w52.alloc (.cells zN(x, f) 25) = w53 at *
      generalize w52.heap.size = G at *
      clear H52 N_x52
      go_wp2_with fail
      go_loopg [11] (T.length + 1) (fun gk mo wr => ∃ z s3 f3, T.length + 1 ≤ gk + s3.i ∧ appL T r gk false z s3 = q ∧ Var w wr G z f3 ∧ St w wr R g c T s3 ∧ Goes T s s3)
      case atStart => exact ⟨x, s2, f, by omega, HQ2.out, V_G53.out, H53.out, G_s2.out⟩
      case round =>
        obtain ⟨z, s3, f3, hz, hpl, hbx, hst, hgo⟩ := hrel
        obtain ⟨m, rfl⟩ : ∃ m, gk = m + 1 := ⟨gk - 1, by have := hgo.lt; omega⟩
        have VX := Lib.hid hbx
        have HS := Lib.hid hst
        have G_s3 := Lib.hid hgo
        have HPL := Lib.hid (show (if beginsF T s3 = true then
            if false = true then
              if z.ks.length = 4 then (z, failF T s3 16)
              else appL T r m false (z.add (atomF T r s3).1) (atomF T r s3).2
            else appL T r m false (.mk 7 [] 0 z.at_ [] [z, (atomF T r s3).1]) (atomF T r s3).2
          else (z, s3)) = q from hpl)
        clear hbx hst hgo hpl HQ2 V_G53 H53
        obtain ⟨bb, h_bb⟩ : ∃ bb, beginsF T s3 = bb := ⟨_, rfl⟩
        have E_bb := Lib.hid h_bb
        clear h_bb
        go_wp2_with fail
        refine (begins_eq E_bb.out HS.out.p).mono ?_
        rintro e w71 ⟨rfl, b71⟩
        have H71 := Lib.hid (HS.out.read b71)
        have V_G71 := Lib.hid (VX.out.later b71 (Nat.le_refl _))
        clear b71 HS VX
        rcases bb with _ | _
        · have hr := (if_neg (by rw [E_bb.out]; decide)).symm.trans HPL.out
          subst hr
          clear HPL
          have t0 : w71.cell? ⟨G, 0, none⟩ = some (.int .i64 z.kd) := V_G71.out.X.cell 0
          have t1 : w71.cell? ⟨G, 1, none⟩ = some (.string ⟨z.tx.toArray⟩) := V_G71.out.X.cell 1
          have t2 : w71.cell? ⟨G, 2, none⟩ = some (.int .i64 z.nm) := V_G71.out.X.cell 2
          have t3 : w71.cell? ⟨G, 3, none⟩ = some (.int .i64 (z.at_ : Int)) := V_G71.out.X.cell 3
          have t4 : w71.cell? ⟨G, 4, none⟩ = some (.slice f3.na z.ns.length f3.nc) := V_G71.out.X.cell 4
          have t5 : w71.cell? ⟨G, 5, none⟩ = some (.slice f3.ka z.ks.length f3.kc) := V_G71.out.X.cell 5
          zzero w71 (w.heap.size) (H71.out.z)
          zfree (H71.out.z)
          go_wp2_with fail
          have HZF : Hid (Whole (zP(w71, w.heap.size, z, f3)) w.heap.size 25 zN(z, f3)) := put6 H71.out.z _ _ _ _ _ _
          have HBF : Hid (But w.heap.size w71.heap.size w71 (zP(w71, w.heap.size, z, f3))) := but6 _ _ _ _ _ _ _ _
          generalize (zP(w71, w.heap.size, z, f3)) = wf at *
          gcells
          exact bodyPost_ret (v := ndV z f3) (by simp [results, Try.results79, go_sem, ndV, Nd.kd, Nd.tx, Nd.nm, Nd.at_, Nd.ns, Nd.ks, leafN, fr0, nd0, g0, g1, g2, g3, g4, g5]) rfl (H71.out.done V_G71.out.node HBF.out)
        · have HAD := Lib.hid (atom_adv E F (r := r) G_s3.out.lt E_bb.out)
          obtain ⟨y, s4, h_s4⟩ : ∃ y s4, atomF T r s3 = (y, s4) := ⟨_, _, rfl⟩
          have E_s4 := Lib.hid h_s4
          clear h_s4
          have G_s4 := Lib.hid (show Goes T s s4 from by have q := (G_s3.out.atom E F); rw [E_s4.out] at q; exact q)
          have HPL3 : Hid (appL T r m false (.mk 7 [] 0 z.at_ [] [z, y]) s4 = q) := by
            show _ = _
            have q1 := (if_neg (by decide)).symm.trans ((if_pos E_bb.out).symm.trans HPL.out)
            rw [E_s4.out] at q1; exact q1
          have HI2 : Hid (s3.i + 1 ≤ s4.i) := by have q1 := HAD.out; rw [E_s4.out] at q1; exact q1
          clear HPL HAD
          go_upto_region 20 with (fail)
          have C72 := Lib.hid (fun wx (h : PAt wx R g c T s3) => gives_eq E_s4.out (CA wx s3 h (by rw [G_s3.out.deep]; exact HD.out)))
          refine region_Z (fun W => Whole W G 25 (ndL z f3).toArray) (fun i => i == 7) (by kernel_rfl) V_G71.out.drew.X (fun hHeld => ?_)
          ztk 0 8
          · zcells
          zput
          ztk 1 8
          · zcells
          zput
          ztk 2 8
          · zcells
          zput
          ztk 3 8
          · zcells
          zput
          zstep 4
          go_simp
          go_at_call 80
          refine (C72.out _ H71.out.drew.p).mono ?_
          rintro e wc ⟨fy, rfl, hpc, ny, bc⟩
          have HC := Lib.hid (H71.out.drew.call hpc bc)
          have VC := Lib.hid (V_G71.out.drew.call H71.out.drew bc)
          have NY := Lib.hid (ny.new H71.out.drew V_G71.out.drew)
          clear hpc ny bc
          unfold ndV
          refine hK.out _ _ (fun _ => VC.out.X) (fun hHeld2 => ?_)
          replace hHeld2 := hHeld2 (by decide)
          clear hK K hHeld
          zput
          zstep 5
          go_simp
          refine hK.out _ _ (fun _ => (VC.out.alloc (.cells #[.int .i64 z.kd, .string ⟨z.tx.toArray⟩, .int .i64 z.nm, .int .i64 (z.at_ : Int), .slice f3.na z.ns.length f3.nc, .slice f3.ka z.ks.length f3.kc, .int .i64 y.kd, .string ⟨y.tx.toArray⟩, .int .i64 y.nm, .int .i64 (y.at_ : Int), .slice fy.na y.ns.length fy.nc, .slice fy.ka y.ks.length fy.kc] 25)).X) (fun hHeld3 => ?_)
          replace hHeld3 := hHeld3 (by decide)
          clear hK K hHeld2
          zput
          ztk 6 8
          · zcells
          zput
          have VP : Var w (((((((wc.alloc (.cells #[.int .i64 z.kd, .string ⟨z.tx.toArray⟩, .int .i64 z.nm, .int .i64 (z.at_ : Int), .slice f3.na z.ns.length f3.nc, .slice f3.ka z.ks.length f3.kc, .int .i64 y.kd, .string ⟨y.tx.toArray⟩, .int .i64 y.nm, .int .i64 (y.at_ : Int), .slice fy.na y.ns.length fy.nc, .slice fy.ka y.ks.length fy.kc] 25)).setCell ⟨G, 0, none⟩ (.int .i64 7)).setCell ⟨G, 1, none⟩ (.string ⟨([] : List UInt8).toArray⟩)).setCell ⟨G, 2, none⟩ (.int .i64 0)).setCell ⟨G, 3, none⟩ (.int .i64 (z.at_ : Int))).setCell ⟨G, 4, none⟩ (.slice none 0 0)).setCell ⟨G, 5, none⟩ (.slice (some ⟨wc.heap.size, 0, none⟩) 2 2)) G (.mk 7 ([] : List UInt8) 0 z.at_ [] [z, y]) ⟨none, 0, some ⟨wc.heap.size, 0, none⟩, 2⟩ := (VC.out.pair HC.out NY.out 7 ([] : List UInt8) z.at_).1
          have V_G72 := Lib.hid VP
          have HP1 : St w (((((((wc.alloc (.cells #[.int .i64 z.kd, .string ⟨z.tx.toArray⟩, .int .i64 z.nm, .int .i64 (z.at_ : Int), .slice f3.na z.ns.length f3.nc, .slice f3.ka z.ks.length f3.kc, .int .i64 y.kd, .string ⟨y.tx.toArray⟩, .int .i64 y.nm, .int .i64 (y.at_ : Int), .slice fy.na y.ns.length fy.nc, .slice fy.ka y.ks.length fy.kc] 25)).setCell ⟨G, 0, none⟩ (.int .i64 7)).setCell ⟨G, 1, none⟩ (.string ⟨([] : List UInt8).toArray⟩)).setCell ⟨G, 2, none⟩ (.int .i64 0)).setCell ⟨G, 3, none⟩ (.int .i64 (z.at_ : Int))).setCell ⟨G, 4, none⟩ (.slice none 0 0)).setCell ⟨G, 5, none⟩ (.slice (some ⟨wc.heap.size, 0, none⟩) 2 2)) R g c T _ := (VC.out.pair HC.out NY.out 7 ([] : List UInt8) z.at_).2
          have H72 := Lib.hid HP1
          have VA : Var w (wc.alloc (.cells #[.int .i64 z.kd, .string ⟨z.tx.toArray⟩, .int .i64 z.nm, .int .i64 (z.at_ : Int), .slice f3.na z.ns.length f3.nc, .slice f3.ka z.ks.length f3.kc, .int .i64 y.kd, .string ⟨y.tx.toArray⟩, .int .i64 y.nm, .int .i64 (y.at_ : Int), .slice fy.na y.ns.length fy.nc, .slice fy.ka y.ks.length fy.kc] 25)) G z f3 := VC.out.alloc _
          clear VP HP1 VC HC NY hHeld3
          generalize wc.alloc (.cells #[.int .i64 z.kd, .string ⟨z.tx.toArray⟩, .int .i64 z.nm, .int .i64 (z.at_ : Int), .slice f3.na z.ns.length f3.nc, .slice f3.ka z.ks.length f3.kc, .int .i64 y.kd, .string ⟨y.tx.toArray⟩, .int .i64 y.nm, .int .i64 (y.at_ : Int), .slice fy.na y.ns.length fy.nc, .slice fy.ka y.ks.length fy.kc] 25) = wq at *
          have u0 := VA.X.cell 0
          have u1 := VA.X.cell 1
          have u2 := VA.X.cell 2
          have u3 := VA.X.cell 3
          have u4 := VA.X.cell 4
          have u5 := VA.X.cell 5
          have v0 := VA.X.free 0
          have v1 := VA.X.free 1
          have v2 := VA.X.free 2
          have v3 := VA.X.free 3
          have v4 := VA.X.free 4
          have v5 := VA.X.free 5
          simp only [ndL, List.getElem?_toArray, List.getElem?_cons_zero, List.getElem?_cons_succ] at u0 u1 u2 u3 u4 u5
          clear VA
          zstep 7
          go_simp
          zgoz
          zdone
          clear hK K v0 v1 v2 v3 v4 v5 u0 u1 u2 u3 u4 u5
          obtain ⟨fw72, qf⟩ : ∃ f, (⟨none, 0, some ⟨wc.heap.size, 0, none⟩, 2⟩ : Fr) = f := ⟨_, rfl⟩
          rw [qf] at V_G72
          clear qf
          generalize ((((((wq.setCell ⟨G, 0, none⟩ (.int .i64 7)).setCell ⟨G, 1, none⟩ (.string ⟨([] : List UInt8).toArray⟩)).setCell ⟨G, 2, none⟩ (.int .i64 0)).setCell ⟨G, 3, none⟩ (.int .i64 (z.at_ : Int))).setCell ⟨G, 4, none⟩ (.slice none 0 0)).setCell ⟨G, 5, none⟩ (.slice (some ⟨wc.heap.size, 0, none⟩) 2 2)) = w72 at *
          clear C72 H71 V_G71
          go_wp2_with fail
          go_roundg m
          case measure => exact Nat.lt_succ_self _
          case rel => exact ⟨_, s4, _, by have := HI2.out; omega, HPL3.out, V_G72.out, H72.out, G_s4.out⟩
    · obtain ⟨x1, x2⟩ := HCB.out rfl
      have hf : f = fr0 := N_x52.out.nil x1 x2
      subst hf
      clear HCB N_x52
      have H73 := Lib.hid (H52.out.alloc (.cells zN(x, fr0) 25))
      have B_G73 : Hid (Box (w52.alloc (.cells zN(x, fr0) 25)) w52.heap.size (w.heap.size + 1) x fr0 []) := Box.made w52 (base := w.heap.size + 1) (x := x) H52.out.size x1 x2
      have hx0 := Lib.hid (show x.ks.length = 0 by rw [x2]; rfl)
      clear x1 x2
      go_upto_block 2 with (fail)
      generalize w52.alloc (.cells zN(x, fr0) 25) = w73 at *
      generalize w52.heap.size = G at *
      clear H52
      go_wp2_with fail
      go_loopg [11] (T.length + 1) (fun gk mo wr => ∃ z s3 f3 fs3, T.length + 1 ≤ gk + s3.i ∧ appL T r gk true z s3 = q ∧ z.ks.length ≤ 4 ∧ Box wr G (w.heap.size + 1) z f3 fs3 ∧ St w wr R g c T s3 ∧ Goes T s s3)
      case atStart => exact ⟨x, s2, fr0, [], by omega, HQ2.out, by have := hx0.out; omega, B_G73.out, H73.out, G_s2.out⟩
      case round =>
        obtain ⟨z, s3, f3, fs3, hz, hpl, hz4, hbx, hst, hgo⟩ := hrel
        obtain ⟨m, rfl⟩ : ∃ m, gk = m + 1 := ⟨gk - 1, by have := hgo.lt; omega⟩
        have VX := Lib.hid hbx
        have HS := Lib.hid hst
        have G_s3 := Lib.hid hgo
        have HPL := Lib.hid (show (if beginsF T s3 = true then
            if true = true then
              if z.ks.length = 4 then (z, failF T s3 16)
              else appL T r m true (z.add (atomF T r s3).1) (atomF T r s3).2
            else appL T r m true (.mk 7 [] 0 z.at_ [] [z, (atomF T r s3).1]) (atomF T r s3).2
          else (z, s3)) = q from hpl)
        clear hbx hst hgo hpl HQ2 B_G73 H73
        obtain ⟨bb, h_bb⟩ : ∃ bb, beginsF T s3 = bb := ⟨_, rfl⟩
        have E_bb := Lib.hid h_bb
        clear h_bb
        go_wp2_with fail
        refine (begins_eq E_bb.out HS.out.p).mono ?_
        rintro e w71 ⟨rfl, b71⟩
        have H71 := Lib.hid (HS.out.read b71)
        have B_G71 := Lib.hid (VX.out.below b71 (Nat.le_refl _))
        clear b71 HS VX
        rcases bb with _ | _
        · have hr := (if_neg (by rw [E_bb.out]; decide)).symm.trans HPL.out
          subst hr
          clear HPL
          have t0 : w71.cell? ⟨G, 0, none⟩ = some (.int .i64 z.kd) := B_G71.out.box.cell 0
          have t1 : w71.cell? ⟨G, 1, none⟩ = some (.string ⟨z.tx.toArray⟩) := B_G71.out.box.cell 1
          have t2 : w71.cell? ⟨G, 2, none⟩ = some (.int .i64 z.nm) := B_G71.out.box.cell 2
          have t3 : w71.cell? ⟨G, 3, none⟩ = some (.int .i64 (z.at_ : Int)) := B_G71.out.box.cell 3
          have t4 : w71.cell? ⟨G, 4, none⟩ = some (.slice f3.na z.ns.length f3.nc) := B_G71.out.box.cell 4
          have t5 : w71.cell? ⟨G, 5, none⟩ = some (.slice f3.ka z.ks.length f3.kc) := B_G71.out.box.cell 5
          zzero w71 (w.heap.size) (H71.out.z)
          zfree (H71.out.z)
          go_wp2_with fail
          have HZF : Hid (Whole (zP(w71, w.heap.size, z, f3)) w.heap.size 25 zN(z, f3)) := put6 H71.out.z _ _ _ _ _ _
          have HBF : Hid (But w.heap.size w71.heap.size w71 (zP(w71, w.heap.size, z, f3))) := but6 _ _ _ _ _ _ _ _
          generalize (zP(w71, w.heap.size, z, f3)) = wf at *
          gcells
          exact bodyPost_ret (v := ndV z f3) (by simp [results, Try.results79, go_sem, ndV, Nd.kd, Nd.tx, Nd.nm, Nd.at_, Nd.ns, Nd.ks, leafN, fr0, nd0, g0, g1, g2, g3, g4, g5]) rfl (H71.out.done B_G71.out.var.node HBF.out)
        · have HAD := Lib.hid (atom_adv E F (r := r) G_s3.out.lt E_bb.out)
          obtain ⟨y, s4, h_s4⟩ : ∃ y s4, atomF T r s3 = (y, s4) := ⟨_, _, rfl⟩
          have E_s4 := Lib.hid h_s4
          clear h_s4
          have G_s4 := Lib.hid (show Goes T s s4 from by have q := (G_s3.out.atom E F); rw [E_s4.out] at q; exact q)
          have HPL2 := Lib.hid ((if_pos (by trivial)).symm.trans ((if_pos E_bb.out).symm.trans HPL.out))
          clear HPL
          have d5 := B_G71.out.c5
          go_upto_region 21 with (fail)
          obtain ⟨lb, ql⟩ : ∃ lb, ((z.ks.length : Int) == 4) = lb := ⟨_, rfl⟩
          rcases lb with _ | _
          · have HPL3 : Hid (appL T r m true (z.add y) s4 = q) := by
              show _ = _
              have q1 := (if_neg (fun h => beq_eq_false_iff_ne.1 ql (by omega))).symm.trans HPL2.out
              rw [E_s4.out] at q1; exact q1
            have HI2 : Hid (s3.i + 1 ≤ s4.i) := by have q1 := HAD.out; rw [E_s4.out] at q1; exact q1
            have hz6 : z.ks.length ≤ 3 := by have := beq_eq_false_iff_ne.1 ql; omega
            clear HPL2 HAD
            go_upto_region 24 with (fail)
            clear d5
            have C72 := Lib.hid (fun wx (h : PAt wx R g c T s3) => gives_eq E_s4.out (CA wx s3 h (by rw [G_s3.out.deep]; exact HD.out)))
            refine region_Z (fun W => W.cell? ⟨G, 5, none⟩ = some (.slice f3.ka z.ks.length f3.kc)) (fun i => i == 7) (by kernel_rfl) B_G71.out.drew.c5 (fun hHeld => ?_)
            ztake 0 8
            ztake 1 8
            ztake 2 8
            zstep 3
            go_simp
            go_at_call 80
            refine (C72.out _ H71.out.drew.p).mono ?_
            rintro e wc ⟨fy, rfl, hpc, ny, bc⟩
            have HC := Lib.hid (H71.out.drew.call hpc bc)
            have BC := Lib.hid (B_G71.out.drew.but bc (Nat.le_refl _) (by have := H71.out.r; omega))
            have NY : Hid (NodeIn wc (fun a => w71.heap.size ≤ a) y fy) := ny
            clear hpc ny bc
            unfold ndV
            refine hK.out _ _ (fun _ => BC.out.c5) (fun hHeld2 => ?_)
            clear hK K hHeld
            zput
            zstep 4
            go_simp
            refine hK.out _ _ (fun _ => (BC.out.alloc _).c5) (fun hHeld3 => ?_)
            clear hK K hHeld2
            zput
            zstep 5
            refine step_app ty_nd (v := .slice f3.ka z.ks.length f3.kc) (by rfl) _ _ (by rfl) (by rfl) (BC.out.alloc _).kid wc.heap.size 1 (ndL y fy) (by rfl) (Whole.made wc 25 _) (by rfl) (by simp [ndL, Value.oneCell']) (by decide) (by omega) (by decide) (by have := HC.out.size; simp; omega) ?_
            intro gv cv wd hap
            have HD := Lib.hid ((HC.out.alloc (.cells (ndL y fy).toArray 25)).low (hap.below (BC.out.alloc (.cells (ndL y fy).toArray 25)).kid (Below.refl _ _) (Nat.le_refl _) (by have := HC.out.size; simp; omega)))
            have BN0 := Lib.hid ((BC.out.alloc (.cells (ndL y fy).toArray 25)).app (B := w71.heap.size) B_G71.out.lt B_G71.out.nlt B_G71.out.klt (NY.out.alloc _) hap)
            have XD := Lib.hid (hap.far (BC.out.alloc (.cells (ndL y fy).toArray 25)).box (row_ne (BC.out.alloc (.cells (ndL y fy).toArray 25)).kid BC.out.kN))
            have z5 : wd.cell? ⟨G, 5, none⟩ = some (.slice f3.ka z.ks.length f3.kc) := XD.out.cell 5
            have y5 := XD.out.free 5
            refine hK.out _ _ (fun _ => z5) (fun hHeld4 => ?_)
            replace hHeld4 := hHeld4 (by decide)
            clear hK K hHeld3 hap
            zput
            ztake 6 8
            zstep 7
            go_simp
            zgoz
            zdone
            have H72 := Lib.hid (HD.out.own (p := ⟨G, 5, none⟩) (Nat.lt_of_succ_le B_G71.out.lo) (.slice (some ⟨gv, 0, none⟩) (z.ks.length + 1) cv))
            obtain ⟨f72, fs72, BN1⟩ : ∃ f2 fs2, Box (wd.setCell ⟨G, 5, none⟩ (.slice (some ⟨gv, 0, none⟩) (z.ks.length + 1) cv)) G (w.heap.size + 1) (z.add y) f2 fs2 := ⟨_, _, BN0.out⟩
            have B_G72 := Lib.hid BN1
            clear hK K hHeld4 z5 y5 XD BN0 BN1 HD BC HC NY
            generalize wd.setCell ⟨G, 5, none⟩ (.slice (some ⟨gv, 0, none⟩) (z.ks.length + 1) cv) = w72 at *
            clear C72 H71 B_G71
            go_wp2_with fail
            go_roundg m
            case measure => exact Nat.lt_succ_self _
            case rel => exact ⟨_, s4, f72, fs72, by have := HI2.out; omega, HPL3.out, by rw [add_ks]; simp; omega, B_G72.out, H72.out, G_s4.out⟩
          · obtain ⟨s5, h_s5⟩ : ∃ s5, failF T s3 16 = s5 := ⟨_, rfl⟩
            have E_s5 := Lib.hid h_s5
            clear h_s5
            have hr := (if_pos (by have := beq_iff_eq.1 ql; omega)).symm.trans HPL2.out
            rw [E_s5.out] at hr
            subst hr
            clear HPL2 HAD
            go_upto_region 22 with (fail)
            clear d5
            go_wp2_with fail
            refine (fail_eq E_s5.out H71.out.p).mono ?_
            rintro e w73 ⟨rfl, h73, b73⟩
            have H73 := Lib.hid (H71.out.call h73 b73)
            have B_G73 := Lib.hid (B_G71.out.but b73 (Nat.le_refl _) (by have := H71.out.r; omega))
            clear h73 b73 H71 B_G71
            have t0 : w73.cell? ⟨G, 0, none⟩ = some (.int .i64 z.kd) := B_G73.out.box.cell 0
            have t1 : w73.cell? ⟨G, 1, none⟩ = some (.string ⟨z.tx.toArray⟩) := B_G73.out.box.cell 1
            have t2 : w73.cell? ⟨G, 2, none⟩ = some (.int .i64 z.nm) := B_G73.out.box.cell 2
            have t3 : w73.cell? ⟨G, 3, none⟩ = some (.int .i64 (z.at_ : Int)) := B_G73.out.box.cell 3
            have t4 : w73.cell? ⟨G, 4, none⟩ = some (.slice f3.na z.ns.length f3.nc) := B_G73.out.box.cell 4
            have t5 : w73.cell? ⟨G, 5, none⟩ = some (.slice f3.ka z.ks.length f3.kc) := B_G73.out.box.cell 5
            zzero w73 (w.heap.size) (H73.out.z)
            zfree (H73.out.z)
            go_wp2_with fail
            have HZF : Hid (Whole (zP(w73, w.heap.size, z, f3)) w.heap.size 25 zN(z, f3)) := put6 H73.out.z _ _ _ _ _ _
            have HBF : Hid (But w.heap.size w73.heap.size w73 (zP(w73, w.heap.size, z, f3))) := but6 _ _ _ _ _ _ _ _
            generalize (zP(w73, w.heap.size, z, f3)) = wf at *
            gcells
            exact bodyPost_ret (v := ndV z f3) (by simp [results, Try.results79, go_sem, ndV, Nd.kd, Nd.tx, Nd.nm, Nd.at_, Nd.ns, Nd.ks, leafN, fr0, nd0, g0, g1, g2, g3, g4, g5]) rfl (H73.out.done B_G73.out.var.node HBF.out)
end Go.Proofs.Ytgjchgmlogbmmaa
/- All rules of the grammar at once: each is walked, however deep. -/
namespace Go.Proofs.Ytgjchgmlogbmmaa
open Go.RowKit
set_option linter.unusedVariables false

theorem deep_rules (R g c : Nat) (T : List Tok) (E : Ends T) : ∀ n, Deep R g c T (rules T n) n
  | 0 => ⟨fun w s hp hd => absurd hp.deep (by omega), fun w s hp hd => absurd hp.deep (by omega), fun w s hp hd => absurd hp.deep (by omega)⟩
  | n + 1 => by
    have D := deep_rules R g c T E n
    have F := fine_rules E n
    have C : Calm (rules T n) := calm_rules n
    have atom := fun (w : World) (s : PS) (hp : PAt w R g c T s) (hd : 41 ≤ s.deep + n) => atom_any w R g c T (rules T n) n s E F C D hp hd
    have app := fun (w : World) (s : PS) (hp : PAt w R g c T s) (hd : 41 ≤ s.deep + n) => app_any w R g c T (rules T n) n s E F atom hp hd
    have prod := fun (w : World) (s : PS) (hp : PAt w R g c T s) (hd : 41 ≤ s.deep + n) => prod_any w R g c T (rules T n) n s E F app hp hd
    have sum := fun (w : World) (s : PS) (hp : PAt w R g c T s) (hd : 41 ≤ s.deep + n) => sum_any w R g c T (rules T n) n s E F prod hp hd
    have cmp := fun (w : World) (s : PS) (hp : PAt w R g c T s) (hd : 41 ≤ s.deep + n) => cmp_any w R g c T (rules T n) n s E F sum hp hd
    exact ⟨fun w s hp hd => exp_any w R g c T (rules T n) s E F hp fun hb wx hx => inner_any wx R g c T (rules T n) n (enterF T s) E F D cmp hx (by rw [(enter_in hp.lt hb).2.1]; omega),
      fun w s hp hd => pat_any w R g c T (rules T n) n s E F D hp hd,
      fun w s hp hd => ty_any w R g c T (rules T n) n s E F D hp hd⟩
theorem exp_rule (R g c : Nat) (T : List Tok) (E : Ends T) (w : World) (s : PS) (hp : PAt w R g c T s) (n : Nat) (hd : 41 ≤ s.deep + n) : Calls Try.prog 39 #[.pointer (some ⟨R, 0, none⟩)] w (Gives w R g c T ((rules T n).exp s)) := (deep_rules R g c T E n).exp w s hp hd
theorem decl_rule (R g c : Nat) (T : List Tok) (E : Ends T) (w : World) (s : PS) (hp : PAt w R g c T s) (n : Nat) (hd : 41 ≤ s.deep + n) : Calls Try.prog 37 #[.pointer (some ⟨R, 0, none⟩)] w (Gives w R g c T (declF T (rules T n) s)) :=
  decl_any w R g c T (rules T n) n s E (fine_rules E n) (deep_rules R g c T E n) hp hd
end Go.Proofs.Ytgjchgmlogbmmaa
/- A program's tokens as a parser has them. -/
namespace Go.Proofs.Ytgjchgmlogbmmaa
open Go.RowKit
set_option linter.unusedVariables false

theorem ends_toks {l : List UInt8} {i : Nat} {T : List Tok} (h : Toks l i T) : Ends T :=
  ⟨List.length_pos_iff.2 h.ne, fun k hk => (h.places k T[k] (List.getElem?_eq_getElem hk)).1⟩
theorem tkin_row {w : World} {A : Option Addr} {T : List Tok} (h : TokRow w A T) (hT : T ≠ []) : ∃ g, A = some ⟨g, 0, none⟩ ∧ TkIn w g T := by
  rcases h with h | ⟨g, h1, h2, h3⟩
  · exact absurd h hT
  · exact ⟨g, h1, h2, h3⟩
/-- A new parser's record. -/
theorem PAt.made {w : World} {g c : Nat} {T : List Tok} (h : TkIn w g T) (h0 : 0 < T.length) (hl : T.length ≤ 100000) :
    PAt (w.alloc (.cells #[.slice (some ⟨g, 0, none⟩) T.length c, .int .i64 0, .int .i64 0, .int .i64 0, .bool false, .int .i64 0] 61)) w.heap.size g c T ⟨0, 0, 0, false, 0⟩ :=
  ⟨Whole.made _ _ _, Nat.ne_of_lt h.1, h.block (by simp) (Below.heap_alloc w _ g h.1), h0, hl, by decide⟩
theorem decl_adv {T : List Tok} {r : Rec} {s : PS} (E : Ends T) (F : Fine T r) (h : s.i < T.length) (hk : kdF T s ≠ 0) : s.i + 1 ≤ (declF T r s).2.i := by
  have e1 : (stepF T s).i = s.i + 1 := by unfold stepF; rw [if_neg hk]
  have h1 : (stepF T s).i < T.length := (goes_step E h).lt
  have h0 : Goes T (stepF T s) (stepF T s) := .refl h1
  have up : ∀ {s'}, Goes T (stepF T s) s' → s.i + 1 ≤ s'.i := fun g => by have := g.i; omega
  unfold declF
  dsimp only
  split
  · exact up ((((((h0.text E 3).namL E _ _).want E _).cosL E F _ _ _)).want E _)
  · exact up ((((h0.flat true).value E F _).flat false).want E _)
end Go.Proofs.Ytgjchgmlogbmmaa
/- The walks of layer 5, the document's: a program. -/
namespace Go.Proofs.Ytgjchgmlogbmmaa
open Go.RowKit
set_option linter.unusedVariables false
set_option linter.unusedSimpArgs false
attribute [local go_sem ↓] Go.wp_at_zero Go.wp_at_succ

theorem drew_cell (w : World) (q : Addr) : w.drew.cell? q = w.cell? q := World.cell?_of_block ((Below.refl (q.block + 1) w).drew.block _ (Nat.lt_succ_self _))
theorem far6 {w : World} {G : Nat} {q : Addr} {v u0 u1 u2 u3 u4 u5 : Value} (h : w.cell? q = some v) (hne : q.block ≠ G) : ((((((w.setCell ⟨G, 0, none⟩ u0).setCell ⟨G, 1, none⟩ u1).setCell ⟨G, 2, none⟩ u2).setCell ⟨G, 3, none⟩ u3).setCell ⟨G, 4, none⟩ u4).setCell ⟨G, 5, none⟩ u5).drew.cell? q = some v := (drew_cell _ _).trans <|
  cell_far (cell_far (cell_far (cell_far (cell_far (cell_far h hne) hne) hne) hne) hne) hne
set_option maxRecDepth 100000 in
set_option maxHeartbeats 32000000 in
theorem program_any (w : World) (s : ByteArray) (hs : s.size ≤ 1000) :
    Calls Try.prog 17 #[.string s] w (fun e w' => ∃ f, e = .returned (.tuple #[ndV (progF s.data.toList).1 f, .int .i64 ((progF s.data.toList).2.1 : Int), .int .i64 (progF s.data.toList).2.2]) ∧ NodeIn w' (fun a => w.heap.size ≤ a) (progF s.data.toList).1 f ∧ Below w.heap.size w w') := by
  obtain ⟨q, hq⟩ : ∃ q, progF s.data.toList = q := ⟨_, rfl⟩
  have HQ := Lib.hid hq
  have HSZ := Lib.hid hs
  rw [hq]
  clear hq
  have CT := Lib.hid (fun wx => rtokens_any wx s (by omega) (shortQ _ (by rw [size_list]; exact hs)))
  have HBIG : Hid (s.data.toList.length ≤ 2000) := by show _ ≤ _; rw [size_list]; omega
  clear hs
  obtain ⟨T, at0, e0, htk⟩ : ∃ T at0 e0, tokensF s.data.toList = (T, at0, e0) := ⟨_, _, _, rfl⟩
  have HTK := Lib.hid htk
  clear htk
  go_enter Try.func17, Try.ntmps17
  go_upto_region 1 with (fail)
  have HZ0 : Hid (Whole (w.alloc (.cells zZ 25)) w.heap.size 25 zZ) := Whole.made _ _ _
  have HB0 : Hid (Below w.heap.size w (w.alloc (.cells zZ 25))) := (Below.refl _ _).alloc (Nat.le_refl _) _
  have HS0 : Hid (w.heap.size < (w.alloc (.cells zZ 25)).heap.size) := by show _ < _; simp
  generalize w.alloc (.cells zZ 25) = w2 at *
  go_wp2_with fail
  refine (CT.out w2).mono ?_
  rw [HTK.out]
  rintro e w3 ⟨v, rfl, htoks, hb3⟩
  have HB3 := Lib.hid (HB0.out.trans (hb3.mono (Nat.le_of_lt HS0.out)))
  have HZ3 := Lib.hid (HZ0.out.below hb3 HS0.out)
  have HTO := Lib.hid htoks
  have HS3 : Hid (w.heap.size < w3.heap.size) := Nat.lt_of_lt_of_le HS0.out hb3.size
  clear htoks hb3 HB0 HZ0 HS0 CT
  by_cases he : e0 = 0
  · subst he
    have hT := of_tokensF HTK.out
    have E := ends_toks hT
    have hlen : T.length ≤ 100000 := by have := hT.len; have := HBIG.out; omega
    obtain ⟨A, c, rfl, hrow, _, _⟩ := toks_row HTO.out
    obtain ⟨g, rfl, htk⟩ := tkin_row hrow hT.ne
    have F := fine_rules E 42
    obtain ⟨s0, hs0⟩ : ∃ s0 : PS, (⟨0, 0, 0, false, 0⟩ : PS) = s0 := ⟨_, rfl⟩
    have H5 : Hid (Lo (w3.alloc (.cells #[.slice (some ⟨g, 0, none⟩) T.length c, .int .i64 0, .int .i64 0, .int .i64 0, .bool false, .int .i64 0] 61)).heap.size (w3.alloc (.cells #[.slice (some ⟨g, 0, none⟩) T.length c, .int .i64 0, .int .i64 0, .int .i64 0, .bool false, .int .i64 0] 61)) (w3.alloc (.cells #[.slice (some ⟨g, 0, none⟩) T.length c, .int .i64 0, .int .i64 0, .int .i64 0, .bool false, .int .i64 0] 61)) w3.heap.size g c T s0) := by
      rw [← hs0]
      exact ⟨PAt.made htk E.pos hlen, .refl _ _ _, by simp, by have := htk.1; simp; omega, Nat.le_refl _⟩
    have HZ4 := Lib.hid (HZ3.out.alloc (.cells #[.slice (some ⟨g, 0, none⟩) T.length c, .int .i64 0, .int .i64 0, .int .i64 0, .bool false, .int .i64 0] 61))
    have HB4 := Lib.hid (HB3.out.alloc (Nat.le_of_lt HS3.out) (.cells #[.slice (some ⟨g, 0, none⟩) T.length c, .int .i64 0, .int .i64 0, .int .i64 0, .bool false, .int .i64 0] 61))
    have HS4 : Hid (w.heap.size < w3.heap.size) := HS3.out
    have G_s0 : Hid (Goes T s0 s0) := .refl (by rw [← hs0]; exact E.pos)
    have HDP : Hid (s0.deep = 0) := by show _ = _; rw [← hs0]
    have HS00 := Lib.hid hs0
    clear hT hrow htk HZ3 HB3 HS3 HTO hs0
    obtain ⟨a, h_a⟩ : ∃ a, atF T s0 = a := ⟨_, rfl⟩
    have E_a := Lib.hid h_a
    clear h_a
    obtain ⟨zz0, h_zz0⟩ : ∃ z9, Nd.mk 30 [] 0 a [] [] = z9 := ⟨_, rfl⟩
    obtain ⟨res, hres⟩ : ∃ res, progL T (T.length + 1) zz0 s0 = res := ⟨_, rfl⟩
    have HQ2 : Hid ((if (if kdF T ((rules T 42).exp (wantF T res.2 [100, 111])).2 = 0 then ((rules T 42).exp (wantF T res.2 [100, 111])).2 else failF T ((rules T 42).exp (wantF T res.2 [100, 111])).2 14).e = 0 then (res.1.add ((rules T 42).exp (wantF T res.2 [100, 111])).1, 0, 0) else (nd0, (if kdF T ((rules T 42).exp (wantF T res.2 [100, 111])).2 = 0 then ((rules T 42).exp (wantF T res.2 [100, 111])).2 else failF T ((rules T 42).exp (wantF T res.2 [100, 111])).2 14).bad, (if kdF T ((rules T 42).exp (wantF T res.2 [100, 111])).2 = 0 then ((rules T 42).exp (wantF T res.2 [100, 111])).2 else failF T ((rules T 42).exp (wantF T res.2 [100, 111])).2 14).e)) = q) := by
      show _ = _
      rw [← HQ.out]; unfold progF; rw [HTK.out, if_pos rfl, ← hres, ← h_zz0, ← E_a.out, ← HS00.out]; rfl
    have Z_zz0 := Lib.hid h_zz0
    have HRES := Lib.hid hres
    clear HQ hres h_zz0 HTK
    go_upto_region 5 with (fail)
    generalize w3.alloc (.cells #[.slice (some ⟨g, 0, none⟩) T.length c, .int .i64 0, .int .i64 0, .int .i64 0, .bool false, .int .i64 0] 61) = w4 at *
    obtain ⟨R, hR⟩ : ∃ R, w3.heap.size = R := ⟨_, rfl⟩
    rw [hR] at H5 HS4
    simp only [hR]
    clear hR
    obtain ⟨Bs, hBs⟩ : ∃ Bs, w4.heap.size = Bs := ⟨_, rfl⟩
    rw [hBs] at H5
    have HBS := Lib.hid hBs
    clear hBs
    go_wp2_with fail
    refine (at_eq E_a.out H5.out.p).mono ?_
    rintro e w6 ⟨rfl, b6⟩
    have H6 := Lib.hid (H5.out.read b6)
    clear b6 H5
    have H7 := Lib.hid (H6.out.alloc (.cells #[.int .i64 30, .string ⟨#[]⟩, .int .i64 0, .int .i64 (a : Int), .slice none 0 0, .slice none 0 0] 25))
    have B_G7 : Hid (Box (w6.alloc (.cells #[.int .i64 30, .string ⟨#[]⟩, .int .i64 0, .int .i64 (a : Int), .slice none 0 0, .slice none 0 0] 25)) w6.heap.size Bs (Nd.mk 30 [] 0 a [] []) fr0 []) := Box.made w6 (base := Bs) (x := (Nd.mk 30 [] 0 a [] [])) H6.out.size rfl rfl
    rw [Z_zz0.out] at B_G7
    go_upto_block 0 with (fail)
    generalize w6.alloc (.cells #[.int .i64 30, .string ⟨#[]⟩, .int .i64 0, .int .i64 (a : Int), .slice none 0 0, .slice none 0 0] 25) = w7 at *
    generalize w6.heap.size = G at *
    clear H6
    go_cut [10, 11] (fun _ _ wx => ∃ z s3 f3 fs3, res = (z, s3) ∧ z.ks.length ≤ 60 ∧ Lo Bs w4 wx R g c T s3 ∧ Box wx G Bs z f3 fs3 ∧ Goes T s0 s3)
    case first =>
      go_wp2_with fail
      go_loopg [10, 11] (T.length + 1) (fun gk _ _ wr => ∃ z s3 f3 fs3, T.length + 1 ≤ gk + s3.i ∧ z.ks.length ≤ 60 ∧ progL T gk z s3 = res ∧ Box wr G Bs z f3 fs3 ∧ Lo Bs w4 wr R g c T s3 ∧ Goes T s0 s3)
      case atStart => exact ⟨zz0, s0, fr0, [], by omega, by rw [← Z_zz0.out]; exact Nat.zero_le _, HRES.out, B_G7.out, H7.out, G_s0.out⟩
      case round =>
        obtain ⟨z, s3, f3, fs3, hz, hz4, hpl, hbx, hst, hgo⟩ := hrel
        obtain ⟨m, rfl⟩ : ∃ m, gk = m + 1 := ⟨gk - 1, by have := hgo.lt; omega⟩
        have BX := Lib.hid hbx
        have HS := Lib.hid hst
        have G_s3 := Lib.hid hgo
        have HPL := Lib.hid (show (if isF T s3 [116, 121, 112, 101] = true ∨ isF T s3 [108, 101, 116] = true then if z.ks.length = 60 then (z, failF T s3 16) else progL T m (z.add (declF T (rules T 42) s3).1) (declF T (rules T 42) s3).2 else (z, s3)) = res from hpl)
        clear hbx hst hgo hpl HQ2 HRES B_G7 H7
        obtain ⟨bt, h_bt⟩ : ∃ bt, isF T s3 [116, 121, 112, 101] = bt := ⟨_, rfl⟩
        have E_bt := Lib.hid h_bt
        clear h_bt
        obtain ⟨bl, h_bl⟩ : ∃ bl, isF T s3 [108, 101, 116] = bl := ⟨_, rfl⟩
        have E_bl := Lib.hid h_bl
        clear h_bl
        go_wp2_with fail
        refine (is_eq E_bt.out HS.out.p).mono ?_
        rintro e w21 ⟨rfl, b21⟩
        have H21 := Lib.hid (HS.out.read b21)
        have B_G21 := Lib.hid (BX.out.below b21 (Nat.le_refl _))
        clear b21 HS BX
        go_wp2_with fail
        refine (is_eq E_bl.out H21.out.p).mono ?_
        rintro e w22 ⟨rfl, b22⟩
        have H22 := Lib.hid (H21.out.read b22)
        have B_G22 := Lib.hid (B_G21.out.below b22 (Nat.le_refl _))
        clear b22 H21 B_G21
        rcases bt with _ | _
        · rcases bl with _ | _
          · have hr := (if_neg (by rw [E_bt.out, E_bl.out]; decide)).symm.trans HPL.out
            subst hr
            clear HPL
            go_wp2_with fail
            go_meet
            exact ⟨z, s3, f3, fs3, rfl, hz4, H22.out, B_G22.out, G_s3.out⟩
          · have HPL2 := Lib.hid ((if_pos (.inr E_bl.out)).symm.trans HPL.out)
            have HAD := Lib.hid (decl_adv E F G_s3.out.lt (is_kd E_bl.out))
            clear HPL
            have d5 := B_G22.out.c5
            go_upto_region 9 with (fail)
            obtain ⟨lb, ql⟩ : ∃ lb, ((z.ks.length : Int) == 60) = lb := ⟨_, rfl⟩
            rcases lb with _ | _
            · obtain ⟨y, s4, h_s4⟩ : ∃ y s4, declF T (rules T 42) s3 = (y, s4) := ⟨_, _, rfl⟩
              have E_s4 := Lib.hid h_s4
              clear h_s4
              have G_s4 := Lib.hid (show Goes T s0 s4 from by have q := G_s3.out.trans (goes_decl E F G_s3.out.lt); rw [E_s4.out] at q; exact q)
              have HPL3 : Hid (progL T m (z.add y) s4 = res) := by
                show _ = _
                have q1 := (if_neg (fun h => beq_eq_false_iff_ne.1 ql (by omega))).symm.trans HPL2.out
                rw [E_s4.out] at q1; exact q1
              have HI2 : Hid (s3.i + 1 ≤ s4.i) := by have q1 := HAD.out; rw [E_s4.out] at q1; exact q1
              have hz6 : z.ks.length ≤ 59 := by have := beq_eq_false_iff_ne.1 ql; omega
              clear HPL2 HAD
              go_upto_region 11 with (fail)
              clear d5
              have C23 := Lib.hid (fun wx (h : PAt wx R g c T s3) => gives_eq E_s4.out (decl_rule R g c T E wx s3 h 42 (by omega)))
              refine region_Z (fun W => W.cell? ⟨G, 5, none⟩ = some (.slice f3.ka z.ks.length f3.kc)) (fun i => i == 7) (by kernel_rfl) B_G22.out.drew.c5 (fun hHeld => ?_)
              ztake 0 8
              ztake 1 8
              ztake 2 8
              zstep 3
              go_simp
              go_at_call 37
              refine (C23.out _ H22.out.drew.p).mono ?_
              rintro e wc ⟨fy, rfl, hpc, ny, bc⟩
              have HC := Lib.hid (H22.out.drew.call hpc bc)
              have BC := Lib.hid (B_G22.out.drew.but bc (Nat.le_refl _) (by have := H22.out.r; omega))
              have NY : Hid (NodeIn wc (fun a => w22.heap.size ≤ a) y fy) := ny
              clear hpc ny bc
              unfold ndV
              refine hK.out _ _ (fun _ => BC.out.c5) (fun hHeld2 => ?_)
              clear hK K hHeld
              zput
              zstep 4
              go_simp
              refine hK.out _ _ (fun _ => (BC.out.alloc _).c5) (fun hHeld3 => ?_)
              clear hK K hHeld2
              zput
              zstep 5
              refine step_app ty_nd (v := .slice f3.ka z.ks.length f3.kc) (by rfl) _ _ (by rfl) (by rfl) (BC.out.alloc _).kid wc.heap.size 1 (ndL y fy) (by rfl) (Whole.made wc 25 _) (by rfl) (by simp [ndL, Value.oneCell']) (by decide) (by omega) (by decide) (by have := HC.out.size; simp; omega) ?_
              intro gv cv wd hap
              have HD := Lib.hid ((HC.out.alloc (.cells (ndL y fy).toArray 25)).low (hap.below (BC.out.alloc (.cells (ndL y fy).toArray 25)).kid (Below.refl _ _) (Nat.le_refl _) (by have := HC.out.size; simp; omega)))
              have BN0 := Lib.hid ((BC.out.alloc (.cells (ndL y fy).toArray 25)).app (B := w22.heap.size) B_G22.out.lt B_G22.out.nlt B_G22.out.klt (NY.out.alloc _) hap)
              have XD := Lib.hid (hap.far (BC.out.alloc (.cells (ndL y fy).toArray 25)).box (row_ne (BC.out.alloc (.cells (ndL y fy).toArray 25)).kid BC.out.kN))
              have z5 : wd.cell? ⟨G, 5, none⟩ = some (.slice f3.ka z.ks.length f3.kc) := XD.out.cell 5
              have y5 := XD.out.free 5
              refine hK.out _ _ (fun _ => z5) (fun hHeld4 => ?_)
              replace hHeld4 := hHeld4 (by decide)
              clear hK K hHeld3 hap
              zput
              ztake 6 8
              zstep 7
              go_simp
              zgoz
              zdone
              have H23 := Lib.hid (HD.out.own (p := ⟨G, 5, none⟩) (id B_G22.out.lo) (.slice (some ⟨gv, 0, none⟩) (z.ks.length + 1) cv))
              obtain ⟨f23, fs23, BN1⟩ : ∃ f2 fs2, Box (wd.setCell ⟨G, 5, none⟩ (.slice (some ⟨gv, 0, none⟩) (z.ks.length + 1) cv)) G Bs (z.add y) f2 fs2 := ⟨_, _, BN0.out⟩
              have B_G23 := Lib.hid BN1
              clear hK K hHeld4 z5 y5 XD BN0 BN1 HD BC HC NY
              generalize wd.setCell ⟨G, 5, none⟩ (.slice (some ⟨gv, 0, none⟩) (z.ks.length + 1) cv) = w23 at *
              clear C23 H22 B_G22
              go_wp2_with fail
              go_roundg m
              case measure => exact Nat.lt_succ_self _
              case rel => exact ⟨_, s4, f23, fs23, by have := HI2.out; omega, by rw [add_ks]; simp; omega, HPL3.out, B_G23.out, H23.out, G_s4.out⟩
            · obtain ⟨s5, h_s5⟩ : ∃ s5, failF T s3 16 = s5 := ⟨_, rfl⟩
              have E_s5 := Lib.hid h_s5
              clear h_s5
              have G_s5 := Lib.hid (show Goes T s0 s5 from by have q := (G_s3.out.fail 16); rw [E_s5.out] at q; exact q)
              have hr := (if_pos (by have := beq_iff_eq.1 ql; omega)).symm.trans HPL2.out
              rw [E_s5.out] at hr
              subst hr
              clear HPL2 HAD
              go_upto_region 10 with (fail)
              clear d5
              go_wp2_with fail
              refine (fail_eq E_s5.out H22.out.p).mono ?_
              rintro e w24 ⟨rfl, h24, b24⟩
              have H24 := Lib.hid (H22.out.call h24 b24)
              have B_G24 := Lib.hid (B_G22.out.but b24 (Nat.le_refl _) (by have := H22.out.r; omega))
              clear h24 b24 H22 B_G22
              go_wp2_with fail
              go_meet
              exact ⟨z, s5, f3, fs3, rfl, hz4, H24.out, B_G24.out, G_s5.out⟩
        · rcases bl with _ | _
          · have HPL2 := Lib.hid ((if_pos (.inl E_bt.out)).symm.trans HPL.out)
            have HAD := Lib.hid (decl_adv E F G_s3.out.lt (is_kd E_bt.out))
            clear HPL
            have d5 := B_G22.out.c5
            go_upto_region 9 with (fail)
            obtain ⟨lb, ql⟩ : ∃ lb, ((z.ks.length : Int) == 60) = lb := ⟨_, rfl⟩
            rcases lb with _ | _
            · obtain ⟨y, s4, h_s4⟩ : ∃ y s4, declF T (rules T 42) s3 = (y, s4) := ⟨_, _, rfl⟩
              have E_s4 := Lib.hid h_s4
              clear h_s4
              have G_s4 := Lib.hid (show Goes T s0 s4 from by have q := G_s3.out.trans (goes_decl E F G_s3.out.lt); rw [E_s4.out] at q; exact q)
              have HPL3 : Hid (progL T m (z.add y) s4 = res) := by
                show _ = _
                have q1 := (if_neg (fun h => beq_eq_false_iff_ne.1 ql (by omega))).symm.trans HPL2.out
                rw [E_s4.out] at q1; exact q1
              have HI2 : Hid (s3.i + 1 ≤ s4.i) := by have q1 := HAD.out; rw [E_s4.out] at q1; exact q1
              have hz6 : z.ks.length ≤ 59 := by have := beq_eq_false_iff_ne.1 ql; omega
              clear HPL2 HAD
              go_upto_region 11 with (fail)
              clear d5
              have C25 := Lib.hid (fun wx (h : PAt wx R g c T s3) => gives_eq E_s4.out (decl_rule R g c T E wx s3 h 42 (by omega)))
              refine region_Z (fun W => W.cell? ⟨G, 5, none⟩ = some (.slice f3.ka z.ks.length f3.kc)) (fun i => i == 7) (by kernel_rfl) B_G22.out.drew.c5 (fun hHeld => ?_)
              ztake 0 8
              ztake 1 8
              ztake 2 8
              zstep 3
              go_simp
              go_at_call 37
              refine (C25.out _ H22.out.drew.p).mono ?_
              rintro e wc ⟨fy, rfl, hpc, ny, bc⟩
              have HC := Lib.hid (H22.out.drew.call hpc bc)
              have BC := Lib.hid (B_G22.out.drew.but bc (Nat.le_refl _) (by have := H22.out.r; omega))
              have NY : Hid (NodeIn wc (fun a => w22.heap.size ≤ a) y fy) := ny
              clear hpc ny bc
              unfold ndV
              refine hK.out _ _ (fun _ => BC.out.c5) (fun hHeld2 => ?_)
              clear hK K hHeld
              zput
              zstep 4
              go_simp
              refine hK.out _ _ (fun _ => (BC.out.alloc _).c5) (fun hHeld3 => ?_)
              clear hK K hHeld2
              zput
              zstep 5
              refine step_app ty_nd (v := .slice f3.ka z.ks.length f3.kc) (by rfl) _ _ (by rfl) (by rfl) (BC.out.alloc _).kid wc.heap.size 1 (ndL y fy) (by rfl) (Whole.made wc 25 _) (by rfl) (by simp [ndL, Value.oneCell']) (by decide) (by omega) (by decide) (by have := HC.out.size; simp; omega) ?_
              intro gv cv wd hap
              have HD := Lib.hid ((HC.out.alloc (.cells (ndL y fy).toArray 25)).low (hap.below (BC.out.alloc (.cells (ndL y fy).toArray 25)).kid (Below.refl _ _) (Nat.le_refl _) (by have := HC.out.size; simp; omega)))
              have BN0 := Lib.hid ((BC.out.alloc (.cells (ndL y fy).toArray 25)).app (B := w22.heap.size) B_G22.out.lt B_G22.out.nlt B_G22.out.klt (NY.out.alloc _) hap)
              have XD := Lib.hid (hap.far (BC.out.alloc (.cells (ndL y fy).toArray 25)).box (row_ne (BC.out.alloc (.cells (ndL y fy).toArray 25)).kid BC.out.kN))
              have z5 : wd.cell? ⟨G, 5, none⟩ = some (.slice f3.ka z.ks.length f3.kc) := XD.out.cell 5
              have y5 := XD.out.free 5
              refine hK.out _ _ (fun _ => z5) (fun hHeld4 => ?_)
              replace hHeld4 := hHeld4 (by decide)
              clear hK K hHeld3 hap
              zput
              ztake 6 8
              zstep 7
              go_simp
              zgoz
              zdone
              have H25 := Lib.hid (HD.out.own (p := ⟨G, 5, none⟩) (id B_G22.out.lo) (.slice (some ⟨gv, 0, none⟩) (z.ks.length + 1) cv))
              obtain ⟨f25, fs25, BN1⟩ : ∃ f2 fs2, Box (wd.setCell ⟨G, 5, none⟩ (.slice (some ⟨gv, 0, none⟩) (z.ks.length + 1) cv)) G Bs (z.add y) f2 fs2 := ⟨_, _, BN0.out⟩
              have B_G25 := Lib.hid BN1
              clear hK K hHeld4 z5 y5 XD BN0 BN1 HD BC HC NY
              generalize wd.setCell ⟨G, 5, none⟩ (.slice (some ⟨gv, 0, none⟩) (z.ks.length + 1) cv) = w25 at *
              clear C25 H22 B_G22
              go_wp2_with fail
              go_roundg m
              case measure => exact Nat.lt_succ_self _
              case rel => exact ⟨_, s4, f25, fs25, by have := HI2.out; omega, by rw [add_ks]; simp; omega, HPL3.out, B_G25.out, H25.out, G_s4.out⟩
            · obtain ⟨s5, h_s5⟩ : ∃ s5, failF T s3 16 = s5 := ⟨_, rfl⟩
              have E_s5 := Lib.hid h_s5
              clear h_s5
              have G_s5 := Lib.hid (show Goes T s0 s5 from by have q := (G_s3.out.fail 16); rw [E_s5.out] at q; exact q)
              have hr := (if_pos (by have := beq_iff_eq.1 ql; omega)).symm.trans HPL2.out
              rw [E_s5.out] at hr
              subst hr
              clear HPL2 HAD
              go_upto_region 10 with (fail)
              clear d5
              go_wp2_with fail
              refine (fail_eq E_s5.out H22.out.p).mono ?_
              rintro e w26 ⟨rfl, h26, b26⟩
              have H26 := Lib.hid (H22.out.call h26 b26)
              have B_G26 := Lib.hid (B_G22.out.but b26 (Nat.le_refl _) (by have := H22.out.r; omega))
              clear h26 b26 H22 B_G22
              go_wp2_with fail
              go_meet
              exact ⟨z, s5, f3, fs3, rfl, hz4, H26.out, B_G26.out, G_s5.out⟩
          · have HPL2 := Lib.hid ((if_pos (.inl E_bt.out)).symm.trans HPL.out)
            have HAD := Lib.hid (decl_adv E F G_s3.out.lt (is_kd E_bt.out))
            clear HPL
            have d5 := B_G22.out.c5
            go_upto_region 9 with (fail)
            obtain ⟨lb, ql⟩ : ∃ lb, ((z.ks.length : Int) == 60) = lb := ⟨_, rfl⟩
            rcases lb with _ | _
            · obtain ⟨y, s4, h_s4⟩ : ∃ y s4, declF T (rules T 42) s3 = (y, s4) := ⟨_, _, rfl⟩
              have E_s4 := Lib.hid h_s4
              clear h_s4
              have G_s4 := Lib.hid (show Goes T s0 s4 from by have q := G_s3.out.trans (goes_decl E F G_s3.out.lt); rw [E_s4.out] at q; exact q)
              have HPL3 : Hid (progL T m (z.add y) s4 = res) := by
                show _ = _
                have q1 := (if_neg (fun h => beq_eq_false_iff_ne.1 ql (by omega))).symm.trans HPL2.out
                rw [E_s4.out] at q1; exact q1
              have HI2 : Hid (s3.i + 1 ≤ s4.i) := by have q1 := HAD.out; rw [E_s4.out] at q1; exact q1
              have hz6 : z.ks.length ≤ 59 := by have := beq_eq_false_iff_ne.1 ql; omega
              clear HPL2 HAD
              go_upto_region 11 with (fail)
              clear d5
              have C27 := Lib.hid (fun wx (h : PAt wx R g c T s3) => gives_eq E_s4.out (decl_rule R g c T E wx s3 h 42 (by omega)))
              refine region_Z (fun W => W.cell? ⟨G, 5, none⟩ = some (.slice f3.ka z.ks.length f3.kc)) (fun i => i == 7) (by kernel_rfl) B_G22.out.drew.c5 (fun hHeld => ?_)
              ztake 0 8
              ztake 1 8
              ztake 2 8
              zstep 3
              go_simp
              go_at_call 37
              refine (C27.out _ H22.out.drew.p).mono ?_
              rintro e wc ⟨fy, rfl, hpc, ny, bc⟩
              have HC := Lib.hid (H22.out.drew.call hpc bc)
              have BC := Lib.hid (B_G22.out.drew.but bc (Nat.le_refl _) (by have := H22.out.r; omega))
              have NY : Hid (NodeIn wc (fun a => w22.heap.size ≤ a) y fy) := ny
              clear hpc ny bc
              unfold ndV
              refine hK.out _ _ (fun _ => BC.out.c5) (fun hHeld2 => ?_)
              clear hK K hHeld
              zput
              zstep 4
              go_simp
              refine hK.out _ _ (fun _ => (BC.out.alloc _).c5) (fun hHeld3 => ?_)
              clear hK K hHeld2
              zput
              zstep 5
              refine step_app ty_nd (v := .slice f3.ka z.ks.length f3.kc) (by rfl) _ _ (by rfl) (by rfl) (BC.out.alloc _).kid wc.heap.size 1 (ndL y fy) (by rfl) (Whole.made wc 25 _) (by rfl) (by simp [ndL, Value.oneCell']) (by decide) (by omega) (by decide) (by have := HC.out.size; simp; omega) ?_
              intro gv cv wd hap
              have HD := Lib.hid ((HC.out.alloc (.cells (ndL y fy).toArray 25)).low (hap.below (BC.out.alloc (.cells (ndL y fy).toArray 25)).kid (Below.refl _ _) (Nat.le_refl _) (by have := HC.out.size; simp; omega)))
              have BN0 := Lib.hid ((BC.out.alloc (.cells (ndL y fy).toArray 25)).app (B := w22.heap.size) B_G22.out.lt B_G22.out.nlt B_G22.out.klt (NY.out.alloc _) hap)
              have XD := Lib.hid (hap.far (BC.out.alloc (.cells (ndL y fy).toArray 25)).box (row_ne (BC.out.alloc (.cells (ndL y fy).toArray 25)).kid BC.out.kN))
              have z5 : wd.cell? ⟨G, 5, none⟩ = some (.slice f3.ka z.ks.length f3.kc) := XD.out.cell 5
              have y5 := XD.out.free 5
              refine hK.out _ _ (fun _ => z5) (fun hHeld4 => ?_)
              replace hHeld4 := hHeld4 (by decide)
              clear hK K hHeld3 hap
              zput
              ztake 6 8
              zstep 7
              go_simp
              zgoz
              zdone
              have H27 := Lib.hid (HD.out.own (p := ⟨G, 5, none⟩) (id B_G22.out.lo) (.slice (some ⟨gv, 0, none⟩) (z.ks.length + 1) cv))
              obtain ⟨f27, fs27, BN1⟩ : ∃ f2 fs2, Box (wd.setCell ⟨G, 5, none⟩ (.slice (some ⟨gv, 0, none⟩) (z.ks.length + 1) cv)) G Bs (z.add y) f2 fs2 := ⟨_, _, BN0.out⟩
              have B_G27 := Lib.hid BN1
              clear hK K hHeld4 z5 y5 XD BN0 BN1 HD BC HC NY
              generalize wd.setCell ⟨G, 5, none⟩ (.slice (some ⟨gv, 0, none⟩) (z.ks.length + 1) cv) = w27 at *
              clear C27 H22 B_G22
              go_wp2_with fail
              go_roundg m
              case measure => exact Nat.lt_succ_self _
              case rel => exact ⟨_, s4, f27, fs27, by have := HI2.out; omega, by rw [add_ks]; simp; omega, HPL3.out, B_G27.out, H27.out, G_s4.out⟩
            · obtain ⟨s5, h_s5⟩ : ∃ s5, failF T s3 16 = s5 := ⟨_, rfl⟩
              have E_s5 := Lib.hid h_s5
              clear h_s5
              have G_s5 := Lib.hid (show Goes T s0 s5 from by have q := (G_s3.out.fail 16); rw [E_s5.out] at q; exact q)
              have hr := (if_pos (by have := beq_iff_eq.1 ql; omega)).symm.trans HPL2.out
              rw [E_s5.out] at hr
              subst hr
              clear HPL2 HAD
              go_upto_region 10 with (fail)
              clear d5
              go_wp2_with fail
              refine (fail_eq E_s5.out H22.out.p).mono ?_
              rintro e w28 ⟨rfl, h28, b28⟩
              have H28 := Lib.hid (H22.out.call h28 b28)
              have B_G28 := Lib.hid (B_G22.out.but b28 (Nat.le_refl _) (by have := H22.out.r; omega))
              clear h28 b28 H22 B_G22
              go_wp2_with fail
              go_meet
              exact ⟨z, s5, f3, fs3, rfl, hz4, H28.out, B_G28.out, G_s5.out⟩
    case rest =>
      obtain ⟨z, s3, f3, fs3, hres, hz4, h5, b5, g5⟩ := hcut
      have H91 := Lib.hid h5
      have B91 := Lib.hid b5
      have G_s3 := Lib.hid g5
      have hq := HQ2.out
      rw [hres] at hq
      have HQ3 := Lib.hid hq
      clear hq HQ2 HRES hres h5 b5 g5 B_G7 H7
      have hwr : w.heap.size < R := HS4.out
      obtain ⟨s4, h_s4⟩ : ∃ s4, wantF T s3 [100, 111] = s4 := ⟨_, rfl⟩
      have E_s4 := Lib.hid h_s4
      clear h_s4
      have G_s4 := Lib.hid (show Goes T s0 s4 from by have q := (G_s3.out.want E [100, 111]); rw [E_s4.out] at q; exact q)
      obtain ⟨y, s5, h_s5⟩ : ∃ y s5, (rules T 42).exp s4 = (y, s5) := ⟨_, _, rfl⟩
      have E_s5 := Lib.hid h_s5
      clear h_s5
      have G_s5 := Lib.hid (show Goes T s0 s5 from by have q := (G_s4.out.exp F); rw [E_s5.out] at q; exact q)
      obtain ⟨k, h_k⟩ : ∃ k, kdF T s5 = k := ⟨_, rfl⟩
      have E_k := Lib.hid h_k
      clear h_k
      have hq := HQ3.out
      (try dsimp only at hq)
      rw [E_s4.out, E_s5.out] at hq
      (try dsimp only at hq)
      rw [E_k.out] at hq
      have HQ4 := Lib.hid hq
      clear hq HQ3
      go_upto_region 12 with (fail)
      go_wp2_with fail
      refine (want_eq E E_s4.out H91.out.p).mono ?_
      rintro e w93 ⟨rfl, h93, b93⟩
      have H93 := Lib.hid (H91.out.call h93 b93)
      have B_G93 := Lib.hid (B91.out.but b93 (Nat.le_refl _) (by have := H91.out.r; omega))
      clear h93 b93 H91 B91
      go_upto_region 13 with (fail)
      have C94 := Lib.hid (fun wx (h : PAt wx R g c T s4) => gives_eq E_s5.out (exp_rule R g c T E wx s4 h 42 (by omega)))
      refine region_Z (fun W => W.cell? ⟨G, 5, none⟩ = some (.slice f3.ka z.ks.length f3.kc)) (fun i => i == 7) (by kernel_rfl) B_G93.out.drew.c5 (fun hHeld => ?_)
      ztake 0 8
      ztake 1 8
      ztake 2 8
      zstep 3
      go_simp
      go_at_call 39
      refine (C94.out _ H93.out.drew.p).mono ?_
      rintro e wc ⟨fy, rfl, hpc, ny, bc⟩
      have HC := Lib.hid (H93.out.drew.call hpc bc)
      have BC := Lib.hid (B_G93.out.drew.but bc (Nat.le_refl _) (by have := H93.out.r; omega))
      have NY : Hid (NodeIn wc (fun a => w93.heap.size ≤ a) y fy) := ny
      clear hpc ny bc
      unfold ndV
      refine hK.out _ _ (fun _ => BC.out.c5) (fun hHeld2 => ?_)
      clear hK K hHeld
      zput
      zstep 4
      go_simp
      refine hK.out _ _ (fun _ => (BC.out.alloc _).c5) (fun hHeld3 => ?_)
      clear hK K hHeld2
      zput
      zstep 5
      refine step_app ty_nd (v := .slice f3.ka z.ks.length f3.kc) (by rfl) _ _ (by rfl) (by rfl) (BC.out.alloc _).kid wc.heap.size 1 (ndL y fy) (by rfl) (Whole.made wc 25 _) (by rfl) (by simp [ndL, Value.oneCell']) (by decide) (by omega) (by decide) (by have := HC.out.size; simp; omega) ?_
      intro gv cv wd hap
      have HD := Lib.hid ((HC.out.alloc (.cells (ndL y fy).toArray 25)).low (hap.below (BC.out.alloc (.cells (ndL y fy).toArray 25)).kid (Below.refl _ _) (Nat.le_refl _) (by have := HC.out.size; simp; omega)))
      have BN0 := Lib.hid ((BC.out.alloc (.cells (ndL y fy).toArray 25)).app (B := w93.heap.size) B_G93.out.lt B_G93.out.nlt B_G93.out.klt (NY.out.alloc _) hap)
      have XD := Lib.hid (hap.far (BC.out.alloc (.cells (ndL y fy).toArray 25)).box (row_ne (BC.out.alloc (.cells (ndL y fy).toArray 25)).kid BC.out.kN))
      have z5 : wd.cell? ⟨G, 5, none⟩ = some (.slice f3.ka z.ks.length f3.kc) := XD.out.cell 5
      have y5 := XD.out.free 5
      refine hK.out _ _ (fun _ => z5) (fun hHeld4 => ?_)
      replace hHeld4 := hHeld4 (by decide)
      clear hK K hHeld3 hap
      zput
      ztake 6 8
      zstep 7
      go_simp
      zgoz
      zdone
      have H94 := Lib.hid (HD.out.own (p := ⟨G, 5, none⟩) (id B_G93.out.lo) (.slice (some ⟨gv, 0, none⟩) (z.ks.length + 1) cv))
      obtain ⟨f94, fs94, BN1⟩ : ∃ f2 fs2, Box (wd.setCell ⟨G, 5, none⟩ (.slice (some ⟨gv, 0, none⟩) (z.ks.length + 1) cv)) G Bs (z.add y) f2 fs2 := ⟨_, _, BN0.out⟩
      have B_G94 := Lib.hid BN1
      clear hK K hHeld4 z5 y5 XD BN0 BN1 HD BC HC NY
      generalize wd.setCell ⟨G, 5, none⟩ (.slice (some ⟨gv, 0, none⟩) (z.ks.length + 1) cv) = w94 at *
      clear C94 H93 B_G93
      obtain ⟨za, h_za⟩ : ∃ z9, (z.add y) = z9 := ⟨_, rfl⟩
      rw [h_za] at B_G94
      have Z_za := Lib.hid h_za
      clear h_za
      go_wp2_with fail
      refine (kind_eq E_k.out H94.out.p).mono ?_
      rintro e w95 ⟨rfl, b95⟩
      have H95 := Lib.hid (H94.out.read b95)
      have B_G95 := Lib.hid (B_G94.out.below b95 (Nat.le_refl _))
      clear b95 H94 B_G94
      obtain ⟨kb, qk⟩ : ∃ kb, (k != 0) = kb := ⟨_, rfl⟩
      rcases kb with _ | _
      · have hq := HQ4.out
        rw [if_pos (show k = 0 from by simpa using qk)] at hq
        have HQ5 := Lib.hid hq
        clear hq HQ4
        have c5 := H95.out.p.c5
        have ff := H95.out.p.free 5
        obtain ⟨eb, qe⟩ : ∃ eb, (s5.e != 0) = eb := ⟨_, rfl⟩
        rcases eb with _ | _
        · have hq := HQ5.out
          rw [if_pos (by simpa using qe)] at hq
          rw [Z_za.out] at hq
          subst hq
          have HZ9 := Lib.hid (H95.out.b.whole HZ4.out (by have := H95.out.r; omega) (by omega))
          clear HQ5
          go_upto_region 18 with (fail)
          clear c5 ff
          have t0 : w95.cell? ⟨G, 0, none⟩ = some (.int .i64 za.kd) := B_G95.out.box.cell 0
          have t1 : w95.cell? ⟨G, 1, none⟩ = some (.string ⟨za.tx.toArray⟩) := B_G95.out.box.cell 1
          have t2 : w95.cell? ⟨G, 2, none⟩ = some (.int .i64 za.nm) := B_G95.out.box.cell 2
          have t3 : w95.cell? ⟨G, 3, none⟩ = some (.int .i64 (za.at_ : Int)) := B_G95.out.box.cell 3
          have t4 : w95.cell? ⟨G, 4, none⟩ = some (.slice f94.na za.ns.length f94.nc) := B_G95.out.box.cell 4
          have t5 : w95.cell? ⟨G, 5, none⟩ = some (.slice f94.ka za.ks.length f94.kc) := B_G95.out.box.cell 5
          zzero w95 (w.heap.size) (HZ9.out)
          zfree (HZ9.out)
          go_wp2_with fail
          have HZF : Hid (Whole (zP(w95, w.heap.size, za, f94)) w.heap.size 25 zN(za, f94)) := put6 HZ9.out _ _ _ _ _ _
          have HBF : Hid (But w.heap.size w95.heap.size w95 (zP(w95, w.heap.size, za, f94))) := but6 _ _ _ _ _ _ _ _
          generalize (zP(w95, w.heap.size, za, f94)) = wf at *
          gcells
          exact bodyPost_ret (v := .tuple #[ndV za f94, .int .i64 0, .int .i64 0]) (by simp [results, Try.results17, go_sem, ndV, Nd.kd, Nd.tx, Nd.nm, Nd.at_, Nd.ns, Nd.ks, leafN, fr0, nd0, g0, g1, g2, g3, g4, g5]) rfl ⟨f94, rfl, (B_G95.out.node.but HBF.out (Nat.le_refl _) (fun a ha e => by have := H95.out.r; have := ha.1; omega)).mono (fun a ha _ => by have := H95.out.r; have := ha.1; omega), HB4.out.trans ((H95.out.b.below (b := w.heap.size) (by have := H95.out.r; omega) (by omega)).trans (HBF.out.below (by have := H95.out.size; have := H95.out.r; omega) (Nat.le_refl _)))⟩
        · have hq := HQ5.out
          rw [if_neg (by simpa using qe)] at hq
          subst hq
          have HZ9 := Lib.hid (H95.out.b.whole HZ4.out (by have := H95.out.r; omega) (by omega))
          clear HQ5
          go_upto_region 17 with (fail)
          clear c5 ff
          have HE := Lib.hid (And.intro H95.out.p.c3 H95.out.p.c5)
          have HNR : Hid (R ≠ w.heap.size) := by show _ ≠ _; omega
          refine region_Z (fun W => W.cell? ⟨R, 3, none⟩ = some (.int .i64 (s5.bad : Int)) ∧ W.cell? ⟨R, 5, none⟩ = some (.int .i64 s5.e)) (fun _ => false) (by kernel_rfl) HE.out (fun hHeld => ?_)
          ztki 0 12
          · (intro w hSw; (try dsimp only at hSw); obtain ⟨hS1, hS2⟩ := hSw; go_simp; try with_reducible rfl)
          zput
          ztki 1 12
          · (intro w hSw; (try dsimp only at hSw); obtain ⟨hS1, hS2⟩ := hSw; go_simp; try with_reducible rfl)
          zput
          ztki 2 12
          · (intro w hSw; (try dsimp only at hSw); obtain ⟨hS1, hS2⟩ := hSw; go_simp; try with_reducible rfl)
          zput
          ztki 3 12
          · (intro w hSw; (try dsimp only at hSw); obtain ⟨hS1, hS2⟩ := hSw; go_simp; try with_reducible rfl)
          zput
          ztki 4 12
          · (intro w hSw; (try dsimp only at hSw); obtain ⟨hS1, hS2⟩ := hSw; go_simp; try with_reducible rfl)
          zput
          ztki 5 12
          · (intro w hSw; (try dsimp only at hSw); obtain ⟨hS1, hS2⟩ := hSw; go_simp; try with_reducible rfl)
          zput
          ztki 6 12
          · (intro w hSw; (try dsimp only at hSw); obtain ⟨hS1, hS2⟩ := hSw; go_simp; try with_reducible rfl)
          zput
          ztki 7 12
          · (intro w hSw; (try dsimp only at hSw); obtain ⟨hS1, hS2⟩ := hSw; go_simp; try with_reducible rfl)
          zput
          ztki 8 12
          · (intro w hSw; (try dsimp only at hSw); obtain ⟨hS1, hS2⟩ := hSw; go_simp; try with_reducible rfl)
          zput
          zzero w95 (w.heap.size) (HZ9.out)
          zfree (HZ9.out)
          zstep 9
          go_simp
          refine hK.out _ _ (fun _ => ⟨far6 (w := w95) HE.out.1 HNR.out, far6 (w := w95) HE.out.2 HNR.out⟩) (fun hHeld2 => ?_)
          replace hHeld2 := hHeld2 rfl
          clear hK K hHeld
          zput
          zstep 10
          go_simp
          refine hK.out _ _ (fun _ => hHeld2) (fun hHeld3 => ?_)
          clear hK K hHeld3
          zput
          zstep 11
          go_simp
          refine hK.out _ _ (fun _ => hHeld2) (fun hHeld3 => ?_)
          clear hK K hHeld3 hHeld2
          zput
          zdone
          go_wp2_with fail
          have HZF : Hid (Whole (zP0(w95, w.heap.size)) w.heap.size 25 zZ) := put6 HZ9.out _ _ _ _ _ _
          have HBF : Hid (But w.heap.size w95.heap.size w95 (zP0(w95, w.heap.size))) := but6 _ _ _ _ _ _ _ _
          generalize (zP0(w95, w.heap.size)) = wf at *
          gcells
          exact bodyPost_ret (v := .tuple #[ndV nd0 fr0, .int .i64 (s5.bad : Int), .int .i64 s5.e]) (by simp [results, Try.results17, go_sem, ndV, Nd.kd, Nd.tx, Nd.nm, Nd.at_, Nd.ns, Nd.ks, leafN, fr0, nd0, g0, g1, g2, g3, g4, g5]) rfl ⟨fr0, rfl, .leaf _ _ rfl rfl, (HB4.out.trans ((H95.out.b.below (b := w.heap.size) (by have := H95.out.r; omega) (by omega)).trans (HBF.out.below (by have := H95.out.size; have := H95.out.r; omega) (Nat.le_refl _)))).drew⟩
      · obtain ⟨s6, h_s6⟩ : ∃ s6, failF T s5 14 = s6 := ⟨_, rfl⟩
        have E_s6 := Lib.hid h_s6
        clear h_s6
        go_upto_region 15 with (fail)
        go_wp2_with fail
        refine (fail_eq E_s6.out H95.out.p).mono ?_
        rintro e w96 ⟨rfl, h96, b96⟩
        have H96 := Lib.hid (H95.out.call h96 b96)
        have B_G96 := Lib.hid (B_G95.out.but b96 (Nat.le_refl _) (by have := H95.out.r; omega))
        clear h96 b96 H95 B_G95
        have hq := HQ4.out
        rw [if_neg (show ¬ k = 0 from by simpa using qk), E_s6.out] at hq
        have HQ5 := Lib.hid hq
        clear hq HQ4
        have c5 := H96.out.p.c5
        have ff := H96.out.p.free 5
        obtain ⟨eb, qe⟩ : ∃ eb, (s6.e != 0) = eb := ⟨_, rfl⟩
        rcases eb with _ | _
        · have hq := HQ5.out
          rw [if_pos (by simpa using qe)] at hq
          rw [Z_za.out] at hq
          subst hq
          have HZ9 := Lib.hid (H96.out.b.whole HZ4.out (by have := H96.out.r; omega) (by omega))
          clear HQ5
          go_upto_region 18 with (fail)
          clear c5 ff
          have t0 : w96.cell? ⟨G, 0, none⟩ = some (.int .i64 za.kd) := B_G96.out.box.cell 0
          have t1 : w96.cell? ⟨G, 1, none⟩ = some (.string ⟨za.tx.toArray⟩) := B_G96.out.box.cell 1
          have t2 : w96.cell? ⟨G, 2, none⟩ = some (.int .i64 za.nm) := B_G96.out.box.cell 2
          have t3 : w96.cell? ⟨G, 3, none⟩ = some (.int .i64 (za.at_ : Int)) := B_G96.out.box.cell 3
          have t4 : w96.cell? ⟨G, 4, none⟩ = some (.slice f94.na za.ns.length f94.nc) := B_G96.out.box.cell 4
          have t5 : w96.cell? ⟨G, 5, none⟩ = some (.slice f94.ka za.ks.length f94.kc) := B_G96.out.box.cell 5
          zzero w96 (w.heap.size) (HZ9.out)
          zfree (HZ9.out)
          go_wp2_with fail
          have HZF : Hid (Whole (zP(w96, w.heap.size, za, f94)) w.heap.size 25 zN(za, f94)) := put6 HZ9.out _ _ _ _ _ _
          have HBF : Hid (But w.heap.size w96.heap.size w96 (zP(w96, w.heap.size, za, f94))) := but6 _ _ _ _ _ _ _ _
          generalize (zP(w96, w.heap.size, za, f94)) = wf at *
          gcells
          exact bodyPost_ret (v := .tuple #[ndV za f94, .int .i64 0, .int .i64 0]) (by simp [results, Try.results17, go_sem, ndV, Nd.kd, Nd.tx, Nd.nm, Nd.at_, Nd.ns, Nd.ks, leafN, fr0, nd0, g0, g1, g2, g3, g4, g5]) rfl ⟨f94, rfl, (B_G96.out.node.but HBF.out (Nat.le_refl _) (fun a ha e => by have := H96.out.r; have := ha.1; omega)).mono (fun a ha _ => by have := H96.out.r; have := ha.1; omega), HB4.out.trans ((H96.out.b.below (b := w.heap.size) (by have := H96.out.r; omega) (by omega)).trans (HBF.out.below (by have := H96.out.size; have := H96.out.r; omega) (Nat.le_refl _)))⟩
        · have hq := HQ5.out
          rw [if_neg (by simpa using qe)] at hq
          subst hq
          have HZ9 := Lib.hid (H96.out.b.whole HZ4.out (by have := H96.out.r; omega) (by omega))
          clear HQ5
          go_upto_region 17 with (fail)
          clear c5 ff
          have HE := Lib.hid (And.intro H96.out.p.c3 H96.out.p.c5)
          have HNR : Hid (R ≠ w.heap.size) := by show _ ≠ _; omega
          refine region_Z (fun W => W.cell? ⟨R, 3, none⟩ = some (.int .i64 (s6.bad : Int)) ∧ W.cell? ⟨R, 5, none⟩ = some (.int .i64 s6.e)) (fun _ => false) (by kernel_rfl) HE.out (fun hHeld => ?_)
          ztki 0 12
          · (intro w hSw; (try dsimp only at hSw); obtain ⟨hS1, hS2⟩ := hSw; go_simp; try with_reducible rfl)
          zput
          ztki 1 12
          · (intro w hSw; (try dsimp only at hSw); obtain ⟨hS1, hS2⟩ := hSw; go_simp; try with_reducible rfl)
          zput
          ztki 2 12
          · (intro w hSw; (try dsimp only at hSw); obtain ⟨hS1, hS2⟩ := hSw; go_simp; try with_reducible rfl)
          zput
          ztki 3 12
          · (intro w hSw; (try dsimp only at hSw); obtain ⟨hS1, hS2⟩ := hSw; go_simp; try with_reducible rfl)
          zput
          ztki 4 12
          · (intro w hSw; (try dsimp only at hSw); obtain ⟨hS1, hS2⟩ := hSw; go_simp; try with_reducible rfl)
          zput
          ztki 5 12
          · (intro w hSw; (try dsimp only at hSw); obtain ⟨hS1, hS2⟩ := hSw; go_simp; try with_reducible rfl)
          zput
          ztki 6 12
          · (intro w hSw; (try dsimp only at hSw); obtain ⟨hS1, hS2⟩ := hSw; go_simp; try with_reducible rfl)
          zput
          ztki 7 12
          · (intro w hSw; (try dsimp only at hSw); obtain ⟨hS1, hS2⟩ := hSw; go_simp; try with_reducible rfl)
          zput
          ztki 8 12
          · (intro w hSw; (try dsimp only at hSw); obtain ⟨hS1, hS2⟩ := hSw; go_simp; try with_reducible rfl)
          zput
          zzero w96 (w.heap.size) (HZ9.out)
          zfree (HZ9.out)
          zstep 9
          go_simp
          refine hK.out _ _ (fun _ => ⟨far6 (w := w96) HE.out.1 HNR.out, far6 (w := w96) HE.out.2 HNR.out⟩) (fun hHeld2 => ?_)
          replace hHeld2 := hHeld2 rfl
          clear hK K hHeld
          zput
          zstep 10
          go_simp
          refine hK.out _ _ (fun _ => hHeld2) (fun hHeld3 => ?_)
          clear hK K hHeld3
          zput
          zstep 11
          go_simp
          refine hK.out _ _ (fun _ => hHeld2) (fun hHeld3 => ?_)
          clear hK K hHeld3 hHeld2
          zput
          zdone
          go_wp2_with fail
          have HZF : Hid (Whole (zP0(w96, w.heap.size)) w.heap.size 25 zZ) := put6 HZ9.out _ _ _ _ _ _
          have HBF : Hid (But w.heap.size w96.heap.size w96 (zP0(w96, w.heap.size))) := but6 _ _ _ _ _ _ _ _
          generalize (zP0(w96, w.heap.size)) = wf at *
          gcells
          exact bodyPost_ret (v := .tuple #[ndV nd0 fr0, .int .i64 (s6.bad : Int), .int .i64 s6.e]) (by simp [results, Try.results17, go_sem, ndV, Nd.kd, Nd.tx, Nd.nm, Nd.at_, Nd.ns, Nd.ks, leafN, fr0, nd0, g0, g1, g2, g3, g4, g5]) rfl ⟨fr0, rfl, .leaf _ _ rfl rfl, (HB4.out.trans ((H96.out.b.below (b := w.heap.size) (by have := H96.out.r; omega) (by omega)).trans (HBF.out.below (by have := H96.out.size; have := H96.out.r; omega) (Nat.le_refl _)))).drew⟩
  · have hq : (nd0, at0, e0) = q := by rw [← HQ.out]; unfold progF; rw [HTK.out, if_neg he]
    subst hq
    have q1 : (e0 != 0) = true := bne_iff_ne.2 he
    clear HQ HTK HTO
    zzero w3 (w.heap.size) (HZ3.out)
    zfree (HZ3.out)
    go_wp2_with fail
    have HZF : Hid (Whole (zP0(w3, w.heap.size)) w.heap.size 25 zZ) := put6 HZ3.out _ _ _ _ _ _
    have HBF : Hid (But w.heap.size w3.heap.size w3 (zP0(w3, w.heap.size))) := but6 _ _ _ _ _ _ _ _
    generalize (zP0(w3, w.heap.size)) = wf at *
    gcells
    exact bodyPost_ret (v := .tuple #[ndV nd0 fr0, .int .i64 (at0 : Int), .int .i64 e0]) (by simp [results, Try.results17, go_sem, ndV, Nd.kd, Nd.tx, Nd.nm, Nd.at_, Nd.ns, Nd.ks, leafN, fr0, nd0, g0, g1, g2, g3, g4, g5]) rfl ⟨fr0, rfl, .leaf _ _ rfl rfl, HB3.out.trans (HBF.out.below (Nat.le_of_lt HS3.out) (Nat.le_refl _))⟩
end Go.Proofs.Ytgjchgmlogbmmaa
/- The walks of layer 11: the last exp of a source. -/
namespace Go.Proofs.Ytgjchgmlogbmmaa
open Go.RowKit
set_option linter.unusedVariables false
set_option linter.unusedSimpArgs false
attribute [local go_sem ↓] Go.wp_at_zero Go.wp_at_succ

def fewB (s : ByteArray) : ByteArray := if 400 < s.size then s.extract 0 400 else s
theorem fewB_size (s : ByteArray) : (fewB s).size ≤ 400 := by
  unfold fewB
  split
  · simp; omega
  · omega
theorem ret_s {a b : ByteArray} (h : a = b) : Ending.returned (.string a) = .returned (.string b) := by rw [h]
set_option maxHeartbeats 400000 in
theorem few_any (s : ByteArray) (w : World) (hs : s.size ≤ maxLen) :
    Calls Try.prog 18 #[.string s] w fun e w' => e = .returned (.string (fewB s)) ∧ w = w' := by
  unfold maxLen at hs
  by_cases h : 400 < s.size
  · have HF : Hid (fewB s = s.extract 0 400) := by show fewB s = _; unfold fewB; rw [if_pos h]
    have h' : 400 < (s.size : Int) := by omega
    go_enter Try.func18, Try.ntmps18
    go_wp2
    go_ret
    exact ⟨ret_s HF.out.symm, rfl⟩
  · have HF : Hid (fewB s = s) := by show fewB s = _; unfold fewB; rw [if_neg h]
    have h' : ¬ 400 < (s.size : Int) := by omega
    go_enter Try.func18, Try.ntmps18
    go_wp2
    go_ret
    exact ⟨ret_s HF.out.symm, rfl⟩
/-- The last kid. -/
def lastN (x : Nd) : Nd := x.ks.getD (x.ks.length - 1) nd0
def srcN (s : ByteArray) : Nd × Nat × Int := progF (fewB s).data.toList
def expS (s : ByteArray) : Nd × Bool := if (srcN s).2.2 = 0 then (lastN (srcN s).1, true) else (nd0, false)
theorem srcN_wf (s : ByteArray) : WfN (srcN s).1 := (prog_wf _).1
theorem srcN_wt (s : ByteArray) : wtN (srcN s).1 ≤ 100000 := Nat.le_trans (prog_wt _) (by decide)
theorem expS_wf (s : ByteArray) : WfN (expS s).1 := by
  unfold expS
  split
  · exact wf_getD (srcN_wf s).ks _
  · exact wf_nd0
theorem expS_wt (s : ByteArray) : wtN (expS s).1 ≤ 100000 := by
  unfold expS
  split
  · refine Nat.le_trans (wt_getD _ _) (Nat.le_trans ?_ (srcN_wt s))
    rw [wtN_eq]; omega
  · decide
theorem src_node {w w2 w4 wf : World} {R : Nat} {y : Nd} {fy : Fr} (hR : w.heap.size = R) (hlt : R < w2.heap.size) (n : NodeIn w4 (fun a => w2.heap.size ≤ a) y fy) (hf : But R w4.heap.size w4 wf) : NodeIn wf (fun a => w.heap.size ≤ a) y fy :=
  (n.but hf (Nat.le_refl _) fun a ha e => by omega).mono fun a ha _ => by omega
theorem src_bel {w w4 wf : World} {R : Nat} (hR : w.heap.size = R) (hb : Below w.heap.size w w4) (hf : But R w4.heap.size w4 wf) : Below w.heap.size w wf :=
  hb.trans ⟨hf.os, hf.tape, hf.output, hf.size, fun k hk => hf.block k (Nat.lt_of_lt_of_le hk hb.size) (by omega)⟩
def ExpOf (w : World) (q : Nd × Bool) (e : Ending) (w' : World) : Prop := ∃ f, e = .returned (.tuple #[ndV q.1 f, .bool q.2]) ∧ NodeIn w' (fun a => w.heap.size ≤ a) q.1 f ∧ Below w.heap.size w w'
set_option maxRecDepth 100000 in
set_option maxHeartbeats 4000000 in
theorem src_any (w : World) (s : ByteArray) (hs : s.size ≤ maxLen) : Calls Try.prog 8 #[.string s] w (ExpOf w (expS s)) := by
  have CF := Lib.hid (fun wx => few_any s wx hs)
  have CP := Lib.hid (fun wx => program_any wx (fewB s) (by have := fewB_size s; omega))
  have HES : Hid (expS s = if (srcN s).2.2 = 0 then (lastN (srcN s).1, true) else (nd0, false)) := rfl
  have HKN := Lib.hid ((prog_wf (fewB s).data.toList).2.1)
  have HLN : Hid ((progF (fewB s).data.toList).1.ks.length ≤ 100000) := (srcN_wf s).len
  unfold srcN at HES
  generalize progF (fewB s).data.toList = q at *
  obtain ⟨x, at0, e0⟩ := q
  generalize expS s = r at *
  clear hs
  dsimp only at HES HKN CP HLN
  go_enter Try.func8, Try.ntmps8
  go_upto_region 1 with (fail)
  have HZ0 : Hid (Whole (w.alloc (.cells zZ 25)) w.heap.size 25 zZ) := Whole.made _ _ _
  have HB0 : Hid (Below w.heap.size w (w.alloc (.cells zZ 25))) := (Below.refl _ _).alloc (Nat.le_refl _) _
  have HS0 : Hid (w.heap.size < (w.alloc (.cells zZ 25)).heap.size) := by show _ < _; simp
  generalize w.alloc (.cells zZ 25) = w2 at *
  go_wp2_with fail
  refine (CF.out w2).mono ?_
  rintro e w2b ⟨rfl, rfl⟩
  go_wp2_with fail
  refine (CP.out w2).mono ?_
  rintro e w3 ⟨f, rfl, nx, b3⟩
  have HB3 := Lib.hid (HB0.out.trans (b3.mono (Nat.le_of_lt HS0.out)))
  have HZ3 := Lib.hid (HZ0.out.below b3 HS0.out)
  have HN3 := Lib.hid nx
  have HS3 : Hid (w.heap.size < w2.heap.size ∧ w2.heap.size ≤ w3.heap.size) := ⟨HS0.out, b3.size⟩
  clear nx b3 HB0 HZ0 HS0 CF CP
  unfold ndV
  go_upto_region 2 with (fail)
  have HX4 : Hid (Whole (w3.alloc (.cells zN(x, f) 25)) w3.heap.size 25 zN(x, f)) := Whole.made w3 25 _
  have B4 : Hid (Below w3.heap.size w3 (w3.alloc (.cells zN(x, f) 25))) := (Below.refl _ _).alloc (Nat.le_refl _) _
  generalize w3.alloc (.cells zN(x, f) 25) = w4 at *
  have HZ4 := Lib.hid (HZ3.out.below B4.out HZ3.out.lt)
  have HB4 := Lib.hid (HB3.out.trans (B4.out.mono HB3.out.size))
  have HN4 := Lib.hid (HN3.out.later B4.out (Nat.le_refl _))
  clear HB3 HZ3 HN3 B4
  obtain ⟨R, hR⟩ : ∃ R, w.heap.size = R := ⟨_, rfl⟩
  have HR := Lib.hid hR
  rw [hR] at HZ4
  have HGR : Hid (R < w3.heap.size ∧ R < w2.heap.size) := by rw [← hR]; exact ⟨Nat.lt_of_lt_of_le HS3.out.1 HS3.out.2, HS3.out.1⟩
  simp only [hR]
  clear hR
  generalize w3.heap.size = G at *
  by_cases he : e0 = 0
  · subst he
    have HRE : Hid (r = (lastN x, true)) := HES.out
    have hkn := HKN.out rfl
    have n5 : w4.cell? ⟨G, 5, none⟩ = some (.slice f.ka x.ks.length f.kc) := HX4.out.cell 5
    have hl0 : ¬ (x.ks.length : Int) = 0 := by have := List.length_pos_iff.2 hkn; omega
    have hl1 : ((x.ks.length : Int) == 0) = false := by simpa using hl0
    go_upto_region 4 with (fail)
    clear n5 hl0 hl1
    obtain ⟨k, hk⟩ : ∃ k, x.ks.length = k + 1 := ⟨x.ks.length - 1, by have := List.length_pos_iff.2 hkn; omega⟩
    have HLA : Hid (lastN x = x.ks.getD k nd0) := by show lastN x = _; unfold lastN; rw [hk]; rfl
    have e1 : x.ks[k]? = some (x.ks.getD k nd0) := by rw [List.getD_eq_getElem?_getD, List.getElem?_eq_getElem (by omega)]; rfl
    obtain ⟨g, fy, eg, ⟨hgl, hgb⟩, ⟨x0, x1, x2, x3, x4, x5⟩, ny⟩ := kids_at HN4.out e1
    have hgR : g ≠ R := by have := HGR.out; omega
    rw [← HLA.out] at x0 x1 x2 x3 x4 x5 ny
    have HNY := Lib.hid ny
    rw [eg, hk] at HX4 ⊢
    clear e1 eg HKN hkn ny HLA HES
    have hkb : (k : Int) < 100000 := by have := HLN.out; omega
    have hk1 : ((k + 1 : Nat) : Int) - 1 = (k : Int) := by omega
    have i0 : (0 : Int) ≤ (k : Int) := by omega
    generalize lastN x = y at *
    have n5 : w4.cell? ⟨G, 5, none⟩ = some (.slice (some ⟨g, 0, none⟩) (k + 1) f.kc) := HX4.out.cell 5
    zzero w4 (R) (HZ4.out)
    zfree (HZ4.out)
    go_wp2_with fail
    trace_state
    have HZF : Hid (Whole (zP(w4, R, y, fy)) R 25 zN(y, fy)) := put6 HZ4.out _ _ _ _ _ _
    have HBF : Hid (But R w4.heap.size w4 (zP(w4, R, y, fy))) := but6 _ _ _ _ _ _ _ _
    generalize (zP(w4, R, y, fy)) = wf at *
    gcells
    exact bodyPost_ret (v := .tuple #[ndV y fy, .bool true]) (by simp [results, Try.results8, go_sem, ndV, Nd.kd, Nd.tx, Nd.nm, Nd.at_, Nd.ns, Nd.ks, nd0, fr0, g0, g1, g2, g3, g4, g5]) rfl ⟨fy, by rw [HRE.out], by rw [HRE.out]; exact src_node HR.out HGR.out.2 (HNY.out) HBF.out, src_bel HR.out HB4.out HBF.out⟩
  · have HRE : Hid (r = (nd0, false)) := HES.out.trans (if_neg he)
    have hn2 : (e0 != 0) = true := by simpa using he
    have hn3 : (e0 == 0) = false := by simpa using he
    clear he HES HKN
    have n5 : w4.cell? ⟨G, 5, none⟩ = some (.slice f.ka x.ks.length f.kc) := HX4.out.cell 5
    zzero w4 (R) (HZ4.out)
    zfree (HZ4.out)
    go_wp2_with fail
    have HZF : Hid (Whole (zP0(w4, R)) R 25 zZ) := put6 HZ4.out _ _ _ _ _ _
    have HBF : Hid (But R w4.heap.size w4 (zP0(w4, R))) := but6 _ _ _ _ _ _ _ _
    generalize (zP0(w4, R)) = wf at *
    gcells
    exact bodyPost_ret (v := .tuple #[ndV nd0 fr0, .bool false]) (by simp [results, Try.results8, go_sem, ndV, Nd.kd, Nd.tx, Nd.nm, Nd.at_, Nd.ns, Nd.ks, nd0, fr0, g0, g1, g2, g3, g4, g5]) rfl ⟨fr0, by rw [HRE.out], by rw [HRE.out]; exact src_node HR.out HGR.out.2 (.leaf _ _ rfl rfl) HBF.out, src_bel HR.out HB4.out HBF.out⟩
end Go.Proofs.Ytgjchgmlogbmmaa
/- The walks of layer 11: the document's examples. -/
namespace Go.Proofs.Ytgjchgmlogbmmaa
open Go.RowKit
set_option linter.unusedVariables false
set_option linter.unusedSimpArgs false
attribute [local go_sem ↓] Go.wp_at_zero Go.wp_at_succ

theorem liveA : (expN (expS ⟨#[100, 111, 32, 49, 32, 43, 32, 50, 32, 42, 32, 51]⟩).1).kd = 1 ∧ (expN (expS ⟨#[100, 111, 32, 49, 32, 43, 32, 50, 32, 42, 32, 51]⟩).1).nm = 7 ∧ (expN (expS ⟨#[100, 111, 32, 49, 32, 43, 32, 50, 32, 42, 32, 51]⟩).1).at_ = 3 := by decide +kernel
theorem liveB : (expN (expS ⟨#[100, 111, 32, 49, 32, 45, 32, 50]⟩).1).kd = 13 := by decide +kernel
theorem liveC : (expN (expS ⟨#[100, 111, 32, 108, 101, 116, 32, 120, 32, 61, 32, 102, 117, 110, 32, 121, 32, 45, 62, 32, 121, 32, 105, 110, 32, 53]⟩).1).nm = 5 := by decide +kernel
theorem liveD : (expN (expS ⟨#[100, 111, 32, 105, 102, 32, 49, 32, 60, 32, 50, 32, 116, 104, 101, 110, 32, 97, 32, 101, 108, 115, 101, 32, 98]⟩).1).tx = [97] := by decide +kernel
set_option maxRecDepth 100000 in
set_option maxHeartbeats 8000000 in
theorem lives_any (w : World) : Calls Try.prog 9 #[] w fun e w' => e = .returned (.bool true) ∧ Below w.heap.size w w' := by
  have CA := Lib.hid (fun wx => src_any wx ⟨#[100, 111, 32, 49, 32, 43, 32, 50, 32, 42, 32, 51]⟩ (by decide))
  have VA := Lib.hid liveA
  have FA := Lib.hid (fexp_any _ (expS_wf ⟨#[100, 111, 32, 49, 32, 43, 32, 50, 32, 42, 32, 51]⟩) (expS_wt ⟨#[100, 111, 32, 49, 32, 43, 32, 50, 32, 42, 32, 51]⟩))
  generalize expS ⟨#[100, 111, 32, 49, 32, 43, 32, 50, 32, 42, 32, 51]⟩ = qA at *
  obtain ⟨xA, bA⟩ := qA
  dsimp only at CA VA FA
  have CB := Lib.hid (fun wx => src_any wx ⟨#[100, 111, 32, 49, 32, 45, 32, 50]⟩ (by decide))
  have VB := Lib.hid liveB
  have FB := Lib.hid (fexp_any _ (expS_wf ⟨#[100, 111, 32, 49, 32, 45, 32, 50]⟩) (expS_wt ⟨#[100, 111, 32, 49, 32, 45, 32, 50]⟩))
  generalize expS ⟨#[100, 111, 32, 49, 32, 45, 32, 50]⟩ = qB at *
  obtain ⟨xB, bB⟩ := qB
  dsimp only at CB VB FB
  have CC := Lib.hid (fun wx => src_any wx ⟨#[100, 111, 32, 108, 101, 116, 32, 120, 32, 61, 32, 102, 117, 110, 32, 121, 32, 45, 62, 32, 121, 32, 105, 110, 32, 53]⟩ (by decide))
  have VC := Lib.hid liveC
  have FC := Lib.hid (fexp_any _ (expS_wf ⟨#[100, 111, 32, 108, 101, 116, 32, 120, 32, 61, 32, 102, 117, 110, 32, 121, 32, 45, 62, 32, 121, 32, 105, 110, 32, 53]⟩) (expS_wt ⟨#[100, 111, 32, 108, 101, 116, 32, 120, 32, 61, 32, 102, 117, 110, 32, 121, 32, 45, 62, 32, 121, 32, 105, 110, 32, 53]⟩))
  generalize expS ⟨#[100, 111, 32, 108, 101, 116, 32, 120, 32, 61, 32, 102, 117, 110, 32, 121, 32, 45, 62, 32, 121, 32, 105, 110, 32, 53]⟩ = qC at *
  obtain ⟨xC, bC⟩ := qC
  dsimp only at CC VC FC
  have CD := Lib.hid (fun wx => src_any wx ⟨#[100, 111, 32, 105, 102, 32, 49, 32, 60, 32, 50, 32, 116, 104, 101, 110, 32, 97, 32, 101, 108, 115, 101, 32, 98]⟩ (by decide))
  have VD := Lib.hid liveD
  have FD := Lib.hid (fexp_any _ (expS_wf ⟨#[100, 111, 32, 105, 102, 32, 49, 32, 60, 32, 50, 32, 116, 104, 101, 110, 32, 97, 32, 101, 108, 115, 101, 32, 98]⟩) (expS_wt ⟨#[100, 111, 32, 105, 102, 32, 49, 32, 60, 32, 50, 32, 116, 104, 101, 110, 32, 97, 32, 101, 108, 115, 101, 32, 98]⟩))
  generalize expS ⟨#[100, 111, 32, 105, 102, 32, 49, 32, 60, 32, 50, 32, 116, 104, 101, 110, 32, 97, 32, 101, 108, 115, 101, 32, 98]⟩ = qD at *
  obtain ⟨xD, bD⟩ := qD
  dsimp only at CD VD FD
  go_enter Try.func9, Try.ntmps9
  go_upto_region 1 with (fail)
  have HB : Hid (Below w.heap.size w w) := Below.refl _ _
  go_wp2_with fail
  refine (CA.out _).mono ?_
  rintro e uA ⟨fA, rfl, n0, b0⟩
  unfold ndV
  go_upto_region 2 with (fail)
  have b1 : Below w.heap.size w (uA.alloc (.cells zN(xA, fA) 25)) := b0.alloc b0.size _
  have HXA : Hid (Whole (uA.alloc (.cells zN(xA, fA) 25)) uA.heap.size 25 zN(xA, fA)) := Whole.made uA 25 _
  have HNA : Hid (NodeIn (uA.alloc (.cells zN(xA, fA) 25)) (fun _ => True) xA fA) := (n0.later ((Below.refl _ _).alloc (Nat.le_refl _) _) (Nat.le_refl _)).mono fun _ _ _ => trivial
  generalize uA.alloc (.cells zN(xA, fA) 25) = wA at *
  generalize uA.heap.size = GA at *
  replace HB := Lib.hid (HB.out.trans (b1.mono HB.out.size))
  clear n0 b0 b1 CA
  go_wp2_with fail
  refine (CB.out _).mono ?_
  rintro e uB ⟨fB, rfl, n0, b0⟩
  unfold ndV
  go_upto_region 3 with (fail)
  have b1 : Below wA.heap.size wA (uB.alloc (.cells zN(xB, fB) 25)) := b0.alloc b0.size _
  have HXB : Hid (Whole (uB.alloc (.cells zN(xB, fB) 25)) uB.heap.size 25 zN(xB, fB)) := Whole.made uB 25 _
  have HNB : Hid (NodeIn (uB.alloc (.cells zN(xB, fB) 25)) (fun _ => True) xB fB) := (n0.later ((Below.refl _ _).alloc (Nat.le_refl _) _) (Nat.le_refl _)).mono fun _ _ _ => trivial
  generalize uB.alloc (.cells zN(xB, fB) 25) = wB at *
  generalize uB.heap.size = GB at *
  replace HB := Lib.hid (HB.out.trans (b1.mono HB.out.size))
  replace HXA := Lib.hid (HXA.out.below b1 HXA.out.lt)
  replace HNA := Lib.hid (HNA.out.later b1 (Nat.le_refl _))
  clear n0 b0 b1 CB
  go_wp2_with fail
  refine (CC.out _).mono ?_
  rintro e uC ⟨fC, rfl, n0, b0⟩
  unfold ndV
  go_upto_region 4 with (fail)
  have b1 : Below wB.heap.size wB (uC.alloc (.cells zN(xC, fC) 25)) := b0.alloc b0.size _
  have HXC : Hid (Whole (uC.alloc (.cells zN(xC, fC) 25)) uC.heap.size 25 zN(xC, fC)) := Whole.made uC 25 _
  have HNC : Hid (NodeIn (uC.alloc (.cells zN(xC, fC) 25)) (fun _ => True) xC fC) := (n0.later ((Below.refl _ _).alloc (Nat.le_refl _) _) (Nat.le_refl _)).mono fun _ _ _ => trivial
  generalize uC.alloc (.cells zN(xC, fC) 25) = wC at *
  generalize uC.heap.size = GC at *
  replace HB := Lib.hid (HB.out.trans (b1.mono HB.out.size))
  replace HXA := Lib.hid (HXA.out.below b1 HXA.out.lt)
  replace HNA := Lib.hid (HNA.out.later b1 (Nat.le_refl _))
  replace HXB := Lib.hid (HXB.out.below b1 HXB.out.lt)
  replace HNB := Lib.hid (HNB.out.later b1 (Nat.le_refl _))
  clear n0 b0 b1 CC
  go_wp2_with fail
  refine (CD.out _).mono ?_
  rintro e uD ⟨fD, rfl, n0, b0⟩
  unfold ndV
  go_upto_region 5 with (fail)
  have b1 : Below wC.heap.size wC (uD.alloc (.cells zN(xD, fD) 25)) := b0.alloc b0.size _
  have HXD : Hid (Whole (uD.alloc (.cells zN(xD, fD) 25)) uD.heap.size 25 zN(xD, fD)) := Whole.made uD 25 _
  have HND : Hid (NodeIn (uD.alloc (.cells zN(xD, fD) 25)) (fun _ => True) xD fD) := (n0.later ((Below.refl _ _).alloc (Nat.le_refl _) _) (Nat.le_refl _)).mono fun _ _ _ => trivial
  generalize uD.alloc (.cells zN(xD, fD) 25) = wD at *
  generalize uD.heap.size = GD at *
  replace HB := Lib.hid (HB.out.trans (b1.mono HB.out.size))
  replace HXA := Lib.hid (HXA.out.below b1 HXA.out.lt)
  replace HNA := Lib.hid (HNA.out.later b1 (Nat.le_refl _))
  replace HXB := Lib.hid (HXB.out.below b1 HXB.out.lt)
  replace HNB := Lib.hid (HNB.out.later b1 (Nat.le_refl _))
  replace HXC := Lib.hid (HXC.out.below b1 HXC.out.lt)
  replace HNC := Lib.hid (HNC.out.later b1 (Nat.le_refl _))
  clear n0 b0 b1 CD
  have CE := Lib.hid (FA.out wD (fun a => a < wD.heap.size) fA (fun a ha => ha) (HNA.out.mono fun a _ hl => hl))
  unfold ndV at CE
  have n0 : wD.cell? ⟨GA, 0, none⟩ = some (.int .i64 xA.kd) := HXA.out.cell 0
  have n1 : wD.cell? ⟨GA, 1, none⟩ = some (.string ⟨xA.tx.toArray⟩) := HXA.out.cell 1
  have n2 : wD.cell? ⟨GA, 2, none⟩ = some (.int .i64 xA.nm) := HXA.out.cell 2
  have n3 : wD.cell? ⟨GA, 3, none⟩ = some (.int .i64 (xA.at_ : Int)) := HXA.out.cell 3
  have n4 : wD.cell? ⟨GA, 4, none⟩ = some (.slice fA.na xA.ns.length fA.nc) := HXA.out.cell 4
  have n5 : wD.cell? ⟨GA, 5, none⟩ = some (.slice fA.ka xA.ks.length fA.kc) := HXA.out.cell 5
  go_wp2_with fail
  refine CE.out.mono ?_
  rintro e vA ⟨hA, rfl, n0, b0⟩
  clear n0 n1 n2 n3 n4 n5 CE HXA HNA FA
  generalize expN xA = yA at *
  go_upto_region 6 with (fail)
  have b1 : Below wD.heap.size wD (vA.alloc (.cells zN(yA, hA) 25)) := b0.alloc b0.size _
  have HYA : Hid (Whole (vA.alloc (.cells zN(yA, hA) 25)) vA.heap.size 25 zN(yA, hA)) := Whole.made vA 25 _
  generalize vA.alloc (.cells zN(yA, hA) 25) = zA at *
  generalize vA.heap.size = DA at *
  replace HB := Lib.hid (HB.out.trans (b1.mono HB.out.size))
  replace HXB := Lib.hid (HXB.out.below b1 HXB.out.lt)
  replace HNB := Lib.hid (HNB.out.later b1 (Nat.le_refl _))
  replace HXC := Lib.hid (HXC.out.below b1 HXC.out.lt)
  replace HNC := Lib.hid (HNC.out.later b1 (Nat.le_refl _))
  replace HXD := Lib.hid (HXD.out.below b1 HXD.out.lt)
  replace HND := Lib.hid (HND.out.later b1 (Nat.le_refl _))
  clear b0 b1
  have CE := Lib.hid (FB.out zA (fun a => a < zA.heap.size) fB (fun a ha => ha) (HNB.out.mono fun a _ hl => hl))
  unfold ndV at CE
  have n0 : zA.cell? ⟨GB, 0, none⟩ = some (.int .i64 xB.kd) := HXB.out.cell 0
  have n1 : zA.cell? ⟨GB, 1, none⟩ = some (.string ⟨xB.tx.toArray⟩) := HXB.out.cell 1
  have n2 : zA.cell? ⟨GB, 2, none⟩ = some (.int .i64 xB.nm) := HXB.out.cell 2
  have n3 : zA.cell? ⟨GB, 3, none⟩ = some (.int .i64 (xB.at_ : Int)) := HXB.out.cell 3
  have n4 : zA.cell? ⟨GB, 4, none⟩ = some (.slice fB.na xB.ns.length fB.nc) := HXB.out.cell 4
  have n5 : zA.cell? ⟨GB, 5, none⟩ = some (.slice fB.ka xB.ks.length fB.kc) := HXB.out.cell 5
  go_wp2_with fail
  refine CE.out.mono ?_
  rintro e vB ⟨hB, rfl, n0, b0⟩
  clear n0 n1 n2 n3 n4 n5 CE HXB HNB FB
  generalize expN xB = yB at *
  go_upto_region 7 with (fail)
  have b1 : Below zA.heap.size zA (vB.alloc (.cells zN(yB, hB) 25)) := b0.alloc b0.size _
  have HYB : Hid (Whole (vB.alloc (.cells zN(yB, hB) 25)) vB.heap.size 25 zN(yB, hB)) := Whole.made vB 25 _
  generalize vB.alloc (.cells zN(yB, hB) 25) = zB at *
  generalize vB.heap.size = DB at *
  replace HB := Lib.hid (HB.out.trans (b1.mono HB.out.size))
  replace HXC := Lib.hid (HXC.out.below b1 HXC.out.lt)
  replace HNC := Lib.hid (HNC.out.later b1 (Nat.le_refl _))
  replace HXD := Lib.hid (HXD.out.below b1 HXD.out.lt)
  replace HND := Lib.hid (HND.out.later b1 (Nat.le_refl _))
  replace HYA := Lib.hid (HYA.out.below b1 HYA.out.lt)
  clear b0 b1
  have CE := Lib.hid (FC.out zB (fun a => a < zB.heap.size) fC (fun a ha => ha) (HNC.out.mono fun a _ hl => hl))
  unfold ndV at CE
  have n0 : zB.cell? ⟨GC, 0, none⟩ = some (.int .i64 xC.kd) := HXC.out.cell 0
  have n1 : zB.cell? ⟨GC, 1, none⟩ = some (.string ⟨xC.tx.toArray⟩) := HXC.out.cell 1
  have n2 : zB.cell? ⟨GC, 2, none⟩ = some (.int .i64 xC.nm) := HXC.out.cell 2
  have n3 : zB.cell? ⟨GC, 3, none⟩ = some (.int .i64 (xC.at_ : Int)) := HXC.out.cell 3
  have n4 : zB.cell? ⟨GC, 4, none⟩ = some (.slice fC.na xC.ns.length fC.nc) := HXC.out.cell 4
  have n5 : zB.cell? ⟨GC, 5, none⟩ = some (.slice fC.ka xC.ks.length fC.kc) := HXC.out.cell 5
  go_wp2_with fail
  refine CE.out.mono ?_
  rintro e vC ⟨hC, rfl, n0, b0⟩
  clear n0 n1 n2 n3 n4 n5 CE HXC HNC FC
  generalize expN xC = yC at *
  go_upto_region 8 with (fail)
  have b1 : Below zB.heap.size zB (vC.alloc (.cells zN(yC, hC) 25)) := b0.alloc b0.size _
  have HYC : Hid (Whole (vC.alloc (.cells zN(yC, hC) 25)) vC.heap.size 25 zN(yC, hC)) := Whole.made vC 25 _
  generalize vC.alloc (.cells zN(yC, hC) 25) = zC at *
  generalize vC.heap.size = DC at *
  replace HB := Lib.hid (HB.out.trans (b1.mono HB.out.size))
  replace HXD := Lib.hid (HXD.out.below b1 HXD.out.lt)
  replace HND := Lib.hid (HND.out.later b1 (Nat.le_refl _))
  replace HYA := Lib.hid (HYA.out.below b1 HYA.out.lt)
  replace HYB := Lib.hid (HYB.out.below b1 HYB.out.lt)
  clear b0 b1
  have CE := Lib.hid (FD.out zC (fun a => a < zC.heap.size) fD (fun a ha => ha) (HND.out.mono fun a _ hl => hl))
  unfold ndV at CE
  have n0 : zC.cell? ⟨GD, 0, none⟩ = some (.int .i64 xD.kd) := HXD.out.cell 0
  have n1 : zC.cell? ⟨GD, 1, none⟩ = some (.string ⟨xD.tx.toArray⟩) := HXD.out.cell 1
  have n2 : zC.cell? ⟨GD, 2, none⟩ = some (.int .i64 xD.nm) := HXD.out.cell 2
  have n3 : zC.cell? ⟨GD, 3, none⟩ = some (.int .i64 (xD.at_ : Int)) := HXD.out.cell 3
  have n4 : zC.cell? ⟨GD, 4, none⟩ = some (.slice fD.na xD.ns.length fD.nc) := HXD.out.cell 4
  have n5 : zC.cell? ⟨GD, 5, none⟩ = some (.slice fD.ka xD.ks.length fD.kc) := HXD.out.cell 5
  go_wp2_with fail
  refine CE.out.mono ?_
  rintro e vD ⟨hD, rfl, n0, b0⟩
  clear n0 n1 n2 n3 n4 n5 CE HXD HND FD
  generalize expN xD = yD at *
  go_upto_region 9 with (fail)
  have b1 : Below zC.heap.size zC (vD.alloc (.cells zN(yD, hD) 25)) := b0.alloc b0.size _
  have HYD : Hid (Whole (vD.alloc (.cells zN(yD, hD) 25)) vD.heap.size 25 zN(yD, hD)) := Whole.made vD 25 _
  generalize vD.alloc (.cells zN(yD, hD) 25) = zD at *
  generalize vD.heap.size = DD at *
  replace HB := Lib.hid (HB.out.trans (b1.mono HB.out.size))
  replace HYA := Lib.hid (HYA.out.below b1 HYA.out.lt)
  replace HYB := Lib.hid (HYB.out.below b1 HYB.out.lt)
  replace HYC := Lib.hid (HYC.out.below b1 HYC.out.lt)
  clear b0 b1
  obtain ⟨l1, l2, l3⟩ := VA.out
  have c1 : zD.cell? ⟨DA, 0, none⟩ = some (.int .i64 1) := by rw [← l1]; exact HYA.out.cell 0
  have c2 : zD.cell? ⟨DA, 2, none⟩ = some (.int .i64 7) := by rw [← l2]; exact HYA.out.cell 2
  have c3 : zD.cell? ⟨DA, 3, none⟩ = some (.int .i64 3) := by have h2 := HYA.out.cell 3; simp only [l3] at h2; exact h2
  have c4 : zD.cell? ⟨DB, 0, none⟩ = some (.int .i64 13) := by rw [← VB.out]; exact HYB.out.cell 0
  have c5 : zD.cell? ⟨DC, 2, none⟩ = some (.int .i64 5) := by rw [← VC.out]; exact HYC.out.cell 2
  have c6 : zD.cell? ⟨DD, 1, none⟩ = some (.string ⟨#[97]⟩) := by have h := VD.out; have h2 := HYD.out.cell 1; simp only [h] at h2; exact h2
  clear VA VB VC VD l1 l2 l3
  go_wp2_with fail
  exact bodyPost_ret (v := .bool true) (by simp [results, Try.results9, go_sem]) rfl ⟨rfl, HB.out⟩
end Go.Proofs.Ytgjchgmlogbmmaa
