/- A part of the proofs of chapter 11, squeezed and merged by group.py: FWalkS. -/
import Derived.Test.YtgjchgmlogbmmaaP1
import Derived.KernelRfl
import Derived.Test.YtgjchgmlogbmmaaPI
/- The law of the free names: its walk. -/
namespace Go.Proofs.Ytgjchgmlogbmmaa
open Go.RowKit
set_option linter.unusedVariables false
set_option linter.unusedSimpArgs false
attribute [local go_sem ↓] Go.wp_at_zero Go.wp_at_succ

theorem hasB_mem {l : List (List UInt8)} {t : List UInt8} : hasB l t = true ↔ t ∈ l := by unfold hasB; simp
theorem getD_mem_s {l : List (List UInt8)} {k : Nat} (h : k < l.length) : l.getD k [] ∈ l := by
  rw [List.getD_eq_getElem?_getD, List.getElem?_eq_getElem h]
  exact List.getElem_mem h
theorem nodup_take {l : List (List UInt8)} (h : l.Nodup) {k : Nat} (hk : k < l.length) : hasB (l.take k) (l.getD k []) = false := by
  rw [Bool.eq_false_iff]
  intro hb
  have hm := hasB_mem.1 hb
  rw [List.getD_eq_getElem?_getD, List.getElem?_eq_getElem hk] at hm
  obtain ⟨j, hj, e⟩ := List.getElem_of_mem hm
  rw [List.getElem_take] at e
  have hj2 : j < k := by rw [List.length_take] at hj; omega
  have h9 : j = k := (List.getElem_inj h (h₀ := by omega) (h₁ := hk)).1 (e.trans rfl)
  omega
theorem StrIn.take_ {w : World} {b : Nat → Prop} {l : List (List UInt8)} {A : Option Addr} (h : StrIn w b l A) (k : Nat) : StrIn w b (l.take k) A := fun hn => by
  obtain ⟨g, e1, e2, e3, e4⟩ := h (fun e => hn (by rw [e]; simp))
  exact ⟨g, e1, e2, e3, fun j hj => by
    rw [List.getElem_take]
    exact e4 j (by rw [List.length_take] at hj; omega)⟩
theorem own_cap {w : World} {base : Nat} {L : List (List UInt8)} {A : Option Addr} {c : Nat} (h : OwnT w base L (.slice A L.length c)) : L.length ≤ c := by
  obtain ⟨_, h⟩ := h.row
  rcases h with ⟨e, h0⟩ | ⟨g, cap, cur, e, _, _, h1, _⟩
  · omega
  · injection e with _ _ e3
    subst e3; exact h1
structure FreeAt (W w : World) (G : Nat) (x : Nd) (f : Fr) (M N : List (List UInt8)) (A B : Option Addr) : Prop where
  X : Whole w G 25 #[.int .i64 x.kd, .string ⟨x.tx.toArray⟩, .int .i64 x.nm, .int .i64 (x.at_ : Int), .slice f.na x.ns.length f.nc, .slice f.ka x.ks.length f.kc]
  n : NodeIn w (fun _ => True) x f
  m : StrIn w (fun _ => True) M A
  r : StrIn w (fun _ => True) N B
  b : Below W.heap.size W w
theorem FreeAt.later {W w w' : World} {G : Nat} {x : Nd} {f : Fr} {M N : List (List UInt8)} {A B : Option Addr} (h : FreeAt W w G x f M N A B) (hb : Below w.heap.size w w') : FreeAt W w' G x f M N A B :=
  ⟨h.X.below hb h.X.lt, h.n.later hb (Nat.le_refl _), h.m.below hb (Nat.le_refl _), h.r.below hb (Nat.le_refl _), h.b.trans (hb.mono h.b.size)⟩
set_option maxRecDepth 100000 in
set_option maxHeartbeats 8000000 in
theorem foldFree_walk (a : ByteArray) (W : World) (hs : a.size ≤ maxLen) : Calls Try.prog 4 #[.string a] W fun e w' => e = .returned (.bool true) ∧ Below W.heap.size W w' := by
  have CS := Lib.hid (fun wx => src_any wx a hs)
  have HW := Lib.hid (expS_wf a)
  have HT := Lib.hid (expS_wt a)
  generalize expS a = q at *
  obtain ⟨x, ok⟩ := q
  dsimp only at CS HW HT
  have CF := Lib.hid (frees_any x HW.out HT.out)
  have CR := Lib.hid (rfrees_any x HW.out HT.out)
  have CE := Lib.hid (fexp_any x HW.out HT.out)
  have CF2 := Lib.hid (frees_any (expN x) (wf_exp x HW.out) (Nat.le_trans (wt_exp x) HT.out))
  have HLEN := Lib.hid (free_len HW.out)
  have HND := Lib.hid (free_nodup x [] [] List.nodup_nil)
  have HMN : Hid (∀ s, s ∈ freeF x [] [] → s ∈ rfreeF x) := fun s h => (rfree_mem HW.out s).2 (by rw [← free_occ HW.out]; exact hasB_mem.2 h)
  have HEX : Hid (∀ s, s ∈ freeF (expN x) [] [] → s ∈ freeF x [] []) := fun s h => by
    have h1 := free_occ (wf_exp x HW.out) s
    have h2 : occF (expN x) s = true := by rw [← h1]; exact hasB_mem.2 h
    have h3 := occ_exp x HW.out s h2
    rw [← free_occ HW.out] at h3
    exact hasB_mem.1 h3
  have HLM : Hid ((freeF x [] []).length ≤ 100000) := by have h1 := freeF_len x [] []; have h2 := HT.out; show _ ≤ _; simp only [List.length_nil] at h1; omega
  have HLE : Hid ((freeF (expN x) [] []).length ≤ 100000) := by have h1 := freeF_len (expN x) [] []; have h2 := HT.out; have h3 := wt_exp x; show _ ≤ _; simp only [List.length_nil] at h1; omega
  generalize freeF x [] [] = M at *
  generalize rfreeF x = N at *
  generalize freeF (expN x) [] [] = P at *
  unfold ExpC at CE
  generalize expN x = xe at *
  clear hs HT HW
  go_enter Try.func4, Try.ntmps4
  go_upto_region 1 with (fail)
  go_wp2_with fail
  refine (CS.out _).mono ?_
  rintro e w1 ⟨f, rfl, n0, b0⟩
  unfold ndV
  go_upto_region 2 with (fail)
  have HX2 : Hid (Whole (w1.alloc (.cells #[.int .i64 x.kd, .string ⟨x.tx.toArray⟩, .int .i64 x.nm, .int .i64 (x.at_ : Int), .slice f.na x.ns.length f.nc, .slice f.ka x.ks.length f.kc] 25)) w1.heap.size 25 #[.int .i64 x.kd, .string ⟨x.tx.toArray⟩, .int .i64 x.nm, .int .i64 (x.at_ : Int), .slice f.na x.ns.length f.nc, .slice f.ka x.ks.length f.kc]) := Whole.made w1 25 _
  have HN2 : Hid (NodeIn (w1.alloc (.cells #[.int .i64 x.kd, .string ⟨x.tx.toArray⟩, .int .i64 x.nm, .int .i64 (x.at_ : Int), .slice f.na x.ns.length f.nc, .slice f.ka x.ks.length f.kc] 25)) (fun _ => True) x f) := (n0.later ((Below.refl _ _).alloc (Nat.le_refl _) _) (Nat.le_refl _)).mono fun _ _ _ => trivial
  have HB2 : Hid (Below W.heap.size W (w1.alloc (.cells #[.int .i64 x.kd, .string ⟨x.tx.toArray⟩, .int .i64 x.nm, .int .i64 (x.at_ : Int), .slice f.na x.ns.length f.nc, .slice f.ka x.ks.length f.kc] 25))) := b0.alloc b0.size _
  generalize w1.alloc (.cells #[.int .i64 x.kd, .string ⟨x.tx.toArray⟩, .int .i64 x.nm, .int .i64 (x.at_ : Int), .slice f.na x.ns.length f.nc, .slice f.ka x.ks.length f.kc] 25) = w2 at *
  generalize w1.heap.size = G at *
  clear n0 b0 CS
  rcases ok with _ | _
  · have CL := Lib.hid (lives_any w2)
    go_wp2_with fail
    refine CL.out.mono ?_
    rintro e w3 ⟨rfl, b3⟩
    have HB3 := Lib.hid (HB2.out.trans (b3.mono HB2.out.size))
    go_wp2_with fail
    exact bodyPost_ret (v := .bool true) (by simp [results, Try.results4, go_sem]) rfl ⟨rfl, HB3.out⟩
  · have C4 := Lib.hid (CF.out w2 (fun a => a < w2.heap.size) f (fun a ha => ha) (HN2.out.mono fun a _ hl => hl))
    unfold ndV at C4
    obtain ⟨n0, n1, n2, n3, n4, n5⟩ := nodeC (HX2.out)
    go_wp2_with fail
    refine C4.out.mono ?_
    rintro e w3 ⟨A, c, rfl, o3, b3⟩
    have HCAP : Hid (M.length ≤ c) := own_cap o3
    have HM3 : Hid (StrIn w3 (fun _ => True) M A) := (own_str o3.row).mono fun _ _ _ => trivial
    have HX3 := Lib.hid (HX2.out.below b3 HX2.out.lt)
    have HN3 := Lib.hid (HN2.out.later b3 (Nat.le_refl _))
    have HB3 := Lib.hid (HB2.out.trans (b3.mono HB2.out.size))
    clear C4 n0 n1 n2 n3 n4 n5 o3 b3 HX2 HN2 HB2
    have C5 := Lib.hid (CR.out w3 (fun a => a < w3.heap.size) f (fun a ha => ha) (HN3.out.mono fun a _ hl => hl))
    unfold ndV at C5
    obtain ⟨n0, n1, n2, n3, n4, n5⟩ := nodeC (HX3.out)
    go_wp2_with fail
    refine C5.out.mono ?_
    rintro e w4 ⟨B, d, rfl, o4, b4⟩
    have HA4 : Hid (FreeAt W w4 G x f M N A B) := ⟨HX3.out.below b4 HX3.out.lt, HN3.out.later b4 (Nat.le_refl _), HM3.out.below b4 (Nat.le_refl _), (own_str o4.row).mono fun _ _ _ => trivial, HB3.out.trans (b4.mono HB3.out.size)⟩
    clear C5 n0 n1 n2 n3 n4 n5 o4 b4 HX3 HN3 HB3 HM3 CF CR
    have HLN : Hid (N.length = M.length) := HLEN.out.symm
    clear HLEN
    have HCH := Lib.hid (fun (wx : World) (h : FreeAt W wx G x f M N A B) (t : List UInt8) => lhas_any N (by rw [HLN.out]; exact HLM.out) t wx _ B d h.r)
    have HCT := Lib.hid (fun (wx : World) (h : FreeAt W wx G x f M N A B) (k : Nat) (t : List UInt8) => lhas_any (M.take k) (by rw [List.length_take]; have := HLM.out; omega) t wx _ A c (h.m.take_ k))
    have HCM := Lib.hid (fun (wx : World) (h : FreeAt W wx G x f M N A B) (t : List UInt8) => lhas_any M HLM.out t wx _ A c h.m)
    rw [HLN.out] at HCH ⊢
    obtain ⟨n, hn⟩ : ∃ n, M.length = n := ⟨_, rfl⟩
    have HNM := Lib.hid hn
    rw [hn] at HCM HCH HCAP HLM ⊢
    clear hn
    go_upto_region 8 with (fail)
    go_wp2_with fail
    go_loopw [7] (fun i wr => ∃ k : Nat, i = .int .i64 (k : Int) ∧ k ≤ n ∧ FreeAt W wr G x f M N A B) (fun i _ => n - (intOf i).toNat)
    case atStart => exact ⟨0, rfl, Nat.zero_le _, HA4.out⟩
    case round =>
      obtain ⟨k, rfl, hk, har⟩ := hrel
      have HR := Lib.hid har
      clear har HA4
      by_cases hlt : k < n
      · have hkm : k < M.length := by rw [HNM.out]; exact hlt
        have i1 : (k : Int) < (n : Int) := by omega
        obtain ⟨g, rfl, hgl, u0⟩ := HR.out.m.at_ hkm
        have HT1 : Hid (hasB N (M.getD k []) = true) := hasB_mem.2 (HMN.out _ (getD_mem_s hkm))
        have HT2 := Lib.hid (nodup_take HND.out hkm)
        generalize M.getD k [] = s at *
        have U0 := Lib.hid u0
        have i0 : (0 : Int) ≤ (k : Int) := by omega
        have i2 : (k : Int) < 100000 := by have := HLM.out; omega
        have i3 : (k : Int) ≤ (c : Int) := by have := HCAP.out; omega
        clear u0
        go_upto_region 11 with (fail)
        refine region_Z (fun W => W.cell? ⟨g, k, none⟩ = some (.string ⟨s.toArray⟩)) (fun i => false) (by kernel_rfl) ((drew_cell2 _ _).trans U0.out) (fun hHeld => ?_)
        refine tkf 0 rfl (v := ?_) ?_ ?_; rotate_left
        · (intro w hSw; (try dsimp only at hSw); have u0 := hSw; go_simp; try with_reducible rfl)
        (try simp only [Act.put, sZ])
        refine tkf 1 rfl (v := ?_) ?_ ?_; rotate_left
        · (intro w hSw; (try dsimp only at hSw); have u0 := hSw; go_simp; try with_reducible rfl)
        (try simp only [Act.put, sZ])
        refine tkf 2 rfl (v := ?_) ?_ ?_; rotate_left
        · (intro w hSw; (try dsimp only at hSw); have u0 := hSw; go_simp; try with_reducible rfl)
        (try simp only [Act.put, sZ])
        refine tkf 3 rfl (v := ?_) ?_ ?_; rotate_left
        · (intro w hSw; (try dsimp only at hSw); have u0 := hSw; go_simp; try with_reducible rfl)
        (try simp only [Act.put, sZ])
        refine tkf 4 rfl (v := ?_) ?_ ?_; rotate_left
        · (intro w hSw; (try dsimp only at hSw); have u0 := hSw; go_simp; try with_reducible rfl)
        (try simp only [Act.put, sZ])
        refine stp 5 rfl (fun K hK => ?_)
        go_simp
        go_at_call 15
        refine (HCH.out wr.drew (HR.out.later (Below.refl _ _).drew) s).mono ?_
        rintro e w5 ⟨rfl, b5⟩
        have B5 := Lib.hid ((Below.refl wr.heap.size wr).drew.trans b5)
        have U5 : Hid (w5.cell? ⟨g, k, none⟩ = some (.string ⟨s.toArray⟩)) := (World.cell?_of_block (B5.out.block g hgl)).trans U0.out
        have HR5 := Lib.hid (HR.out.later B5.out)
        rw [HT1.out]
        refine hK.out _ _ (fun _ => U5.out) (fun hHeld2 => ?_)
        replace hHeld2 := hHeld2 rfl
        clear hK K hHeld b5
        (try simp only [Act.put, sZ])
        refine tkf 6 rfl (v := ?_) ?_ ?_; rotate_left
        · (intro w hSw; (try dsimp only at hSw); have u0 := hSw; go_simp; try with_reducible rfl)
        (try simp only [Act.put, sZ])
        refine tkf 7 rfl (v := ?_) ?_ ?_; rotate_left
        · (intro w hSw; (try dsimp only at hSw); have u0 := hSw; go_simp; try with_reducible rfl)
        (try simp only [Act.put, sZ])
        refine tkf 8 rfl (v := ?_) ?_ ?_; rotate_left
        · (intro w hSw; (try dsimp only at hSw); have u0 := hSw; go_simp; try with_reducible rfl)
        (try simp only [Act.put, sZ])
        refine tkf 9 rfl (v := ?_) ?_ ?_; rotate_left
        · (intro w hSw; (try dsimp only at hSw); have u0 := hSw; go_simp; try with_reducible rfl)
        (try simp only [Act.put, sZ])
        refine tkf 10 rfl (v := ?_) ?_ ?_; rotate_left
        · (intro w hSw; (try dsimp only at hSw); have u0 := hSw; go_simp; try with_reducible rfl)
        (try simp only [Act.put, sZ])
        refine tkf 11 rfl (v := ?_) ?_ ?_; rotate_left
        · (intro w hSw; (try dsimp only at hSw); have u0 := hSw; go_simp; try with_reducible rfl)
        (try simp only [Act.put, sZ])
        refine tkf 12 rfl (v := ?_) ?_ ?_; rotate_left
        · (intro w hSw; (try dsimp only at hSw); have u0 := hSw; go_simp; try with_reducible rfl)
        (try simp only [Act.put, sZ])
        refine tkf 13 rfl (v := ?_) ?_ ?_; rotate_left
        · (intro w hSw; (try dsimp only at hSw); have u0 := hSw; go_simp; try with_reducible rfl)
        (try simp only [Act.put, sZ])
        refine tkf 14 rfl (v := ?_) ?_ ?_; rotate_left
        · (intro w hSw; (try dsimp only at hSw); have u0 := hSw; go_simp; try with_reducible rfl)
        (try simp only [Act.put, sZ])
        have HTK : Hid ((M.take k).length = k) := by show _ = _; rw [List.length_take]; omega
        have C6 := Lib.hid (HCT.out w5 HR5.out k s)
        rw [HTK.out] at C6
        refine stp 15 rfl (fun K hK => ?_)
        go_simp
        go_at_call 15
        refine C6.out.mono ?_
        rintro e w6 ⟨rfl, b6⟩
        have U6 : Hid (w6.cell? ⟨g, k, none⟩ = some (.string ⟨s.toArray⟩)) := (World.cell?_of_block (b6.block g (Nat.lt_of_lt_of_le hgl B5.out.size))).trans U5.out
        have HR6 := Lib.hid (HR5.out.later b6)
        rw [HT2.out]
        refine hK.out _ _ (fun _ => U6.out) (fun hHeld3 => ?_)
        replace hHeld3 := hHeld3 rfl
        clear hK K hHeld2 b6
        (try simp only [Act.put, sZ])
        refine stp 16 rfl (fun K hK => ?_)
        go_simp
        refine hK.out _ _ (fun _ => U6.out) (fun hHeld4 => ?_)
        clear hK K hHeld3
        (try simp only [Act.put, sZ])
        refine anyZ_done (by kernel_rfl) ?_ _
        go_wp2_with fail
        go_roundw
        case rel => exact ⟨k + 1, by go_num, by omega, HR6.out⟩
        case measure => simp [intOf]; omega
      · have i1 : ¬ (k : Int) < (n : Int) := by omega
        go_upto_region 13 with (fail)
        have C7 := Lib.hid (CE.out wr (fun a => a < wr.heap.size) f (fun a ha => ha) (HR.out.n.mono fun a _ hl => hl))
        unfold ndV at C7
        have HXR := Lib.hid HR.out.X
        obtain ⟨n0, n1, n2, n3, n4, n5⟩ := nodeC (HXR.out)
        go_wp2_with fail
        refine C7.out.mono ?_
        rintro e w7 ⟨f7, rfl, ne7, b7⟩
        have HR7 := Lib.hid (HR.out.later b7)
        have C8 := Lib.hid (CF2.out w7 (fun a => a < w7.heap.size) f7 (fun a ha => ha) (ne7.mono fun a _ hl => hl))
        unfold ndV at C8
        clear n0 n1 n2 n3 n4 n5 C7 HR ne7 b7 HXR CE CF2 i1
        go_wp2_with fail
        refine C8.out.mono ?_
        rintro e w8 ⟨E, c8, rfl, o8, b8⟩
        have HR8 := Lib.hid (HR7.out.later b8)
        have HE8 : Hid (StrIn w8 (fun _ => True) P E) := (own_str o8.row).mono fun _ _ _ => trivial
        clear o8 b8 C8 HR7
        obtain ⟨p, hp⟩ : ∃ p, P.length = p := ⟨_, rfl⟩
        have HPM := Lib.hid hp
        rw [hp] at HLE ⊢
        clear hp
        go_upto_region 14 with (fail)
        go_wp2_with fail
        go_loopw [9] (fun i wz => ∃ k : Nat, i = .int .i64 (k : Int) ∧ k ≤ p ∧ FreeAt W wz G x f M N A B ∧ StrIn wz (fun _ => True) P E) (fun i _ => p - (intOf i).toNat)
        case atStart => exact ⟨0, rfl, Nat.zero_le _, HR8.out, HE8.out⟩
        case round =>
          obtain ⟨k, rfl, hk, har, hst⟩ := hrel
          have HR := Lib.hid har
          have HS := Lib.hid hst
          clear har hst HR8 HE8
          by_cases hlt : k < p
          · have hkm : k < P.length := by rw [HPM.out]; exact hlt
            have i1 : (k : Int) < (p : Int) := by omega
            obtain ⟨g, rfl, hgl, u0⟩ := HS.out.at_ hkm
            have HT1 : Hid (hasB M (P.getD k []) = true) := hasB_mem.2 (HEX.out _ (getD_mem_s hkm))
            generalize P.getD k [] = s at *
            have i0 : (0 : Int) ≤ (k : Int) := by omega
            have i2 : (k : Int) < 100000 := by have := HLE.out; omega
            go_wp2_with fail
            refine (HCM.out _ HR.out s).mono ?_
            rintro e w9 ⟨rfl, b9⟩
            rw [HT1.out]
            have HR9 := Lib.hid (HR.out.later b9)
            have HS9 := Lib.hid (HS.out.below b9 (Nat.le_refl _))
            clear b9 HR HS u0
            go_wp2_with fail
            go_roundw
            case rel => exact ⟨k + 1, by go_num, by omega, HR9.out, HS9.out⟩
            case measure => simp [intOf]; omega
          · have i1 : ¬ (k : Int) < (p : Int) := by omega
            go_wp2_with fail
            refine (lives_any _).mono ?_
            rintro e w9 ⟨rfl, b9⟩
            have HB9 := Lib.hid (HR.out.later b9).b
            go_wp2_with fail
            exact bodyPost_ret (v := .bool true) (by simp [results, Try.results4, go_sem]) rfl ⟨rfl, HB9.out⟩
end Go.Proofs.Ytgjchgmlogbmmaa
