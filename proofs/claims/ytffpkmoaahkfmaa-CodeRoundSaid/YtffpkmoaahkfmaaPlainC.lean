/- Plain laws of layer 13: what is decoded has just these bytes. -/
import Derived.Test.YtffpkmoaahkfmaaPlainB
namespace Go.Proofs.Ytffpkmoaahkfmaa
open Go.RowKit
set_option linter.unusedVariables false

theorem nx_inv {wd : Nat} {s : St} (hw : wd = 1 ∨ wd = 2 ∨ wd = 8) (h : (nx wd s).2 = false) : s.2 = false ∧ s.1 = putB wd [nv wd s] ++ (nx wd s).1 := by
  obtain ⟨h1, h2, h3, h4⟩ := nx_false h
  refine ⟨h1, ?_⟩
  rw [putB_one, h3]
  have hl : (s.1.take wd).length = wd := by rw [List.length_take]; omega
  have hb := leU_bd (s.1.take wd)
  rw [hl] at hb
  have hm : nv wd s % 256 ^ wd = leU (s.1.take wd) := by
    rw [h4]
    generalize leU (s.1.take wd) = z at *
    rcases hw with rfl | rfl | rfl
    · have : (256 : Int) ^ 1 = 256 := rfl
      rw [this] at *; unfold wrap64; omega
    · have : (256 : Int) ^ 2 = 65536 := rfl
      rw [this] at *; unfold wrap64; omega
    · have : (256 : Int) ^ 8 = 18446744073709551616 := rfl
      rw [this] at *; rw [wrap_mod]; omega
  rw [byts_of_leU (s.1.take wd) wd hl (nv wd s) hm]
  exact (List.take_append_drop wd s.1).symm
theorem gInt_true (p : List Int × St) (h : p.2.2 = true) : (gInt p).2.2 = true := nx_true 8 h
theorem gByte_true (p : List UInt8 × St) (h : p.2.2 = true) : (gByte p).2.2 = true := nx_true 1 h
theorem gBytes_true {s : St} (h : s.2 = true) : (gBytes s).2.2 = true := iter_true gByte_true _ _ (nx_true 1 h)
theorem gText_true (p : List ByteArray × St) (h : p.2.2 = true) : (gText p).2.2 = true := gBytes_true h
theorem gIns_true (p : List Ins × St) (h : p.2.2 = true) : (gIns p).2.2 = true := by unfold gIns; rw [if_pos h]; exact h
theorem gCode_true {s : St} (h : s.2 = true) : (gCode s).2.2 = true := iter_true gIns_true _ _ (nx_true 2 h)
theorem gBdy_true (p : List Bdy × St) (h : p.2.2 = true) : (gBdy p).2.2 = true := gCode_true (nx_true 1 (nx_true 1 (nx_true 1 h)))
theorem not_true {b : Bool} (h : b = false) (k : b = true) : False := by rw [h] at k; cases k
theorem back {α : Type} {f : α → St} {g : α → Bool} {a : α} {s : St} (hm : s.2 = true → g a = true) (h : g a = false) : s.2 = false := by
  rcases hq : s.2 with _ | _
  · rfl
  · rw [hm hq] at h; cases h
theorem back' {s : St} {b : Bool} (hm : s.2 = true → b = true) (h : b = false) : s.2 = false := by
  rcases hq : s.2 with _ | _
  · rfl
  · rw [hm hq] at h; cases h
theorem gInt_inv (acc : List Int) (s : St) (h : (gInt (acc, s)).2.2 = false) : ∃ x s', gInt (acc, s) = (acc ++ [x], s') ∧ s.2 = false ∧ s.1 = putB 8 [x] ++ s'.1 := by
  obtain ⟨h1, h2⟩ := nx_inv (wd := 8) (by simp) h
  exact ⟨nv 8 s, nx 8 s, rfl, h1, h2⟩
theorem byts1 {x : Int} (h0 : 0 ≤ x) (h1 : x ≤ 255) : putB 1 [x] = [UInt8.ofNat x.toNat] := by
  rw [putB_one]
  have : (x % 256).toNat = x.toNat := by omega
  simp [byts, byt, this]
theorem gByte_inv (acc : List UInt8) (s : St) (h : (gByte (acc, s)).2.2 = false) : ∃ x s', gByte (acc, s) = (acc ++ [x], s') ∧ s.2 = false ∧ s.1 = [x] ++ s'.1 := by
  obtain ⟨h1, h2⟩ := nx_inv (wd := 1) (by simp) h
  have hb := nv1_bd s
  rw [byts1 hb.1 hb.2] at h2
  exact ⟨UInt8.ofNat (cnt 1 s), nx 1 s, rfl, h1, h2⟩
theorem gBytes_inv (s : St) (h : (gBytes s).2.2 = false) : s.2 = false ∧ s.1 = encT ⟨(gBytes s).1.toArray⟩ ++ (gBytes s).2.1 := by
  obtain ⟨bs, e, hl, h1, h2⟩ := iter_inv (enc := fun c => [c]) gByte_true gByte_inv (cnt 1 s) [] (nx 1 s) h
  obtain ⟨h3, h4⟩ := nx_inv (wd := 1) (by simp) h1
  have hb := nv1_bd s
  refine ⟨h3, ?_⟩
  rw [h4, h2]
  have e' : (gBytes s).1 = bs := by unfold gBytes; rw [e]; rfl
  rw [e']
  have hn : nv 1 s = ((⟨bs.toArray⟩ : ByteArray).size : Int) := by
    show nv 1 s = (bs.toArray.size : Int)
    rw [List.size_toArray, hl]; unfold cnt; omega
  unfold encT
  rw [hn, List.append_assoc]
  congr 1
  show bs.flatMap (fun c => [c]) ++ _ = bs ++ _
  rw [show bs.flatMap (fun c => [c]) = bs from by simp]
  rfl
theorem gText_inv (acc : List ByteArray) (s : St) (h : (gText (acc, s)).2.2 = false) : ∃ x s', gText (acc, s) = (acc ++ [x], s') ∧ s.2 = false ∧ s.1 = encT x ++ s'.1 := by
  obtain ⟨h1, h2⟩ := gBytes_inv s h
  exact ⟨_, (gBytes s).2, rfl, h1, h2⟩
theorem gIns_inv (acc : List Ins) (s : St) (h : (gIns (acc, s)).2.2 = false) : ∃ x s', gIns (acc, s) = (acc ++ [x], s') ∧ s.2 = false ∧ s.1 = encI x ++ s'.1 := by
  unfold gIns at *
  dsimp only at *
  split at h
  · rename_i hs; rw [hs] at h; cases h
  · rename_i hs
    obtain ⟨h1, h2⟩ := nx_inv (wd := 2) (by simp) h
    obtain ⟨h3, h4⟩ := nx_inv (wd := 2) (by simp) h1
    obtain ⟨h5, h6⟩ := nx_inv (wd := 1) (by simp) h3
    rw [if_neg hs]
    refine ⟨_, _, rfl, h5, ?_⟩
    rw [h6, h4, h2]
    unfold encI
    rw [putB_cons 2 (nv 2 (nx 1 s)) [nv 2 (nx 2 (nx 1 s))]]
    simp only [List.append_assoc]
theorem gCode_inv (s : St) (h : (gCode s).2.2 = false) : s.2 = false ∧ s.1 = putB 2 [((gCode s).1.length : Int)] ++ ((gCode s).1.flatMap encI ++ (gCode s).2.1) := by
  obtain ⟨xs, e, hl, h1, h2⟩ := iter_inv (enc := encI) gIns_true gIns_inv (cnt 2 s) [] (nx 2 s) h
  obtain ⟨h3, h4⟩ := nx_inv (wd := 2) (by simp) h1
  have e' : (gCode s).1 = xs := by unfold gCode; rw [e]; rfl
  have hc := (cnt_eq 2 s (by decide)).1
  refine ⟨h3, ?_⟩
  rw [e', hl, ← hc]
  rw [h2] at h4
  exact h4
theorem gBdy_inv (acc : List Bdy) (s : St) (h : (gBdy (acc, s)).2.2 = false) : ∃ x s', gBdy (acc, s) = (acc ++ [x], s') ∧ s.2 = false ∧ s.1 = encF x ++ s'.1 := by
  obtain ⟨h1, h2⟩ := gCode_inv (s3 s) h
  obtain ⟨h3, h4⟩ := nx_inv (wd := 1) (by simp) h1
  obtain ⟨h5, h6⟩ := nx_inv (wd := 1) (by simp) h3
  obtain ⟨h7, h8⟩ := nx_inv (wd := 1) (by simp) h5
  refine ⟨_, (gCode (s3 s)).2, rfl, h7, ?_⟩
  have h2' : (nx 1 (nx 1 (nx 1 s))).1 = putB 2 [((gCode (s3 s)).1.length : Int)] ++ ((gCode (s3 s)).1.flatMap encI ++ (gCode (s3 s)).2.1) := h2
  rw [h8, h6, h4, h2']
  unfold encF
  rw [putB_cons 1 (nv 1 s) [nv 1 (nx 1 s), nv 1 (nx 1 (nx 1 s))], putB_cons 1 (nv 1 (nx 1 s)) [nv 1 (nx 1 (nx 1 s))]]
  simp only [List.append_assoc]
theorem gBdys_true {s : St} (h : s.2 = true) : (gBdys s).2.2 = true := iter_true gBdy_true _ _ (nx_true 1 h)
theorem gTexts_true {s : St} (h : s.2 = true) : (gTexts s).2.2 = true := iter_true gText_true _ _ (nx_true 1 h)
theorem gInts_true {s : St} (h : s.2 = true) : (gInts s).2.2 = true := iter_true gInt_true _ _ (nx_true 1 h)
theorem list_inv {α : Type} {f : List α × St → List α × St} {enc : α → List UInt8} (hm : ∀ p, p.2.2 = true → (f p).2.2 = true) (hf : ∀ acc s, (f (acc, s)).2.2 = false → ∃ x s', f (acc, s) = (acc ++ [x], s') ∧ s.2 = false ∧ s.1 = enc x ++ s'.1) (s : St) (h : (iter f (cnt 1 s) ([], nx 1 s)).2.2 = false) :
    s.2 = false ∧ s.1 = putB 1 [((iter f (cnt 1 s) ([], nx 1 s)).1.length : Int)] ++ ((iter f (cnt 1 s) ([], nx 1 s)).1.flatMap enc ++ (iter f (cnt 1 s) ([], nx 1 s)).2.1) := by
  obtain ⟨xs, e, hl, h1, h2⟩ := iter_inv (enc := enc) hm hf (cnt 1 s) [] (nx 1 s) h
  obtain ⟨h3, h4⟩ := nx_inv (wd := 1) (by simp) h1
  have hc := (cnt_eq 1 s (by decide)).1
  refine ⟨h3, ?_⟩
  rw [e, List.nil_append, hl, ← hc]
  rw [h2] at h4
  exact h4
theorem gBdys_inv (s : St) (h : (gBdys s).2.2 = false) : s.2 = false ∧ s.1 = putB 1 [((gBdys s).1.length : Int)] ++ ((gBdys s).1.flatMap encF ++ (gBdys s).2.1) := list_inv gBdy_true gBdy_inv s h
theorem gTexts_inv (s : St) (h : (gTexts s).2.2 = false) : s.2 = false ∧ s.1 = putB 1 [((gTexts s).1.length : Int)] ++ ((gTexts s).1.flatMap encT ++ (gTexts s).2.1) := list_inv gText_true gText_inv s h
theorem gInts_inv (s : St) (h : (gInts s).2.2 = false) : s.2 = false ∧ s.1 = putB 1 [((gInts s).1.length : Int)] ++ ((gInts s).1.flatMap (fun x => putB 8 [x]) ++ (gInts s).2.1) := list_inv gInt_true gInt_inv s h
theorem st0_inv (l : List UInt8) (a4 : (st0 l).2 = false) : l = [83, 77, 49] ++ (st0 l).1 := by
  have hs : short0 l = false := a4
  unfold short0 at hs
  rw [Bool.or_eq_false_iff, decide_eq_false_iff_not] at hs
  have ht : l.take 3 = magL := by
    have := hs.2; rwa [bne_eq_false_iff_eq] at this
  show l = [83, 77, 49] ++ rest0 l
  unfold rest0
  rw [show min 3 l.length = 3 from by omega]
  have := (List.take_append_drop 3 l).symm
  rw [ht] at this; exact this
/-- What is read whole has just the document's bytes. -/
theorem gCod_inv (l : List UInt8) (h : (gCod l).2 = ([], false)) : l = encC (gCod l).1 := by
  unfold gCod at *
  dsimp only at *
  generalize hs : st0 l = s at *
  rcases hi : gInts (nx 1 s) with ⟨is, si⟩
  rw [hi] at h
  dsimp only at h ⊢
  rcases ht : gTexts si with ⟨ts, sj⟩
  rw [ht] at h
  dsimp only at h ⊢
  rcases hf : gBdys sj with ⟨fs, sk⟩
  rw [hf] at h
  dsimp only at h ⊢
  subst h
  obtain ⟨a1, b1⟩ := gBdys_inv sj (by rw [hf])
  rw [hf] at b1
  obtain ⟨a2, b2⟩ := gTexts_inv si (by rw [ht]; exact a1)
  rw [ht] at b2
  obtain ⟨a3, b3⟩ := gInts_inv (nx 1 s) (by rw [hi]; exact a2)
  rw [hi] at b3
  obtain ⟨a4, b4⟩ := nx_inv (wd := 1) (by simp) a3
  have hl := st0_inv l (by rw [hs]; exact a4)
  rw [hs] at hl
  dsimp only at b1 b2 b3
  rw [hl, b4, b3, b2, b1]
  unfold encC
  dsimp only
  rw [putB_cons 1 (nv 1 s) [(is.length : Int)], putB_flat 8]
  simp only [List.append_assoc, List.append_nil]
end Go.Proofs.Ytffpkmoaahkfmaa
