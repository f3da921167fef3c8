/- Plain laws of layer 13: what is encoded is decoded, and what is decoded has just these bytes: the whole code. -/
import Derived.Test.YtffpkmoaahkfmaaPlainA
import Derived.Test.YtffpkmoaahkfmaaWalkN
namespace Go.Proofs.Ytffpkmoaahkfmaa
open Go.RowKit
set_option linter.unusedVariables false

theorem iter_front {α : Type} (f : α → α) (n : Nat) (a : α) : iter f (n + 1) a = iter f n (f a) := iter_add f a 1 n
theorem iter_read {α : Type} {f : List α × St → List α × St} {enc : α → List UInt8} {good : α → Prop} (hf : ∀ acc x r, good x → f (acc, (enc x ++ r, false)) = (acc ++ [x], (r, false))) :
    ∀ (xs : List α) (acc : List α) (r : List UInt8), (∀ x ∈ xs, good x) → iter f xs.length (acc, (xs.flatMap enc ++ r, false)) = (acc ++ xs, (r, false))
  | [], acc, r, _ => by simp [iter]
  | x :: xs, acc, r, h => by
    rw [List.length_cons, iter_front, List.flatMap_cons, List.append_assoc, hf acc x _ (h x List.mem_cons_self), iter_read hf xs _ r (fun y hy => h y (List.mem_cons_of_mem _ hy))]
    simp
theorem iter_true {α : Type} {f : List α × St → List α × St} (hm : ∀ p, p.2.2 = true → (f p).2.2 = true) : ∀ (n : Nat) (p : List α × St), p.2.2 = true → (iter f n p).2.2 = true
  | 0, _, h => h
  | n + 1, p, h => hm _ (iter_true hm n p h)
theorem iter_inv {α : Type} {f : List α × St → List α × St} {enc : α → List UInt8} (hm : ∀ p, p.2.2 = true → (f p).2.2 = true) (hf : ∀ acc s, (f (acc, s)).2.2 = false → ∃ x s', f (acc, s) = (acc ++ [x], s') ∧ s.2 = false ∧ s.1 = enc x ++ s'.1) :
    ∀ (n : Nat) (acc : List α) (s : St), (iter f n (acc, s)).2.2 = false → ∃ xs, (iter f n (acc, s)).1 = acc ++ xs ∧ xs.length = n ∧ s.2 = false ∧ s.1 = xs.flatMap enc ++ (iter f n (acc, s)).2.1
  | 0, acc, s, h => ⟨[], by simp [iter], rfl, h, by simp [iter]⟩
  | n + 1, acc, s, h => by
    rw [iter_front] at h ⊢
    have h1 : (f (acc, s)).2.2 = false := by
      rcases hq : (f (acc, s)).2.2 with _ | _
      · rfl
      · rw [iter_true hm n _ hq] at h; cases h
    obtain ⟨x, s', e, h2, h3⟩ := hf acc s h1
    rw [e] at h ⊢
    obtain ⟨xs, e2, hl, h4, h5⟩ := iter_inv hm hf n _ s' h
    exact ⟨x :: xs, by rw [e2]; simp, by simp [hl], h2, by rw [h3, h5, List.flatMap_cons, List.append_assoc]⟩
theorem read_byts (wd : Nat) (x : Int) (r : List UInt8) (sh : Bool) : nx wd (byts x wd ++ r, sh) = (r, sh) ∧ nv wd (byts x wd ++ r, sh) = wrap64 (x % 256 ^ wd) := by
  have hl : ¬ (byts x wd ++ r).length < wd := by rw [List.length_append, byts_len]; omega
  unfold nx rdL rdS nv rdV
  dsimp only
  rw [if_neg hl, if_neg hl, if_neg hl]
  have h1 : (byts x wd ++ r).drop wd = r := by have := List.drop_left (l₁ := byts x wd) (l₂ := r); rwa [byts_len] at this
  have h2 : (byts x wd ++ r).take wd = byts x wd := by have := List.take_left (l₁ := byts x wd) (l₂ := r); rwa [byts_len] at this
  rw [h1, h2, leU_byts]; exact ⟨rfl, rfl⟩
theorem read1 {x : Int} (h0 : 0 ≤ x) (h1 : x ≤ 255) (r : List UInt8) (sh : Bool) : nx 1 (putB 1 [x] ++ r, sh) = (r, sh) ∧ nv 1 (putB 1 [x] ++ r, sh) = x := by
  rw [putB_one]
  obtain ⟨a, b⟩ := read_byts 1 x r sh
  exact ⟨a, by rw [b]; unfold wrap64; omega⟩
theorem read2 {x : Int} (h0 : 0 ≤ x) (h1 : x ≤ 65535) (r : List UInt8) (sh : Bool) : nx 2 (putB 2 [x] ++ r, sh) = (r, sh) ∧ nv 2 (putB 2 [x] ++ r, sh) = x := by
  rw [putB_one]
  obtain ⟨a, b⟩ := read_byts 2 x r sh
  exact ⟨a, by rw [b]; unfold wrap64; omega⟩
theorem read8 {x : Int} (h0 : -9223372036854775808 ≤ x) (h1 : x ≤ 9223372036854775807) (r : List UInt8) (sh : Bool) : nx 8 (putB 8 [x] ++ r, sh) = (r, sh) ∧ nv 8 (putB 8 [x] ++ r, sh) = x := by
  rw [putB_one]
  obtain ⟨a, b⟩ := read_byts 8 x r sh
  exact ⟨a, by rw [b, show (256 : Int) ^ 8 = 18446744073709551616 from rfl]; unfold wrap64; omega⟩
theorem putB_cons (w : Nat) (x : Int) (zs : List Int) : putB w (x :: zs) = putB w [x] ++ putB w zs := by unfold putB; simp
theorem gInt_read (acc : List Int) (x : Int) (r : List UInt8) (h : -9223372036854775808 ≤ x ∧ x ≤ 9223372036854775807) : gInt (acc, (putB 8 [x] ++ r, false)) = (acc ++ [x], (r, false)) := by
  obtain ⟨a, b⟩ := read8 h.1 h.2 r false
  unfold gInt; dsimp only; rw [a, b]
theorem gByte_read (acc : List UInt8) (c : UInt8) (r : List UInt8) (_h : True) : gByte (acc, ([c] ++ r, false)) = (acc ++ [c], (r, false)) := by
  have hc := c.toNat_lt
  have hb : byts (c.toNat : Int) 1 = [c] := by
    have h1 : ((c.toNat : Int) % 256).toNat = c.toNat := by omega
    unfold byts byt; simp [h1]
  obtain ⟨a, b⟩ := read_byts 1 (c.toNat : Int) r false
  rw [hb] at a b
  unfold gByte cnt; dsimp only; rw [a, b]
  have : (wrap64 ((c.toNat : Int) % 256 ^ 1)).toNat = c.toNat := by unfold wrap64; omega
  rw [this]; simp
theorem gText_read (acc : List ByteArray) (s : ByteArray) (r : List UInt8) (h : s.size ≤ 255) : gText (acc, (encT s ++ r, false)) = (acc ++ [s], (r, false)) := by
  obtain ⟨a, b⟩ := read1 (x := (s.size : Int)) (by omega) (by omega) (s.data.toList ++ r) false
  have hg : gBytes (encT s ++ r, false) = (s.data.toList, (r, false)) := by
    unfold gBytes encT cnt
    rw [List.append_assoc, a, b]
    have hl : (s.size : Int).toNat = s.data.toList.length := by rw [Array.length_toList]; rfl
    rw [hl]
    have := iter_read (f := gByte) (enc := fun c => [c]) (good := fun _ => True) gByte_read s.data.toList [] r (fun _ _ => trivial)
    rw [show s.data.toList.flatMap (fun c => [c]) = s.data.toList from by simp] at this
    rw [this]; rfl
  unfold gText; dsimp only; rw [hg]
def insR (i : Ins) : Prop := 0 ≤ i.op ∧ i.op ≤ 255 ∧ 0 ≤ i.a ∧ i.a ≤ 65535 ∧ 0 ≤ i.b ∧ i.b ≤ 65535
theorem gIns_read (acc : List Ins) (i : Ins) (r : List UInt8) (h : insR i) : gIns (acc, (encI i ++ r, false)) = (acc ++ [i], (r, false)) := by
  obtain ⟨op, a, b⟩ := i
  obtain ⟨h1, h2, h3, h4, h5, h6⟩ := h
  dsimp only at *
  have e : encI ⟨op, a, b⟩ ++ r = putB 1 [op] ++ (putB 2 [a] ++ (putB 2 [b] ++ r)) := by
    unfold encI; rw [putB_cons 2 a [b]]; simp only [List.append_assoc]
  obtain ⟨a1, b1⟩ := read1 h1 h2 (putB 2 [a] ++ (putB 2 [b] ++ r)) false
  obtain ⟨a2, b2⟩ := read2 h3 h4 (putB 2 [b] ++ r) false
  obtain ⟨a3, b3⟩ := read2 h5 h6 r false
  unfold gIns
  dsimp only
  rw [if_neg (by decide), e, a1, a2, a3, b1, b2, b3]
def bdyR (b : Bdy) : Prop := 0 ≤ b.kept ∧ b.kept ≤ 255 ∧ 0 ≤ b.locals ∧ b.locals ≤ 255 ∧ 0 ≤ b.stack ∧ b.stack ≤ 255 ∧ b.code.length ≤ 65535 ∧ ∀ i ∈ b.code, insR i
theorem gBdy_read (acc : List Bdy) (b : Bdy) (r : List UInt8) (h : bdyR b) : gBdy (acc, (encF b ++ r, false)) = (acc ++ [b], (r, false)) := by
  obtain ⟨k, lc, st, code⟩ := b
  obtain ⟨h1, h2, h3, h4, h5, h6, h7, h8⟩ := h
  dsimp only at *
  have e : encF ⟨k, lc, st, code⟩ ++ r = putB 1 [k] ++ (putB 1 [lc] ++ (putB 1 [st] ++ (putB 2 [(code.length : Int)] ++ (code.flatMap encI ++ r)))) := by
    unfold encF; rw [putB_cons 1 k, putB_cons 1 lc]; simp only [List.append_assoc]
  obtain ⟨a1, b1⟩ := read1 h1 h2 (putB 1 [lc] ++ (putB 1 [st] ++ (putB 2 [(code.length : Int)] ++ (code.flatMap encI ++ r)))) false
  obtain ⟨a2, b2⟩ := read1 h3 h4 (putB 1 [st] ++ (putB 2 [(code.length : Int)] ++ (code.flatMap encI ++ r))) false
  obtain ⟨a3, b3⟩ := read1 h5 h6 (putB 2 [(code.length : Int)] ++ (code.flatMap encI ++ r)) false
  obtain ⟨a4, b4⟩ := read2 (x := (code.length : Int)) (by omega) (by omega) (code.flatMap encI ++ r) false
  have hc : gCode (putB 2 [(code.length : Int)] ++ (code.flatMap encI ++ r), false) = (code, (r, false)) := by
    unfold gCode cnt
    rw [a4, b4, Int.toNat_natCast]
    have := iter_read (f := gIns) (enc := encI) (good := insR) gIns_read code [] r h8
    rw [this]; rfl
  unfold gBdy s3
  dsimp only
  rw [e, a1, a2, a3, b1, b2, b3, hc]
theorem st0_mag (T : List UInt8) : st0 ([83, 77, 49] ++ T) = (T, false) := by
  have hl : min 3 ([83, 77, 49] ++ T).length = 3 := by rw [List.length_append]; simp only [List.length_cons, List.length_nil]; omega
  unfold st0 rest0 short0 magL
  rw [hl]
  refine Prod.ext rfl ?_
  show (decide (([83, 77, 49] ++ T : List UInt8).length < 3) || _) = false
  rw [decide_eq_false (by rw [List.length_append]; simp only [List.length_cons, List.length_nil]; omega)]
  rfl
theorem gCod_read (c : Cod) (h : codOK c = true) : gCod (encC c) = (c, ([], false)) := by
  have hsz := cod_sizes h
  have hci := cod_ints h
  have hcf := cod_funs h
  obtain ⟨fs, is, ts, lets⟩ := c
  dsimp only at *
  obtain ⟨z1, z2, z3, z4, z5, z6, z7, z8⟩ := hsz
  have e : encC ⟨fs, is, ts, lets⟩ = [83, 77, 49] ++ (putB 1 [lets] ++ (putB 1 [(is.length : Int)] ++ (is.flatMap (fun x => putB 8 [x]) ++ (putB 1 [(ts.length : Int)] ++ (ts.flatMap encT ++ (putB 1 [(fs.length : Int)] ++ (fs.flatMap encF ++ [])))))))  := by
    unfold encC; rw [putB_cons 1 lets, putB_flat 8]; simp only [List.append_assoc, List.append_nil]
  have hs := st0_mag (putB 1 [lets] ++ (putB 1 [(is.length : Int)] ++ (is.flatMap (fun x => putB 8 [x]) ++ (putB 1 [(ts.length : Int)] ++ (ts.flatMap encT ++ (putB 1 [(fs.length : Int)] ++ (fs.flatMap encF ++ [])))))))
  rw [← e] at hs
  obtain ⟨a1, b1⟩ := read1 (x := lets) (by omega) (by omega) (putB 1 [(is.length : Int)] ++ (is.flatMap (fun x => putB 8 [x]) ++ (putB 1 [(ts.length : Int)] ++ (ts.flatMap encT ++ (putB 1 [(fs.length : Int)] ++ (fs.flatMap encF ++ [])))))) false
  obtain ⟨a2, b2⟩ := read1 (x := (is.length : Int)) (by omega) (by omega) (is.flatMap (fun x => putB 8 [x]) ++ (putB 1 [(ts.length : Int)] ++ (ts.flatMap encT ++ (putB 1 [(fs.length : Int)] ++ (fs.flatMap encF ++ []))))) false
  obtain ⟨a3, b3⟩ := read1 (x := (ts.length : Int)) (by omega) (by omega) (ts.flatMap encT ++ (putB 1 [(fs.length : Int)] ++ (fs.flatMap encF ++ []))) false
  obtain ⟨a4, b4⟩ := read1 (x := (fs.length : Int)) (by omega) (by omega) (fs.flatMap encF ++ []) false
  have g1 := iter_read (f := gInt) (enc := fun x => putB 8 [x]) gInt_read is [] (putB 1 [(ts.length : Int)] ++ (ts.flatMap encT ++ (putB 1 [(fs.length : Int)] ++ (fs.flatMap encF ++ [])))) (fun x hx => by have := hci x hx; omega)
  have g2 := iter_read (f := gText) (enc := encT) gText_read ts [] (putB 1 [(fs.length : Int)] ++ (fs.flatMap encF ++ [])) (fun x hx => by have := z7 x hx; omega)
  have g3 := iter_read (f := gBdy) (enc := encF) gBdy_read fs [] [] (fun b hb => by obtain ⟨p1, p2, p3, p4, p5, p6, p7, p8⟩ := hcf b hb; exact ⟨p1, by omega, p3, by omega, by omega, by omega, by omega, fun i hi => p8 i hi⟩)
  unfold gCod
  dsimp only
  rw [hs, a1, b1]
  have i1 : gInts (putB 1 [(is.length : Int)] ++ (is.flatMap (fun x => putB 8 [x]) ++ (putB 1 [(ts.length : Int)] ++ (ts.flatMap encT ++ (putB 1 [(fs.length : Int)] ++ (fs.flatMap encF ++ []))))), false) = (is, (putB 1 [(ts.length : Int)] ++ (ts.flatMap encT ++ (putB 1 [(fs.length : Int)] ++ (fs.flatMap encF ++ []))), false)) := by
    unfold gInts cnt; rw [a2, b2, Int.toNat_natCast, g1]; rfl
  have i2 : gTexts (putB 1 [(ts.length : Int)] ++ (ts.flatMap encT ++ (putB 1 [(fs.length : Int)] ++ (fs.flatMap encF ++ []))), false) = (ts, (putB 1 [(fs.length : Int)] ++ (fs.flatMap encF ++ []), false)) := by
    unfold gTexts cnt; rw [a3, b3, Int.toNat_natCast, g2]; rfl
  have i3 : gBdys (putB 1 [(fs.length : Int)] ++ (fs.flatMap encF ++ []), false) = (fs, ([], false)) := by
    unfold gBdys cnt; rw [a4, b4, Int.toNat_natCast, g3]; rfl
  rw [i1]; dsimp only; rw [i2]; dsimp only; rw [i3]
end Go.Proofs.Ytffpkmoaahkfmaa
