/- The walks of layer 13: a code's bytes, by the document. -/
import Derived.Test.YtffpkmoaahkfmaaWalkM
import Derived.Test.YtffpkmoaahkfmaaWalkG
namespace Go.Proofs.Ytffpkmoaahkfmaa
open Go.RowKit
set_option linter.unusedVariables false

theorem own_made {w : World} {base m : Nat} {l : List UInt8} (hb : base ≤ w.heap.size) (hm : l.length = m) (h1 : m ≤ 1000) : (w.alloc (.cells (l.map u8v).toArray 5)).ownsRow base 5 1 (.slice (some ⟨w.heap.size, 0, none⟩) m m) l.length (l.map u8v) := by
  refine ⟨by simp, .inr ⟨w.heap.size, m, (l.map u8v).toArray, by rw [hm], hb, heap_alloc_new w _, by omega, by unfold maxLen; omega, by simp [hm], ?_⟩⟩
  simp [List.take_of_length_le]
theorem grow_made {w2 w3 : World} {base m : Nat} {l : List UInt8} {news : List Value} (hb : Below base w2 w3) (hs : base ≤ w3.heap.size) (hk : KeepT w2 w3) (hn : news = l.map u8v) (hm : l.length = m) (h1 : m ≤ 1000) :
    Grow true w2 base l (.slice (some ⟨w3.heap.size, 0, none⟩) m m) (w3.alloc (.cells news.toArray 5)) := by
  subst hn
  exact ⟨.inl (own_made hs hm h1), hb.alloc hs _, hk.alloc _, by simp; omega⟩
theorem byt_small {n : Int} (h0 : 0 ≤ n) (h1 : n ≤ 255) : Value.int IntKind.u8 n = u8v (byt n 0) := by
  rw [u8v_byt]; simp; omega
theorem put1_news1 {a : Int} (h0 : 0 ≤ a) (h1 : a ≤ 255) : [Value.int IntKind.u8 a] = (putB 1 [a]).map u8v := by
  show _ = [u8v (byt a 0)]; rw [byt_small h0 h1]
theorem put1_news3 {a b c : Int} (h0 : 0 ≤ a) (h1 : a ≤ 255) (h2 : 0 ≤ b) (h3 : b ≤ 255) (h4 : 0 ≤ c) (h5 : c ≤ 255) : [Value.int IntKind.u8 a, Value.int IntKind.u8 b, Value.int IntKind.u8 c] = (putB 1 [a, b, c]).map u8v := by
  show _ = [u8v (byt a 0), u8v (byt b 0), u8v (byt c 0)]; rw [byt_small h0 h1, byt_small h2 h3, byt_small h4 h5]
theorem head_news {a b : Int} (h0 : 0 ≤ a) (h1 : a ≤ 255) (h2 : 0 ≤ b) (h3 : b ≤ 255) : [Value.int IntKind.u8 83, Value.int IntKind.u8 77, Value.int IntKind.u8 49, Value.int IntKind.u8 a, Value.int IntKind.u8 b] = ([83, 77, 49] ++ putB 1 [a, b]).map u8v := by
  show _ = [u8v 83, u8v 77, u8v 49, u8v (byt a 0), u8v (byt b 0)]; rw [byt_small h0 h1, byt_small h2 h3]; rfl
theorem app_grow' {ops : Array Oper} {rest : List Oper} {o : Oper} {a : Act} {Q : Exit → Act → World → Prop} {w0 wr : World} {base g : Nat} {v : Value} {L : List UInt8} {m : Nat} {news : List Value} (hgd : o.guard = none) (s x : Operand)
    (ho : o.op = .call { callee := .builtin .append, args := #[s, x], argTypes := #[28, 28] }) (hs : a.eval s = v) (hg : Grow true w0 base L v wr) (hgs : wr.heap.size = g)
    (hx : a.eval x = .slice (some ⟨g, 0, none⟩) m m) (l : List UInt8) (hnews : news = l.map u8v) (hm : l.length = m) (hm0 : 0 < m) (hn : L.length + m ≤ 1000000000)
    (h : ∀ v' w', Grow true w0 base (L ++ l) v' w' → KeepT wr w' → wpList Try.prog ops Q rest (a.put o.dst v') w') :
    wpList Try.prog ops Q (o :: rest) a (wr.alloc (.cells news.toArray 5)) := by
  subst hgs; exact app_grow hgd s x ho hs hg hx l hnews hm hm0 hn h
theorem hk7_cell {f f' : Bool} {w0 wr w' : World} {base b o : Nat} {L L' : List UInt8} {v v' : Value} (hg : Grow f w0 base L v wr) (hg' : Grow f' w0 base L' v' w') (hb : b < base) : w'.cell? ⟨b, o, none⟩ = wr.cell? ⟨b, o, none⟩ :=
  (hg'.2.1.cell (p := ⟨b, o, none⟩) hb).trans (hg.2.1.cell (p := ⟨b, o, none⟩) hb).symm
theorem putB_one (w : Nat) (x : Int) : putB w [x] = byts x w := by simp [putB]
theorem putB_flat (w : Nat) (zs : List Int) : putB w zs = zs.flatMap (fun x => putB w [x]) := by
  unfold putB; congr 1; funext x; simp
theorem cod_ints {c : Cod} (h : codOK c = true) : ∀ x ∈ c.ints, -4611686018427387904 ≤ x ∧ x ≤ 4611686018427387903 := by
  unfold codOK at h
  simp only [Bool.and_eq_true, inF_iff, decide_eq_true_eq, List.all_eq_true] at h
  intro x hx
  have := h.1.2 x hx; unfold intOK at this; rwa [inF_iff] at this
theorem cod_funs {c : Cod} (h : codOK c = true) : ∀ b ∈ c.funs, 0 ≤ b.kept ∧ b.kept ≤ 59 ∧ 0 ≤ b.locals ∧ b.locals ≤ 60 ∧ 1 ≤ b.stack ∧ b.stack ≤ 60 ∧ b.code.length ≤ 400 ∧ ∀ i ∈ b.code, 0 ≤ i.op ∧ i.op ≤ 255 ∧ 0 ≤ i.a ∧ i.a ≤ 65535 ∧ 0 ≤ i.b ∧ i.b ≤ 65535 := by
  unfold codOK at h
  simp only [Bool.and_eq_true, inF_iff, decide_eq_true_eq, List.all_eq_true] at h
  intro b hb
  have hh := h.1.1.2 b hb
  unfold bdyOK at hh
  simp only [Bool.and_eq_true, inF_iff, List.all_eq_true] at hh
  obtain ⟨⟨⟨⟨h1, h2⟩, h3⟩, h4⟩, h5⟩ := hh
  refine ⟨h1.1, h1.2, h2.1, h2.2, h3.1, h3.2, by omega, fun i hi => ?_⟩
  have h6 := h5 i hi
  unfold Ins.ok insOK at h6
  have h7 := of_decide_eq_true h6
  refine ⟨?_, ?_, h7.2.1, h7.2.2.1, h7.2.2.2.1, h7.2.2.2.2.1⟩
  · rcases (by omega : i.op < 1 ∨ 1 ≤ i.op) with hl | hl
    · have := usesF_out (op := i.op) (.inl hl); omega
    · omega
  · rcases (by omega : 33 < i.op ∨ i.op ≤ 33) with hl | hl
    · have := usesF_out (op := i.op) (.inr hl); omega
    · omega
set_option maxRecDepth 100000 in
set_option maxHeartbeats 4000000 in
theorem rencode_bad (w : World) (v : Value) (c : Cod) (hc : CodAt w w.heap.size v c) (ho : codOK c = false) :
    Calls Try.prog 11 #[v] w fun e w' => e = .returned (.tuple #[.slice none 0 0, .int .i64 1]) ∧ Below w.heap.size w w' := by
  obtain ⟨FA, fn, fc, IA, inn, ic, TA, tn, tc, rfl, h1, h2, h3, hf, hi, ht⟩ := hc.form
  have HC := Lib.hid hc
  clear hc h1 h2 h3
  have HB : Hid (Below w.heap.size w (w.alloc (.cells #[.slice FA fn fc, .slice IA inn ic, .slice TA tn tc, .int .i64 c.lets] 26))) := (Below.refl _ _).alloc (Nat.le_refl _) _
  have HO := Lib.hid ho
  clear ho
  go_enter Try.func11, Try.ntmps11
  go_wp2_with (go_at_call 14; refine (rmay_any _ _ c ((HC.out.below HB.out).more HB.out.size)).mono ?_; rintro e w' ⟨rfl, hb⟩; rw [HO.out])
  go_ret2
  exact ⟨rfl, HB.out.trans (hb.mono HB.out.size)⟩
set_option maxRecDepth 100000 in
set_option maxHeartbeats 8000000 in
theorem rencode_good (w : World) (v : Value) (c : Cod) (hc : CodAt w w.heap.size v c) (ho : codOK c = true) :
    Calls Try.prog 11 #[v] w fun e w' => ∃ v', e = .returned (.tuple #[v', .int .i64 0]) ∧ w'.ownsRow (w.heap.size + 1) 5 1 v' (encC c).length ((encC c).map u8v) ∧ Below w.heap.size w w' ∧ w.heap.size + 1 ≤ w'.heap.size := by
  obtain ⟨FA, fn, fc, IA, inn, ic, TA, tn, tc, rfl, h1, h2, h3, hf, hi, ht⟩ := hc.form
  have HC := Lib.hid hc
  obtain ⟨w2, hw2⟩ : ∃ w2, w2 = w.alloc (.cells #[.slice FA fn fc, .slice IA inn ic, .slice TA tn tc, .int .i64 c.lets] 26) := ⟨_, rfl⟩
  have HB : Hid (Below w.heap.size w w2) := by show Below _ _ _; rw [hw2]; exact (Below.refl _ _).alloc (Nat.le_refl _) _
  have HW : Hid (Whole w2 w.heap.size 26 #[.slice FA fn fc, .slice IA inn ic, .slice TA tn tc, .int .i64 c.lets]) := by show Whole _ _ _ _; rw [hw2]; exact Whole.made _ _ _
  have HZ : Hid (w2.heap.size = w.heap.size + 1) := by show _ = _; rw [hw2]; simp
  have HF : Hid (BdysAt w2 (w.heap.size + 1) FA fn c.funs) := (h1.below HB.out).more (by omega)
  have HI : Hid (Ints w2 (w.heap.size + 1) IA inn c.ints) := (h2.below HB.out).more (by omega)
  have HT : Hid (StrsAt w2 (w.heap.size + 1) TA tn c.texts) := (h3.below HB.out).more (by omega)
  have HSZ := Lib.hid (cod_sizes ho)
  have HCI := Lib.hid (cod_ints ho)
  have HCF := Lib.hid (cod_funs ho)
  have HO := Lib.hid ho
  have HL1 := Lib.hid h1.1; have HL2 := Lib.hid h2.1; have HL3 := Lib.hid h3.1
  have hz1 : fn ≤ 120 := by have := HSZ.out.2.1; rw [HL1.out] at this; exact this
  have hz2 : inn ≤ 120 := by have := HSZ.out.2.2.1; rw [HL2.out] at this; exact this
  have hz3 : tn ≤ 120 := by have := HSZ.out.2.2.2.1; rw [HL3.out] at this; exact this
  have hz4 : 0 ≤ c.lets := HSZ.out.2.2.2.2.1
  have hz5 : c.lets ≤ 60 := HSZ.out.2.2.2.2.2.1
  clear hc h1 h2 h3 ho hf hi ht
  go_enter Try.func11, Try.ntmps11
  go_wp2_with fail
  rw [← hw2]
  clear hw2
  refine (rmay_any _ _ c ((HC.out.below HB.out).more HB.out.size)).mono ?_
  rintro e w3 ⟨rfl, hb⟩
  rw [HO.out]
  have HW3 := Lib.hid (HW.out.below hb (by rw [HZ.out]; omega))
  have c3 : w3.cell? ⟨w.heap.size, 3, none⟩ = some (.int .i64 c.lets) := HW3.out.cell 3
  have c1 : w3.cell? ⟨w.heap.size, 1, none⟩ = some (.slice IA inn ic) := HW3.out.cell 1
  have HG1 : Hid (Grow true w2 (w.heap.size + 1) ([83, 77, 49] ++ putB 1 [c.lets, (inn : Int)]) (.slice (some ⟨w3.heap.size, 0, none⟩) 5 5) (w3.alloc (.cells #[.int .u8 83, .int .u8 77, .int .u8 49, .int .u8 c.lets, .int .u8 (inn : Int)] 5))) :=
    grow_made (by rw [← HZ.out]; exact hb) (by rw [← HZ.out]; exact hb.size) (KeepT.of_below hb) (head_news hz4 (by omega) (by omega) (by omega)) rfl (by decide)
  clear hb HW3
  go_wp2_with fail
  generalize hL1 : [83, 77, 49] ++ putB 1 [c.lets, (inn : Int)] = L1 at *
  have HL4 := Lib.hid hL1
  have HLE1 : Hid (L1.length = 5) := by show _ = _; rw [← hL1]; rfl
  clear hL1 c1 c3
  go_loopw [5, 6] (fun b i wr => ∃ k : Nat, i = .int .i64 (k : Int) ∧ k ≤ inn ∧ Grow true w2 (w.heap.size + 1) (L1 ++ (c.ints.take k).flatMap (fun x => putB 8 [x])) b wr) (fun _ i _ => inn - (intOf i).toNat)
  case atStart => exact ⟨0, rfl, by omega, by simpa using HG1.out⟩
  case round =>
    obtain ⟨k, rfl, hk, hg⟩ := hrel
    have hll : (L1 ++ (c.ints.take k).flatMap (fun x => putB 8 [x])).length ≤ 965 := by
      have h1 := flat_len_take (f := fun x => putB 8 [x]) (k := k) (M := 8) (l := c.ints) (fun x hx => by rw [putB_one, byts_len]; omega)
      have h2 := HLE1.out
      rw [HL2.out] at h1
      rw [List.length_append]; omega
    have c1 : wr.cell? ⟨w.heap.size, 1, none⟩ = some (.slice IA inn ic) := (HW.out.below hg.2.1 (by omega)).cell 1
    by_cases hlt : k < inn
    · obtain ⟨b, off, e1, _, d1⟩ := (HI.out.below hg.2.1).at_ hlt
      have HTK := Lib.hid (flat_take (f := fun x => putB 8 [x]) (d := 0) (l := c.ints) (k := k) (by rw [HL2.out]; exact hlt))
      have hsx := HCI.out _ (getD_mem (d := 0) (k := k) (by rw [HL2.out]; exact hlt))
      generalize c.ints.getD k 0 = x at *
      have HN : Hid (L1 ++ (c.ints.take (k + 1)).flatMap (fun x => putB 8 [x]) = L1 ++ (c.ints.take k).flatMap (fun x => putB 8 [x]) ++ putB 8 [x]) := by show _ = _; rw [HTK.out, List.append_assoc]
      clear HTK
      generalize L1 ++ (c.ints.take k).flatMap (fun x => putB 8 [x]) = L at *
      subst e1
      have HG := Lib.hid hg
      have HSX := Lib.hid hsx
      clear hg hsx
      go_wp2_with fail
      refine (eight_any HG.out x HSX.out.1 HSX.out.2 (by omega)).mono ?_
      rintro e w7 ⟨v7, rfl, hg7⟩
      have HG7 := Lib.hid hg7
      clear hg7 HG d1 c1
      go_wp2_with fail
      exact ⟨⟨k + 1, by go_num, by omega, by rw [HN.out]; exact HG7.out⟩, by simp [intOf]; omega⟩
    · have e : c.ints.take k = c.ints := List.take_of_length_le (by rw [HL2.out]; omega)
      rw [e] at hg hll
      have HG := Lib.hid hg
      clear hg e HG1 HI HLE1
      generalize hL5 : L1 ++ c.ints.flatMap (fun x => putB 8 [x]) = L5 at *
      have HL5 := Lib.hid hL5
      clear hL5
      have c2 : wr.cell? ⟨w.heap.size, 2, none⟩ = some (.slice TA tn tc) := (HW.out.below HG.out.2.1 (by omega)).cell 2
      go_wp2_with (at_builtin; go_must (refine app_grow rfl _ _ rfl rfl HG.out rfl (putB 1 [(tn : Int)]) ?hn1 rfl (by decide) (by omega) ?_); (case hn1 => exact put1_news1 (by omega) (by omega)); intro v8 w8 hg8 hk8)
      have HG8 := Lib.hid hg8
      have HLE8 : Hid ((L5 ++ putB 1 [(tn : Int)]).length ≤ 966) := by show _ ≤ _; rw [List.length_append, putB_len]; simp only [List.length_cons, List.length_nil]; omega
      clear hg8 hk8 HG c2 c1
      generalize hL6 : L5 ++ putB 1 [(tn : Int)] = L6 at *
      have HL6 := Lib.hid hL6
      clear hL6
      go_loopw [5, 7] (fun b i wr => ∃ k : Nat, i = .int .i64 (k : Int) ∧ k ≤ tn ∧ Grow true w2 (w.heap.size + 1) (L6 ++ (c.texts.take k).flatMap encT) b wr) (fun _ i _ => tn - (intOf i).toNat)
      case atStart => exact ⟨0, rfl, by omega, by simpa using HG8.out⟩
      case round =>
        obtain ⟨k, rfl, hk, hg⟩ := hrel
        have hll : (L6 ++ (c.texts.take k).flatMap encT).length ≤ 10000 := by
          have h1 := flat_len_take (f := encT) (k := k) (M := 61) (l := c.texts) (fun x hx => encT_len (HSZ.out.2.2.2.2.2.2.1 x hx))
          have h2 := HLE8.out
          rw [HL3.out] at h1
          rw [List.length_append]; omega
        have c2 : wr.cell? ⟨w.heap.size, 2, none⟩ = some (.slice TA tn tc) := (HW.out.below hg.2.1 (by omega)).cell 2
        by_cases hlt : k < tn
        · obtain ⟨b, off, e1, hbl, d1⟩ := (HT.out.below hg.2.1).at_ hlt
          have HTK := Lib.hid (flat_take (f := encT) (d := ByteArray.empty) (l := c.texts) (k := k) (by rw [HL3.out]; exact hlt))
          have hsx : (c.texts.getD k ByteArray.empty).size ≤ 60 := HSZ.out.2.2.2.2.2.2.1 _ (getD_mem (by rw [HL3.out]; exact hlt))
          generalize c.texts.getD k ByteArray.empty = x at *
          have HN : Hid (L6 ++ (c.texts.take (k + 1)).flatMap encT = L6 ++ (c.texts.take k).flatMap encT ++ putB 1 [(x.size : Int)] ++ x.data.toList) := by show _ = _; rw [HTK.out]; unfold encT; simp only [List.append_assoc]
          clear HTK
          generalize L6 ++ (c.texts.take k).flatMap encT = L at *
          subst e1
          have HG := Lib.hid hg
          clear hg
          go_wp2_with (first
            | (at_builtin; refine app_grow rfl _ _ rfl rfl HG.out rfl (putB 1 [(x.size : Int)]) ?hn2 rfl (by decide) (by omega) ?_; (case hn2 => exact put1_news1 (by omega) (by omega)); intro v7 w7 hg7 hk7; have HG7 := Lib.hid hg7; have hl7 : (L ++ putB 1 [(x.size : Int)]).length ≤ 10001 := (by rw [List.length_append, putB_len]; simp only [List.length_cons, List.length_nil]; omega); have d7 : w7.cell? ⟨b, off + k, none⟩ = some (.string x) := (hk7_cell HG.out hg7 hbl).trans d1; have c27 : w7.cell? ⟨w.heap.size, 2, none⟩ = some (.slice (some ⟨b, off, none⟩) tn tc) := (HW.out.below hg7.2.1 (by omega)).cell 2; clear hg7 hk7 HG)
            | (at_builtin; refine app_str rfl _ _ rfl rfl HG7.out x rfl (by omega) ?_; intro v8 w8 hg8))
          exact ⟨⟨k + 1, by go_num, by omega, by rw [HN.out]; exact hg8⟩, by simp [intOf]; omega⟩
        · have e : c.texts.take k = c.texts := List.take_of_length_le (by rw [HL3.out]; omega)
          rw [e] at hg hll
          have HG := Lib.hid hg
          clear hg e HG8 HT HLE8
          generalize hL7 : L6 ++ c.texts.flatMap encT = L7 at *
          have HL7 := Lib.hid hL7
          clear hL7
          have g0 : wr.cell? ⟨w.heap.size, 0, none⟩ = some (.slice FA fn fc) := (HW.out.below HG.out.2.1 (by omega)).cell 0
          go_wp2_with (at_builtin; refine app_grow rfl _ _ rfl rfl HG.out rfl (putB 1 [(fn : Int)]) ?hn3 rfl (by decide) (by omega) ?_; (case hn3 => exact put1_news1 (by omega) (by omega)); intro v9 w9 hg9 hk9)
          have HG9 := Lib.hid hg9
          have HLE9 : Hid ((L7 ++ putB 1 [(fn : Int)]).length ≤ 10001) := by show _ ≤ _; rw [List.length_append, putB_len]; simp only [List.length_cons, List.length_nil]; omega
          clear hg9 hk9 HG c2 g0
          generalize hL8 : L7 ++ putB 1 [(fn : Int)] = L8 at *
          have HL8 := Lib.hid hL8
          clear hL8 hll
          go_loopw [5, 8] (fun b i wf => ∃ k : Nat, i = .int .i64 (k : Int) ∧ k ≤ fn ∧ Grow true w2 (w.heap.size + 1) (L8 ++ (c.funs.take k).flatMap encF) b wf) (fun _ i _ => fn - (intOf i).toNat)
          case atStart => exact ⟨0, rfl, by omega, by simpa using HG9.out⟩
          case round =>
            obtain ⟨k2, rfl, hk2, hg⟩ := hrel
            have hll2 : (L8 ++ (c.funs.take k2).flatMap encF).length ≤ 300000 := by
              have h1 := flat_len_take (f := encF) (k := k2) (M := 2005) (l := c.funs) (fun x hx => encF_len (HSZ.out.2.2.2.2.2.2.2 x hx))
              have h2 := HLE9.out
              rw [HL1.out] at h1
              rw [List.length_append]; omega
            have g0 : wr.cell? ⟨w.heap.size, 0, none⟩ = some (.slice FA fn fc) := (HW.out.below hg.2.1 (by omega)).cell 0
            by_cases hlt2 : k2 < fn
            · obtain ⟨b, off, e1, hbl, q1, q2, q3, A2, n2, cp2, q4, hI0, _⟩ := HF.out.at_ hlt2
              replace q1 := (hg.2.1.cell (p := ⟨b, _, none⟩) hbl).trans q1
              replace q2 := (hg.2.1.cell (p := ⟨b, _, none⟩) hbl).trans q2
              replace q3 := (hg.2.1.cell (p := ⟨b, _, none⟩) hbl).trans q3
              replace q4 := (hg.2.1.cell (p := ⟨b, _, none⟩) hbl).trans q4
              have HTK := Lib.hid (flat_take (f := encF) (d := bdy0) (l := c.funs) (k := k2) (by rw [HL1.out]; exact hlt2))
              have hsx := HCF.out _ (getD_mem (d := bdy0) (k := k2) (by rw [HL1.out]; exact hlt2))
              generalize c.funs.getD k2 bdy0 = x at *
              obtain ⟨kept, locals, stack, code⟩ := x
              dsimp only at q1 q2 q3 hI0 hsx
              have HIX := Lib.hid hI0
              have HLX := Lib.hid hI0.1
              obtain ⟨s1, s2, s3, s4, s5, s6, s7, s8⟩ := hsx
              have hn2 : n2 ≤ 400 := by rw [← HLX.out]; exact s7
              have HS8 := Lib.hid s8
              clear hI0 s7 s8
              have HN : Hid (L8 ++ (c.funs.take (k2 + 1)).flatMap encF = L8 ++ (c.funs.take k2).flatMap encF ++ putB 1 [kept, locals, stack] ++ putB 2 [(n2 : Int)] ++ code.flatMap encI) := by
                show _ = _; rw [HTK.out]; unfold encF; rw [HLX.out]; simp only [List.append_assoc]
              clear HTK
              generalize L8 ++ (c.funs.take k2).flatMap encF = L at *
              subst e1
              have HG := Lib.hid hg
              clear hg
              obtain ⟨wb, hwb⟩ : ∃ wb, wb = wr.alloc (.cells #[.int .i64 kept, .int .i64 locals, .int .i64 stack, .slice A2 n2 cp2] 40) := ⟨_, rfl⟩
              have hwb0 : Whole wb wr.heap.size 40 #[.int .i64 kept, .int .i64 locals, .int .i64 stack, .slice A2 n2 cp2] := by rw [hwb]; exact Whole.made _ _ _
              have HWB := Lib.hid hwb0
              have HGB : Hid (Grow true w2 (w.heap.size + 1) L u5 wb) := by show Grow _ _ _ _ _ _; rw [hwb]; exact HG.out.alloc _
              have HZB : Hid (wb.heap.size = wr.heap.size + 1) := by show _ = _; rw [hwb]; simp
              go_wp2_with (at_builtin; refine app_grow' rfl _ _ rfl rfl (HG.out.alloc _) ?hs10 rfl (putB 1 [kept, locals, stack]) ?hn4 rfl (by decide) (by omega) ?_; (case hs10 => simp); (case hn4 => exact put1_news3 (by omega) (by omega) (by omega) (by omega) (by omega) (by omega)); intro v10 w10 hg10 hk10; rw [← hwb] at hk10; have HG10 := Lib.hid hg10; have HK10 := Lib.hid (hk10.whole HWB.out (by decide)); have c310 : w10.cell? ⟨wr.heap.size, 3, none⟩ = some (.slice A2 n2 cp2) := HK10.out.cell 3; have hl10 : (L ++ putB 1 [kept, locals, stack]).length ≤ 300003 := (by rw [List.length_append, putB_len]; simp only [List.length_cons, List.length_nil]; omega); clear hg10 hk10 HG)
              refine (two_any HG10.out (n2 : Int) (by omega) (by omega) (by omega)).mono ?_
              rintro e w11 ⟨v11, rfl, hg11, hk11⟩
              have HG11 := Lib.hid hg11
              have HK11 := Lib.hid (hk11.whole HK10.out (by decide))
              have hl11 : (L ++ putB 1 [kept, locals, stack] ++ putB 2 [(n2 : Int)]).length ≤ 300005 := by rw [List.length_append, putB_len]; simp only [List.length_cons, List.length_nil]; omega
              clear hg11 hk11 HG10 HK10 c310 q1 q2 q3 q4 hwb0 hwb
              generalize wr.heap.size = g at *
              generalize L ++ putB 1 [kept, locals, stack] ++ putB 2 [(n2 : Int)] = L9 at *
              go_wp2_with fail
              go_loopw [5, 10] (fun b i wi => ∃ j : Nat, i = .int .i64 (j : Int) ∧ j ≤ n2 ∧ Grow true w2 (w.heap.size + 1) (L9 ++ (code.take j).flatMap encI) b wi ∧ Whole wi g 40 #[.int .i64 kept, .int .i64 locals, .int .i64 stack, .slice A2 n2 cp2]) (fun _ i _ => n2 - (intOf i).toNat)
              case atStart => exact ⟨0, rfl, by omega, by simpa using HG11.out, HK11.out⟩
              case round =>
                obtain ⟨j, rfl, hj, hg, hwg⟩ := hrel
                have hll3 : (L9 ++ (code.take j).flatMap encI).length ≤ 303000 := by
                  have h1 := flat_len_take (f := encI) (k := j) (M := 5) (l := code) (fun x hx => by rw [encI_len]; omega)
                  rw [HLX.out] at h1
                  rw [List.length_append]; omega
                have q3 : wr.cell? ⟨g, 3, none⟩ = some (.slice A2 n2 cp2) := hwg.cell 3
                have HWG := Lib.hid hwg
                clear hwg
                by_cases hlt3 : j < n2
                · obtain ⟨b', off', e2, hbl', r1, r2, r3⟩ := (HIX.out.below hg.2.1).at_ hlt3
                  have HTK := Lib.hid (flat_take (f := encI) (d := ins0) (l := code) (k := j) (by rw [HLX.out]; exact hlt3))
                  have hsi := HS8.out _ (getD_mem (d := ins0) (k := j) (by rw [HLX.out]; exact hlt3))
                  generalize code.getD j ins0 = q at *
                  obtain ⟨op, ia, ib⟩ := q
                  dsimp only at r1 r2 r3 hsi
                  obtain ⟨p1, p2, p3, p4, p5, p6⟩ := hsi
                  have HN3 : Hid (L9 ++ (code.take (j + 1)).flatMap encI = L9 ++ (code.take j).flatMap encI ++ putB 1 [op] ++ putB 2 [ia] ++ putB 2 [ib]) := by
                    show _ = _; rw [HTK.out]; unfold encI; rw [putB_flat 2 [ia, ib]]; simp only [List.flatMap_cons, List.flatMap_nil, List.append_nil, List.append_assoc]
                  clear HTK
                  generalize L9 ++ (code.take j).flatMap encI = L' at *
                  subst e2
                  have HG3 := Lib.hid hg
                  have HR2 := Lib.hid r2; have HR3 := Lib.hid r3
                  clear hg r2 r3
                  go_wp2_with (at_builtin; refine app_grow rfl _ _ rfl rfl HG3.out rfl (putB 1 [op]) ?hn5 rfl (by decide) (by omega) ?_; (case hn5 => exact put1_news1 (by omega) (by omega)); intro v12 w12 hg12 hk12; have HG12 := Lib.hid hg12; have hl12 : (L' ++ putB 1 [op]).length ≤ 303001 := (by rw [List.length_append, putB_len]; simp only [List.length_cons, List.length_nil]; omega); have HW12 := Lib.hid (hk12.whole HWG.out (by decide)); have s12 : w12.cell? ⟨b', off' + j * 3 + 1, none⟩ = some (.int .i64 ia) := (hk7_cell HG3.out hg12 hbl').trans HR2.out; have q312 : w12.cell? ⟨g, 3, none⟩ = some (.slice (some ⟨b', off', none⟩) n2 cp2) := HW12.out.cell 3; clear hg12 hk12)
                  refine (two_any HG12.out ia (by omega) (by omega) (by omega)).mono ?_
                  rintro e w13 ⟨v13, rfl, hg13, hk13⟩
                  have HG13 := Lib.hid hg13
                  have hl13 : (L' ++ putB 1 [op] ++ putB 2 [ia]).length ≤ 303003 := by rw [List.length_append, putB_len]; simp only [List.length_cons, List.length_nil]; omega
                  have HW13 := Lib.hid (hk13.whole HW12.out (by decide))
                  have s13 : w13.cell? ⟨b', off' + j * 3 + 2, none⟩ = some (.int .i64 ib) := (hk7_cell HG3.out hg13 hbl').trans HR3.out
                  have q313 : w13.cell? ⟨g, 3, none⟩ = some (.slice (some ⟨b', off', none⟩) n2 cp2) := HW13.out.cell 3
                  clear hg13 hk13 HG12 HW12 s12 q312
                  go_wp2_with fail
                  refine (two_any HG13.out ib (by omega) (by omega) (by omega)).mono ?_
                  rintro e w14 ⟨v14, rfl, hg14, hk14⟩
                  have HG14 := Lib.hid hg14
                  have HW14 := Lib.hid (hk14.whole HW13.out (by decide))
                  clear hg14 hk14 HG13 HW13 s13 q313
                  go_wp2_with fail
                  exact ⟨⟨j + 1, by go_num, by omega, by rw [HN3.out]; exact HG14.out, HW14.out⟩, by simp [intOf]; omega⟩
                · have e : code.take j = code := List.take_of_length_le (by rw [HLX.out]; omega)
                  rw [e, ← HN.out] at hg
                  have HG3 := Lib.hid hg
                  clear hg e
                  go_wp2_with fail
                  exact ⟨⟨k2 + 1, by go_num, by omega, HG3.out⟩, by simp [intOf]; omega⟩
            · have e : c.funs.take k2 = c.funs := List.take_of_length_le (by rw [HL1.out]; omega)
              rw [e, ← HL8.out, ← HL7.out, ← HL6.out, ← HL5.out, ← HL4.out, ← putB_flat, ← HL1.out, ← HL2.out, ← HL3.out] at hg
              have HG := Lib.hid hg
              clear hg e hll2
              go_wp2_with fail
              go_ret2
              refine ⟨_, rfl, ?_, HB.out.trans (HG.out.2.1.mono (by omega)), HG.out.2.2.2⟩
              exact HG.out.own
end Go.Proofs.Ytffpkmoaahkfmaa
