/- Reading a list of tokens: the first 300 bytes of a text, the document's examples. -/
import Derived.Test.YtmjjjnmfkdidgaaDoorWalkK
namespace Go.Proofs.YtmjjjnmfkdidgaaDoor
open Go.RowKit
set_option linter.unusedVariables false
attribute [local go_sem ↓] Go.wp_at_zero Go.wp_at_succ

/-- The cells of a list of tokens. -/
def TokRow (w : World) (A : Option Addr) (ts : List Tok) : Prop := ts = [] ∨ ∃ g, A = some ⟨g, 0, none⟩ ∧ g < w.heap.size ∧
  ∀ k (h : k < ts.length), w.cell? ⟨g, k * 4, none⟩ = some (.int .i64 ts[k].kind) ∧ w.cell? ⟨g, k * 4 + 1, none⟩ = some (.string ⟨ts[k].text.toArray⟩) ∧ w.cell? ⟨g, k * 4 + 2, none⟩ = some (.int .i64 ts[k].num) ∧ w.cell? ⟨g, k * 4 + 3, none⟩ = some (.int .i64 (ts[k].at_ : Int))
theorem TokRow.below {w w' : World} {A : Option Addr} {ts : List Tok} (h : TokRow w A ts) (hb : Below w.heap.size w w') : TokRow w' A ts := by
  rcases h with h | ⟨g, h1, h2, h3⟩
  · exact .inl h
  · refine .inr ⟨g, h1, Nat.lt_of_lt_of_le h2 hb.size, fun k hk => ?_⟩
    obtain ⟨a, b, c, d⟩ := h3 k hk
    exact ⟨(hb.cell (p := ⟨g, _, none⟩) h2).trans a, (hb.cell (p := ⟨g, _, none⟩) h2).trans b, (hb.cell (p := ⟨g, _, none⟩) h2).trans c, (hb.cell (p := ⟨g, _, none⟩) h2).trans d⟩
theorem TokRow.at_ {w : World} {A : Option Addr} {ts : List Tok} (h : TokRow w A ts) {k : Nat} {t : Tok} (hk : ts[k]? = some t) : ∃ g, A = some ⟨g, 0, none⟩ ∧ w.cell? ⟨g, k * 4, none⟩ = some (.int .i64 t.kind) ∧ w.cell? ⟨g, k * 4 + 1, none⟩ = some (.string ⟨t.text.toArray⟩) ∧ w.cell? ⟨g, k * 4 + 2, none⟩ = some (.int .i64 t.num) ∧ w.cell? ⟨g, k * 4 + 3, none⟩ = some (.int .i64 (t.at_ : Int)) := by
  rcases h with h | ⟨g, h1, h2, h3⟩
  · subst h; simp at hk
  · obtain ⟨hl, rfl⟩ := List.getElem?_eq_some_iff.1 hk
    exact ⟨g, h1, h3 k hl⟩
theorem toks_row {w : World} {base : Nat} {v : Value} {ts : List Tok} (h : ToksAt w base v ts) : ∃ A c, v = .slice A ts.length c ∧ TokRow w A ts ∧ ts.length ≤ c ∧ c ≤ maxLen := by
  unfold ToksAt at h
  obtain ⟨A, c, e, h1, h2, h3⟩ := own_form h
  refine ⟨A, c, e, ?_, h3, h2⟩
  rcases ts with _ | ⟨t, ts⟩
  · exact .inl rfl
  · obtain ⟨g, c', e', hb, hl, _⟩ := own_cell h (k := 0) (by simp)
    rw [e] at e'
    simp only [Value.slice.injEq] at e'
    obtain ⟨rfl, _, rfl⟩ := e'
    refine .inr ⟨g, rfl, hl, fun k hk => ?_⟩
    have hg := mkToks_get (t :: ts) k _ (List.getElem?_eq_getElem hk)
    have hx : ∀ o, o < 4 → w.cell? ⟨g, k * 4 + o, none⟩ = (mkToks (t :: ts))[k * 4 + o]? := fun o ho => by
      obtain ⟨g', c', e', _, _, hcell, _⟩ := own_cell h (k := k * 4 + o) (by omega)
      rw [e] at e'
      simp only [Value.slice.injEq, Option.some.injEq, Addr.mk.injEq] at e'
      obtain ⟨⟨rfl, _⟩, _⟩ := e'
      exact hcell
    exact ⟨(hx 0 (by omega)).trans hg.1, (hx 1 (by omega)).trans hg.2.1, (hx 2 (by omega)).trans hg.2.2.1, (hx 3 (by omega)).trans hg.2.2.2⟩
/-- lex.Tokens, told by rows. -/
theorem toks_any (w : World) (s : ByteArray) (m : Int) (ts : List Tok) (p : Nat) (er : Int) (hf : tokensF s.data.toList = (ts, p, er)) (hs : s.size ≤ 10000) (hm : w.cell? ⟨0, 0, none⟩ = some (.int .i64 m)) (hq : ShortQ s.data.toList) :
    Calls Tryd.prog 11 #[.string s] w fun e w' => ∃ A c, e = .returned (.tuple #[.slice A ts.length c, .int .i64 (p : Int), .int .i64 er]) ∧ TokRow w' A ts ∧ ts.length ≤ c ∧ Below w.heap.size w w' ∧ w'.cell? ⟨0, 0, none⟩ = some (.int .i64 m) := by
  refine (tokens_any w s m hs hm hq).mono ?_
  rintro e w' ⟨v, rfl, h1, h2⟩
  rw [hf] at h1 ⊢
  obtain ⟨A, c, rfl, h3, h4, h5⟩ := toks_row h1
  have h0 : 0 < w.heap.size := by
    rcases Nat.eq_zero_or_pos w.heap.size with h | h
    · have h2 : w.heap[0]? = none := Array.getElem?_eq_none (by omega)
      simp [World.cell?, h2] at hm
    · exact h
  exact ⟨A, c, rfl, h3, h4, h2, (h2.cell (p := ⟨0, 0, none⟩) h0).trans hm⟩
theorem shortQ (l : List UInt8) (h : l.length ≤ 1000) : ShortQ l := fun j _ => by omega

def fewB (s : ByteArray) : ByteArray := if 300 < s.size then s.extract 0 300 else s
theorem fewB_size (s : ByteArray) : (fewB s).size ≤ 300 := by
  unfold fewB
  split
  · simp; omega
  · omega
theorem ret_s {a b : ByteArray} (h : a = b) : Ending.returned (.string a) = .returned (.string b) := by rw [h]
set_option maxHeartbeats 400000 in
theorem few_any (s : ByteArray) (w : World) (hs : s.size ≤ maxLen) :
    Calls Tryd.prog 10 #[.string s] w fun e w' => e = .returned (.string (fewB s)) ∧ w = w' := by
  unfold maxLen at hs
  by_cases h : 300 < s.size
  · have HF : Hid (fewB s = s.extract 0 300) := by show fewB s = _; unfold fewB; rw [if_pos h]
    have h' : 300 < (s.size : Int) := by omega
    go_enter Tryd.func10, Tryd.ntmps10
    go_wp2
    go_ret
    exact ⟨ret_s HF.out.symm, rfl⟩
  · have HF : Hid (fewB s = s) := by show fewB s = _; unfold fewB; rw [if_neg h]
    have h' : ¬ 300 < (s.size : Int) := by omega
    go_enter Tryd.func10, Tryd.ntmps10
    go_wp2
    go_ret
    exact ⟨ret_s HF.out.symm, rfl⟩

theorem liveA : tokensF [120, 49, 45, 62, 34, 97, 34] = ([⟨3, [120, 49], 0, 0⟩, ⟨5, [45, 62], 0, 2⟩, ⟨2, [97], 0, 4⟩, ⟨0, [], 0, 7⟩], 0, 0) := by decide +kernel
theorem liveB : tokensF [65, 32, 98] = ([⟨4, [65], 0, 0⟩, ⟨3, [98], 0, 2⟩, ⟨0, [], 0, 3⟩], 0, 0) := by decide +kernel
theorem liveC : tokensF [36] = ([], 0, 10) := by decide +kernel
set_option maxRecDepth 100000 in
set_option maxHeartbeats 4000000 in
theorem lives_any (w : World) (m : Int) (hm : w.cell? ⟨0, 0, none⟩ = some (.int .i64 m)) : Calls Tryd.prog 14 #[] w fun e w' => e = .returned (.bool true) ∧ Below w.heap.size w w' := by
  have HM : Hid (w.cell? ⟨0, 0, none⟩ = some (.int .i64 m)) := hm
  clear hm
  go_enter Tryd.func14, Tryd.ntmps14
  go_wp2_with fail
  refine (toks_any w _ m _ _ _ liveA (by decide) HM.out (shortQ _ (by decide))).mono ?_
  rintro e w1 ⟨A, c, rfl, h1, _, b1, m1⟩
  obtain ⟨g, rfl, _, _, _, x1⟩ := h1.at_ (k := 1) rfl
  obtain ⟨g', e', _, x2, _, _⟩ := h1.at_ (k := 2) rfl
  simp only [Option.some.injEq, Addr.mk.injEq] at e'
  obtain ⟨rfl, _⟩ := e'
  obtain ⟨g', e', _, _, _, x3⟩ := h1.at_ (k := 3) rfl
  simp only [Option.some.injEq, Addr.mk.injEq] at e'
  obtain ⟨rfl, _⟩ := e'
  have H1 := Lib.hid h1
  have M1 := Lib.hid m1
  have B1 := Lib.hid b1
  clear h1 m1 b1 x1 x2 x3
  go_wp2_with fail
  refine (toks_any w1 _ m _ _ _ liveB (by decide) M1.out (shortQ _ (by decide))).mono ?_
  rintro e w2 ⟨A, c2, rfl, h2, _, b2, m2⟩
  have H2 := Lib.hid h2
  have M2 := Lib.hid m2
  have B2 := Lib.hid b2
  clear h2 m2 b2 M1
  go_wp2_with fail
  refine (toks_any w2 _ m _ _ _ liveC (by decide) M2.out (shortQ _ (by decide))).mono ?_
  rintro e w3 ⟨A3, c3, rfl, h3, _, b3, m3⟩
  have H3 := Lib.hid ((H1.out.below B2.out).below b3)
  have H4 := Lib.hid (H2.out.below b3)
  have B3 := Lib.hid ((B1.out.trans (B2.out.mono B1.out.size)).trans (b3.mono (Nat.le_trans B1.out.size B2.out.size)))
  clear h3 m3 b3 H1 H2 B1 B2 M2
  obtain ⟨g', e', _, _, _, x1⟩ := H3.out.at_ (k := 1) rfl
  simp only [Option.some.injEq, Addr.mk.injEq] at e'
  obtain ⟨rfl, _⟩ := e'
  obtain ⟨g', e', _, x2, _, _⟩ := H3.out.at_ (k := 2) rfl
  simp only [Option.some.injEq, Addr.mk.injEq] at e'
  obtain ⟨rfl, _⟩ := e'
  obtain ⟨g', e', _, _, _, x3⟩ := H3.out.at_ (k := 3) rfl
  simp only [Option.some.injEq, Addr.mk.injEq] at e'
  obtain ⟨rfl, _⟩ := e'
  obtain ⟨g2, rfl, x4, _, _, _⟩ := H4.out.at_ (k := 0) rfl
  clear H3 H4
  go_wp2_with fail
  go_ret
  exact ⟨rfl, B3.out⟩
end Go.Proofs.YtmjjjnmfkdidgaaDoor
