/- Decoding as a function of what is left to be read; the memory of it. -/
import Derived.Test.YtffpkmoaahkfmaaRead
namespace Go.Proofs.Ytffpkmoaahkfmaa
open Go.RowKit
set_option linter.unusedVariables false

abbrev St := List UInt8 × Bool
def nx (wd : Nat) (s : St) : St := (rdL wd s.1, rdS wd s.1 s.2)
def nv (wd : Nat) (s : St) : Int := rdV wd s.1
def cnt (wd : Nat) (s : St) : Nat := (nv wd s).toNat
def iter {α : Type} (f : α → α) : Nat → α → α
  | 0, a => a
  | n + 1, a => f (iter f n a)
theorem nv_bd (wd : Nat) (s : St) (h : wd ≤ 2) : 0 ≤ nv wd s ∧ nv wd s ≤ 65535 := by
  unfold nv rdV
  split
  · omega
  · rename_i hl
    have hb := leU_bd (s.1.take wd)
    have h1 : (s.1.take wd).length = wd := by rw [List.length_take]; omega
    rw [h1] at hb
    have hp : (256 : Int) ^ wd ≤ 65536 := by
      rcases (by omega : wd = 0 ∨ wd = 1 ∨ wd = 2) with rfl | rfl | rfl <;> decide
    unfold wrap64; omega
theorem nv1_bd (s : St) : 0 ≤ nv 1 s ∧ nv 1 s ≤ 255 := by
  unfold nv rdV
  split
  · omega
  · rename_i hl
    have hb := leU_bd (s.1.take 1)
    have h1 : (s.1.take 1).length = 1 := by rw [List.length_take]; omega
    rw [h1] at hb
    unfold wrap64; omega
theorem cnt_eq (wd : Nat) (s : St) (h : wd ≤ 2) : nv wd s = (cnt wd s : Int) ∧ cnt wd s ≤ 65535 := by
  have := nv_bd wd s h; unfold cnt; omega
theorem cnt1_le (s : St) : cnt 1 s ≤ 255 := by have := nv1_bd s; unfold cnt; omega
def gInt (p : List Int × St) : List Int × St := (p.1 ++ [nv 8 p.2], nx 8 p.2)
def gByte (p : List UInt8 × St) : List UInt8 × St := (p.1 ++ [UInt8.ofNat (cnt 1 p.2)], nx 1 p.2)
def gBytes (s : St) : List UInt8 × St := iter gByte (cnt 1 s) ([], nx 1 s)
def gText (p : List ByteArray × St) : List ByteArray × St := (p.1 ++ [⟨(gBytes p.2).1.toArray⟩], (gBytes p.2).2)
def gIns (p : List Ins × St) : List Ins × St := if p.2.2 = true then p else (p.1 ++ [⟨nv 1 p.2, nv 2 (nx 1 p.2), nv 2 (nx 2 (nx 1 p.2))⟩], nx 2 (nx 2 (nx 1 p.2)))
def gCode (s : St) : List Ins × St := iter gIns (cnt 2 s) ([], nx 2 s)
def s3 (s : St) : St := nx 1 (nx 1 (nx 1 s))
def gBdy (p : List Bdy × St) : List Bdy × St := (p.1 ++ [⟨nv 1 p.2, nv 1 (nx 1 p.2), nv 1 (nx 1 (nx 1 p.2)), (gCode (s3 p.2)).1⟩], (gCode (s3 p.2)).2)
def gInts (s : St) : List Int × St := iter gInt (cnt 1 s) ([], nx 1 s)
def gTexts (s : St) : List ByteArray × St := iter gText (cnt 1 s) ([], nx 1 s)
def gBdys (s : St) : List Bdy × St := iter gBdy (cnt 1 s) ([], nx 1 s)
def magL : List UInt8 := [83, 77, 49]
def rest0 (l : List UInt8) : List UInt8 := l.drop (min 3 l.length)
def short0 (l : List UInt8) : Bool := decide (l.length < 3) || (l.take 3 != magL)
def st0 (l : List UInt8) : St := (rest0 l, short0 l)
def gCod (l : List UInt8) : Cod × St :=
  let s := st0 l
  let i := gInts (nx 1 s)
  let t := gTexts i.2
  let f := gBdys t.2
  (⟨f.1, i.1, t.1, nv 1 s⟩, f.2)
theorem gIns_short {p : List Ins × St} (h : p.2.2 = true) (n : Nat) : iter gIns n p = p := by
  induction n with
  | zero => rfl
  | succ n ih => show gIns (iter gIns n p) = p; rw [ih]; unfold gIns; rw [if_pos h]
theorem iter_add {α : Type} (f : α → α) (a : α) (m : Nat) : ∀ n, iter f (n + m) a = iter f n (iter f m a)
  | 0 => by rw [Nat.zero_add]; rfl
  | n + 1 => by rw [Nat.succ_add]; show f (iter f (n + m) a) = f (iter f n (iter f m a)); rw [iter_add f a m n]
theorem iter_short {s : St} {j m : Nat} (h : (iter gIns j ([], s)).2.2 = true) (hj : j ≤ m) : iter gIns m ([], s) = iter gIns j ([], s) := by
  obtain ⟨d, rfl⟩ : ∃ d, m = d + j := ⟨m - j, by omega⟩
  rw [iter_add, gIns_short h]
theorem gInt_len (s : List Int × St) (n : Nat) : (iter gInt n s).1.length = s.1.length + n := by
  induction n with
  | zero => rfl
  | succ n ih => show ((iter gInt n s).1 ++ [_]).length = _; rw [List.length_append, ih]; rfl
theorem gText_len (s : List ByteArray × St) (n : Nat) : (iter gText n s).1.length = s.1.length + n := by
  induction n with
  | zero => rfl
  | succ n ih => show ((iter gText n s).1 ++ [_]).length = _; rw [List.length_append, ih]; rfl
theorem gByte_len (s : List UInt8 × St) (n : Nat) : (iter gByte n s).1.length = s.1.length + n := by
  induction n with
  | zero => rfl
  | succ n ih => show ((iter gByte n s).1 ++ [_]).length = _; rw [List.length_append, ih]; rfl
theorem gBdy_len (s : List Bdy × St) (n : Nat) : (iter gBdy n s).1.length = s.1.length + n := by
  induction n with
  | zero => rfl
  | succ n ih => show ((iter gBdy n s).1 ++ [_]).length = _; rw [List.length_append, ih]; rfl
theorem gIns_len (s : List Ins × St) (n : Nat) : (iter gIns n s).1.length ≤ s.1.length + n := by
  induction n with
  | zero => exact Nat.le_refl _
  | succ n ih =>
    show (gIns (iter gIns n s)).1.length ≤ _
    generalize iter gIns n s = q at *
    unfold gIns
    split
    · omega
    · show (q.1 ++ [_]).length ≤ _; rw [List.length_append]; simp only [List.length_cons, List.length_nil]; omega

def RdSt (B : Nat) (s : St) (w : World) : Prop := RdAt (B + 1 + 1) (B + 1) B s.1 s.2 w
/-- The memory of a decoding under way: the box of what is gathered at block B + 3. -/
structure DecW (w0 : World) (B : Nat) (s : St) (cs : Array Value) (w : World) : Prop where
  rd : RdSt B s w
  below : Below B w0 w
  res : Whole w B 26 #[.slice none 0 0, .slice none 0 0, .slice none 0 0, .int .i64 0]
  box : Whole w (B + 1 + 1 + 1) 26 cs
  size : B + 1 + 1 + 1 + 1 ≤ w.heap.size
section
variable {w0 w w' : World} {B : Nat} {s s' : St} {cs : Array Value}
theorem RdSt.keep (h : RdSt B s w) (h1 : Whole w (B + 1) 4 #[.bool s.2] → Whole w' (B + 1) 4 #[.bool s.2]) (h2 : ∀ v, Whole w (B + 1 + 1) 28 #[v] → Whole w' (B + 1 + 1) 28 #[v]) (hb : Below B w w') : RdSt B s w' := by
  obtain ⟨v, hv, hr⟩ := h.rest
  exact ⟨h1 h.short, ⟨v, h2 v hv, hr.below hb⟩, h.ne, h.hR, h.hS⟩
theorem DecW.next (h : DecW w0 B s cs w) (hr : RdSt B s' w') (ho : Only (B + 1 + 1) (B + 1) w w') : DecW w0 B s' cs w' :=
  ⟨hr, h.below.trans (ho.below (by omega) (by omega)), ho.whole h.res (by omega) (by omega), ho.whole h.box (by omega) (by omega), by rw [ho.size]; exact h.size⟩
theorem DecW.alloc (h : DecW w0 B s cs w) (o : Obj) : DecW w0 B s cs (w.alloc o) :=
  ⟨h.rd.keep (fun k => k.alloc _) (fun v k => k.alloc _) ((Below.refl _ _).alloc (by have := h.size; omega) _), h.below.alloc (by have := h.size; omega) _, h.res.alloc _, h.box.alloc _, by have := h.size; simp; omega⟩
theorem DecW.drew (h : DecW w0 B s cs w) : DecW w0 B s cs w.drew :=
  ⟨h.rd.keep (fun k => k) (fun v k => k) (Below.refl B w).drew, h.below.drew, h.res, h.box, h.size⟩
theorem DecW.app (h : DecW w0 B s cs w) {base : Nat} {e : TypeId} {size n n0 : Nat} {v v' : Value} {xs xs0 : List Value} (ha : Appended w base e size v n xs v' w') (ho : w.ownsRow base e size v n0 xs0) (hb : B + 1 + 1 + 1 + 1 ≤ base) (hs : base ≤ w.heap.size) : DecW w0 B s cs w' := by
  have far : ∀ g t cs, g ≤ B + 1 + 1 + 1 → Whole w g t cs → Whole w' g t cs := fun g t cs hg hw => ha.far hw (fun hh => by have := (ho.lt _ hh).1; omega)
  have hbl : Below B w w' := (Below.refl B w).grown ha.2.1 (by have := h.size; omega) (fun k hk => by have := (ho.lt k hk).1; omega)
  exact ⟨h.rd.keep (far _ _ _ (by omega)) (fun v => far _ _ _ (by omega)) hbl, h.below.trans hbl, far _ _ _ (by omega) h.res, far _ _ _ (by omega) h.box, Nat.le_trans h.size ha.grows⟩
theorem DecW.put (h : DecW w0 B s cs w) (i : Nat) (u : Value) : DecW w0 B s (cs.setIfInBounds i u) (w.setCell ⟨B + 1 + 1 + 1, i, none⟩ u) :=
  ⟨h.rd.keep (fun k => k.far (p := ⟨B + 1 + 1 + 1, i, none⟩) (by show B + 1 ≠ B + 1 + 1 + 1; omega) _) (fun v k => k.far (p := ⟨B + 1 + 1 + 1, i, none⟩) (by show B + 1 + 1 ≠ B + 1 + 1 + 1; omega) _) ((Below.refl _ _).setCell (by show B ≤ B + 1 + 1 + 1; omega) _),
    h.below.setCell (by show B ≤ B + 1 + 1 + 1; omega) _, h.res.far (p := ⟨B + 1 + 1 + 1, i, none⟩) (by show B ≠ B + 1 + 1 + 1; omega) _, h.box.put i u, by have := h.size; simp [World.setCell]; omega⟩
theorem DecW.later (h : DecW w0 B s cs w) (hb : Below w.heap.size w w') : DecW w0 B s cs w' := by
  have hs := h.size
  exact ⟨h.rd.keep (fun k => k.below hb (by omega)) (fun v k => k.below hb (by omega)) (hb.mono (by omega)), h.below.trans (hb.mono (by omega)), h.res.below hb (by omega), h.box.below hb (by omega), Nat.le_trans hs hb.size⟩
theorem DecW.own_put (_h : DecW w0 B s cs w) {e : TypeId} {size n base o : Nat} {v u : Value} {xs : List Value} (ho : w.ownsRow base e size v n xs) (hb : B + 1 + 1 + 1 + 1 ≤ base) : (w.setCell ⟨B + 1 + 1 + 1, o, none⟩ u).ownsRow base e size v n xs :=
  own_setCell ho (fun hh => by have := (ho.lt _ hh).1; simp at this; omega) u
end
/-- Of what lies below g, only the reader's two blocks may part. -/
def Kept (R S g : Nat) (w w' : World) : Prop := w.heap.size ≤ w'.heap.size ∧ ∀ k, k < g → k ≠ R → k ≠ S → w'.heap[k]? = w.heap[k]?
theorem Kept.refl (R S g : Nat) (w : World) : Kept R S g w w := ⟨Nat.le_refl _, fun _ _ _ _ => rfl⟩
theorem Kept.only {R S g : Nat} {a b c : World} (h : Kept R S g a b) (ho : Only R S b c) : Kept R S g a c := ⟨by rw [ho.size]; exact h.1, fun k hk h1 h2 => (ho.block k h1 h2).trans (h.2 k hk h1 h2)⟩
theorem Kept.alloc {R S g : Nat} {a b : World} (h : Kept R S g a b) (hg : g ≤ b.heap.size) (o : Obj) : Kept R S g a (b.alloc o) := ⟨by have := h.1; simp; omega, fun k hk h1 h2 => (Below.heap_alloc b o k (by omega)).trans (h.2 k hk h1 h2)⟩
theorem Kept.drew {R S g : Nat} {a b : World} (h : Kept R S g a b) : Kept R S g a b.drew := h
theorem Kept.app {R S g base n n0 size : Nat} {e : TypeId} {v v' : Value} {xs xs0 : List Value} {a b c : World} (h : Kept R S g a b) (ha : Appended b base e size v n xs v' c) (ho : b.ownsRow base e size v n0 xs0) (hb : g ≤ base) (hs : g ≤ b.heap.size) : Kept R S g a c :=
  ⟨Nat.le_trans h.1 ha.grows, fun k hk h1 h2 => (ha.2.1.block k (by omega) (fun hh => by have := (ho.lt _ hh.symm).1; omega)).trans (h.2 k hk h1 h2)⟩
theorem Kept.put {R S g : Nat} {a b : World} (h : Kept R S g a b) {p : Addr} (hp : g ≤ p.block) (u : Value) : Kept R S g a (b.setCell p u) :=
  ⟨by have := h.1; simpa [World.setCell] using this, fun k hk h1 h2 => (Below.heap_setCell b p u k (by omega)).trans (h.2 k hk h1 h2)⟩
theorem Kept.own {R S g base n size : Nat} {e : TypeId} {v : Value} {xs : List Value} {a b : World} (h : Kept R S g a b) (ho : a.ownsRow base e size v n xs) (hg : a.heap.size ≤ g) (hR : R < base) (hS : S < base) : b.ownsRow base e size v n xs :=
  own_of_block ho fun k hk => by have := ho.lt k hk; exact h.2 k (by omega) (by omega) (by omega)
theorem Kept.codes {R S g base : Nat} {bs : List Bdy} {vs : List Value} {a b : World} (h : Kept R S g a b) (ho : CodesOwn a base bs vs) (hg : a.heap.size ≤ g) (hR : R < base) (hS : S < base) : CodesOwn b base bs vs :=
  ⟨ho.1, fun k hk => h.own (ho.2.1 k hk) hg hR hS, ho.2.2⟩
theorem CodesOwn.snoc' {w' : World} {base b2 : Nat} {bs : List Bdy} {vs : List Value} {b : Bdy} {v : Value} (h : CodesOwn w' base bs vs) (hlt : ∀ k, k < bs.length → ∀ g, (vs.getD k nilV).ownBlock = some g → g < b2) (hv : w'.ownsRow b2 42 3 v b.code.length (insCells b.code)) (h3 : base ≤ b2) : CodesOwn w' base (bs ++ [b]) (vs ++ [v]) := by
  have hl := h.1
  refine ⟨by simp [hl], fun k hk => ?_, fun j k hjk hk g hj => ?_⟩
  · have hk1 : k < bs.length + 1 := by simpa using hk
    rw [getD_snoc (l := vs) (by omega), getD_snoc hk1, hl]
    split
    · rename_i h4; exact h.2.1 k h4
    · exact own_more hv h3
  · have hk1 : k < bs.length + 1 := by simpa using hk
    rw [getD_snoc (l := vs) (by omega), hl, if_pos (by omega)] at hj
    rw [getD_snoc (l := vs) (by omega), hl]
    split
    · rename_i h4; exact h.2.2 j k hjk h4 g hj
    · intro hh
      have h5 := hlt j (by omega) g hj
      have h6 := (hv.lt g hh).1
      omega
theorem own_oneV {w : World} {base n size : Nat} {e : TypeId} {v : Value} {xs : List Value} (h : w.ownsRow base e size v n xs) : v.oneCell' = true := by
  obtain ⟨A, c, rfl, _⟩ := own_form h; rfl
theorem next_st {B : Nat} {s : St} {w : World} (wd : Nat) (h : RdSt B s w) (hw0 : 0 < wd) (hw : wd ≤ 8) :
    Calls Try.prog 33 #[.int .i64 (wd : Int), .pointer (some ⟨B + 1 + 1, 0, none⟩), .pointer (some ⟨B + 1, 0, none⟩)] w fun e w' => e = .returned (.int .i64 (nv wd s)) ∧ RdSt B (nx wd s) w' ∧ Only (B + 1 + 1) (B + 1) w w' :=
  next_any (B + 1 + 1) (B + 1) B s.1 s.2 w wd h hw0 hw
theorem next_dec {w0 w : World} {B : Nat} {s : St} {cs : Array Value} (wd : Nat) (h : DecW w0 B s cs w) (hw0 : 0 < wd) (hw : wd ≤ 8) :
    Calls Try.prog 33 #[.int .i64 (wd : Int), .pointer (some ⟨B + 1 + 1, 0, none⟩), .pointer (some ⟨B + 1, 0, none⟩)] w fun e w' => e = .returned (.int .i64 (nv wd s)) ∧ DecW w0 B (nx wd s) cs w' ∧ Only (B + 1 + 1) (B + 1) w w' :=
  (next_st wd h.rd hw0 hw).mono fun _ _ ⟨he, hr, ho⟩ => ⟨he, h.next hr ho, ho⟩
theorem next_dec1 {w0 w : World} {B : Nat} {s : St} {cs : Array Value} (h : DecW w0 B s cs w) :
    Calls Try.prog 33 #[.int .i64 1, .pointer (some ⟨B + 1 + 1, 0, none⟩), .pointer (some ⟨B + 1, 0, none⟩)] w fun e w' => e = .returned (.int .i64 (nv 1 s)) ∧ DecW w0 B (nx 1 s) cs w' ∧ Only (B + 1 + 1) (B + 1) w w' := next_dec 1 h (by decide) (by decide)
theorem next_dec2 {w0 w : World} {B : Nat} {s : St} {cs : Array Value} (h : DecW w0 B s cs w) :
    Calls Try.prog 33 #[.int .i64 2, .pointer (some ⟨B + 1 + 1, 0, none⟩), .pointer (some ⟨B + 1, 0, none⟩)] w fun e w' => e = .returned (.int .i64 (nv 2 s)) ∧ DecW w0 B (nx 2 s) cs w' ∧ Only (B + 1 + 1) (B + 1) w w' := next_dec 2 h (by decide) (by decide)
/-- What the inner loop keeps: the box of a function, its code. -/
structure InW (w0 wo : World) (B : Nat) (s : St) (cs : Array Value) (k l st cv : Value) (is : List Ins) (w : World) : Prop where
  dec : DecW w0 B s cs w
  kept : Kept (B + 1 + 1) (B + 1) wo.heap.size wo w
  box : Whole w wo.heap.size 40 #[k, l, st, cv]
  own : w.ownsRow (wo.heap.size + 1) 42 3 cv is.length (insCells is)
  size : wo.heap.size + 1 ≤ w.heap.size
  low : B + 1 + 1 + 1 + 1 ≤ wo.heap.size
section
variable {w0 wo w w' : World} {B : Nat} {s s' : St} {cs : Array Value} {k l st cv : Value} {is : List Ins}
theorem InW.next (h : InW w0 wo B s cs k l st cv is w) (hd : DecW w0 B s' cs w') (ho : Only (B + 1 + 1) (B + 1) w w') : InW w0 wo B s' cs k l st cv is w' :=
  ⟨hd, h.kept.only ho, ho.whole h.box (by have := h.low; omega) (by have := h.low; omega), ho.own h.own (by have := h.low; omega) (by have := h.low; omega), by rw [ho.size]; exact h.size, h.low⟩
theorem InW.drew (h : InW w0 wo B s cs k l st cv is w) : InW w0 wo B s cs k l st cv is w.drew := ⟨h.dec.drew, h.kept.drew, h.box, h.own, h.size, h.low⟩
theorem InW.alloc (h : InW w0 wo B s cs k l st cv is w) (o : Obj) : InW w0 wo B s cs k l st cv is (w.alloc o) :=
  ⟨h.dec.alloc o, h.kept.alloc (by have := h.size; omega) o, h.box.alloc o, h.own.alloc o, by have := h.size; simp; omega, h.low⟩
theorem InW.app (h : InW w0 wo B s cs k l st cv is w) {n : Nat} {v' : Value} {xs : List Value} (ha : Appended w (wo.heap.size + 1) 42 3 cv n xs v' w') : DecW w0 B s cs w' ∧ Kept (B + 1 + 1) (B + 1) wo.heap.size wo w' ∧ Whole w' wo.heap.size 40 #[k, l, st, cv] ∧ wo.heap.size + 1 ≤ w'.heap.size :=
  ⟨h.dec.app ha h.own (by have := h.low; omega) h.size, h.kept.app ha h.own (by omega) (by have := h.size; omega), ha.stays h.own h.box (by decide), Nat.le_trans h.size ha.grows⟩
theorem InW.done (hl : B + 1 + 1 + 1 + 1 ≤ wo.heap.size) {u : Value} {js : List Ins} (h : DecW w0 B s cs w' ∧ Kept (B + 1 + 1) (B + 1) wo.heap.size wo w' ∧ Whole w' wo.heap.size 40 #[k, l, st, cv] ∧ wo.heap.size + 1 ≤ w'.heap.size) (ho : w'.ownsRow (wo.heap.size + 1) 42 3 u js.length (insCells js)) :
    InW w0 wo B s cs k l st u js (w'.setCell ⟨wo.heap.size, 3, none⟩ u) := by
  obtain ⟨hd, hk, hb, hs⟩ := h
  have hd' : DecW w0 B s cs (w'.setCell ⟨wo.heap.size, 3, none⟩ u) :=
    ⟨hd.rd.keep (fun k => k.far (p := ⟨wo.heap.size, 3, none⟩) (by show B + 1 ≠ wo.heap.size; omega) _) (fun v k => k.far (p := ⟨wo.heap.size, 3, none⟩) (by show B + 1 + 1 ≠ wo.heap.size; omega) _) ((Below.refl _ _).setCell (by show B ≤ wo.heap.size; omega) _),
      hd.below.setCell (by show B ≤ wo.heap.size; omega) _, hd.res.far (p := ⟨wo.heap.size, 3, none⟩) (by show B ≠ wo.heap.size; omega) _, hd.box.far (p := ⟨wo.heap.size, 3, none⟩) (by show B + 1 + 1 + 1 ≠ wo.heap.size; omega) _, by have := hd.size; simp [World.setCell]; omega⟩
  exact ⟨hd', hk.put (Nat.le_refl _) _, hb.put 3 u, own_setCell ho (fun hh => by have := (ho.lt _ hh).1; simp at this; omega) u, by simpa [World.setCell] using hs, hl⟩
end
def decB (l : List UInt8) : Bool := (gCod l).2.1.isEmpty && !(gCod l).2.2 && codOK (gCod l).1
def zeroC : Cod := ⟨[], [], [], 0⟩
def decC (l : List UInt8) : Cod := if decB l = true then (gCod l).1 else zeroC
def decE (l : List UInt8) : Int := if decB l = true then 0 else 31
def zeroV : Value := .agg #[.slice none 0 0, .slice none 0 0, .slice none 0 0, .int .i64 0]
theorem zero_at (w : World) (B : Nat) : CodAt w B zeroV zeroC :=
  ⟨none, 0, 0, none, 0, 0, none, 0, 0, rfl, ⟨rfl, fun h => absurd h (by omega)⟩, ⟨rfl, fun h => absurd h (by omega)⟩, ⟨rfl, fun h => absurd h (by omega)⟩, by omega, by omega, by omega⟩
/-- Stores of four cells into the result's block. -/
theorem res_put {w0 w : World} {B : Nat} {x0 x1 x2 x3 a b d y : Value} (h0 : Below B w0 w) (hr : Whole w B 26 #[x0, x1, x2, x3]) :
    Whole ((((w.setCell ⟨B, 0, none⟩ a).setCell ⟨B, 1, none⟩ b).setCell ⟨B, 2, none⟩ d).setCell ⟨B, 3, none⟩ y) B 26 #[a, b, d, y] ∧
    Below B w0 ((((w.setCell ⟨B, 0, none⟩ a).setCell ⟨B, 1, none⟩ b).setCell ⟨B, 2, none⟩ d).setCell ⟨B, 3, none⟩ y) ∧
    (∀ {v : Value} {c : Cod}, OwnCod w (B + 1) v c → OwnCod ((((w.setCell ⟨B, 0, none⟩ a).setCell ⟨B, 1, none⟩ b).setCell ⟨B, 2, none⟩ d).setCell ⟨B, 3, none⟩ y) (B + 1) v c) := by
  refine ⟨(((hr.put 0 a).put 1 b).put 2 d).put 3 y, (((h0.setCell (Nat.le_refl _) _).setCell (Nat.le_refl _) _).setCell (Nat.le_refl _) _).setCell (Nat.le_refl _) _, fun h => ?_⟩
  obtain ⟨fv, iv, tv, vs, e, hf, hcs, hi, ht⟩ := h
  have key : ∀ {te : TypeId} {size n : Nat} {v : Value} {xs : List Value}, w.ownsRow (B + 1) te size v n xs → ((((w.setCell ⟨B, 0, none⟩ a).setCell ⟨B, 1, none⟩ b).setCell ⟨B, 2, none⟩ d).setCell ⟨B, 3, none⟩ y).ownsRow (B + 1) te size v n xs := fun h => by
    have hne : ∀ o, _ ≠ some (⟨B, o, none⟩ : Addr).block := fun o hh => by have := (h.lt _ hh).1; simp at this; omega
    exact own_setCell (own_setCell (own_setCell (own_setCell h (hne 0) _) (hne 1) _) (hne 2) _) (hne 3) _
  exact ⟨fv, iv, tv, vs, e, key hf, ⟨hcs.1, fun k hk => key (hcs.2.1 k hk), hcs.2.2⟩, key hi, key ht⟩
theorem gBdy_code {s : St} : ∀ {n : Nat} {b : Bdy}, b ∈ (iter gBdy n ([], s)).1 → b.code.length ≤ 9223372036854775807
  | 0, b, h => absurd h (by simp [iter])
  | n + 1, b, h => by
    have h1 : b ∈ (iter gBdy n ([], s)).1 ++ [⟨nv 1 (iter gBdy n ([], s)).2, nv 1 (nx 1 (iter gBdy n ([], s)).2), nv 1 (nx 1 (nx 1 (iter gBdy n ([], s)).2)), (gCode (s3 (iter gBdy n ([], s)).2)).1⟩] := h
    rcases List.mem_append.1 h1 with h2 | h2
    · exact gBdy_code h2
    · rw [List.mem_singleton.1 h2]
      show (gCode (s3 (iter gBdy n ([], s)).2)).1.length ≤ _
      have := gIns_len ([], nx 2 (s3 (iter gBdy n ([], s)).2)) (cnt 2 (s3 (iter gBdy n ([], s)).2))
      have h3 := (cnt_eq 2 (s3 (iter gBdy n ([], s)).2) (by decide)).2
      have h4 : (gCode (s3 (iter gBdy n ([], s)).2)).1.length ≤ 0 + cnt 2 (s3 (iter gBdy n ([], s)).2) := this
      omega
theorem own_later {w w' : World} {B C : Nat} {v : Value} {c : Cod} (h : OwnCod w B v c) (hb : Below C w w') (hC : w.heap.size ≤ C) : OwnCod w' B v c := by
  obtain ⟨fv, iv, tv, vs, e, hf, hcs, hi, ht⟩ := h
  exact ⟨fv, iv, tv, vs, e, own_below hf hb hC, hcs.below hb hC, own_below hi hb hC, own_below ht hb hC⟩
end Go.Proofs.Ytffpkmoaahkfmaa
