/- A part of the proofs of chapter 11, squeezed, merged and shrunk by group.py: GPlain GGoes GWalkA GWalkB GWalkC GMem. -/
import Derived.KernelRfl
import Derived.Test.YtgjchgmlogbmmaaR1
import Derived.BigQuiet
import Derived.StillTailTactics
import Derived.Deep.RegionHeld3
/- The plain mathematics of layer 5, the document's: the grammar, rule by rule, as plain functions. -/
namespace Go.Proofs.Ytgjchgmlogbmmaa
set_option linter.unusedVariables false

/-- A node: kind, text, number, place, names, what stands in it. -/
inductive Nd where
 | mk (kd : Int) (tx : List UInt8) (nm : Int) (at_ : Nat) (ns : List (List UInt8)) (ks : List Nd)
def Nd.kd : Nd → Int | .mk a _ _ _ _ _ => a
def Nd.tx : Nd → List UInt8 | .mk _ a _ _ _ _ => a
def Nd.nm : Nd → Int | .mk _ _ a _ _ _ => a
def Nd.at_ : Nd → Nat | .mk _ _ _ a _ _ => a
def Nd.ns : Nd → List (List UInt8) | .mk _ _ _ _ a _ => a
def Nd.ks : Nd → List Nd | .mk _ _ _ _ _ a => a
def Nd.setKd : Nd → Int → Nd | .mk _ b c d e f, a => .mk a b c d e f
def Nd.setTx : Nd → List UInt8 → Nd | .mk a _ c d e f, b => .mk a b c d e f
def Nd.addNs : Nd → List UInt8 → Nd | .mk a b c d e f, x => .mk a b c d (e ++ [x]) f
def Nd.add : Nd → Nd → Nd | .mk a b c d e f, x => .mk a b c d e (f ++ [x])
def nd0 : Nd := .mk 0 [] 0 0 [] []
/-- Where a parser stands. -/
structure PS where
 i : Nat
 deep : Nat
 bad : Nat
 flat : Bool
 e : Int
section
variable (T : List Tok)
def tkF (s : PS) : Tok := T.getD s.i ⟨0, [], 0, 0⟩
def kdF (s : PS) : Int := if s.e = 0 then (tkF T s).kind else 0
def isF (s : PS) (x : List UInt8) : Bool := (kdF T s == 5 || kdF T s == 6) && (tkF T s).text == x
def failF (s : PS) (c : Int) : PS := if s.e = 0 then { s with e := c, bad := (tkF T s).at_ } else s
def stepT (s : PS) : Tok := if kdF T s = 0 then ⟨0, [], 0, 0⟩ else tkF T s
def stepF (s : PS) : PS := if kdF T s = 0 then s else { s with i := s.i + 1 }
def wantF (s : PS) (x : List UInt8) : PS := if isF T s x = true then stepF T s else failF T s 14
def textT (s : PS) (k : Int) : List UInt8 := if kdF T s = k then (stepT T s).text else []
def textF (s : PS) (k : Int) : PS := if kdF T s = k then stepF T s else failF T s 14
def atF (s : PS) : Nat := if s.e = 0 then (tkF T s).at_ else 0
def deepF (s : PS) : PS := if s.deep = 40 then failF T s 15 else s
def enterB (s : PS) : Bool := decide ((deepF T s).e = 0)
def enterF (s : PS) : PS := if (deepF T s).e = 0 then { deepF T s with deep := (deepF T s).deep + 1 } else deepF T s
def opF (s : PS) (a b c : List UInt8) : List UInt8 := if isF T s a = true then a else if isF T s b = true then b else if isF T s c = true then c else []
def leafN (s : PS) (k : Int) : Nd := .mk k (stepT T s).text (stepT T s).num (stepT T s).at_ [] []
/-- The three rules that come to themselves through a deeper place. -/
structure Rec where
 exp : PS → Nd × PS
 pat : PS → Nd × PS
 ty : PS → Nd × PS
variable (r : Rec)
def up (s : PS) : PS := { s with deep := s.deep - 1 }
def patomF (s : PS) : Nd × PS :=
 if kdF T s = 1 then (leafN T s 1, stepF T s)
 else if kdF T s = 3 then (leafN T s 4, stepF T s)
 else if kdF T s = 4 then (leafN T s 5, stepF T s)
 else if isF T s [95] = true then (.mk 24 [] 0 (stepT T s).at_ [] [], stepF T s)
 else if isF T s [40] = true then ((r.pat (stepF T s)).1, wantF T (r.pat (stepF T s)).2 [41])
 else (nd0, failF T s 14)
def patL : Nat → Nd → PS → Nd × PS
 | 0, n, s => (n, s)
 | f + 1, n, s =>
  if opF T s [95] [40] [95] = [] ∧ kdF T s ≠ 3 ∧ kdF T s ≠ 1 ∧ kdF T s ≠ 4 then (n, s)
  else if n.ks.length = 4 then (n, failF T s 16)
  else patL f (n.add (patomF T r s).1) (patomF T r s).2
def patF (s : PS) : Nd × PS :=
 if enterB T s = true then
  let con := decide (kdF T (enterF T s) = 4)
  let x := patomF T r (enterF T s)
  let y := if con = true then patL T r 5 x.1 x.2 else x
  (y.1, up y.2)
 else (nd0, enterF T s)
def tyL : Nat → Nd → PS → Nd × PS
 | 0, n, s => (n, s)
 | f + 1, n, s =>
  if s.e = 0 then
   if kdF T s = 3 then tyL f (n.add (.mk 27 (stepT T s).text 0 (stepT T s).at_ [] [])) (stepF T s)
   else if isF T s [40] = true then tyL f (n.add (r.ty (stepF T s)).1) (wantF T (r.ty (stepF T s)).2 [41])
   else (n, s)
  else (n, s)
def tyF (s : PS) : Nd × PS :=
 if enterB T s = true then
  let s1 := enterF T s
  let y := tyL T r T.length (.mk 27 (textT T s1 3) 0 (atF T s1) [] []) (textF T s1 3)
  (y.1, up y.2)
 else (nd0, enterF T s)
def conL : Nat → Bool → Nd → PS → Nd × PS
 | 0, _, n, s => (n, s)
 | f + 1, more, n, s =>
  if more = true ∧ s.e = 0 then
   let s1 := if n.ks.length = 4 then failF T (stepF T s) 16 else stepF T s
   conL f (isF T (r.ty s1).2 [44]) (n.add (r.ty s1).1) (r.ty s1).2
  else (n, s)
def conF (s : PS) : Nd × PS :=
 conL T r (T.length + 1) (isF T (textF T s 4) [111, 102]) (.mk 26 (textT T s 4) 0 (atF T s) [] []) (textF T s 4)
def wholeF (s : PS) : Nd × PS := ((r.exp { s with flat := false }).1, { (r.exp { s with flat := false }).2 with flat := s.flat })
/-- What a name is to mean: is it rec? the node, with its text and its exp. -/
def valueB (s : PS) : Bool := isF T s [114, 101, 99]
def valueF (n : Nd) (s : PS) : Nd × PS :=
 let rec_ := isF T s [114, 101, 99]
 let s1 := if rec_ = true then stepF T s else s
 let s2 := wantF T (textF T s1 3) [61]
 let s3 := if rec_ = true ∧ isF T s2 [102, 117, 110] = false ∧ s2.deep < 40 then failF T s2 14 else s2
 ((n.setTx (textT T s1 3)).add (r.exp s3).1, (r.exp s3).2)
def namL : Nat → Nd → PS → Nd × PS
 | 0, n, s => (n, s)
 | f + 1, n, s =>
  if kdF T s = 3 then
   if n.ns.length = 4 then (n, failF T s 16)
   else namL f (n.addNs (stepT T s).text) (stepF T s)
  else (n, s)
def cosL : Nat → Bool → Nd → PS → Nd × PS
 | 0, _, n, s => (n, s)
 | f + 1, more, n, s =>
  if more = true ∧ s.e = 0 then
   let x := conF T r (if n.ks.length = 20 then failF T s 16 else s)
   let more2 := isF T x.2 [124]
   cosL f more2 (n.add x.1) (if more2 = true then stepF T x.2 else x.2)
  else (n, s)
def declF (s : PS) : Nd × PS :=
 let n := Nd.mk 0 [] 0 (stepT T s).at_ [] []
 let s1 := stepF T s
 if isF T s [116, 121, 112, 101] = true then
  let x := namL T 5 ((n.setKd 25).setTx (textT T s1 3)) (textF T s1 3)
  let y := cosL T r (T.length + 1) true x.1 (wantF T x.2 [61])
  (y.1, wantF T y.2 [59])
 else
  let x := valueF T r (n.setKd 28) { s1 with flat := true }
  (if valueB T { s1 with flat := true } = true then x.1.setKd 29 else x.1, wantF T { x.2 with flat := false } [59])
def retK : List UInt8 := [114, 101, 116, 114, 121]
def matK : List UInt8 := [109, 97, 116, 99, 104]
def tryK : List UInt8 := [116, 114, 121]
def matL : Nat → Bool → Nd → PS → Nd × PS
 | 0, _, n, s => (n, s)
 | f + 1, more, n, s =>
  if more = true then
   let s1 := wantF T (if n.ks.length = 41 then failF T s 16 else s) [124]
   let x := r.pat s1
   let y := wholeF r (wantF T x.2 [45, 62])
   matL f (isF T y.2 [124]) ((n.add x.1).add y.1) y.2
  else (n, s)
def atomF (s : PS) : Nd × PS :=
 if kdF T s = 1 then (leafN T s 1, stepF T s)
 else if kdF T s = 2 then (leafN T s 2, stepF T s)
 else if kdF T s = 3 then (leafN T s 4, stepF T s)
 else if kdF T s = 4 then (leafN T s 5, stepF T s)
 else
  let n := Nd.mk 0 [] 0 (atF T s) [] []
  let s1 := stepF T s
  if isF T s retK = true then (n.setKd 19, s1)
  else if isF T s [40] = true then
   if isF T s1 [41] = true then (n.setKd 3, stepF T s1)
   else ((wholeF r s1).1, wantF T (wholeF r s1).2 [41])
  else if isF T s tryK = true then
   let x := wholeF r s1
   let s2 := wantF T x.2 [119, 105, 116, 104]
   let y := wholeF r (wantF T (textF T s2 3) [45, 62])
   ((((n.add x.1).setKd 12).setTx (textT T s2 3)).add y.1, wantF T y.2 [101, 110, 100])
  else if isF T s matK = true then
   let x := wholeF r s1
   let y := matL T r (T.length + 1) true ((n.add x.1).setKd 11) (wantF T x.2 [119, 105, 116, 104])
   (y.1, wantF T y.2 [101, 110, 100])
  else (nd0, failF T s 14)
def beginsF (s : PS) : Bool := (kdF T s == 1 || kdF T s == 2 || kdF T s == 3 || kdF T s == 4) || (opF T s [40] retK matK != []) || isF T s tryK
def appKeys : List (List UInt8) := [[112, 114, 105, 110, 116], [114, 97, 105, 115, 101], [115, 112, 97, 119, 110], [97, 116, 111, 109, 105, 99, 97, 108, 108, 121], [116, 118, 97, 114], [114, 101, 97, 100], [119, 114, 105, 116, 101], [111, 114, 101, 108, 115, 101]]
def appKinds : List Int := [15, 16, 17, 18, 21, 22, 23, 20]
/-- Which of the keys the next token is: 8: none. -/
def keyN (s : PS) : Nat := (appKeys.findIdx? (fun k => isF T s k)).getD 8
def appL : Nat → Bool → Nd → PS → Nd × PS
 | 0, _, n, s => (n, s)
 | f + 1, con, n, s =>
  if beginsF T s = true then
   if con = true then
    if n.ks.length = 4 then (n, failF T s 16)
    else appL f con (n.add (atomF T r s).1) (atomF T r s).2
   else appL f con (.mk 7 [] 0 n.at_ [] [n, (atomF T r s).1]) (atomF T r s).2
  else (n, s)
def appF (s : PS) : Nd × PS :=
 if keyN T s < 8 then
  let n := Nd.mk (appKinds.getD (keyN T s) 0) [] 0 (stepT T s).at_ [] []
  let x := atomF T r (stepF T s)
  if 6 ≤ keyN T s then ((n.add x.1).add (atomF T r x.2).1, (atomF T r x.2).2)
  else (n.add x.1, x.2)
 else
  let x := atomF T r s
  appL T r (T.length + 1) (decide (kdF T s = 4)) x.1 x.2
def binN (o : List UInt8) (a b : Nd) : Nd := .mk 13 o 0 a.at_ [] [a, b]
def prodL : Nat → Nd → PS → Nd × PS
 | 0, n, s => (n, s)
 | f + 1, n, s =>
  let o := opF T s [42] [47] [37]
  if o = [] then (n, s) else prodL f (binN o n (appF T r (stepF T s)).1) (appF T r (stepF T s)).2
def prodF (s : PS) : Nd × PS := prodL T r (T.length + 1) (appF T r s).1 (appF T r s).2
def sumL : Nat → Nd → PS → Nd × PS
 | 0, n, s => (n, s)
 | f + 1, n, s =>
  let o := opF T s [43] [45] [94]
  if o = [] then (n, s) else sumL f (binN o n (prodF T r (stepF T s)).1) (prodF T r (stepF T s)).2
def sumF (s : PS) : Nd × PS := sumL T r (T.length + 1) (prodF T r s).1 (prodF T r s).2
def cmpF (s : PS) : Nd × PS :=
 let x := sumF T r s
 let o := opF T x.2 [61] [60] [61]
 if o = [] then x else (binN o x.1 (sumF T r (stepF T x.2)).1, (sumF T r (stepF T x.2)).2)
def innerF (s : PS) : Nd × PS :=
 let n := Nd.mk 0 [] 0 (atF T s) [] []
 let s1 := stepF T s
 if isF T s [108, 101, 116] = true then
  let x := valueF T r (n.setKd 8) s1
  let n2 := if valueB T s1 = true then x.1.setKd 9 else x.1
  let y := r.exp (wantF T x.2 [105, 110])
  (n2.add y.1, y.2)
 else if isF T s [102, 117, 110] = true then
  let y := r.exp (wantF T (textF T s1 3) [45, 62])
  (((n.setKd 6).setTx (textT T s1 3)).add y.1, y.2)
 else if isF T s [105, 102] = true then
  let x := r.exp s1
  let y := r.exp (wantF T x.2 [116, 104, 101, 110])
  let z := r.exp (wantF T y.2 [101, 108, 115, 101])
  ((((n.setKd 10).add x.1).add y.1).add z.1, z.2)
 else
  let a := cmpF T r s
  if isF T a.2 [59] = true ∧ a.2.flat = false then
   let x := r.exp (stepF T a.2)
   (.mk 14 [] 0 a.1.at_ [] [a.1, x.1], x.2)
  else a
def expF (s : PS) : Nd × PS :=
 if enterB T s = true then ((innerF T r (enterF T s)).1, up (innerF T r (enterF T s)).2) else (nd0, enterF T s)
/-- The rules, for places so much deeper. -/
def rules : Nat → Rec
 | 0 => ⟨fun s => (nd0, s), fun s => (nd0, s), fun s => (nd0, s)⟩
 | n + 1 => ⟨expF T (rules n), patF T (rules n), tyF T (rules n)⟩
def progL : Nat → Nd → PS → Nd × PS
 | 0, n, s => (n, s)
 | f + 1, n, s =>
  if isF T s [116, 121, 112, 101] = true ∨ isF T s [108, 101, 116] = true then
   if n.ks.length = 60 then (n, failF T s 16)
   else progL f (n.add (declF T (rules T 42) s).1) (declF T (rules T 42) s).2
  else (n, s)
/-- A program of tokens: the node, the place, the error. -/
def progT : Nd × Nat × Int :=
 let s0 : PS := ⟨0, 0, 0, false, 0⟩
 let x := progL T (T.length + 1) (.mk 30 [] 0 (atF T s0) [] []) s0
 let y := (rules T 42).exp (wantF T x.2 [100, 111])
 let s := if kdF T y.2 = 0 then y.2 else failF T y.2 14
 if s.e = 0 then (x.1.add y.1, 0, 0) else (nd0, s.bad, s.e)
end
/-- A program's text. -/
def progF (l : List UInt8) : Nd × Nat × Int :=
 if (tokensF l).2.2 = 0 then progT (tokensF l).1 else (nd0, (tokensF l).2.1, (tokensF l).2.2)
end Go.Proofs.Ytgjchgmlogbmmaa
/- The plain mathematics of layer 5, the document's: a parser goes on, within its tokens, and comes back to its depth. -/
namespace Go.Proofs.Ytgjchgmlogbmmaa
set_option linter.unusedVariables false

/-- The end stands behind all tokens, and nowhere else. -/
structure Ends (T : List Tok) : Prop where
 pos : 0 < T.length
 last : ∀ k (h : k < T.length), T[k].kind = 0 ↔ k + 1 = T.length
structure Goes (T : List Tok) (s s' : PS) : Prop where
 i : s.i ≤ s'.i
 lt : s'.i < T.length
 deep : s'.deep = s.deep
section
variable {T : List Tok} {r : Rec} {s s' s'' : PS}
theorem Goes.trans (h : Goes T s s') (k : Goes T s' s'') : Goes T s s'' := ⟨Nat.le_trans h.i k.i, k.lt, k.deep.trans h.deep⟩
theorem Goes.refl (h : s.i < T.length) : Goes T s s := ⟨Nat.le_refl _, h, rfl⟩
theorem tk_get (h : s.i < T.length) : tkF T s = T[s.i] := by
 unfold tkF; rw [List.getD_eq_getElem?_getD, List.getElem?_eq_getElem h]; rfl
theorem kd_lt (E : Ends T) (h : s.i < T.length) (hk : kdF T s ≠ 0) : s.e = 0 ∧ s.i + 1 < T.length := by
 unfold kdF at hk
 split at hk
 ·rename_i he
  rw [tk_get h] at hk
  have := (E.last s.i h)
  refine ⟨he, ?_⟩
  have h2 : ¬ (s.i + 1 = T.length) := fun h3 => hk (this.2 h3)
  omega
 ·exact absurd rfl hk
theorem goes_fail (h : s.i < T.length) (c : Int) : Goes T s (failF T s c) := by
 unfold failF; split
 ·exact ⟨Nat.le_refl _, h, rfl⟩
 ·exact .refl h
theorem goes_step (E : Ends T) (h : s.i < T.length) : Goes T s (stepF T s) := by
 unfold stepF; split
 ·exact .refl h
 ·rename_i hk
  exact ⟨Nat.le_succ _, (kd_lt E h hk).2, rfl⟩
theorem goes_want (E : Ends T) (h : s.i < T.length) (x : List UInt8) : Goes T s (wantF T s x) := by
 unfold wantF; split
 ·exact goes_step E h
 ·exact goes_fail h _
theorem goes_text (E : Ends T) (h : s.i < T.length) (k : Int) : Goes T s (textF T s k) := by
 unfold textF; split
 ·exact goes_step E h
 ·exact goes_fail h _
theorem Goes.want (E : Ends T) (h : Goes T s s') (x : List UInt8) : Goes T s (wantF T s' x) := h.trans (goes_want E h.lt x)
theorem Goes.step (E : Ends T) (h : Goes T s s') : Goes T s (stepF T s') := h.trans (goes_step E h.lt)
theorem Goes.text (E : Ends T) (h : Goes T s s') (k : Int) : Goes T s (textF T s' k) := h.trans (goes_text E h.lt k)
theorem Goes.fail (h : Goes T s s') (c : Int) : Goes T s (failF T s' c) := h.trans (goes_fail h.lt c)
/-- The rules that go deeper go on. -/
structure Fine (T : List Tok) (r : Rec) : Prop where
 exp : ∀ s : PS, s.i < T.length → Goes T s (r.exp s).2
 pat : ∀ s : PS, s.i < T.length → Goes T s (r.pat s).2
 ty : ∀ s : PS, s.i < T.length → Goes T s (r.ty s).2
theorem Goes.exp (F : Fine T r) (h : Goes T s s') : Goes T s (r.exp s').2 := h.trans (F.exp _ h.lt)
theorem Goes.pat (F : Fine T r) (h : Goes T s s') : Goes T s (r.pat s').2 := h.trans (F.pat _ h.lt)
theorem Goes.ty (F : Fine T r) (h : Goes T s s') : Goes T s (r.ty s').2 := h.trans (F.ty _ h.lt)
theorem goes_whole (F : Fine T r) (h : s.i < T.length) : Goes T s (wholeF r s).2 := by
 have := F.exp { s with flat := false } h
 exact ⟨this.i, this.lt, this.deep⟩
theorem Goes.whole (F : Fine T r) (h : Goes T s s') : Goes T s (wholeF r s').2 := h.trans (goes_whole F h.lt)
theorem Goes.flat (h : Goes T s s') (b : Bool) : Goes T s { s' with flat := b } := ⟨h.i, h.lt, h.deep⟩
theorem goes_patom (E : Ends T) (F : Fine T r) (h : s.i < T.length) : Goes T s (patomF T r s).2 := by
 unfold patomF
 split
 ·exact goes_step E h
 split
 ·exact goes_step E h
 split
 ·exact goes_step E h
 split
 ·exact goes_step E h
 split
 ·exact ((goes_step E h).pat F).want E _
 ·exact goes_fail h _
theorem goes_patL (E : Ends T) (F : Fine T r) : ∀ (f : Nat) (n : Nd) (s : PS), s.i < T.length → Goes T s (patL T r f n s).2
 | 0, n, s, h => .refl h
 | f + 1, n, s, h => by
  unfold patL
  split
  ·exact .refl h
  split
  ·exact goes_fail h _
  ·have := goes_patom E F h
   exact this.trans (goes_patL E F f _ _ this.lt)
/-- Into a deeper place. -/
theorem enter_in (h : s.i < T.length) (hb : enterB T s = true) : (enterF T s).i = s.i ∧ (enterF T s).deep = s.deep + 1 ∧ s.deep ≠ 40 ∧ s.e = 0 ∧ (enterF T s).e = 0 ∧ (enterF T s).flat = s.flat ∧ (enterF T s).bad = s.bad := by
 unfold enterB at hb
 rw [decide_eq_true_eq] at hb
 have hd : s.deep ≠ 40 := fun hd => by
  unfold deepF at hb
  rw [if_pos hd] at hb
  unfold failF at hb
  split at hb
  ·exact absurd hb (show ¬ ((15 : Int) = 0) by decide)
  ·rename_i h2; exact h2 hb
 have hs : deepF T s = s := by unfold deepF; rw [if_neg hd]
 rw [hs] at hb
 unfold enterF
 rw [hs, if_pos hb]
 exact ⟨rfl, rfl, hd, hb, hb, rfl, rfl⟩
theorem Goes.ite {c : Prop} [Decidable c] {a b : PS} (h1 : Goes T s a) (h2 : Goes T s b) : Goes T s (if c then a else b) := by split <;> assumption
theorem enter_out (h : s.i < T.length) (hb : enterB T s ≠ true) : Goes T s (enterF T s) := by
 unfold enterB at hb
 rw [ne_eq, decide_eq_true_eq] at hb
 unfold enterF
 rw [if_neg hb]
 unfold deepF
 split
 ·exact goes_fail h _
 ·exact .refl h
theorem goes_up (h : s.i < T.length) (hb : enterB T s = true) (k : Goes T (enterF T s) s') : Goes T s (up s') := by
 obtain ⟨a, b, _⟩ := enter_in h hb
 refine ⟨by have := k.i; show s.i ≤ s'.i; omega, k.lt, ?_⟩
 show s'.deep - 1 = s.deep
 have := k.deep; omega
theorem enter_lt (h : s.i < T.length) (hb : enterB T s = true) : (enterF T s).i < T.length := by rw [(enter_in h hb).1]; exact h
theorem goes_pat (E : Ends T) (F : Fine T r) (h : s.i < T.length) : Goes T s (patF T r s).2 := by
 unfold patF
 split
 ·rename_i hb
  have hl := enter_lt h hb
  have h1 := goes_patom E F hl
  refine goes_up h hb ?_
  split
  ·exact h1.trans (goes_patL E F _ _ _ h1.lt)
  ·exact h1
 ·rename_i hb; exact enter_out h hb
theorem goes_tyL (E : Ends T) (F : Fine T r) : ∀ (f : Nat) (n : Nd) (s : PS), s.i < T.length → Goes T s (tyL T r f n s).2
 | 0, n, s, h => .refl h
 | f + 1, n, s, h => by
  unfold tyL
  split
  ·split
   ·exact (goes_step E h).trans (goes_tyL E F f _ _ (goes_step E h).lt)
   split
   ·have := ((goes_step E h).ty F).want E [41]
    exact this.trans (goes_tyL E F f _ _ this.lt)
   ·exact .refl h
  ·exact .refl h
theorem goes_ty (E : Ends T) (F : Fine T r) (h : s.i < T.length) : Goes T s (tyF T r s).2 := by
 unfold tyF
 split
 ·rename_i hb
  have hl := enter_lt h hb
  have h1 := goes_text E hl 3
  exact goes_up h hb (h1.trans (goes_tyL E F _ _ _ h1.lt))
 ·rename_i hb; exact enter_out h hb
theorem goes_conL (E : Ends T) (F : Fine T r) : ∀ (f : Nat) (b : Bool) (n : Nd) (s : PS), s.i < T.length → Goes T s (conL T r f b n s).2
 | 0, b, n, s, h => .refl h
 | f + 1, b, n, s, h => by
  unfold conL
  split
  ·have h1 : Goes T s (if n.ks.length = 4 then failF T (stepF T s) 16 else stepF T s) := by
    split
    ·exact (goes_step E h).fail _
    ·exact goes_step E h
   have h2 := h1.ty F
   exact h2.trans (goes_conL E F f _ _ _ h2.lt)
  ·exact .refl h
theorem goes_con (E : Ends T) (F : Fine T r) (h : s.i < T.length) : Goes T s (conF T r s).2 := by
 unfold conF
 have h1 := goes_text E h 4
 exact h1.trans (goes_conL E F _ _ _ _ h1.lt)
theorem goes_value (E : Ends T) (F : Fine T r) (n : Nd) (h : s.i < T.length) : Goes T s (valueF T r n s).2 := by
 unfold valueF
 have h1 : Goes T s (if isF T s [114, 101, 99] = true then stepF T s else s) := by
  split
  ·exact goes_step E h
  ·exact .refl h
 have h2 := (h1.text E 3).want E [61]
 exact Goes.exp F (.ite (h2.fail _) h2)
theorem goes_namL (E : Ends T) : ∀ (f : Nat) (n : Nd) (s : PS), s.i < T.length → Goes T s (namL T f n s).2
 | 0, n, s, h => .refl h
 | f + 1, n, s, h => by
  unfold namL
  split
  ·split
   ·exact goes_fail h _
   ·exact (goes_step E h).trans (goes_namL E f _ _ (goes_step E h).lt)
  ·exact .refl h
theorem goes_cosL (E : Ends T) (F : Fine T r) : ∀ (f : Nat) (b : Bool) (n : Nd) (s : PS), s.i < T.length → Goes T s (cosL T r f b n s).2
 | 0, b, n, s, h => .refl h
 | f + 1, b, n, s, h => by
  unfold cosL
  split
  ·have h1 : Goes T s (if n.ks.length = 20 then failF T s 16 else s) := by
    split
    ·exact goes_fail h _
    ·exact .refl h
   have h2 := h1.trans (goes_con E F h1.lt)
   have h3 : Goes T s (if isF T (conF T r (if n.ks.length = 20 then failF T s 16 else s)).2 [124] = true then stepF T (conF T r (if n.ks.length = 20 then failF T s 16 else s)).2 else (conF T r (if n.ks.length = 20 then failF T s 16 else s)).2) := .ite (h2.step E) h2
   exact h3.trans (goes_cosL E F f _ _ _ h3.lt)
  ·exact .refl h
theorem Goes.namL (E : Ends T) (h : Goes T s s') (f : Nat) (n : Nd) : Goes T s (namL T f n s').2 := h.trans (goes_namL E f n _ h.lt)
theorem Goes.cosL (E : Ends T) (F : Fine T r) (h : Goes T s s') (f : Nat) (b : Bool) (n : Nd) : Goes T s (cosL T r f b n s').2 := h.trans (goes_cosL E F f b n _ h.lt)
theorem Goes.value (E : Ends T) (F : Fine T r) (h : Goes T s s') (n : Nd) : Goes T s (valueF T r n s').2 := h.trans (goes_value E F n h.lt)
theorem goes_decl (E : Ends T) (F : Fine T r) (h : s.i < T.length) : Goes T s (declF T r s).2 := by
 unfold declF
 dsimp only
 have h1 := goes_step E h
 split
 ·exact (((((h1.text E 3).namL E _ _).want E _).cosL E F _ _ _)).want E _
 ·exact (((h1.flat true).value E F _).flat false).want E _
theorem goes_matL (E : Ends T) (F : Fine T r) : ∀ (f : Nat) (b : Bool) (n : Nd) (s : PS), s.i < T.length → Goes T s (matL T r f b n s).2
 | 0, b, n, s, h => .refl h
 | f + 1, b, n, s, h => by
  unfold matL
  split
  ·have h1 : Goes T s (if n.ks.length = 41 then failF T s 16 else s) := by
    split
    ·exact goes_fail h _
    ·exact .refl h
   have h2 := (((h1.want E [124]).pat F).want E [45, 62]).whole F
   exact h2.trans (goes_matL E F f _ _ _ h2.lt)
  ·exact .refl h
theorem Goes.matL (E : Ends T) (F : Fine T r) (h : Goes T s s') (f : Nat) (b : Bool) (n : Nd) : Goes T s (matL T r f b n s').2 := h.trans (goes_matL E F f b n _ h.lt)
theorem goes_atom (E : Ends T) (F : Fine T r) (h : s.i < T.length) : Goes T s (atomF T r s).2 := by
 unfold atomF
 have h1 := goes_step E h
 split
 ·exact h1
 split
 ·exact h1
 split
 ·exact h1
 split
 ·exact h1
 dsimp only
 split
 ·exact h1
 split
 ·split
  ·exact h1.step E
  ·exact (h1.whole F).want E _
 split
 ·exact (((((h1.whole F).want E _).text E 3).want E _).whole F).want E _
 split
 ·exact (((h1.whole F).want E _).matL E F _ _ _).want E _
 ·exact goes_fail h _
theorem Goes.atom (E : Ends T) (F : Fine T r) (h : Goes T s s') : Goes T s (atomF T r s').2 := h.trans (goes_atom E F h.lt)
theorem goes_appL (E : Ends T) (F : Fine T r) : ∀ (f : Nat) (b : Bool) (n : Nd) (s : PS), s.i < T.length → Goes T s (appL T r f b n s).2
 | 0, b, n, s, h => .refl h
 | f + 1, b, n, s, h => by
  unfold appL
  have h1 := goes_atom E F h
  split
  ·split
   ·split
    ·exact goes_fail h _
    ·exact h1.trans (goes_appL E F f _ _ _ h1.lt)
   ·exact h1.trans (goes_appL E F f _ _ _ h1.lt)
  ·exact .refl h
theorem goes_app (E : Ends T) (F : Fine T r) (h : s.i < T.length) : Goes T s (appF T r s).2 := by
 unfold appF
 split
 ·dsimp only
  split
  ·exact ((goes_step E h).atom E F).atom E F
  ·exact (goes_step E h).atom E F
 ·have h1 := goes_atom E F h
  exact h1.trans (goes_appL E F _ _ _ _ h1.lt)
theorem Goes.app (E : Ends T) (F : Fine T r) (h : Goes T s s') : Goes T s (appF T r s').2 := h.trans (goes_app E F h.lt)
theorem goes_prodL (E : Ends T) (F : Fine T r) : ∀ (f : Nat) (n : Nd) (s : PS), s.i < T.length → Goes T s (prodL T r f n s).2
 | 0, n, s, h => .refl h
 | f + 1, n, s, h => by
  unfold prodL
  dsimp only
  split
  ·exact .refl h
  ·have h1 := (goes_step E h).app E F
   exact h1.trans (goes_prodL E F f _ _ h1.lt)
theorem goes_prod (E : Ends T) (F : Fine T r) (h : s.i < T.length) : Goes T s (prodF T r s).2 := by
 have h1 := goes_app E F h
 exact h1.trans (goes_prodL E F _ _ _ h1.lt)
theorem Goes.prod (E : Ends T) (F : Fine T r) (h : Goes T s s') : Goes T s (prodF T r s').2 := h.trans (goes_prod E F h.lt)
theorem goes_sumL (E : Ends T) (F : Fine T r) : ∀ (f : Nat) (n : Nd) (s : PS), s.i < T.length → Goes T s (sumL T r f n s).2
 | 0, n, s, h => .refl h
 | f + 1, n, s, h => by
  unfold sumL
  dsimp only
  split
  ·exact .refl h
  ·have h1 := (goes_step E h).prod E F
   exact h1.trans (goes_sumL E F f _ _ h1.lt)
theorem goes_sum (E : Ends T) (F : Fine T r) (h : s.i < T.length) : Goes T s (sumF T r s).2 := by
 have h1 := goes_prod E F h
 exact h1.trans (goes_sumL E F _ _ _ h1.lt)
theorem Goes.sum (E : Ends T) (F : Fine T r) (h : Goes T s s') : Goes T s (sumF T r s').2 := h.trans (goes_sum E F h.lt)
theorem goes_cmp (E : Ends T) (F : Fine T r) (h : s.i < T.length) : Goes T s (cmpF T r s).2 := by
 unfold cmpF
 dsimp only
 split
 ·exact goes_sum E F h
 ·exact ((goes_sum E F h).step E).sum E F
theorem goes_inner (E : Ends T) (F : Fine T r) (h : s.i < T.length) : Goes T s (innerF T r s).2 := by
 unfold innerF
 dsimp only
 have h1 := goes_step E h
 split
 ·exact ((h1.value E F _).want E _).exp F
 split
 ·exact ((h1.text E 3).want E _).exp F
 split
 ·exact ((((h1.exp F).want E _).exp F).want E _).exp F
 split
 ·exact ((goes_cmp E F h).step E).exp F
 ·exact goes_cmp E F h
theorem goes_exp (E : Ends T) (F : Fine T r) (h : s.i < T.length) : Goes T s (expF T r s).2 := by
 unfold expF
 split
 ·rename_i hb
  exact goes_up h hb (goes_inner E F (enter_lt h hb))
 ·rename_i hb; exact enter_out h hb
theorem fine_rules (E : Ends T) : ∀ n, Fine T (rules T n)
 | 0 => ⟨fun s h => .refl h, fun s h => .refl h, fun s h => .refl h⟩
 | n + 1 => ⟨fun s h => goes_exp E (fine_rules E n) h, fun s h => goes_pat E (fine_rules E n) h, fun s h => goes_ty E (fine_rules E n) h⟩
end
end Go.Proofs.Ytgjchgmlogbmmaa
/- The walks of layer 5, the document's: a parser's record; the next token's kind, its place, whether it is a sign. -/
namespace Go.Proofs.Ytgjchgmlogbmmaa
open Go.RowKit
set_option linter.unusedVariables false
attribute [local go_sem ↓] Go.wp_at_zero Go.wp_at_succ

/-- The tokens' cells. -/
def TkIn (w : World) (g : Nat) (T : List Tok) : Prop := g < w.heap.size ∧
 ∀ k (h : k < T.length), w.cell? ⟨g, k * 4, none⟩ = some (.int .i64 T[k].kind) ∧ w.cell? ⟨g, k * 4 + 1, none⟩ = some (.string ⟨T[k].text.toArray⟩) ∧ w.cell? ⟨g, k * 4 + 2, none⟩ = some (.int .i64 T[k].num) ∧ w.cell? ⟨g, k * 4 + 3, none⟩ = some (.int .i64 (T[k].at_ : Int))
theorem TkIn.block {w w' : World} {g : Nat} {T : List Tok} (h : TkIn w g T) (hs : w.heap.size ≤ w'.heap.size) (hb : w'.heap[g]? = w.heap[g]?) : TkIn w' g T := by
 refine ⟨Nat.lt_of_lt_of_le h.1 hs, fun k hk => ?_⟩
 obtain ⟨a, b, c, d⟩ := h.2 k hk
 have hc : ∀ o, w'.cell? ⟨g, o, none⟩ = w.cell? ⟨g, o, none⟩ := fun o => World.cell?_of_block hb
 exact ⟨(hc _).trans a, (hc _).trans b, (hc _).trans c, (hc _).trans d⟩
def psA (g c : Nat) (T : List Tok) (s : PS) : Array Value := #[.slice (some ⟨g, 0, none⟩) T.length c, .int .i64 (s.i : Int), .int .i64 (s.deep : Int), .int .i64 (s.bad : Int), .bool s.flat, .int .i64 s.e]
/-- A parser's record at R, its tokens at g. -/
structure PAt (w : World) (R g c : Nat) (T : List Tok) (s : PS) : Prop where
 box : Whole w R 61 (psA g c T s)
 ne : g ≠ R
 tk : TkIn w g T
 lt : s.i < T.length
 len : T.length ≤ 100000
 deep : s.deep ≤ 40
section
variable {w w' : World} {R g c B : Nat} {T : List Tok} {s s' : PS}
theorem PAt.c0 (h : PAt w R g c T s) : w.cell? ⟨R, 0, none⟩ = some (.slice (some ⟨g, 0, none⟩) T.length c) := h.box.cell 0
theorem PAt.c1 (h : PAt w R g c T s) : w.cell? ⟨R, 1, none⟩ = some (.int .i64 (s.i : Int)) := h.box.cell 1
theorem PAt.c2 (h : PAt w R g c T s) : w.cell? ⟨R, 2, none⟩ = some (.int .i64 (s.deep : Int)) := h.box.cell 2
theorem PAt.c3 (h : PAt w R g c T s) : w.cell? ⟨R, 3, none⟩ = some (.int .i64 (s.bad : Int)) := h.box.cell 3
theorem PAt.c4 (h : PAt w R g c T s) : w.cell? ⟨R, 4, none⟩ = some (.bool s.flat) := h.box.cell 4
theorem PAt.c5 (h : PAt w R g c T s) : w.cell? ⟨R, 5, none⟩ = some (.int .i64 s.e) := h.box.cell 5
theorem PAt.free (h : PAt w R g c T s) (i : Nat) : w.frozen? ⟨R, i, none⟩ = false := h.box.free i
theorem PAt.t (h : PAt w R g c T s) : w.cell? ⟨g, s.i * 4, none⟩ = some (.int .i64 (tkF T s).kind) ∧ w.cell? ⟨g, s.i * 4 + 1, none⟩ = some (.string ⟨(tkF T s).text.toArray⟩) ∧ w.cell? ⟨g, s.i * 4 + 2, none⟩ = some (.int .i64 (tkF T s).num) ∧ w.cell? ⟨g, s.i * 4 + 3, none⟩ = some (.int .i64 ((tkF T s).at_ : Int)) := by
 rw [tk_get h.lt]; exact h.tk.2 s.i h.lt
theorem PAt.rlt (h : PAt w R g c T s) : R < w.heap.size := h.box.lt
/-- Nothing of it is changed. -/
theorem PAt.below (h : PAt w R g c T s) (hb : Below B w w') (hB : w.heap.size ≤ B) : PAt w' R g c T s :=
 ⟨h.box.below hb (Nat.lt_of_lt_of_le h.rlt hB), h.ne, h.tk.block hb.size (hb.block g (Nat.lt_of_lt_of_le h.tk.1 hB)), h.lt, h.len, h.deep⟩
/-- The record is another one. -/
theorem PAt.put (h : PAt w R g c T s) (hb : But R B w w') (hB : w.heap.size ≤ B) (hx : Whole w' R 61 (psA g c T s')) (hl : s'.i < T.length) (hd : s'.deep ≤ 40) : PAt w' R g c T s' :=
 ⟨hx, h.ne, h.tk.block hb.size (hb.block g (Nat.lt_of_lt_of_le h.tk.1 hB) h.ne), hl, h.len, hd⟩
theorem PAt.alloc (h : PAt w R g c T s) (o : Obj) : PAt (w.alloc o) R g c T s := h.below ((Below.refl _ _).alloc (Nat.le_refl _) o) (Nat.le_refl _)
theorem PAt.setCell (h : PAt w R g c T s) {p : Addr} (h1 : p.block ≠ R) (h2 : p.block ≠ g) (u : Value) : PAt (w.setCell p u) R g c T s :=
 ⟨h.box.far (Ne.symm h1) u, h.ne, h.tk.block (by simp [World.setCell]) (Below.heap_setCell w p u g (Ne.symm h2)), h.lt, h.len, h.deep⟩
theorem PAt.drew (h : PAt w R g c T s) : PAt w.drew R g c T s := h.below (Below.refl _ _).drew (Nat.le_refl _)
/-- One cell of the record is another. -/
theorem PAt.upd (h : PAt w R g c T s) (o : Nat) (u : Value) (hs : (psA g c T s).setIfInBounds o u = psA g c T s') (hl : s'.i < T.length) (hd : s'.deep ≤ 40) : PAt (w.setCell ⟨R, o, none⟩ u) R g c T s' :=
 h.put ((But.refl R w.heap.size w).set o u) (Nat.le_refl _) (by rw [← hs]; exact h.box.put o u) hl hd
theorem PAt.but (h : PAt w R g c T s) {H : Nat} (hb : But H B w w') (hB : w.heap.size ≤ B) (h1 : H ≠ R) (h2 : H ≠ g) : PAt w' R g c T s :=
 ⟨hb.whole h.box (Nat.lt_of_lt_of_le h.rlt hB) (Ne.symm h1), h.ne, h.tk.block hb.size (hb.block g (Nat.lt_of_lt_of_le h.tk.1 hB) (Ne.symm h2)), h.lt, h.len, h.deep⟩
end
theorem But.of_drewN {R B : Nat} {w w' : World} (h : But R B w w') (n : Nat) : But R B w (w'.drewN n) := h.trans (.of_below (below_drewN (Below.refl _ _) n))
theorem kind_any (w : World) (R g c : Nat) (T : List Tok) (s : PS) (hp : PAt w R g c T s) :
  Calls Try.prog 40 #[.pointer (some ⟨R, 0, none⟩)] w fun e w' => e = .returned (.int .i64 (kdF T s)) ∧ Below w.heap.size w w' := by
 have HP := Lib.hid hp
 have c0 := hp.c0
 have c1 := hp.c1
 have c5 := hp.c5
 have i1 : (0 : Int) ≤ (s.i : Int) := by omega
 have i2 : (s.i : Int) < (T.length : Int) := by have := hp.lt; omega
 obtain ⟨x0, _, _, _⟩ := hp.t
 by_cases he : s.e = 0
 ·have hk : kdF T s = (tkF T s).kind := if_pos he
  rw [hk]
  have q1 : (s.e != 0) = false := by rw [he]; rfl
  clear hk he hp
  generalize tkF T s = t at *
  go_enter Try.func40, Try.ntmps40
  go_wp2_with fail
  go_quiet (fail)
  go_wp2_with fail
  go_ret
  exact ⟨rfl, below_drewN (Below.refl _ _) _⟩
 ·have hk : kdF T s = 0 := if_neg he
  rw [hk]
  have q1 : (s.e != 0) = true := bne_iff_ne.2 he
  clear hk he hp
  go_enter Try.func40, Try.ntmps40
  go_wp2_with fail
  go_ret
  exact ⟨rfl, Below.refl _ _⟩
theorem at_any (w : World) (R g c : Nat) (T : List Tok) (s : PS) (hp : PAt w R g c T s) :
  Calls Try.prog 34 #[.pointer (some ⟨R, 0, none⟩)] w fun e w' => e = .returned (.int .i64 (atF T s : Int)) ∧ Below w.heap.size w w' := by
 have HP := Lib.hid hp
 have c0 := hp.c0
 have c1 := hp.c1
 have c5 := hp.c5
 have i1 : (0 : Int) ≤ (s.i : Int) := by omega
 have i2 : (s.i : Int) < (T.length : Int) := by have := hp.lt; omega
 obtain ⟨_, _, _, x0⟩ := hp.t
 by_cases he : s.e = 0
 ·have hk : atF T s = (tkF T s).at_ := if_pos he
  rw [hk]
  have q1 : (s.e != 0) = false := by rw [he]; rfl
  clear hk he hp
  generalize tkF T s = t at *
  go_enter Try.func34, Try.ntmps34
  go_wp2_with fail
  go_quiet (fail)
  go_wp2_with fail
  go_ret
  exact ⟨rfl, below_drewN (Below.refl _ _) _⟩
 ·have hk : atF T s = 0 := if_neg he
  rw [hk]
  have q1 : (s.e != 0) = true := bne_iff_ne.2 he
  clear hk he hp
  go_enter Try.func34, Try.ntmps34
  go_wp2_with fail
  go_ret
  exact ⟨rfl, Below.refl _ _⟩
set_option maxHeartbeats 1000000 in
theorem is_any (w : World) (R g c : Nat) (T : List Tok) (s : PS) (x : List UInt8) (hp : PAt w R g c T s) :
  Calls Try.prog 35 #[.pointer (some ⟨R, 0, none⟩), .string ⟨x.toArray⟩] w fun e w' => e = .returned (.bool (isF T s x)) ∧ Below w.heap.size w w' := by
 have HP := Lib.hid hp
 obtain ⟨b, hb⟩ : ∃ b, isF T s x = b := ⟨_, rfl⟩
 rw [hb]
 unfold isF at hb
 have HB := Lib.hid hb
 have i1 : (0 : Int) ≤ (s.i : Int) := by omega
 have i2 : (s.i : Int) < (T.length : Int) := by have := hp.lt; omega
 have CK := Lib.hid (kind_any w R g c T s hp)
 clear hb hp
 generalize kdF T s = k at *
 go_enter Try.func35, Try.ntmps35
 go_wp2_with fail
 refine CK.out.mono ?_
 rintro e w1 ⟨rfl, b1⟩
 have H1 := HP.out.below b1 (Nat.le_refl _)
 have c0 := H1.c0
 have c1 := H1.c1
 obtain ⟨_, x1, _, _⟩ := H1.t
 have B1 := Lib.hid b1
 clear b1 H1 CK
 generalize tkF T s = t at *
 by_cases h5 : k = 5
 ·have q1 : (k == 5) = true := beq_iff_eq.2 h5
  have hh : (t.text == x) = b := by rw [← HB.out, q1, Bool.true_or, Bool.true_and]
  clear h5 HB
  go_wp2_with fail
  go_quiet (fail)
  go_wp2_with fail
  go_ret
  exact ⟨rfl, below_drewN B1.out _⟩
 ·have q1 : (k == 5) = false := beq_eq_false_iff_ne.2 h5
  by_cases h6 : k = 6
  ·have q2 : (k == 6) = true := beq_iff_eq.2 h6
   have hh : (t.text == x) = b := by rw [← HB.out, q1, q2, Bool.false_or, Bool.true_and]
   clear h5 h6 HB
   go_wp2_with fail
   go_quiet (fail)
   go_wp2_with fail
   go_ret
   exact ⟨rfl, below_drewN B1.out _⟩
  ·have q2 : (k == 6) = false := beq_eq_false_iff_ne.2 h6
   have hh : b = false := by rw [← HB.out, q1, q2]; rfl
   clear h5 h6 HB
   go_wp2_with fail
   go_quiet (fail)
   go_wp2_with fail
   go_ret
   exact ⟨by rw [hh]; rfl, below_drewN B1.out _⟩
end Go.Proofs.Ytgjchgmlogbmmaa
/- The walks of layer 5, the document's: an error, a step, what is wanted, a text, one deeper. -/
namespace Go.Proofs.Ytgjchgmlogbmmaa
open Go.RowKit
set_option linter.unusedVariables false
attribute [local go_sem ↓] Go.wp_at_zero Go.wp_at_succ

set_option maxHeartbeats 1000000 in
theorem fail_any (w : World) (R g c : Nat) (T : List Tok) (s : PS) (k : Int) (hp : PAt w R g c T s) :
  Calls Try.prog 36 #[.pointer (some ⟨R, 0, none⟩), .int .i64 k] w fun e w' => e = .returned (.tuple #[]) ∧ PAt w' R g c T (failF T s k) ∧ But R w.heap.size w w' := by
 have HP := Lib.hid hp
 have c0 := hp.c0
 have c1 := hp.c1
 have c3 := hp.c3
 have c5 := hp.c5
 have f3 := hp.free 3
 have f5 := hp.free 5
 have i1 : (0 : Int) ≤ (s.i : Int) := by omega
 have i2 : (s.i : Int) < (T.length : Int) := by have := hp.lt; omega
 by_cases he : s.e = 0
 ·have hk : failF T s k = { s with e := k, bad := (tkF T s).at_ } := if_pos he
  rw [hk]
  have q1 : (s.e == 0) = true := beq_iff_eq.2 he
  clear hk he hp c0 c1 c3 c5
  have c5 := HP.out.c5
  go_enter Try.func36, Try.ntmps36
  go_upto_region 2 with (fail)
  have HP2 : Hid (PAt (w.setCell ⟨R, 5, none⟩ (.int .i64 k)) R g c T { s with e := k }) := HP.out.upd 5 _ rfl HP.out.lt HP.out.deep
  have HB := Lib.hid ((But.refl R w.heap.size w).set 5 (.int .i64 k))
  clear c5
  generalize w.setCell ⟨R, 5, none⟩ (.int .i64 k) = w2 at *
  have c0 := HP2.out.c0
  have c1 := HP2.out.c1
  have c3 := HP2.out.c3
  obtain ⟨_, _, _, x3⟩ := HP2.out.t
  have f3 := HP2.out.free 3
  dsimp only at c0 c1 c3 x3
  have ht : tkF T { s with e := k } = tkF T s := rfl
  rw [ht] at x3
  go_still_tail 14, (by kernel_rfl)
  repeat still_step
  go_wp2_with fail
  go_end0
  exact ⟨rfl, (HP2.out.upd (s' := { s with e := k, bad := (tkF T s).at_ }) 3 _ rfl HP.out.lt HP.out.deep).drew, (HB.out.set 3 _).drew⟩
 ·have hk : failF T s k = s := if_neg he
  rw [hk]
  have q1 : (s.e == 0) = false := beq_eq_false_iff_ne.2 he
  clear hk he hp
  go_enter Try.func36, Try.ntmps36
  go_wp2_with fail
  go_end0
  exact ⟨rfl, HP.out, But.refl _ _ _⟩
/-- A token's value. -/
def tokV (t : Tok) : Value := .agg #[.int .i64 t.kind, .string ⟨t.text.toArray⟩, .int .i64 t.num, .int .i64 (t.at_ : Int)]
set_option maxHeartbeats 2000000 in
theorem step_any (w : World) (R g c : Nat) (T : List Tok) (s : PS) (E : Ends T) (hp : PAt w R g c T s) :
  Calls Try.prog 50 #[.pointer (some ⟨R, 0, none⟩)] w fun e w' => e = .returned (tokV (stepT T s)) ∧ PAt w' R g c T (stepF T s) ∧ But R w.heap.size w w' := by
 have HZ : Hid (Whole (w.alloc (.cells #[.int .i64 0, .string ⟨#[]⟩, .int .i64 0, .int .i64 0] 67)) w.heap.size 67 #[.int .i64 0, .string ⟨#[]⟩, .int .i64 0, .int .i64 0]) := Whole.made _ _ _
 have HB : Hid (Below w.heap.size w (w.alloc (.cells #[.int .i64 0, .string ⟨#[]⟩, .int .i64 0, .int .i64 0] 67))) := (Below.refl _ _).alloc (Nat.le_refl _) _
 have HP := Lib.hid (hp.alloc (.cells #[.int .i64 0, .string ⟨#[]⟩, .int .i64 0, .int .i64 0] 67))
 have HP0 := Lib.hid hp
 have HR := Lib.hid hp.rlt
 have HL := Lib.hid hp.tk.1
 have HK := Lib.hid (fun h => kd_lt E hp.lt (s := s) h)
 obtain ⟨t, ht⟩ : ∃ t, stepT T s = t := ⟨_, rfl⟩
 obtain ⟨s', hs'⟩ : ∃ s', stepF T s = s' := ⟨_, rfl⟩
 rw [ht, hs']
 have HT := Lib.hid ht
 have HS := Lib.hid hs'
 clear hp ht hs'
 go_enter Try.func50, Try.ntmps50
 go_upto_region 1 with (fail)
 generalize w.alloc (.cells #[.int .i64 0, .string ⟨#[]⟩, .int .i64 0, .int .i64 0] 67) = w2 at *
 go_wp2_with fail
 refine (kind_any w2 R g c T s HP.out).mono ?_
 rintro e w3 ⟨rfl, b3⟩
 have HP3 := Lib.hid (HP.out.below b3 (Nat.le_refl _))
 have HZ3 := Lib.hid (HZ.out.below b3 HZ.out.lt)
 have HB3 := Lib.hid (HB.out.trans (b3.mono HB.out.size))
 clear b3 HZ HB HP
 by_cases hk : kdF T s = 0
 ·have h1 : ⟨0, [], 0, 0⟩ = t := by rw [← HT.out]; exact (if_pos hk).symm
  have h2 : s = s' := by rw [← HS.out]; exact (if_pos hk).symm
  subst h1 h2
  have q1 : (kdF T s == 0) = true := beq_iff_eq.2 hk
  clear hk HK HT HS
  generalize kdF T s = k at *
  have z0 : w3.cell? ⟨w.heap.size, 0, none⟩ = some (.int .i64 0) := HZ3.out.cell 0
  have z1 : w3.cell? ⟨w.heap.size, 1, none⟩ = some (.string ⟨#[]⟩) := HZ3.out.cell 1
  have z2 : w3.cell? ⟨w.heap.size, 2, none⟩ = some (.int .i64 0) := HZ3.out.cell 2
  have z3 : w3.cell? ⟨w.heap.size, 3, none⟩ = some (.int .i64 0) := HZ3.out.cell 3
  have y0 := HZ3.out.free 0
  have y1 := HZ3.out.free 1
  have y2 := HZ3.out.free 2
  have y3 := HZ3.out.free 3
  go_wp2_with fail
  have HZF : Hid (Whole ((((w3.setCell ⟨w.heap.size, 0, none⟩ (.int .i64 0)).setCell ⟨w.heap.size, 1, none⟩ (.string ⟨#[]⟩)).setCell ⟨w.heap.size, 2, none⟩ (.int .i64 0)).setCell ⟨w.heap.size, 3, none⟩ (.int .i64 0)) w.heap.size 67 #[.int .i64 0, .string ⟨#[]⟩, .int .i64 0, .int .i64 0]) := (((HZ3.out.put 0 (.int .i64 0)).put 1 (.string ⟨#[]⟩)).put 2 (.int .i64 0)).put 3 (.int .i64 0)
  have HBW : Hid (Below w.heap.size w ((((w3.setCell ⟨w.heap.size, 0, none⟩ (.int .i64 0)).setCell ⟨w.heap.size, 1, none⟩ (.string ⟨#[]⟩)).setCell ⟨w.heap.size, 2, none⟩ (.int .i64 0)).setCell ⟨w.heap.size, 3, none⟩ (.int .i64 0))) := (((HB3.out.setCell (p := ⟨w.heap.size, 0, none⟩) (Nat.le_refl _) _).setCell (p := ⟨w.heap.size, 1, none⟩) (Nat.le_refl _) _).setCell (p := ⟨w.heap.size, 2, none⟩) (Nat.le_refl _) _).setCell (p := ⟨w.heap.size, 3, none⟩) (Nat.le_refl _) _
  have HPF := Lib.hid (HP0.out.below HBW.out (Nat.le_refl _))
  generalize ((((w3.setCell ⟨w.heap.size, 0, none⟩ (.int .i64 0)).setCell ⟨w.heap.size, 1, none⟩ (.string ⟨#[]⟩)).setCell ⟨w.heap.size, 2, none⟩ (.int .i64 0)).setCell ⟨w.heap.size, 3, none⟩ (.int .i64 0)) = wf at *
  have g0 := HZF.out.cell 0
  have g1 := HZF.out.cell 1
  have g2 := HZF.out.cell 2
  have g3 := HZF.out.cell 3
  simp only [List.getElem?_toArray, List.getElem?_cons_zero, List.getElem?_cons_succ] at g0 g1 g2 g3
  exact bodyPost_ret (v := tokV ⟨0, [], 0, 0⟩) (by simp [results, Try.results50, go_sem, tokV, g0, g1, g2, g3]) rfl ⟨rfl, HPF.out, .of_below HBW.out⟩
 ·have h1 : tkF T s = t := by rw [← HT.out]; exact (if_neg hk).symm
  have h2 : { s with i := s.i + 1 } = s' := by rw [← HS.out]; exact (if_neg hk).symm
  subst h2
  have HTK := Lib.hid h1
  clear h1
  have q1 : (kdF T s == 0) = false := beq_eq_false_iff_ne.2 hk
  have hl := (HK.out hk).2
  have HLT := Lib.hid hl
  have hlen := HP3.out.len
  clear hk HK hl HT HS
  generalize kdF T s = k at *
  have c0 := HP3.out.c0
  have c1 := HP3.out.c1
  obtain ⟨x0, x1, x2, x3⟩ := HP3.out.t
  rw [HTK.out] at x0 x1 x2 x3
  have i1 : (0 : Int) ≤ (s.i : Int) := by omega
  have i2 : (s.i : Int) < (T.length : Int) := by have := HP3.out.lt; omega
  go_upto_region 3 with (fail)
  go_region_held3 (fun W => W.cell? ⟨R, 0, none⟩ = some (.slice (some ⟨g, 0, none⟩) T.length c) ∧ W.cell? ⟨R, 1, none⟩ = some (.int .i64 (s.i : Int)) ∧ W.cell? ⟨g, s.i * 4, none⟩ = some (.int .i64 t.kind) ∧ W.cell? ⟨g, s.i * 4 + 1, none⟩ = some (.string ⟨t.text.toArray⟩) ∧ W.cell? ⟨g, s.i * 4 + 2, none⟩ = some (.int .i64 t.num) ∧ W.cell? ⟨g, s.i * 4 + 3, none⟩ = some (.int .i64 (t.at_ : Int)))
   (first | go_keep)
   (first | fail)
  go_upto_region 4 with (fail)
  have HX : Hid (Whole (w3.alloc (Obj.cells #[.int .i64 t.kind, .string ⟨t.text.toArray⟩, .int .i64 t.num, .int .i64 (t.at_ : Int)] 67)).drew w3.heap.size 67 #[.int .i64 t.kind, .string ⟨t.text.toArray⟩, .int .i64 t.num, .int .i64 (t.at_ : Int)]) := Whole.made _ _ _
  have HP4 := Lib.hid (HP3.out.alloc (Obj.cells #[.int .i64 t.kind, .string ⟨t.text.toArray⟩, .int .i64 t.num, .int .i64 (t.at_ : Int)] 67)).drew
  have HZ4 : Hid (Whole (w3.alloc (Obj.cells #[.int .i64 t.kind, .string ⟨t.text.toArray⟩, .int .i64 t.num, .int .i64 (t.at_ : Int)] 67)).drew w.heap.size 67 #[.int .i64 0, .string ⟨#[]⟩, .int .i64 0, .int .i64 0]) := HZ3.out.alloc (Obj.cells #[.int .i64 t.kind, .string ⟨t.text.toArray⟩, .int .i64 t.num, .int .i64 (t.at_ : Int)] 67)
  have HB4 := Lib.hid (HB3.out.alloc HB3.out.size (Obj.cells #[.int .i64 t.kind, .string ⟨t.text.toArray⟩, .int .i64 t.num, .int .i64 (t.at_ : Int)] 67)).drew
  have HG : Hid (w.heap.size < w3.heap.size) := HZ3.out.lt
  clear HP3 HZ3 HB3 c0 c1 x0 x1 x2 x3
  generalize (w3.alloc (Obj.cells #[.int .i64 t.kind, .string ⟨t.text.toArray⟩, .int .i64 t.num, .int .i64 (t.at_ : Int)] 67)).drew = w4 at *
  generalize w3.heap.size = G at *
  have c1 := HP4.out.c1
  have f1 := HP4.out.free 1
  have i3 : (s.i : Int) ≤ 100000 := by have := HP4.out.lt; omega
  go_upto_region 5 with (fail)
  have HP5 : Hid (PAt (w4.setCell ⟨R, 1, none⟩ (.int .i64 ((s.i : Int) + 1))) R g c T { s with i := s.i + 1 }) := HP4.out.upd 1 _ rfl HLT.out HP4.out.deep
  have HX5 := Lib.hid (HX.out.far (p := ⟨R, 1, none⟩) (by show G ≠ R; have := HG.out; have := HR.out; omega) (.int .i64 ((s.i : Int) + 1)))
  have HZ5 := Lib.hid (HZ4.out.far (p := ⟨R, 1, none⟩) (by show w.heap.size ≠ R; have := HR.out; omega) (.int .i64 ((s.i : Int) + 1)))
  have HB5 := Lib.hid ((But.of_below (H := R) HB4.out).set 1 (.int .i64 ((s.i : Int) + 1)))
  clear HP4 HX HZ4 HB4 c1 f1
  generalize w4.setCell ⟨R, 1, none⟩ (.int .i64 ((s.i : Int) + 1)) = w5 at *
  have t0 : w5.cell? ⟨G, 0, none⟩ = some (.int .i64 t.kind) := HX5.out.cell 0
  have t1 : w5.cell? ⟨G, 1, none⟩ = some (.string ⟨t.text.toArray⟩) := HX5.out.cell 1
  have t2 : w5.cell? ⟨G, 2, none⟩ = some (.int .i64 t.num) := HX5.out.cell 2
  have t3 : w5.cell? ⟨G, 3, none⟩ = some (.int .i64 (t.at_ : Int)) := HX5.out.cell 3
  have z0 : w5.cell? ⟨w.heap.size, 0, none⟩ = some (.int .i64 0) := HZ5.out.cell 0
  have z1 : w5.cell? ⟨w.heap.size, 1, none⟩ = some (.string ⟨#[]⟩) := HZ5.out.cell 1
  have z2 : w5.cell? ⟨w.heap.size, 2, none⟩ = some (.int .i64 0) := HZ5.out.cell 2
  have z3 : w5.cell? ⟨w.heap.size, 3, none⟩ = some (.int .i64 0) := HZ5.out.cell 3
  have y0 := HZ5.out.free 0
  have y1 := HZ5.out.free 1
  have y2 := HZ5.out.free 2
  have y3 := HZ5.out.free 3
  go_wp2_with fail
  have HZF : Hid (Whole ((((w5.setCell ⟨w.heap.size, 0, none⟩ (.int .i64 t.kind)).setCell ⟨w.heap.size, 1, none⟩ (.string ⟨t.text.toArray⟩)).setCell ⟨w.heap.size, 2, none⟩ (.int .i64 t.num)).setCell ⟨w.heap.size, 3, none⟩ (.int .i64 (t.at_ : Int))) w.heap.size 67 #[.int .i64 t.kind, .string ⟨t.text.toArray⟩, .int .i64 t.num, .int .i64 (t.at_ : Int)]) := (((HZ5.out.put 0 (.int .i64 t.kind)).put 1 (.string ⟨t.text.toArray⟩)).put 2 (.int .i64 t.num)).put 3 (.int .i64 (t.at_ : Int))
  have HPF := Lib.hid ((((HP5.out.setCell (p := ⟨w.heap.size, 0, none⟩) (Nat.ne_of_gt HR.out) (Nat.ne_of_gt HL.out) (.int .i64 t.kind)).setCell (p := ⟨w.heap.size, 1, none⟩) (Nat.ne_of_gt HR.out) (Nat.ne_of_gt HL.out) (.string ⟨t.text.toArray⟩)).setCell (p := ⟨w.heap.size, 2, none⟩) (Nat.ne_of_gt HR.out) (Nat.ne_of_gt HL.out) (.int .i64 t.num)).setCell (p := ⟨w.heap.size, 3, none⟩) (Nat.ne_of_gt HR.out) (Nat.ne_of_gt HL.out) (.int .i64 (t.at_ : Int)))
  have HBW := Lib.hid ((((HB5.out.setCell (p := ⟨w.heap.size, 0, none⟩) (Nat.le_refl _) (.int .i64 t.kind)).setCell (p := ⟨w.heap.size, 1, none⟩) (Nat.le_refl _) (.string ⟨t.text.toArray⟩)).setCell (p := ⟨w.heap.size, 2, none⟩) (Nat.le_refl _) (.int .i64 t.num)).setCell (p := ⟨w.heap.size, 3, none⟩) (Nat.le_refl _) (.int .i64 (t.at_ : Int)))
  generalize ((((w5.setCell ⟨w.heap.size, 0, none⟩ (.int .i64 t.kind)).setCell ⟨w.heap.size, 1, none⟩ (.string ⟨t.text.toArray⟩)).setCell ⟨w.heap.size, 2, none⟩ (.int .i64 t.num)).setCell ⟨w.heap.size, 3, none⟩ (.int .i64 (t.at_ : Int))) = wf at *
  have g0 := HZF.out.cell 0
  have g1 := HZF.out.cell 1
  have g2 := HZF.out.cell 2
  have g3 := HZF.out.cell 3
  simp only [List.getElem?_toArray, List.getElem?_cons_zero, List.getElem?_cons_succ] at g0 g1 g2 g3
  exact bodyPost_ret (v := tokV t) (by simp [results, Try.results50, go_sem, tokV, g0, g1, g2, g3]) rfl ⟨rfl, HPF.out, HBW.out⟩
end Go.Proofs.Ytgjchgmlogbmmaa
/- The walks of layer 5, the document's: what is wanted, a text, one deeper, one of three signs, what begins an atom. -/
namespace Go.Proofs.Ytgjchgmlogbmmaa
open Go.RowKit
set_option linter.unusedVariables false
attribute [local go_sem ↓] Go.wp_at_zero Go.wp_at_succ

theorem want_any (w : World) (R g c : Nat) (T : List Tok) (s : PS) (x : List UInt8) (E : Ends T) (hp : PAt w R g c T s) :
  Calls Try.prog 38 #[.pointer (some ⟨R, 0, none⟩), .string ⟨x.toArray⟩] w fun e w' => e = .returned (.tuple #[]) ∧ PAt w' R g c T (wantF T s x) ∧ But R w.heap.size w w' := by
 have HP := Lib.hid hp
 have CI := Lib.hid (is_any w R g c T s x hp)
 obtain ⟨s', hs'⟩ : ∃ s', wantF T s x = s' := ⟨_, rfl⟩
 rw [hs']
 have HS := Lib.hid hs'
 clear hp hs'
 obtain ⟨b, hb⟩ : ∃ b, isF T s x = b := ⟨_, rfl⟩
 rw [hb] at CI
 have HBB := Lib.hid hb
 clear hb
 go_enter Try.func38, Try.ntmps38
 go_wp2_with fail
 refine CI.out.mono ?_
 rintro e w1 ⟨rfl, b1⟩
 have H1 := Lib.hid (HP.out.below b1 (Nat.le_refl _))
 have B1 := Lib.hid b1
 clear b1 CI
 rcases b with _ | _
 ·have h1 : failF T s 14 = s' := by rw [← HS.out]; unfold wantF; rw [HBB.out, if_neg (by decide)]
  subst h1
  go_wp2_with fail
  refine (fail_any w1 R g c T s 14 H1.out).mono ?_
  rintro e w2 ⟨rfl, h2, b2⟩
  go_wp2_with fail
  refine bodyPost_ret (v := .tuple #[]) (results_none rfl _ _ _) rfl ?_
  exact ⟨rfl, h2, (But.of_below B1.out).trans (b2.mono B1.out.size)⟩
 ·have h1 : stepF T s = s' := by rw [← HS.out]; unfold wantF; rw [HBB.out, if_pos rfl]
  subst h1
  go_wp2_with fail
  refine (step_any w1 R g c T s E H1.out).mono ?_
  rintro e w2 ⟨rfl, h2, b2⟩
  go_wp2_with fail
  go_end0
  exact ⟨rfl, h2, (But.of_below B1.out).trans (b2.mono B1.out.size)⟩
theorem text_any (w : World) (R g c : Nat) (T : List Tok) (s : PS) (k : Int) (E : Ends T) (hp : PAt w R g c T s) :
  Calls Try.prog 51 #[.pointer (some ⟨R, 0, none⟩), .int .i64 k] w fun e w' => e = .returned (.string ⟨(textT T s k).toArray⟩) ∧ PAt w' R g c T (textF T s k) ∧ But R w.heap.size w w' := by
 have HP := Lib.hid hp
 have CI := Lib.hid (kind_any w R g c T s hp)
 obtain ⟨s', hs'⟩ : ∃ s', textF T s k = s' := ⟨_, rfl⟩
 obtain ⟨t, ht⟩ : ∃ t, textT T s k = t := ⟨_, rfl⟩
 rw [hs', ht]
 have HS := Lib.hid hs'
 have HT := Lib.hid ht
 clear hp hs' ht
 by_cases hk : kdF T s = k
 ·have h1 : stepF T s = s' := by rw [← HS.out]; unfold textF; rw [if_pos hk]
  have h2 : (stepT T s).text = t := by rw [← HT.out]; unfold textT; rw [if_pos hk]
  subst h1
  have HTT := Lib.hid h2
  clear h2
  have q1 : (k != k) = false := bne_self_eq_false k
  rw [hk] at CI
  clear hk HS HT
  go_enter Try.func51, Try.ntmps51
  go_wp2_with fail
  refine CI.out.mono ?_
  rintro e w1 ⟨rfl, b1⟩
  have H1 := Lib.hid (HP.out.below b1 (Nat.le_refl _))
  have B1 := Lib.hid b1
  clear b1 CI
  go_wp2_with fail
  refine (step_any w1 R g c T s E H1.out).mono ?_
  rintro e w2 ⟨rfl, h2, b2⟩
  have H2 := Lib.hid h2
  have B2 := Lib.hid b2
  clear h2 b2
  have hq : (stepT T s).text = t := HTT.out
  clear HTT
  generalize stepT T s = u at *
  unfold tokV
  go_wp2_with fail
  go_ret
  exact ⟨rfl, H2.out.alloc _, ((But.of_below B1.out).trans (B2.out.mono B1.out.size)).alloc (Nat.le_trans B1.out.size B2.out.size) _⟩
 ·have h1 : failF T s 14 = s' := by rw [← HS.out]; unfold textF; rw [if_neg hk]
  have h2 : [] = t := by rw [← HT.out]; unfold textT; rw [if_neg hk]
  subst h1 h2
  have q1 : (kdF T s != k) = true := bne_iff_ne.2 hk
  clear hk HS HT
  go_enter Try.func51, Try.ntmps51
  go_wp2_with fail
  refine CI.out.mono ?_
  rintro e w1 ⟨rfl, b1⟩
  have H1 := Lib.hid (HP.out.below b1 (Nat.le_refl _))
  have B1 := Lib.hid b1
  clear b1 CI
  generalize kdF T s = kk at *
  go_wp2_with fail
  refine (fail_any w1 R g c T s 14 H1.out).mono ?_
  rintro e w2 ⟨rfl, h2, b2⟩
  go_wp2_with fail
  go_ret
  exact ⟨rfl, h2, (But.of_below B1.out).trans (b2.mono B1.out.size)⟩
theorem enter_any (w : World) (R g c : Nat) (T : List Tok) (s : PS) (hp : PAt w R g c T s) :
  Calls Try.prog 54 #[.pointer (some ⟨R, 0, none⟩)] w fun e w' => e = .returned (.bool (enterB T s)) ∧ PAt w' R g c T (enterF T s) ∧ But R w.heap.size w w' := by
 have HP := Lib.hid hp
 obtain ⟨s', hs'⟩ : ∃ s', enterF T s = s' := ⟨_, rfl⟩
 obtain ⟨t, ht⟩ : ∃ t, enterB T s = t := ⟨_, rfl⟩
 rw [hs', ht]
 have HS := Lib.hid hs'
 have HT := Lib.hid ht
 have c2 := hp.c2
 have c5 := hp.c5
 clear hp hs' ht
 by_cases hd : s.deep = 40
 ·have q1 : ((s.deep : Int) == 40) = true := beq_iff_eq.2 (by omega)
  have h0 : deepF T s = failF T s 15 := if_pos hd
  have h1 : (failF T s 15).e ≠ 0 := by
   unfold failF; split
   ·show (15 : Int) ≠ 0; decide
   ·rename_i h; exact h
  have h2 : failF T s 15 = s' := by rw [← HS.out]; unfold enterF; rw [h0, if_neg h1]
  have h3 : false = t := by rw [← HT.out]; unfold enterB; rw [h0]; exact (decide_eq_false h1).symm
  subst h2 h3
  have HE := Lib.hid h1
  clear h0 h1 HS HT hd c5
  go_enter Try.func54, Try.ntmps54
  go_wp2_with fail
  refine (fail_any w R g c T s 15 HP.out).mono ?_
  rintro e w1 ⟨rfl, h2, b2⟩
  have H2 := Lib.hid h2
  have c5 := h2.c5
  have q2 : ((failF T s 15).e != 0) = true := bne_iff_ne.2 HE.out
  have B2 := Lib.hid b2
  clear h2 b2
  generalize (failF T s 15).e = ee at *
  go_wp2_with fail
  go_ret
  exact ⟨rfl, H2.out, B2.out⟩
 ·have q1 : ((s.deep : Int) == 40) = false := beq_eq_false_iff_ne.2 (by omega)
  have h0 : deepF T s = s := if_neg hd
  by_cases he : s.e = 0
  ·have h2 : { s with deep := s.deep + 1 } = s' := by rw [← HS.out]; unfold enterF; rw [h0, if_pos he]
   have h3 : true = t := by rw [← HT.out]; unfold enterB; rw [h0]; exact (decide_eq_true he).symm
   subst h2 h3
   have q2 : (s.e != 0) = false := by rw [he]; rfl
   have hdl : s.deep + 1 ≤ 40 := by have := HP.out.deep; omega
   have HD := Lib.hid hdl
   have f2 := HP.out.free 2
   have i3 : (s.deep : Int) ≤ 40 := by omega
   clear h0 hd he HS HT
   go_enter Try.func54, Try.ntmps54
   go_wp2_with fail
   go_ret
   exact ⟨rfl, HP.out.upd 2 _ rfl HP.out.lt HD.out, (But.refl R w.heap.size w).set 2 _⟩
  ·have h2 : s = s' := by rw [← HS.out]; unfold enterF; rw [h0, if_neg he]
   have h3 : false = t := by rw [← HT.out]; unfold enterB; rw [h0]; exact (decide_eq_false he).symm
   subst h2 h3
   have q2 : (s.e != 0) = true := bne_iff_ne.2 he
   clear h0 hd he HS HT
   go_enter Try.func54, Try.ntmps54
   go_wp2_with fail
   go_ret
   exact ⟨rfl, HP.out, But.refl _ _ _⟩
set_option maxHeartbeats 1000000 in
theorem op_any (w : World) (R g c : Nat) (T : List Tok) (s : PS) (x y z : List UInt8) (hp : PAt w R g c T s) :
  Calls Try.prog 76 #[.pointer (some ⟨R, 0, none⟩), .string ⟨x.toArray⟩, .string ⟨y.toArray⟩, .string ⟨z.toArray⟩] w fun e w' => e = .returned (.string ⟨(opF T s x y z).toArray⟩) ∧ Below w.heap.size w w' := by
 have HP := Lib.hid hp
 have CI := Lib.hid (fun (wx : World) (u : List UInt8) (hb : Below w.heap.size w wx) => is_any wx R g c T s u (hp.below hb (Nat.le_refl _)))
 obtain ⟨t, ht⟩ : ∃ t, opF T s x y z = t := ⟨_, rfl⟩
 rw [ht]
 have HT := Lib.hid ht
 clear hp ht
 unfold opF at HT
 go_enter Try.func76, Try.ntmps76
 go_wp2_with fail
 go_loopg [9] 3 (fun gk ks wr => ∃ k : Nat, ks = .int .i64 (k : Int) ∧ k + gk = 3 ∧ (1 ≤ k → isF T s x = false) ∧ (2 ≤ k → isF T s y = false) ∧ (3 ≤ k → isF T s z = false) ∧ Below w.heap.size w wr)
 case atStart => exact ⟨0, rfl, rfl, fun h => by omega, fun h => by omega, fun h => by omega, Below.refl _ _⟩
 case round =>
  obtain ⟨k, rfl, hkg, h1, h2, h3, hw⟩ := hrel
  have HW := Lib.hid hw
  rcases (by omega : k = 0 ∨ k = 1 ∨ k = 2 ∨ k = 3) with hk | hk | hk | hk
  ·subst hk
   have CK := Lib.hid (CI.out wr x hw)
   rcases hb : isF T s x with _ | _
   ·rw [hb] at CK
    have HN := Lib.hid hb
    clear hb CI
    go_wp2_with (go_at_call 35; refine CK.out.mono ?_; rintro e w1 ⟨rfl, b1⟩; have B1 := Lib.hid b1; clear b1)
    go_roundg (gk - 1)
    case measure => omega
    case rel => exact ⟨1, rfl, by omega, fun _ => HN.out, fun h => absurd h (by decide), fun h => absurd h (by decide), HW.out.trans (B1.out.mono HW.out.size)⟩
   ·rw [hb] at CK
    have HR : Hid (x = t) := by
     show _ = _
     rw [← HT.out, if_pos hb]
    clear hb CI HT h1 h2 h3
    go_wp2_with (go_at_call 35; refine CK.out.mono ?_; rintro e w1 ⟨rfl, b1⟩; have B1 := Lib.hid b1; clear b1)
    have hr := HR.out
    subst hr
    go_ret
    exact ⟨rfl, HW.out.trans (B1.out.mono HW.out.size)⟩
  ·subst hk
   have CK := Lib.hid (CI.out wr y hw)
   rcases hb : isF T s y with _ | _
   ·rw [hb] at CK
    have HN := Lib.hid hb
    clear hb CI
    go_wp2_with (go_at_call 35; refine CK.out.mono ?_; rintro e w1 ⟨rfl, b1⟩; have B1 := Lib.hid b1; clear b1)
    go_roundg (gk - 1)
    case measure => omega
    case rel => exact ⟨2, rfl, by omega, fun _ => h1 (by decide), fun _ => HN.out, fun h => absurd h (by decide), HW.out.trans (B1.out.mono HW.out.size)⟩
   ·rw [hb] at CK
    have HR : Hid (y = t) := by
     show _ = _
     rw [← HT.out, if_neg (by rw [h1 (by decide)]; decide), if_pos hb]
    clear hb CI HT h1 h2 h3
    go_wp2_with (go_at_call 35; refine CK.out.mono ?_; rintro e w1 ⟨rfl, b1⟩; have B1 := Lib.hid b1; clear b1)
    have hr := HR.out
    subst hr
    go_ret
    exact ⟨rfl, HW.out.trans (B1.out.mono HW.out.size)⟩
  ·subst hk
   have CK := Lib.hid (CI.out wr z hw)
   rcases hb : isF T s z with _ | _
   ·rw [hb] at CK
    have HN := Lib.hid hb
    clear hb CI
    go_wp2_with (go_at_call 35; refine CK.out.mono ?_; rintro e w1 ⟨rfl, b1⟩; have B1 := Lib.hid b1; clear b1)
    go_roundg (gk - 1)
    case measure => omega
    case rel => exact ⟨3, rfl, by omega, fun _ => h1 (by decide), fun _ => h2 (by decide), fun _ => HN.out, HW.out.trans (B1.out.mono HW.out.size)⟩
   ·rw [hb] at CK
    have HR : Hid (z = t) := by
     show _ = _
     rw [← HT.out, if_neg (by rw [h1 (by decide)]; decide), if_neg (by rw [h2 (by decide)]; decide), if_pos hb]
    clear hb CI HT h1 h2 h3
    go_wp2_with (go_at_call 35; refine CK.out.mono ?_; rintro e w1 ⟨rfl, b1⟩; have B1 := Lib.hid b1; clear b1)
    have hr := HR.out
    subst hr
    go_ret
    exact ⟨rfl, HW.out.trans (B1.out.mono HW.out.size)⟩
  ·subst hk
   have HR : Hid ([] = t) := by
    show _ = _
    rw [← HT.out, if_neg (by rw [h1 (by decide)]; decide), if_neg (by rw [h2 (by decide)]; decide), if_neg (by rw [h3 (by decide)]; decide)]
   clear CI HT h1 h2 h3
   go_wp2_with fail
   have hr := HR.out
   subst hr
   go_ret
   exact ⟨rfl, HW.out⟩
set_option maxHeartbeats 1000000 in
theorem begins_any (w : World) (R g c : Nat) (T : List Tok) (s : PS) (hp : PAt w R g c T s) :
  Calls Try.prog 81 #[.pointer (some ⟨R, 0, none⟩)] w fun e w' => e = .returned (.bool (beginsF T s)) ∧ Below w.heap.size w w' := by
 have HP := Lib.hid hp
 obtain ⟨t, ht⟩ : ∃ t, beginsF T s = t := ⟨_, rfl⟩
 rw [ht]
 have HT := Lib.hid ht
 have CK := Lib.hid (kind_any w R g c T s hp)
 clear hp ht
 unfold beginsF at HT
 generalize kdF T s = k at *
 go_enter Try.func81, Try.ntmps81
 go_wp2_with fail
 refine CK.out.mono ?_
 rintro e w1 ⟨rfl, b1⟩
 have H1 := Lib.hid (HP.out.below b1 (Nat.le_refl _))
 have B1 := Lib.hid b1
 clear b1 CK
 by_cases hk : k = 1 ∨ k = 2 ∨ k = 3 ∨ k = 4
 ·have ht : true = t := by
   rw [← HT.out]
   rcases hk with rfl | rfl | rfl | rfl <;> rfl
  subst ht
  clear HT
  rcases hk with rfl | rfl | rfl | rfl
  all_goals
   go_wp2_with fail
   go_ret
   exact ⟨rfl, B1.out⟩
 ·have n1 : (k == 1) = false := beq_eq_false_iff_ne.2 (fun h => hk (.inl h))
  have n2 : (k == 2) = false := beq_eq_false_iff_ne.2 (fun h => hk (.inr (.inl h)))
  have n3 : (k == 3) = false := beq_eq_false_iff_ne.2 (fun h => hk (.inr (.inr (.inl h))))
  have n4 : (k == 4) = false := beq_eq_false_iff_ne.2 (fun h => hk (.inr (.inr (.inr h))))
  have HT2 : Hid (((opF T s [40] retK matK != []) || isF T s tryK) = t) := by
   show _ = _
   rw [← HT.out, n1, n2, n3, n4]; simp
  have CO := Lib.hid (op_any w1 R g c T s [40] retK matK H1.out)
  have CT := Lib.hid (fun (wx : World) (hb : Below w1.heap.size w1 wx) => is_any wx R g c T s tryK (H1.out.below hb (Nat.le_refl _)))
  unfold retK matK at CO HT2
  unfold tryK at CT HT2
  clear HT hk
  generalize opF T s [40] [114, 101, 116, 114, 121] [109, 97, 116, 99, 104] = o at *
  generalize isF T s [116, 114, 121] = b at *
  go_wp2_with fail
  refine CO.out.mono ?_
  rintro e w2 ⟨rfl, b2⟩
  have CT2 := Lib.hid (CT.out w2 b2)
  have B2 := Lib.hid b2
  clear b2 CO CT
  go_wp2_with fail
  refine CT2.out.mono ?_
  rintro e w3 ⟨rfl, b3⟩
  have B3 := Lib.hid ((B1.out.trans (B2.out.mono B1.out.size)).trans (b3.mono (Nat.le_trans B1.out.size B2.out.size)))
  clear b3 CT2 B1 B2
  have ht := HT2.out
  subst ht
  rcases o with _ | ⟨x, o⟩
  ·go_wp2_with fail
   go_ret
   exact ⟨rfl, B3.out⟩
  ·go_wp2_with fail
   go_ret
   exact ⟨rfl, B3.out⟩
end Go.Proofs.Ytgjchgmlogbmmaa
/- Nodes in memory: what is read, and a node that is being made. -/
namespace Go.Proofs.Ytgjchgmlogbmmaa
open Go.RowKit
set_option linter.unusedVariables false

/-- Where a node's names and kids lie. -/
structure Fr where
 na : Option Addr
 nc : Nat
 ka : Option Addr
 kc : Nat
def ndL (x : Nd) (f : Fr) : List Value := [.int .i64 x.kd, .string ⟨x.tx.toArray⟩, .int .i64 x.nm, .int .i64 (x.at_ : Int), .slice f.na x.ns.length f.nc, .slice f.ka x.ks.length f.kc]
def ndV (x : Nd) (f : Fr) : Value := .agg #[.int .i64 x.kd, .string ⟨x.tx.toArray⟩, .int .i64 x.nm, .int .i64 (x.at_ : Int), .slice f.na x.ns.length f.nc, .slice f.ka x.ks.length f.kc]
def fr0 : Fr := ⟨none, 0, none, 0⟩
/-- A node that can be read: its blocks are among b. -/
inductive NodeIn (w : World) : (Nat → Prop) → Nd → Fr → Prop
 | mk {b : Nat → Prop} {x : Nd} {f : Fr} (hn0 : x.ns = [] → f.na = none ∧ f.nc = 0)
   (hn : x.ns ≠ [] → ∃ g, f.na = some ⟨g, 0, none⟩ ∧ b g ∧ g < w.heap.size ∧ ∀ k (h : k < x.ns.length), w.cell? ⟨g, k, none⟩ = some (.string ⟨x.ns[k].toArray⟩))
   (hk0 : x.ks = [] → f.ka = none ∧ f.kc = 0) (g : Nat) (fs : Nat → Fr)
   (hk : x.ks ≠ [] → f.ka = some ⟨g, 0, none⟩ ∧ b g ∧ g < w.heap.size)
   (hc : ∀ k (h : k < x.ks.length) j v, (ndL x.ks[k] (fs k))[j]? = some v → w.cell? ⟨g, k * 6 + j, none⟩ = some v)
   (hs : ∀ k (h : k < x.ks.length), NodeIn w (fun a => b a ∧ a ≠ g) x.ks[k] (fs k)) : NodeIn w b x f
theorem NodeIn.mono {w : World} {b : Nat → Prop} {x : Nd} {f : Fr} (h : NodeIn w b x f) : ∀ {b' : Nat → Prop}, (∀ a, b a → a < w.heap.size → b' a) → NodeIn w b' x f := by
 induction h with
 | mk hn0 hn hk0 g fs hk hc hs ih =>
  intro b' hb
  refine .mk hn0 (fun h => ?_) hk0 g fs (fun h => ?_) hc (fun k h => ih k h (fun a ha hl => ⟨hb a ha.1 hl, ha.2⟩))
  ·obtain ⟨g', e1, e2, e3, e4⟩ := hn h
   exact ⟨g', e1, hb g' e2 e3, e3, e4⟩
  ·obtain ⟨e1, e2, e3⟩ := hk h
   exact ⟨e1, hb g e2 e3, e3⟩
theorem NodeIn.frame {w w' : World} {b : Nat → Prop} {x : Nd} {f : Fr} (h : NodeIn w b x f) (hs : w.heap.size ≤ w'.heap.size) (hb : ∀ a, b a → a < w.heap.size → w'.heap[a]? = w.heap[a]?) : NodeIn w' b x f := by
 induction h with
 | mk hn0 hn hk0 g fs hk hc hs' ih =>
  refine .mk hn0 (fun h => ?_) hk0 g fs (fun h => ?_) (fun k h j v hv => ?_) (fun k h => ih k h (fun a ha hl => hb a ha.1 hl))
  ·obtain ⟨g', e1, e2, e3, e4⟩ := hn h
   exact ⟨g', e1, e2, Nat.lt_of_lt_of_le e3 hs, fun k hk => (World.cell?_of_block (hb g' e2 e3)).trans (e4 k hk)⟩
  ·obtain ⟨e1, e2, e3⟩ := hk h
   exact ⟨e1, e2, Nat.lt_of_lt_of_le e3 hs⟩
  ·obtain ⟨e1, e2, e3⟩ := hk (fun e => by rw [e] at h; simp at h)
   exact (World.cell?_of_block (hb g e2 e3)).trans (hc k h j v hv)
theorem NodeIn.later {w w' : World} {b : Nat → Prop} {x : Nd} {f : Fr} {B : Nat} (h : NodeIn w b x f) (hb : Below B w w') (hB : w.heap.size ≤ B) : NodeIn w' b x f :=
 h.frame hb.size fun a _ hl => hb.block a (Nat.lt_of_lt_of_le hl hB)
/-- All as it was but block H, in which nothing of it lies. -/
theorem NodeIn.but {w w' : World} {b : Nat → Prop} {x : Nd} {f : Fr} {B H : Nat} (h : NodeIn w b x f) (hb : But H B w w') (hB : w.heap.size ≤ B) (hn : ∀ a, b a → a ≠ H) : NodeIn w' b x f :=
 h.frame hb.size fun a ha hl => hb.block a (Nat.lt_of_lt_of_le hl hB) (hn a ha)
theorem NodeIn.leaf (w : World) (b : Nat → Prop) {x : Nd} (h1 : x.ns = []) (h2 : x.ks = []) : NodeIn w b x fr0 :=
 .mk (fun _ => ⟨rfl, rfl⟩) (fun h => absurd h1 h) (fun _ => ⟨rfl, rfl⟩) 0 (fun _ => fr0) (fun h => absurd h2 h) (fun k h => by rw [h2] at h; simp at h) (fun k h => by rw [h2] at h; simp at h)
/-- The cells of nodes in a row. -/
def flatL : List Nd → List Fr → List Value
 | x :: xs, f :: fs => ndL x f ++ flatL xs fs
 | _, _ => []
theorem ndL_len (x : Nd) (f : Fr) : (ndL x f).length = 6 := rfl
theorem flatL_len : ∀ (xs : List Nd) (fs : List Fr), fs.length = xs.length → (flatL xs fs).length = xs.length * 6
 | [], [], _ => rfl
 | x :: xs, f :: fs, h => by
  rw [flatL, List.length_append, ndL_len, flatL_len xs fs (by simpa using h), List.length_cons]; omega
 | [], _ :: _, h => by simp at h
 | _ :: _, [], h => by simp at h
theorem flatL_snoc : ∀ (xs : List Nd) (fs : List Fr) (x : Nd) (f : Fr), fs.length = xs.length → flatL (xs ++ [x]) (fs ++ [f]) = flatL xs fs ++ ndL x f
 | [], [], x, f, _ => by simp [flatL]
 | y :: xs, g :: fs, x, f, h => by
  rw [List.cons_append, List.cons_append, flatL, flatL, flatL_snoc xs fs x f (by simpa using h), List.append_assoc]
 | [], _ :: _, _, _, h => by simp at h
 | _ :: _, [], _, _, h => by simp at h
theorem flatL_get : ∀ (xs : List Nd) (fs : List Fr) (k : Nat) (h : k < xs.length) (h2 : k < fs.length) (j : Nat) (v : Value), (ndL xs[k] fs[k])[j]? = some v → (flatL xs fs)[k * 6 + j]? = some v
 | x :: xs, f :: fs, 0, _, _, j, v, hv => by
  have hj : j < 6 := by
   have := (List.getElem?_eq_some_iff.1 hv).1
   rw [ndL_len] at this; exact this
  rw [flatL, Nat.zero_mul, Nat.zero_add, List.getElem?_append_left (by rw [ndL_len]; exact hj)]
  exact hv
 | x :: xs, f :: fs, k + 1, h, h2, j, v, hv => by
  rw [flatL, List.getElem?_append_right (by rw [ndL_len]; omega), ndL_len, show (k + 1) * 6 + j - 6 = k * 6 + j by omega]
  exact flatL_get xs fs k (by simpa using h) (by simpa using h2) j v hv
 | [], _, _, h, _, _, _, _ => by simp at h
 | _ :: _, [], _, _, h, _, _, _ => by simp at h
def strV (l : List UInt8) : Value := .string ⟨l.toArray⟩
/-- A node of the call's own, in block N. -/
structure Box (w : World) (N base : Nat) (x : Nd) (f : Fr) (fs : List Fr) : Prop where
 box : Whole w N 25 (ndL x f).toArray
 lo : base ≤ N
 nam : w.ownsRow base 9 1 (.slice f.na x.ns.length f.nc) x.ns.length (x.ns.map strV)
 nn : x.ns = [] → f.na = none ∧ f.nc = 0
 len : fs.length = x.ks.length
 kid : w.ownsRow base 25 6 (.slice f.ka x.ks.length f.kc) x.ks.length (flatL x.ks fs)
 sub : ∀ k (h : k < x.ks.length) (h2 : k < fs.length), NodeIn w (fun a => base ≤ a ∧ a ≠ N ∧ f.na ≠ some ⟨a, 0, none⟩ ∧ f.ka ≠ some ⟨a, 0, none⟩) x.ks[k] fs[k]
 kk : x.ks = [] → f.ka = none ∧ f.kc = 0
 kN : f.ka ≠ some ⟨N, 0, none⟩
 nN : f.na ≠ some ⟨N, 0, none⟩
 nk : ∀ a, f.na = some a → f.ka ≠ some a
/-- The blocks of a row of the call's own are as they were. -/
theorem row_frame {w w' : World} {base : Nat} {e : TypeId} {size n : Nat} {v : Value} {xs : List Value} (ho : w.ownsRow base e size v n xs) (hs : ∀ a, base ≤ a → a < w.heap.size → w'.heap[a]? = w.heap[a]?) : w'.ownsRow base e size v n xs :=
 own_of_block ho fun g hg => hs g (ho.lt g hg).1 (ho.lt g hg).2
/-- A row of the call's own is not in N. -/
theorem row_ne {w : World} {base N : Nat} {e : TypeId} {size n k c : Nat} {A : Option Addr} {xs : List Value} (ho : w.ownsRow base e size (.slice A n c) k xs) (hA : A ≠ some ⟨N, 0, none⟩) : (Value.slice A n c).ownBlock ≠ some N := fun h => by
 rcases ho.2 with ⟨e1, _⟩ | ⟨g, c', cur, e1, _⟩
 ·simp only [Value.slice.injEq] at e1; rw [e1.1] at h; cases h
 ·simp only [Value.slice.injEq] at e1
  rw [e1.1] at h hA
  have : g = N := by simpa [Value.ownBlock] using h
  exact hA (by rw [this])
theorem row_lt {w : World} {base : Nat} {e : TypeId} {size n k c a : Nat} {A : Option Addr} {xs : List Value} (ho : w.ownsRow base e size (.slice A n c) k xs) (hA : A = some ⟨a, 0, none⟩) : base ≤ a ∧ a < w.heap.size := ho.lt a (by rw [hA]; rfl)
theorem names_at {w : World} {base : Nat} {f : Fr} {ns : List (List UInt8)} (nam : w.ownsRow base 9 1 (.slice f.na ns.length f.nc) ns.length (ns.map strV)) (hn : ns ≠ []) : ∃ g, f.na = some ⟨g, 0, none⟩ ∧ base ≤ g ∧ g < w.heap.size ∧ ∀ k (h : k < ns.length), w.cell? ⟨g, k, none⟩ = some (.string ⟨ns[k].toArray⟩) := by
 have hp : 0 < ns.length := List.length_pos_iff.2 hn
 obtain ⟨g, c, e, hb, hl, _⟩ := own_cell nam (k := 0) (by omega)
 simp only [Value.slice.injEq] at e
 refine ⟨g, e.1, hb, hl, fun k hk => ?_⟩
 obtain ⟨g', c', e', _, _, hcell, _⟩ := own_cell nam (k := k) (by omega)
 simp only [Value.slice.injEq] at e'
 have eg : g = g' := by have := e.1.symm.trans e'.1; simpa using this
 subst eg
 rw [hcell, List.getElem?_map, List.getElem?_eq_getElem hk]; rfl
section
variable {w w' : World} {N base : Nat} {x : Nd} {f : Fr} {fs : List Fr}
theorem Box.c0 (h : Box w N base x f fs) : w.cell? ⟨N, 0, none⟩ = some (.int .i64 x.kd) := h.box.cell 0
theorem Box.c1 (h : Box w N base x f fs) : w.cell? ⟨N, 1, none⟩ = some (.string ⟨x.tx.toArray⟩) := h.box.cell 1
theorem Box.c2 (h : Box w N base x f fs) : w.cell? ⟨N, 2, none⟩ = some (.int .i64 x.nm) := h.box.cell 2
theorem Box.c3 (h : Box w N base x f fs) : w.cell? ⟨N, 3, none⟩ = some (.int .i64 (x.at_ : Int)) := h.box.cell 3
theorem Box.c4 (h : Box w N base x f fs) : w.cell? ⟨N, 4, none⟩ = some (.slice f.na x.ns.length f.nc) := h.box.cell 4
theorem Box.c5 (h : Box w N base x f fs) : w.cell? ⟨N, 5, none⟩ = some (.slice f.ka x.ks.length f.kc) := h.box.cell 5
theorem Box.free (h : Box w N base x f fs) (i : Nat) : w.frozen? ⟨N, i, none⟩ = false := h.box.free i
theorem Box.lt (h : Box w N base x f fs) : N < w.heap.size := h.box.lt
theorem Box.frame (h : Box w N base x f fs) (hz : w.heap.size ≤ w'.heap.size) (hs : ∀ a, base ≤ a → a < w.heap.size → w'.heap[a]? = w.heap[a]?) : Box w' N base x f fs :=
 ⟨(hs N h.lo h.lt).trans h.box, h.lo, row_frame h.nam hs, h.nn, h.len, row_frame h.kid hs, fun k a b => (h.sub k a b).frame hz fun c hc hl => hs c hc.1 hl, h.kk, h.kN, h.nN, h.nk⟩
theorem Box.below {B : Nat} (h : Box w N base x f fs) (hb : Below B w w') (hB : w.heap.size ≤ B) : Box w' N base x f fs := h.frame hb.size fun a _ hl => hb.block a (Nat.lt_of_lt_of_le hl hB)
theorem Box.but {B H : Nat} (h : Box w N base x f fs) (hb : But H B w w') (hB : w.heap.size ≤ B) (hH : H < base) : Box w' N base x f fs := h.frame hb.size fun a ha hl => hb.block a (Nat.lt_of_lt_of_le hl hB) (by omega)
theorem Box.alloc (h : Box w N base x f fs) (o : Obj) : Box (w.alloc o) N base x f fs := h.below ((Below.refl _ _).alloc (Nat.le_refl _) o) (Nat.le_refl _)
theorem Box.drew (h : Box w N base x f fs) : Box w.drew N base x f fs := h.below (Below.refl _ _).drew (Nat.le_refl _)
theorem Box.nlt (h : Box w N base x f fs) (a : Nat) (ha : f.na = some ⟨a, 0, none⟩) : a < w.heap.size := (row_lt h.nam ha).2
theorem Box.klt (h : Box w N base x f fs) (a : Nat) (ha : f.ka = some ⟨a, 0, none⟩) : a < w.heap.size := (row_lt h.kid ha).2
/-- It can be read. -/
theorem Box.node (h : Box w N base x f fs) : NodeIn w (fun a => base ≤ a ∧ a ≠ N) x f := by
 have hnm : x.ns ≠ [] → ∃ g, f.na = some ⟨g, 0, none⟩ ∧ (base ≤ g ∧ g ≠ N) ∧ g < w.heap.size ∧ ∀ k (h : k < x.ns.length), w.cell? ⟨g, k, none⟩ = some (.string ⟨x.ns[k].toArray⟩) := fun hn => by
  obtain ⟨g, e1, e2, e3, e4⟩ := names_at h.nam hn
  exact ⟨g, e1, ⟨e2, fun e => h.nN (by rw [e1, e])⟩, e3, e4⟩
 by_cases hk : x.ks = []
 ·exact .mk h.nn hnm h.kk 0 (fun _ => fr0) (fun e => absurd hk e) (fun k h => by rw [hk] at h; simp at h) (fun k h => by rw [hk] at h; simp at h)
 ·have hp : 0 < x.ks.length := List.length_pos_iff.2 hk
  obtain ⟨g, c, e, hb, hl, _⟩ := own_cell h.kid (k := 0) (by omega)
  simp only [Value.slice.injEq] at e
  refine .mk h.nn hnm h.kk g (fun k => fs.getD k fr0) (fun _ => ⟨e.1, ⟨hb, fun e2 => h.kN (by rw [e.1, e2])⟩, hl⟩) (fun k hk j v hv => ?_) (fun k hk => ?_)
  ·have hf : k < fs.length := by have := h.len; omega
   have hgd : fs.getD k fr0 = fs[k] := by rw [List.getD_eq_getElem?_getD, List.getElem?_eq_getElem hf]; rfl
   rw [hgd] at hv
   have hj : j < 6 := by
    have := (List.getElem?_eq_some_iff.1 hv).1
    rw [ndL_len] at this; exact this
   obtain ⟨g', c', e', _, _, hcell, _⟩ := own_cell h.kid (k := k * 6 + j) (by omega)
   simp only [Value.slice.injEq] at e'
   have eg : g = g' := by have := e.1.symm.trans e'.1; simpa using this
   subst eg
   rw [hcell]; exact flatL_get x.ks fs k hk hf j v hv
  ·have hf : k < fs.length := by have := h.len; omega
   have hgd : fs.getD k fr0 = fs[k] := by rw [List.getD_eq_getElem?_getD, List.getElem?_eq_getElem hf]; rfl
   rw [hgd]
   exact (h.sub k hk hf).mono fun a ha _ => ⟨⟨ha.1, ha.2.1⟩, fun e2 => ha.2.2.2 (by rw [e2]; exact e.1)⟩
theorem ty_nd : ElemTy 23 25 6 88 := elemTy (i := none) (z := ndV nd0 fr0) Try.underlying23 (by kernel_rfl) rfl (by decide)
theorem ty_str : ElemTy 22 9 1 16 := elemTy (i := none) (z := .string ⟨#[]⟩) Try.underlying22 (by kernel_rfl) rfl (by decide)
theorem Box.made (w : World) {base : Nat} (hb : base ≤ w.heap.size) {x : Nd} (h1 : x.ns = []) (h2 : x.ks = []) : Box (w.alloc (.cells (ndL x fr0).toArray 25)) w.heap.size base x fr0 [] :=
 ⟨Whole.made _ _ _, hb, by rw [h1]; exact World.ownsRow_nil _ _ _ _, fun _ => ⟨rfl, rfl⟩, by rw [h2]; rfl, by rw [h2]; exact World.ownsRow_nil _ _ _ _, fun k h => by rw [h2] at h; simp at h, fun _ => ⟨rfl, rfl⟩, by simp [fr0], by simp [fr0], fun a h => by simp [fr0] at h⟩
/-- A field of it is another one. -/
theorem Box.put (h : Box w N base x f fs) (j : Nat) (u : Value) {y : Nd} (hy : (ndL x f).toArray.setIfInBounds j u = (ndL y f).toArray) (h1 : y.ns = x.ns) (h2 : y.ks = x.ks) : Box (w.setCell ⟨N, j, none⟩ u) N base y f fs := by
 have hblk : ∀ a, a ≠ N → (w.setCell ⟨N, j, none⟩ u).heap[a]? = w.heap[a]? := fun a ha => Below.heap_setCell w _ u a ha
 obtain ⟨b1, b2, b3, b4, b5, b6, b7, b8, b9, b10, b11⟩ := h
 rw [← h1] at b3 b4
 rw [← h2] at b5 b6 b8
 have b7' : ∀ k (h : k < y.ks.length) (h2 : k < fs.length), NodeIn w (fun a => base ≤ a ∧ a ≠ N ∧ f.na ≠ some ⟨a, 0, none⟩ ∧ f.ka ≠ some ⟨a, 0, none⟩) y.ks[k] fs[k] := by rw [h2]; exact b7
 exact ⟨by rw [← hy]; exact b1.put j u, b2, own_setCell b3 (row_ne b3 b10) u, b4, b5, own_setCell b6 (row_ne b6 b9) u, fun k a b => (b7' k a b).frame (by simp [World.setCell]) fun c hc _ => hblk c hc.2.1, b8, b9, b10, b11⟩
theorem add_ks (x y : Nd) : (x.add y).ks = x.ks ++ [y] := by cases x; rfl
theorem add_ns (x y : Nd) : (x.add y).ns = x.ns := by cases x; rfl
theorem ndL_add (x y : Nd) (f : Fr) (A : Option Addr) (cap : Nat) : (ndL x f).toArray.setIfInBounds 5 (.slice A (x.ks.length + 1) cap) = (ndL (x.add y) ⟨f.na, f.nc, A, cap⟩).toArray := by
 cases x
 simp [ndL, Nd.add, Nd.ks, Nd.kd, Nd.tx, Nd.nm, Nd.at_, Nd.ns]
/-- A node more in it: behind the append and the store of the row. -/
theorem Box.app {B g cap : Nat} {y : Nd} {fy : Fr} (h : Box w N base x f fs) (hN : N < B) (hnB : ∀ a, f.na = some ⟨a, 0, none⟩ → a < B) (hkB : ∀ a, f.ka = some ⟨a, 0, none⟩ → a < B) (hy : NodeIn w (fun a => B ≤ a) y fy)
  (ha : Appended w base 25 6 (.slice f.ka x.ks.length f.kc) (x.ks.length + 1) (flatL x.ks fs ++ ndL y fy) (.slice (some ⟨g, 0, none⟩) (x.ks.length + 1) cap) w') :
  Box (w'.setCell ⟨N, 5, none⟩ (.slice (some ⟨g, 0, none⟩) (x.ks.length + 1) cap)) N base (x.add y) ⟨f.na, f.nc, some ⟨g, 0, none⟩, cap⟩ (fs ++ [fy]) := by
 have hlo := h.lo
 have hg := ha.2.2 g rfl
 have hgN : g ≠ N := by
  rcases hg with hg | hg
  ·intro e; rw [e] at hg; exact row_ne h.kid h.kN hg
  ·have := h.lt; omega
 have hkblk : ∀ a, (Value.slice f.ka x.ks.length f.kc).ownBlock = some a → f.ka = some ⟨a, 0, none⟩ := fun a hh => by
  rcases h.kid.2 with ⟨e1, _⟩ | ⟨g', c', cur, e1, _⟩
  ·simp only [Value.slice.injEq] at e1; rw [e1.1] at hh; cases hh
  ·simp only [Value.slice.injEq] at e1
   rw [e1.1] at hh ⊢
   have : g' = a := by simpa [Value.ownBlock] using hh
   rw [this]
 have hgB : g < B ∨ g = w.heap.size := by
  rcases hg with hg | hg
  ·exact .inl (hkB g (hkblk g hg))
  ·exact .inr hg
 have hblk : ∀ a, a < w.heap.size → a ≠ N → f.ka ≠ some ⟨a, 0, none⟩ → (w'.setCell ⟨N, 5, none⟩ (.slice (some ⟨g, 0, none⟩) (x.ks.length + 1) cap)).heap[a]? = w.heap[a]? := fun a hl hn hk => by
  rw [Below.heap_setCell w' ⟨N, 5, none⟩ _ a hn]
  exact ha.2.1.block a hl (fun e => hk (hkblk a e.symm))
 have hsz : w.heap.size ≤ (w'.setCell ⟨N, 5, none⟩ (.slice (some ⟨g, 0, none⟩) (x.ks.length + 1) cap)).heap.size := by simp [World.setCell]; exact ha.2.1.size
 have hwN : Whole w' N 25 (ndL x f).toArray := ha.far h.box (row_ne h.kid h.kN)
 have hng : f.na ≠ some ⟨g, 0, none⟩ := fun e => by
  rcases hg with hg | hg
  ·exact h.nk _ e (hkblk g hg)
  ·have := h.nlt g e; omega
 refine ⟨?_, h.lo, ?_, by rw [add_ns]; exact h.nn, by rw [add_ks]; simp [h.len], ?_, fun k hk hk2 => ?_, fun e => by rw [add_ks] at e; simp at e, (fun e => hgN (congrArg Addr.block (Option.some.inj e))), h.nN, fun a e e2 => ?_⟩
 ·have := hwN.put 5 (.slice (some ⟨g, 0, none⟩) (x.ks.length + 1) cap)
  rw [← ndL_add]; exact this
 ·rw [add_ns]
  refine own_of_block h.nam fun a hq => ?_
  have : f.na = some ⟨a, 0, none⟩ := by
   rcases h.nam.2 with ⟨e1, _⟩ | ⟨g', c', cur, e1, _⟩
   ·simp only [Value.slice.injEq] at e1; rw [e1.1] at hq; cases hq
   ·simp only [Value.slice.injEq] at e1
    rw [e1.1] at hq ⊢
    have : g' = a := by simpa [Value.ownBlock] using hq
    rw [this]
  exact hblk a (h.nlt a this) (fun e => h.nN (by rw [this, e])) (fun e => h.nk _ this e)
 ·rw [add_ks, flatL_snoc _ _ _ _ h.len]
  have := own_setCell ha.1 (p := ⟨N, 5, none⟩) (by show some g ≠ some N; simpa using hgN) (.slice (some ⟨g, 0, none⟩) (x.ks.length + 1) cap)
  simpa using this
 ·have hl := h.len
  simp only [add_ks] at hk ⊢
  rw [List.length_append, List.length_singleton] at hk
  rcases Nat.lt_or_ge k x.ks.length with hlt | hge
  ·rw [List.getElem_append_left hlt, List.getElem_append_left (by omega)]
   refine ((h.sub k hlt (by omega)).mono (b' := fun a => base ≤ a ∧ a ≠ N ∧ f.na ≠ some ⟨a, 0, none⟩ ∧ f.ka ≠ some ⟨a, 0, none⟩ ∧ a < w.heap.size) fun a ha hl => ⟨ha.1, ha.2.1, ha.2.2.1, ha.2.2.2, hl⟩).frame hsz (fun a ha hl => hblk a hl ha.2.1 ha.2.2.2.1) |>.mono fun a ha _ => ⟨ha.1, ha.2.1, ha.2.2.1, fun e => ?_⟩
   have eg : g = a := congrArg Addr.block (Option.some.inj e)
   rcases hg with hg | hg
   ·exact ha.2.2.2.1 (by rw [← eg]; exact hkblk g hg)
   ·have := ha.2.2.2.2; omega
  ·have hkk : k = x.ks.length := by omega
   subst hkk
   have e1 : (x.ks ++ [y])[x.ks.length]'(by simp) = y := by simp
   have e2 : (fs ++ [fy])[x.ks.length]'(by simp [hl]) = fy := by
    have : ∀ n, n = fs.length → ∀ h : n < (fs ++ [fy]).length, (fs ++ [fy])[n] = fy := fun n hn h => by subst hn; simp
    exact this _ hl.symm _
   rw [e1, e2]
   refine (hy.mono (b' := fun a => B ≤ a ∧ a < w.heap.size) fun a ha hl => ⟨ha, hl⟩).frame hsz (fun a ha hl => hblk a hl (by have := ha.1; omega) (fun e => by have := hkB a e; have := ha.1; omega)) |>.mono fun a ha _ => ⟨?_, ?_, fun e => ?_, fun e => ?_⟩
   ·have := ha.1; omega
   ·have := ha.1; omega
   ·have := hnB a e; have := ha.1; omega
   ·have eg : g = a := congrArg Addr.block (Option.some.inj e)
    have := ha.1; have := ha.2; omega
 ·have : a = ⟨g, 0, none⟩ := by simpa using e2.symm
  rw [this] at e; exact hng e
end
theorem NodeIn.nil {w : World} {b : Nat → Prop} {x : Nd} {f : Fr} (h : NodeIn w b x f) (h1 : x.ns = []) (h2 : x.ks = []) : f = fr0 := by
 cases h with
 | mk hn0 hn hk0 g fs hk hc hs =>
  obtain ⟨a, b⟩ := hn0 h1
  obtain ⟨c, d⟩ := hk0 h2
  cases f
  simp only at a b c d
  subst a b c d
  rfl
/-- What a rule gives: a node, of new blocks, and where the parser stands then. -/
def Gives (w : World) (R g c : Nat) (T : List Tok) (r : Nd × PS) (e : Ending) (w' : World) : Prop :=
 ∃ f, e = .returned (ndV r.1 f) ∧ PAt w' R g c T r.2 ∧ NodeIn w' (fun a => w.heap.size ≤ a) r.1 f ∧ But R w.heap.size w w'
theorem put6 {w : World} {G : Nat} {z0 z1 z2 z3 z4 z5 : Value} (h : Whole w G 25 #[z0, z1, z2, z3, z4, z5]) (v0 v1 v2 v3 v4 v5 : Value) :
  Whole ((((((w.setCell ⟨G, 0, none⟩ v0).setCell ⟨G, 1, none⟩ v1).setCell ⟨G, 2, none⟩ v2).setCell ⟨G, 3, none⟩ v3).setCell ⟨G, 4, none⟩ v4).setCell ⟨G, 5, none⟩ v5) G 25 #[v0, v1, v2, v3, v4, v5] :=
 (((((h.put 0 v0).put 1 v1).put 2 v2).put 3 v3).put 4 v4).put 5 v5
theorem but6 {w : World} (G B : Nat) (v0 v1 v2 v3 v4 v5 : Value) :
  But G B w ((((((w.setCell ⟨G, 0, none⟩ v0).setCell ⟨G, 1, none⟩ v1).setCell ⟨G, 2, none⟩ v2).setCell ⟨G, 3, none⟩ v3).setCell ⟨G, 4, none⟩ v4).setCell ⟨G, 5, none⟩ v5) :=
 ((((((But.refl G B w).set 0 v0).set 1 v1).set 2 v2).set 3 v3).set 4 v4).set 5 v5
/-- Two blocks may be other ones, both new: all that was is as it was. -/
theorem But.new {R G B : Nat} {w w1 w2 : World} (h : But R B w w1) (k : But G w1.heap.size w1 w2) (hG : B ≤ G) (hB : B ≤ w1.heap.size) : But R B w w2 :=
 ⟨k.os.trans h.os, k.tape.trans h.tape, k.output.trans h.output, Nat.le_trans h.size k.size, fun g hg hn => (k.block g (by omega) (by omega)).trans (h.block g hg hn)⟩

section
variable {w wd : World} {G : Nat} {z0 z1 z2 z3 z4 z5 : Value}
theorem nodeC {x : Nd} {f : Fr} (h : Whole w G 25 (ndL x f).toArray) : w.cell? ⟨G, 0, none⟩ = some (.int .i64 x.kd) ∧ w.cell? ⟨G, 1, none⟩ = some (.string ⟨x.tx.toArray⟩) ∧ w.cell? ⟨G, 2, none⟩ = some (.int .i64 x.nm) ∧ w.cell? ⟨G, 3, none⟩ = some (.int .i64 (x.at_ : Int)) ∧ w.cell? ⟨G, 4, none⟩ = some (.slice f.na x.ns.length f.nc) ∧ w.cell? ⟨G, 5, none⟩ = some (.slice f.ka x.ks.length f.kc) := cells6 h
theorem ends6 (h : Whole w G 25 #[z0, z1, z2, z3, z4, z5]) (v0 v1 v2 v3 v4 v5 : Value) : ∃ wf, Hid (Whole wf G 25 #[v0, v1, v2, v3, v4, v5]) ∧ Hid (But G w.heap.size w wf) ∧ ((((((w.setCell ⟨G, 0, none⟩ v0).setCell ⟨G, 1, none⟩ v1).setCell ⟨G, 2, none⟩ v2).setCell ⟨G, 3, none⟩ v3).setCell ⟨G, 4, none⟩ v4).setCell ⟨G, 5, none⟩ v5) = wf := ⟨_, Lib.hid (put6 h v0 v1 v2 v3 v4 v5), Lib.hid (but6 _ _ v0 v1 v2 v3 v4 v5), rfl⟩
theorem endsN (h : Whole w G 25 #[z0, z1, z2, z3, z4, z5]) (x : Nd) (f : Fr) : ∃ wf, Hid (Whole wf G 25 #[.int .i64 x.kd, .string ⟨x.tx.toArray⟩, .int .i64 x.nm, .int .i64 (x.at_ : Int), .slice f.na x.ns.length f.nc, .slice f.ka x.ks.length f.kc]) ∧ Hid (But G w.heap.size w wf) ∧ ((((((w.setCell ⟨G, 0, none⟩ (.int .i64 x.kd)).setCell ⟨G, 1, none⟩ (.string ⟨x.tx.toArray⟩)).setCell ⟨G, 2, none⟩ (.int .i64 x.nm)).setCell ⟨G, 3, none⟩ (.int .i64 (x.at_ : Int))).setCell ⟨G, 4, none⟩ (.slice f.na x.ns.length f.nc)).setCell ⟨G, 5, none⟩ (.slice f.ka x.ks.length f.kc)) = wf := ends6 h _ _ _ _ _ _
theorem zcA {gv m : Nat} (h : ∀ j : Nat, j < 6 → wd.cell? ⟨gv, m + j, none⟩ = ([.int .i64 0, .string ⟨#[]⟩, .int .i64 0, .int .i64 0, .slice none 0 0, .slice none 0 0] : List Value)[j]? ∧ wd.frozen? ⟨gv, m + j, none⟩ = false) :
  wd.cell? ⟨gv, m, none⟩ = some (.int .i64 0) ∧ wd.frozen? ⟨gv, m, none⟩ = false ∧ wd.cell? ⟨gv, m + 1, none⟩ = some (.string ⟨#[]⟩) ∧ wd.frozen? ⟨gv, m + 1, none⟩ = false ∧ wd.cell? ⟨gv, m + 2, none⟩ = some (.int .i64 0) ∧ wd.frozen? ⟨gv, m + 2, none⟩ = false ∧ wd.cell? ⟨gv, m + 3, none⟩ = some (.int .i64 0) ∧ wd.frozen? ⟨gv, m + 3, none⟩ = false ∧ wd.cell? ⟨gv, m + 4, none⟩ = some (.slice none 0 0) ∧ wd.frozen? ⟨gv, m + 4, none⟩ = false ∧ wd.cell? ⟨gv, m + 5, none⟩ = some (.slice none 0 0) ∧ wd.frozen? ⟨gv, m + 5, none⟩ = false :=
 ⟨(h 0 (by decide)).1, (h 0 (by decide)).2, (h 1 (by decide)).1, (h 1 (by decide)).2, (h 2 (by decide)).1, (h 2 (by decide)).2, (h 3 (by decide)).1, (h 3 (by decide)).2, (h 4 (by decide)).1, (h 4 (by decide)).2, (h 5 (by decide)).1, (h 5 (by decide)).2⟩
theorem zcB {gv m : Nat} {p : Addr} (h : ∀ j : Nat, j < 6 → wd.cell? ⟨gv, m + j, none⟩ = ([.int .i64 0, .string ⟨#[]⟩, .int .i64 0, .int .i64 0, .slice none 0 0, .slice none 0 0] : List Value)[j]? ∧ wd.frozen? ⟨gv, m + j, none⟩ = false) (hne : gv ≠ p.block) (u : Value) :
  (wd.setCell p u).cell? ⟨gv, m, none⟩ = some (.int .i64 0) ∧ (wd.setCell p u).frozen? ⟨gv, m, none⟩ = false ∧ (wd.setCell p u).cell? ⟨gv, m + 1, none⟩ = some (.string ⟨#[]⟩) ∧ (wd.setCell p u).frozen? ⟨gv, m + 1, none⟩ = false ∧ (wd.setCell p u).cell? ⟨gv, m + 2, none⟩ = some (.int .i64 0) ∧ (wd.setCell p u).frozen? ⟨gv, m + 2, none⟩ = false ∧ (wd.setCell p u).cell? ⟨gv, m + 3, none⟩ = some (.int .i64 0) ∧ (wd.setCell p u).frozen? ⟨gv, m + 3, none⟩ = false ∧ (wd.setCell p u).cell? ⟨gv, m + 4, none⟩ = some (.slice none 0 0) ∧ (wd.setCell p u).frozen? ⟨gv, m + 4, none⟩ = false ∧ (wd.setCell p u).cell? ⟨gv, m + 5, none⟩ = some (.slice none 0 0) ∧ (wd.setCell p u).frozen? ⟨gv, m + 5, none⟩ = false :=
 zcA (wd := wd.setCell p u) (gv := gv) (m := m) fun j hj => ⟨(World.cell?_of_block (Below.heap_setCell wd p u gv hne)).trans (h j hj).1, (World.frozen?_of_block (Below.heap_setCell wd p u gv hne)).trans (h j hj).2⟩
end
end Go.Proofs.Ytgjchgmlogbmmaa
