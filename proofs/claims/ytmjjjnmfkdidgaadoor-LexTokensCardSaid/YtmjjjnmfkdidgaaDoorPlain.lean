/- The plain mathematics of layer 4: what stands between tokens, a token, a source's tokens. -/
import Derived.Test.YtmjjjnmfkdidgaaDoorSq
namespace Go.Proofs.YtmjjjnmfkdidgaaDoor
open Go.Proofs.YtmjjjnmfkdidgaaDoor.S (unqF)
set_option linter.unusedVariables false

def digB (c : UInt8) : Bool := decide (48 ≤ c.toNat) && decide (c.toNat ≤ 57)
def smaB (c : UInt8) : Bool := decide (97 ≤ c.toNat) && decide (c.toNat ≤ 122)
def larB (c : UInt8) : Bool := decide (65 ≤ c.toNat) && decide (c.toNat ≤ 90)
def innB (c : UInt8) : Bool := smaB c || larB c || digB c || c == 95
/-- `=<+-*/%^;|(),_` -/
def signL : List UInt8 := [61, 60, 43, 45, 42, 47, 37, 94, 59, 124, 40, 41, 44, 95]
/-- The number of digits. -/
def valT (l : List UInt8) : Nat := l.foldl (fun v c => 10 * v + (c.toNat - 48)) 0
def keyL : List (List UInt8) := [[108, 101, 116], [114, 101, 99], [105, 110], [102, 117, 110], [105, 102], [116, 104, 101, 110], [101, 108, 115, 101], [109, 97, 116, 99, 104], [119, 105, 116, 104], [101, 110, 100], [116, 114, 121], [112, 114, 105, 110, 116], [114, 97, 105, 115, 101], [115, 112, 97, 119, 110], [97, 116, 111, 109, 105, 99, 97, 108, 108, 121], [114, 101, 116, 114, 121], [111, 114, 101, 108, 115, 101], [116, 118, 97, 114], [114, 101, 97, 100], [119, 114, 105, 116, 101], [116, 121, 112, 101], [111, 102], [100, 111]]
def keyB (l : List UInt8) : Bool := keyL.contains l
/-- A token: kind, text, number, place. -/
structure Tok where
  kind : Int
  text : List UInt8
  num : Int
  at_ : Nat
deriving DecidableEq
/-- What a token comes to: kind, text, number, how many bytes; an error (0: none). -/
structure TokR where
  kind : Int
  text : List UInt8
  num : Int
  n : Nat
  e : Int
def tokF (l : List UInt8) : TokR := match l with
  | [] => ⟨0, [], 0, 0, 0⟩
  | c :: r =>
    if digB c = true then
      (if 4611686018427387903 < valT (l.takeWhile digB) then ⟨0, [], 0, 0, 13⟩ else ⟨1, [], valT (l.takeWhile digB), (l.takeWhile digB).length, 0⟩)
    else if c = 34 then ⟨2, (unqF l).1, 0, (unqF l).2.1, (unqF l).2.2⟩
    else if (smaB c || larB c) = true then
      (if 16 < (l.takeWhile innB).length then ⟨0, [], 0, 0, 12⟩
       else ⟨if larB c = true then 4 else if keyB (l.takeWhile innB) = true then 6 else 3, l.takeWhile innB, 0, (l.takeWhile innB).length, 0⟩)
    else if c = 45 ∧ r.head? = some 62 then ⟨5, [45, 62], 0, 2, 0⟩
    else if signL.contains c = true then ⟨5, [c], 0, 1, 0⟩
    else ⟨0, [], 0, 0, 10⟩
/-- What stands between tokens: how many bytes. -/
def gapF : Nat → List UInt8 → Nat
  | 0, _ => 0
  | f + 1, l => match l with
    | [] => 0
    | c :: r => if c = 32 ∨ c = 9 ∨ c = 10 then 1 + gapF f r else if c = 35 then (l.takeWhile (· ≠ 10)).length + gapF f (l.drop (l.takeWhile (· ≠ 10)).length) else 0
end Go.Proofs.YtmjjjnmfkdidgaaDoor
