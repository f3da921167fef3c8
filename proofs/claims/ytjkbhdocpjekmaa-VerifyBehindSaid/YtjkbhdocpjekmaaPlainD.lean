/- The document's three examples of layer 14. -/
import Derived.Test.YtjkbhdocpjekmaaPlainC
namespace Go.Proofs.Ytjkbhdocpjekmaa
set_option linter.unusedVariables false

def bdyE (is : List Ins) : Bdy := ⟨0, 1, 3, is⟩
def codE (is : List Ins) : Cod := ⟨[bdyE is], [1], [], 0⟩
def isA : List Ins := [⟨1, 0, 0⟩, ⟨15, 0, 0⟩]
def isB : List Ins := [⟨9, 0, 0⟩]
def isC : List Ins := [⟨21, 2, 0⟩, ⟨16, 1, 0⟩, ⟨15, 0, 0⟩]
def hadA : List (Option St) := [some st0, some ⟨1, []⟩]
def hadC : List (Option St) := [some st0, some ⟨0, [(21, 0)]⟩, some ⟨1, []⟩]
theorem okA : codOK (codE isA) = true := by decide
theorem okB : codOK (codE isB) = true := by decide
theorem okC : codOK (codE isC) = true := by decide
theorem nA0 : nextF (codE isA) 0 (bdyE isA) 0 st0 = some [(1, ⟨1, []⟩)] := by rfl
theorem nA1 : nextF (codE isA) 0 (bdyE isA) 1 ⟨1, []⟩ = some [] := by rfl
theorem nB0 : nextF (codE isB) 0 (bdyE isB) 0 st0 = none := by rfl
theorem nC0 : nextF (codE isC) 0 (bdyE isC) 0 st0 = some [(1, ⟨0, [(21, 0)]⟩), (2, ⟨1, []⟩)] := by rfl
theorem nC1 : nextF (codE isC) 0 (bdyE isC) 1 ⟨0, [(21, 0)]⟩ = some [(1, ⟨0, [(21, 0)]⟩)] := by rfl
theorem nC2 : nextF (codE isC) 0 (bdyE isC) 2 ⟨1, []⟩ = some [] := by rfl
theorem doneA : Done (codE isA) 0 (bdyE isA) hadA := by
  refine done_of rfl rfl (fun k s h => ?_) (fun k s h => ?_)
  · rcases k with _ | _ | k
    · cases h; exact .start
    · cases h; exact .go .start (by decide) (by decide) nA0 (by simp)
    · cases h
  · rcases k with _ | _ | k
    · cases h; exact ⟨by decide, _, nA0, fun p hp => by simp at hp; subst hp; exact ⟨by decide, rfl⟩⟩
    · cases h; exact ⟨by decide, _, nA1, fun p hp => by simp at hp⟩
    · cases h
theorem badB : ¬ Good (codE isB) 0 (bdyE isB) := bad_next .start nB0
theorem doneC : Done (codE isC) 0 (bdyE isC) hadC := by
  refine done_of rfl rfl (fun k s h => ?_) (fun k s h => ?_)
  · rcases k with _ | _ | _ | k
    · cases h; exact .start
    · cases h; exact .go .start (by decide) (by decide) nC0 (by simp)
    · cases h; exact .go .start (by decide) (by decide) nC0 (by simp)
    · cases h
  · rcases k with _ | _ | _ | k
    · cases h; exact ⟨by decide, _, nC0, fun p hp => by simp at hp; rcases hp with rfl | rfl <;> exact ⟨by decide, rfl⟩⟩
    · cases h; exact ⟨by decide, _, nC1, fun p hp => by simp at hp; subst hp; exact ⟨by decide, rfl⟩⟩
    · cases h; exact ⟨by decide, _, nC2, fun p hp => by simp at hp⟩
    · cases h
theorem depA : DepIs (codE isA) 0 [0, 1] := .inr (.inr ⟨⟨okA, by decide, by decide⟩, hadA, doneA, rfl⟩)
theorem depB : DepIs (codE isB) 0 [] := .inr (.inl ⟨⟨okB, by decide, by decide⟩, badB, rfl⟩)
theorem depC : DepIs (codE isC) 0 [0, 0, 1] := .inr (.inr ⟨⟨okC, by decide, by decide⟩, hadC, doneC, rfl⟩)
theorem one_fun {is : List Ins} {n : Nat} (h : n < (codE is).funs.length) : n = 0 := by simp [codE] at h; exact h
theorem codeA : CodeIs (codE isA) 0 := .inr (.inl ⟨okA, fun n h => by rw [one_fun h]; exact doneA.good, rfl⟩)
theorem codeB : CodeIs (codE isB) 30 := .inr (.inr ⟨okB, ⟨0, by decide, badB⟩, rfl⟩)
theorem codeC : CodeIs (codE isC) 0 := .inr (.inl ⟨okC, fun n h => by rw [one_fun h]; exact doneC.good, rfl⟩)
end Go.Proofs.Ytjkbhdocpjekmaa
