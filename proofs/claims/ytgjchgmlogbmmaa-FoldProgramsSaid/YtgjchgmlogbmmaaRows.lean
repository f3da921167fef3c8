/-
  No cell of these rows narrows 'for every input' (looked for: loops, veiled, ifaces, maps, wideKeys, modest, calm, conditions, laid).
  DERIVED. THE GIVEN ROWS OF THIS SEAT. 5 by the template 'for every input the law returns true; each argument reads behind the call as it read before'; 0 by the template 'total and deterministic' (their statements: YtgjchgmlogbmmaaTotals.lean).
  GIVEN WITH THE SEED: the statements are not yours to turn. If you find one false, say at which input.
  Laid BY PROGRAM, IN A SANDBOX (cutbox-rows.mjs): the forced cells as the released guide's own fill.sh prints them over the translation f03035211d5ab26b… (all of the seat's roots in one cut). By AI agents, Wed Nov 11 2026. No macro, syntax, notation, axiom, sorry.
-/
import Derived.Test.YtgjchgmlogbmmaaChecked
import GoSem.Claim
import GoSem.ClaimJoined
import GoSem.ClaimMapViews
import Derived.JoinedTies
import Derived.KernelRfl
namespace Go.Proofs.Ytgjchgmlogbmmaa
/- THE CELL 'sum', in the pinned program and in every row, IS THE sha256 OF THE DUMP (.gsa) THAT YtgjchgmlogbmmaaProg.lean LOADS. Nothing in Lean hashes anything: it is a label: what it is worth is what the hold of that sum in a sandbox is worth. -/
noncomputable def Try.pinned : Pinned := { name := "ytgjchgmlogbmmaa", sum := "f03035211d5ab26b23eaab23b622d110b40927deedf2739ffb1bcbea39b9d4a8", checked := Try.checked }
namespace Rows
def none {H : Type} : Left H := { results := [], args := [] }

/-- 'selvagelaw11.FoldExps': WHATEVER THE INPUT: true; the input reads as it did. -/
def foldExpsSpec : ChangeSpec := { name := "foldExps", fn := fun _ => fun
  | [d] => { results := [.lit (.bool true)], args := [d] }
  | _ => none }
def foldExpsRow : OpenClaim := { program := "ytgjchgmlogbmmaa", sum := "f03035211d5ab26b23eaab23b622d110b40927deedf2739ffb1bcbea39b9d4a8", func := "selvage/selvagelaw11.FoldExps", spec := "foldExps", unfollowed := true, recurses := true, plainKeys := false, apart := false }
def FoldExpsSaid : Prop := foldExpsRow.holds Try.pinned (OpenSpec.ofChange foldExpsSpec)

/-- ITS FALSE NEIGHBOUR: 'it returns false'. Refute it at one input. -/
def foldExpsWrong : ChangeSpec := { name := "foldExps", fn := fun _ => fun
  | [d] => { results := [.lit (.bool false)], args := [d] }
  | _ => none }
def FoldExpsWrongFalsely : Prop := foldExpsRow.holds Try.pinned (OpenSpec.ofChange foldExpsWrong)

/-- 'selvagelaw11.FoldFree': WHATEVER THE INPUT: true; the input reads as it did. -/
def foldFreeSpec : ChangeSpec := { name := "foldFree", fn := fun _ => fun
  | [d] => { results := [.lit (.bool true)], args := [d] }
  | _ => none }
def foldFreeRow : OpenClaim := { program := "ytgjchgmlogbmmaa", sum := "f03035211d5ab26b23eaab23b622d110b40927deedf2739ffb1bcbea39b9d4a8", func := "selvage/selvagelaw11.FoldFree", spec := "foldFree", unfollowed := true, recurses := true, plainKeys := false, apart := false }
def FoldFreeSaid : Prop := foldFreeRow.holds Try.pinned (OpenSpec.ofChange foldFreeSpec)

/-- ITS FALSE NEIGHBOUR: 'it returns false'. Refute it at one input. -/
def foldFreeWrong : ChangeSpec := { name := "foldFree", fn := fun _ => fun
  | [d] => { results := [.lit (.bool false)], args := [d] }
  | _ => none }
def FoldFreeWrongFalsely : Prop := foldFreeRow.holds Try.pinned (OpenSpec.ofChange foldFreeWrong)

/-- 'selvagelaw11.FoldSums': WHATEVER THE INPUT: true; the input reads as it did. -/
def foldSumsSpec : ChangeSpec := { name := "foldSums", fn := fun _ => fun
  | [d1, d2, d3] => { results := [.lit (.bool true)], args := [d1, d2, d3] }
  | _ => none }
def foldSumsRow : OpenClaim := { program := "ytgjchgmlogbmmaa", sum := "f03035211d5ab26b23eaab23b622d110b40927deedf2739ffb1bcbea39b9d4a8", func := "selvage/selvagelaw11.FoldSums", spec := "foldSums", unfollowed := true, recurses := true, plainKeys := false, apart := false }
def FoldSumsSaid : Prop := foldSumsRow.holds Try.pinned (OpenSpec.ofChange foldSumsSpec)

/-- ITS FALSE NEIGHBOUR: 'it returns false'. Refute it at one input. -/
def foldSumsWrong : ChangeSpec := { name := "foldSums", fn := fun _ => fun
  | [d1, d2, d3] => { results := [.lit (.bool false)], args := [d1, d2, d3] }
  | _ => none }
def FoldSumsWrongFalsely : Prop := foldSumsRow.holds Try.pinned (OpenSpec.ofChange foldSumsWrong)

/-- 'selvagelaw11.FoldPrograms': WHATEVER THE INPUT: true; the input reads as it did. -/
def foldProgramsSpec : ChangeSpec := { name := "foldPrograms", fn := fun _ => fun
  | [d] => { results := [.lit (.bool true)], args := [d] }
  | _ => none }
def foldProgramsRow : OpenClaim := { program := "ytgjchgmlogbmmaa", sum := "f03035211d5ab26b23eaab23b622d110b40927deedf2739ffb1bcbea39b9d4a8", func := "selvage/selvagelaw11.FoldPrograms", spec := "foldPrograms", unfollowed := true, recurses := true, plainKeys := false, apart := false }
def FoldProgramsSaid : Prop := foldProgramsRow.holds Try.pinned (OpenSpec.ofChange foldProgramsSpec)

/-- ITS FALSE NEIGHBOUR: 'it returns false'. Refute it at one input. -/
def foldProgramsWrong : ChangeSpec := { name := "foldPrograms", fn := fun _ => fun
  | [d] => { results := [.lit (.bool false)], args := [d] }
  | _ => none }
def FoldProgramsWrongFalsely : Prop := foldProgramsRow.holds Try.pinned (OpenSpec.ofChange foldProgramsWrong)

/-- 'selvagelaw11.FoldTwice': WHATEVER THE INPUT: true; the input reads as it did. -/
def foldTwiceSpec : ChangeSpec := { name := "foldTwice", fn := fun _ => fun
  | [d] => { results := [.lit (.bool true)], args := [d] }
  | _ => none }
def foldTwiceRow : OpenClaim := { program := "ytgjchgmlogbmmaa", sum := "f03035211d5ab26b23eaab23b622d110b40927deedf2739ffb1bcbea39b9d4a8", func := "selvage/selvagelaw11.FoldTwice", spec := "foldTwice", unfollowed := true, recurses := true, plainKeys := false, apart := false }
def FoldTwiceSaid : Prop := foldTwiceRow.holds Try.pinned (OpenSpec.ofChange foldTwiceSpec)

/-- ITS FALSE NEIGHBOUR: 'it returns false'. Refute it at one input. -/
def foldTwiceWrong : ChangeSpec := { name := "foldTwice", fn := fun _ => fun
  | [d] => { results := [.lit (.bool false)], args := [d] }
  | _ => none }
def FoldTwiceWrongFalsely : Prop := foldTwiceRow.holds Try.pinned (OpenSpec.ofChange foldTwiceWrong)

/- THE SECOND FORM. 'bulk': how many values and letters a reading holds, each counted each time it is reached (what is shared counts as often as it is met; a slice's spare places count too). A statement '..UptoSaid' is the law's where the arguments, and the package variables that the reading takes, are together of bulk at most 1048576: NARROWER than '..Said'. Prove '..Said' where nothing that the law and all that it calls make is longer than what came in: it says more and counts as full. Else prove '..UptoSaid'. A law counts once. -/
mutual
def uptoBulk {H : Type} : DataW H → Nat
  | .lit (.string bytes) => bytes.length + 1
  | .lit _ => 1
  | .nil => 1
  | .ptr d => uptoBulk d + 1
  | .slice elems spare => uptoBulkAll elems + uptoBulkAll spare + 1
  | .agg parts => uptoBulkAll parts + 1
  | .iface _ d => uptoBulk d + 1
  | .map entries => uptoBulkEntries entries + 1
  | .held _ => 1
def uptoBulkAll {H : Type} : List (DataW H) → Nat
  | [] => 0
  | d :: r => uptoBulk d + uptoBulkAll r
def uptoBulkEntries {H : Type} : List (Lit × DataW H) → Nat
  | [] => 0
  | x :: r => uptoBulkEntry x + uptoBulkEntries r
def uptoBulkEntry {H : Type} : Lit × DataW H → Nat
  | (.string bytes, d) => bytes.length + uptoBulk d + 1
  | (_, d) => uptoBulk d + 1
 end
def uptoSmall : (H : Type) → List (DataW H) → Bool := fun _ ds => decide (uptoBulkAll ds ≤ 1048576)
def OpenSpec.upto (s : _root_.Go.ChangeSpec) : _root_.Go.OpenSpec := { _root_.Go.OpenSpec.ofChange s with cond := some uptoSmall }

/-- 'selvagelaw11.FoldExps', WHERE WHAT IT READS IS OF BULK AT MOST 1048576: true; the input reads as it did. -/
def foldExpsUptoRow : OpenClaim := { program := "ytgjchgmlogbmmaa", sum := "f03035211d5ab26b23eaab23b622d110b40927deedf2739ffb1bcbea39b9d4a8", func := "selvage/selvagelaw11.FoldExps", spec := "foldExps", unfollowed := true, recurses := true, plainKeys := false, apart := false, narrowed := true }
def FoldExpsUptoSaid : Prop := foldExpsUptoRow.holds Try.pinned (OpenSpec.upto foldExpsSpec)

/-- 'selvagelaw11.FoldFree', WHERE WHAT IT READS IS OF BULK AT MOST 1048576: true; the input reads as it did. -/
def foldFreeUptoRow : OpenClaim := { program := "ytgjchgmlogbmmaa", sum := "f03035211d5ab26b23eaab23b622d110b40927deedf2739ffb1bcbea39b9d4a8", func := "selvage/selvagelaw11.FoldFree", spec := "foldFree", unfollowed := true, recurses := true, plainKeys := false, apart := false, narrowed := true }
def FoldFreeUptoSaid : Prop := foldFreeUptoRow.holds Try.pinned (OpenSpec.upto foldFreeSpec)

/-- 'selvagelaw11.FoldSums', WHERE WHAT IT READS IS OF BULK AT MOST 1048576: true; the input reads as it did. -/
def foldSumsUptoRow : OpenClaim := { program := "ytgjchgmlogbmmaa", sum := "f03035211d5ab26b23eaab23b622d110b40927deedf2739ffb1bcbea39b9d4a8", func := "selvage/selvagelaw11.FoldSums", spec := "foldSums", unfollowed := true, recurses := true, plainKeys := false, apart := false, narrowed := true }
def FoldSumsUptoSaid : Prop := foldSumsUptoRow.holds Try.pinned (OpenSpec.upto foldSumsSpec)

/-- 'selvagelaw11.FoldPrograms', WHERE WHAT IT READS IS OF BULK AT MOST 1048576: true; the input reads as it did. -/
def foldProgramsUptoRow : OpenClaim := { program := "ytgjchgmlogbmmaa", sum := "f03035211d5ab26b23eaab23b622d110b40927deedf2739ffb1bcbea39b9d4a8", func := "selvage/selvagelaw11.FoldPrograms", spec := "foldPrograms", unfollowed := true, recurses := true, plainKeys := false, apart := false, narrowed := true }
def FoldProgramsUptoSaid : Prop := foldProgramsUptoRow.holds Try.pinned (OpenSpec.upto foldProgramsSpec)

/-- 'selvagelaw11.FoldTwice', WHERE WHAT IT READS IS OF BULK AT MOST 1048576: true; the input reads as it did. -/
def foldTwiceUptoRow : OpenClaim := { program := "ytgjchgmlogbmmaa", sum := "f03035211d5ab26b23eaab23b622d110b40927deedf2739ffb1bcbea39b9d4a8", func := "selvage/selvagelaw11.FoldTwice", spec := "foldTwice", unfollowed := true, recurses := true, plainKeys := false, apart := false, narrowed := true }
def FoldTwiceUptoSaid : Prop := foldTwiceUptoRow.holds Try.pinned (OpenSpec.upto foldTwiceSpec)

end Rows
end Go.Proofs.Ytgjchgmlogbmmaa
