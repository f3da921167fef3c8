/-
  No cell of these rows narrows 'for every input' (looked for: loops, veiled, ifaces, maps, wideKeys, modest, calm, conditions, laid).
  DERIVED. THE GIVEN ROWS OF THIS SEAT. 9 by the template 'for every input the law returns true; each argument reads behind the call as it read before'; 0 by the template 'total and deterministic' (their statements: YtmocjhildphklaaTotals.lean).
  GIVEN WITH THE SEED: the statements are not yours to turn. If you find one false, say at which input.
  Laid BY PROGRAM, IN A SANDBOX (cutbox-rows.mjs): the forced cells as the released guide's own fill.sh prints them over the translation a56cc3e2d9aacbc1… (all of the seat's roots in one cut). By AI agents, Wed Nov 11 2026. No macro, syntax, notation, axiom, sorry.
-/
import Derived.Test.YtmocjhildphklaaChecked
import GoSem.Claim
import GoSem.ClaimJoined
import GoSem.ClaimMapViews
import Derived.JoinedTies
import Derived.KernelRfl
namespace Go.Proofs.Ytmocjhildphklaa
/- THE CELL 'sum', in the pinned program and in every row, IS THE sha256 OF THE DUMP (.gsa) THAT YtmocjhildphklaaProg.lean LOADS. Nothing in Lean hashes anything: it is a label: what it is worth is what the hold of that sum in a sandbox is worth. -/
noncomputable def Try.pinned : Pinned := { name := "ytmocjhildphklaa", sum := "a56cc3e2d9aacbc1727a1b2c42b7d823b3725ff980269b9c6def3b8abd4f3209", checked := Try.checked }
namespace Rows
def none {H : Type} : Left H := { results := [], args := [] }

/-- 'selvagelaw03.StrsPacks': WHATEVER THE INPUT: true; the input reads as it did. -/
def strsPacksSpec : ChangeSpec := { name := "strsPacks", fn := fun _ => fun
  | [d] => { results := [.lit (.bool true)], args := [d] }
  | _ => none }
def strsPacksRow : OpenClaim := { program := "ytmocjhildphklaa", sum := "a56cc3e2d9aacbc1727a1b2c42b7d823b3725ff980269b9c6def3b8abd4f3209", func := "selvage/selvagelaw03.StrsPacks", spec := "strsPacks", apart := false }
def StrsPacksSaid : Prop := strsPacksRow.holds Try.pinned (OpenSpec.ofChange strsPacksSpec)

/-- ITS FALSE NEIGHBOUR: 'it returns false'. Refute it at one input. -/
def strsPacksWrong : ChangeSpec := { name := "strsPacks", fn := fun _ => fun
  | [d] => { results := [.lit (.bool false)], args := [d] }
  | _ => none }
def StrsPacksWrongFalsely : Prop := strsPacksRow.holds Try.pinned (OpenSpec.ofChange strsPacksWrong)

/-- 'selvagelaw03.StrsQuotes': WHATEVER THE INPUT: true; the input reads as it did. -/
def strsQuotesSpec : ChangeSpec := { name := "strsQuotes", fn := fun _ => fun
  | [d] => { results := [.lit (.bool true)], args := [d] }
  | _ => none }
def strsQuotesRow : OpenClaim := { program := "ytmocjhildphklaa", sum := "a56cc3e2d9aacbc1727a1b2c42b7d823b3725ff980269b9c6def3b8abd4f3209", func := "selvage/selvagelaw03.StrsQuotes", spec := "strsQuotes", apart := false }
def StrsQuotesSaid : Prop := strsQuotesRow.holds Try.pinned (OpenSpec.ofChange strsQuotesSpec)

/-- ITS FALSE NEIGHBOUR: 'it returns false'. Refute it at one input. -/
def strsQuotesWrong : ChangeSpec := { name := "strsQuotes", fn := fun _ => fun
  | [d] => { results := [.lit (.bool false)], args := [d] }
  | _ => none }
def StrsQuotesWrongFalsely : Prop := strsQuotesRow.holds Try.pinned (OpenSpec.ofChange strsQuotesWrong)

/-- 'selvagelaw03.StrsReads': WHATEVER THE INPUT: true; the input reads as it did. -/
def strsReadsSpec : ChangeSpec := { name := "strsReads", fn := fun _ => fun
  | [d] => { results := [.lit (.bool true)], args := [d] }
  | _ => none }
def strsReadsRow : OpenClaim := { program := "ytmocjhildphklaa", sum := "a56cc3e2d9aacbc1727a1b2c42b7d823b3725ff980269b9c6def3b8abd4f3209", func := "selvage/selvagelaw03.StrsReads", spec := "strsReads", apart := false }
def StrsReadsSaid : Prop := strsReadsRow.holds Try.pinned (OpenSpec.ofChange strsReadsSpec)

/-- ITS FALSE NEIGHBOUR: 'it returns false'. Refute it at one input. -/
def strsReadsWrong : ChangeSpec := { name := "strsReads", fn := fun _ => fun
  | [d] => { results := [.lit (.bool false)], args := [d] }
  | _ => none }
def StrsReadsWrongFalsely : Prop := strsReadsRow.holds Try.pinned (OpenSpec.ofChange strsReadsWrong)

/-- 'selvagelaw03.StrsBack': WHATEVER THE INPUT: true; the input reads as it did. -/
def strsBackSpec : ChangeSpec := { name := "strsBack", fn := fun _ => fun
  | [d1, d2] => { results := [.lit (.bool true)], args := [d1, d2] }
  | _ => none }
def strsBackRow : OpenClaim := { program := "ytmocjhildphklaa", sum := "a56cc3e2d9aacbc1727a1b2c42b7d823b3725ff980269b9c6def3b8abd4f3209", func := "selvage/selvagelaw03.StrsBack", spec := "strsBack", apart := false }
def StrsBackSaid : Prop := strsBackRow.holds Try.pinned (OpenSpec.ofChange strsBackSpec)

/-- ITS FALSE NEIGHBOUR: 'it returns false'. Refute it at one input. -/
def strsBackWrong : ChangeSpec := { name := "strsBack", fn := fun _ => fun
  | [d1, d2] => { results := [.lit (.bool false)], args := [d1, d2] }
  | _ => none }
def StrsBackWrongFalsely : Prop := strsBackRow.holds Try.pinned (OpenSpec.ofChange strsBackWrong)

/-- 'selvagelaw03.StrsLengths': WHATEVER THE INPUT: true; the input reads as it did. -/
def strsLengthsSpec : ChangeSpec := { name := "strsLengths", fn := fun _ => fun
  | [d] => { results := [.lit (.bool true)], args := [d] }
  | _ => none }
def strsLengthsRow : OpenClaim := { program := "ytmocjhildphklaa", sum := "a56cc3e2d9aacbc1727a1b2c42b7d823b3725ff980269b9c6def3b8abd4f3209", func := "selvage/selvagelaw03.StrsLengths", spec := "strsLengths", apart := false }
def StrsLengthsSaid : Prop := strsLengthsRow.holds Try.pinned (OpenSpec.ofChange strsLengthsSpec)

/-- ITS FALSE NEIGHBOUR: 'it returns false'. Refute it at one input. -/
def strsLengthsWrong : ChangeSpec := { name := "strsLengths", fn := fun _ => fun
  | [d] => { results := [.lit (.bool false)], args := [d] }
  | _ => none }
def StrsLengthsWrongFalsely : Prop := strsLengthsRow.holds Try.pinned (OpenSpec.ofChange strsLengthsWrong)

/-- 'selvagelaw03.StrsPlain': WHATEVER THE INPUT: true; the input reads as it did. -/
def strsPlainSpec : ChangeSpec := { name := "strsPlain", fn := fun _ => fun
  | [d] => { results := [.lit (.bool true)], args := [d] }
  | _ => none }
def strsPlainRow : OpenClaim := { program := "ytmocjhildphklaa", sum := "a56cc3e2d9aacbc1727a1b2c42b7d823b3725ff980269b9c6def3b8abd4f3209", func := "selvage/selvagelaw03.StrsPlain", spec := "strsPlain", apart := false }
def StrsPlainSaid : Prop := strsPlainRow.holds Try.pinned (OpenSpec.ofChange strsPlainSpec)

/-- ITS FALSE NEIGHBOUR: 'it returns false'. Refute it at one input. -/
def strsPlainWrong : ChangeSpec := { name := "strsPlain", fn := fun _ => fun
  | [d] => { results := [.lit (.bool false)], args := [d] }
  | _ => none }
def StrsPlainWrongFalsely : Prop := strsPlainRow.holds Try.pinned (OpenSpec.ofChange strsPlainWrong)

/-- 'selvagelaw03.StrsJoins': WHATEVER THE INPUT: true; the input reads as it did. -/
def strsJoinsSpec : ChangeSpec := { name := "strsJoins", fn := fun _ => fun
  | [d1, d2] => { results := [.lit (.bool true)], args := [d1, d2] }
  | _ => none }
def strsJoinsRow : OpenClaim := { program := "ytmocjhildphklaa", sum := "a56cc3e2d9aacbc1727a1b2c42b7d823b3725ff980269b9c6def3b8abd4f3209", func := "selvage/selvagelaw03.StrsJoins", spec := "strsJoins", apart := false }
def StrsJoinsSaid : Prop := strsJoinsRow.holds Try.pinned (OpenSpec.ofChange strsJoinsSpec)

/-- ITS FALSE NEIGHBOUR: 'it returns false'. Refute it at one input. -/
def strsJoinsWrong : ChangeSpec := { name := "strsJoins", fn := fun _ => fun
  | [d1, d2] => { results := [.lit (.bool false)], args := [d1, d2] }
  | _ => none }
def StrsJoinsWrongFalsely : Prop := strsJoinsRow.holds Try.pinned (OpenSpec.ofChange strsJoinsWrong)

/-- 'selvagelaw03.StrsUnpacks': WHATEVER THE INPUT: true; the input reads as it did. -/
def strsUnpacksSpec : ChangeSpec := { name := "strsUnpacks", fn := fun _ => fun
  | [d] => { results := [.lit (.bool true)], args := [d] }
  | _ => none }
def strsUnpacksRow : OpenClaim := { program := "ytmocjhildphklaa", sum := "a56cc3e2d9aacbc1727a1b2c42b7d823b3725ff980269b9c6def3b8abd4f3209", func := "selvage/selvagelaw03.StrsUnpacks", spec := "strsUnpacks", apart := false }
def StrsUnpacksSaid : Prop := strsUnpacksRow.holds Try.pinned (OpenSpec.ofChange strsUnpacksSpec)

/-- ITS FALSE NEIGHBOUR: 'it returns false'. Refute it at one input. -/
def strsUnpacksWrong : ChangeSpec := { name := "strsUnpacks", fn := fun _ => fun
  | [d] => { results := [.lit (.bool false)], args := [d] }
  | _ => none }
def StrsUnpacksWrongFalsely : Prop := strsUnpacksRow.holds Try.pinned (OpenSpec.ofChange strsUnpacksWrong)

/-- 'selvagelaw03.StrsRound': WHATEVER THE INPUT: true; the input reads as it did. -/
def strsRoundSpec : ChangeSpec := { name := "strsRound", fn := fun _ => fun
  | [d1, d2] => { results := [.lit (.bool true)], args := [d1, d2] }
  | _ => none }
def strsRoundRow : OpenClaim := { program := "ytmocjhildphklaa", sum := "a56cc3e2d9aacbc1727a1b2c42b7d823b3725ff980269b9c6def3b8abd4f3209", func := "selvage/selvagelaw03.StrsRound", spec := "strsRound", apart := false }
def StrsRoundSaid : Prop := strsRoundRow.holds Try.pinned (OpenSpec.ofChange strsRoundSpec)

/-- ITS FALSE NEIGHBOUR: 'it returns false'. Refute it at one input. -/
def strsRoundWrong : ChangeSpec := { name := "strsRound", fn := fun _ => fun
  | [d1, d2] => { results := [.lit (.bool false)], args := [d1, d2] }
  | _ => none }
def StrsRoundWrongFalsely : Prop := strsRoundRow.holds Try.pinned (OpenSpec.ofChange strsRoundWrong)

/- THE SECOND FORM. 'bulk': how many values and letters a reading holds, each counted each time it is reached (what is shared counts as often as it is met; a slice's spare places count too). A statement '..UptoSaid' is the law's where the arguments, and the package variables that the reading takes, are together of bulk at most 1048576: NARROWER than '..Said'. Prove '..Said' where nothing that the law and all that it calls make is longer than what came in: it says more and counts as full. Else prove '..UptoSaid'. A law counts once. -/
mutual
def uptoBulk {H : Type} : DataW H → Nat
  | .lit (.string bytes) => bytes.length + 1
  | .lit _ => 1
  | .nil => 1
  | .ptr d => uptoBulk d + 1
  | .slice elems spare => uptoBulkAll elems + uptoBulkAll spare + 1
  | .agg parts => uptoBulkAll parts + 1
  | .iface _ d => uptoBulk d + 1
  | .map entries => uptoBulkEntries entries + 1
  | .held _ => 1
def uptoBulkAll {H : Type} : List (DataW H) → Nat
  | [] => 0
  | d :: r => uptoBulk d + uptoBulkAll r
def uptoBulkEntries {H : Type} : List (Lit × DataW H) → Nat
  | [] => 0
  | x :: r => uptoBulkEntry x + uptoBulkEntries r
def uptoBulkEntry {H : Type} : Lit × DataW H → Nat
  | (.string bytes, d) => bytes.length + uptoBulk d + 1
  | (_, d) => uptoBulk d + 1
 end
def uptoSmall : (H : Type) → List (DataW H) → Bool := fun _ ds => decide (uptoBulkAll ds ≤ 1048576)
def OpenSpec.upto (s : _root_.Go.ChangeSpec) : _root_.Go.OpenSpec := { _root_.Go.OpenSpec.ofChange s with cond := some uptoSmall }

/-- 'selvagelaw03.StrsPacks', WHERE WHAT IT READS IS OF BULK AT MOST 1048576: true; the input reads as it did. -/
def strsPacksUptoRow : OpenClaim := { program := "ytmocjhildphklaa", sum := "a56cc3e2d9aacbc1727a1b2c42b7d823b3725ff980269b9c6def3b8abd4f3209", func := "selvage/selvagelaw03.StrsPacks", spec := "strsPacks", apart := false, narrowed := true }
def StrsPacksUptoSaid : Prop := strsPacksUptoRow.holds Try.pinned (OpenSpec.upto strsPacksSpec)

/-- 'selvagelaw03.StrsQuotes', WHERE WHAT IT READS IS OF BULK AT MOST 1048576: true; the input reads as it did. -/
def strsQuotesUptoRow : OpenClaim := { program := "ytmocjhildphklaa", sum := "a56cc3e2d9aacbc1727a1b2c42b7d823b3725ff980269b9c6def3b8abd4f3209", func := "selvage/selvagelaw03.StrsQuotes", spec := "strsQuotes", apart := false, narrowed := true }
def StrsQuotesUptoSaid : Prop := strsQuotesUptoRow.holds Try.pinned (OpenSpec.upto strsQuotesSpec)

/-- 'selvagelaw03.StrsReads', WHERE WHAT IT READS IS OF BULK AT MOST 1048576: true; the input reads as it did. -/
def strsReadsUptoRow : OpenClaim := { program := "ytmocjhildphklaa", sum := "a56cc3e2d9aacbc1727a1b2c42b7d823b3725ff980269b9c6def3b8abd4f3209", func := "selvage/selvagelaw03.StrsReads", spec := "strsReads", apart := false, narrowed := true }
def StrsReadsUptoSaid : Prop := strsReadsUptoRow.holds Try.pinned (OpenSpec.upto strsReadsSpec)

/-- 'selvagelaw03.StrsBack', WHERE WHAT IT READS IS OF BULK AT MOST 1048576: true; the input reads as it did. -/
def strsBackUptoRow : OpenClaim := { program := "ytmocjhildphklaa", sum := "a56cc3e2d9aacbc1727a1b2c42b7d823b3725ff980269b9c6def3b8abd4f3209", func := "selvage/selvagelaw03.StrsBack", spec := "strsBack", apart := false, narrowed := true }
def StrsBackUptoSaid : Prop := strsBackUptoRow.holds Try.pinned (OpenSpec.upto strsBackSpec)

/-- 'selvagelaw03.StrsLengths', WHERE WHAT IT READS IS OF BULK AT MOST 1048576: true; the input reads as it did. -/
def strsLengthsUptoRow : OpenClaim := { program := "ytmocjhildphklaa", sum := "a56cc3e2d9aacbc1727a1b2c42b7d823b3725ff980269b9c6def3b8abd4f3209", func := "selvage/selvagelaw03.StrsLengths", spec := "strsLengths", apart := false, narrowed := true }
def StrsLengthsUptoSaid : Prop := strsLengthsUptoRow.holds Try.pinned (OpenSpec.upto strsLengthsSpec)

/-- 'selvagelaw03.StrsPlain', WHERE WHAT IT READS IS OF BULK AT MOST 1048576: true; the input reads as it did. -/
def strsPlainUptoRow : OpenClaim := { program := "ytmocjhildphklaa", sum := "a56cc3e2d9aacbc1727a1b2c42b7d823b3725ff980269b9c6def3b8abd4f3209", func := "selvage/selvagelaw03.StrsPlain", spec := "strsPlain", apart := false, narrowed := true }
def StrsPlainUptoSaid : Prop := strsPlainUptoRow.holds Try.pinned (OpenSpec.upto strsPlainSpec)

/-- 'selvagelaw03.StrsJoins', WHERE WHAT IT READS IS OF BULK AT MOST 1048576: true; the input reads as it did. -/
def strsJoinsUptoRow : OpenClaim := { program := "ytmocjhildphklaa", sum := "a56cc3e2d9aacbc1727a1b2c42b7d823b3725ff980269b9c6def3b8abd4f3209", func := "selvage/selvagelaw03.StrsJoins", spec := "strsJoins", apart := false, narrowed := true }
def StrsJoinsUptoSaid : Prop := strsJoinsUptoRow.holds Try.pinned (OpenSpec.upto strsJoinsSpec)

/-- 'selvagelaw03.StrsUnpacks', WHERE WHAT IT READS IS OF BULK AT MOST 1048576: true; the input reads as it did. -/
def strsUnpacksUptoRow : OpenClaim := { program := "ytmocjhildphklaa", sum := "a56cc3e2d9aacbc1727a1b2c42b7d823b3725ff980269b9c6def3b8abd4f3209", func := "selvage/selvagelaw03.StrsUnpacks", spec := "strsUnpacks", apart := false, narrowed := true }
def StrsUnpacksUptoSaid : Prop := strsUnpacksUptoRow.holds Try.pinned (OpenSpec.upto strsUnpacksSpec)

/-- 'selvagelaw03.StrsRound', WHERE WHAT IT READS IS OF BULK AT MOST 1048576: true; the input reads as it did. -/
def strsRoundUptoRow : OpenClaim := { program := "ytmocjhildphklaa", sum := "a56cc3e2d9aacbc1727a1b2c42b7d823b3725ff980269b9c6def3b8abd4f3209", func := "selvage/selvagelaw03.StrsRound", spec := "strsRound", apart := false, narrowed := true }
def StrsRoundUptoSaid : Prop := strsRoundUptoRow.holds Try.pinned (OpenSpec.upto strsRoundSpec)

end Rows
end Go.Proofs.Ytmocjhildphklaa
