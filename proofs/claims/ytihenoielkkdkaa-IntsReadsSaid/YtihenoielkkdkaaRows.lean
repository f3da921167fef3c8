/-
  No cell of these rows narrows 'for every input' (looked for: loops, veiled, ifaces, maps, wideKeys, modest, calm, conditions, laid).
  DERIVED. THE GIVEN ROWS OF THIS SEAT. 10 by the template 'for every input the law returns true; each argument reads behind the call as it read before'; 0 by the template 'total and deterministic' (their statements: YtihenoielkkdkaaTotals.lean).
  GIVEN WITH THE SEED: the statements are not yours to turn. If you find one false, say at which input.
  Laid BY PROGRAM, IN A SANDBOX (cutbox-rows.mjs): the forced cells as the released guide's own fill.sh prints them over the translation 8c6b52a8a3e9c9d0… (all of the seat's roots in one cut). By AI agents, Wed Nov 11 2026. No macro, syntax, notation, axiom, sorry.
-/
import Derived.Test.YtihenoielkkdkaaChecked
import GoSem.Claim
import GoSem.ClaimJoined
import GoSem.ClaimMapViews
import Derived.JoinedTies
import Derived.KernelRfl
namespace Go.Proofs.Ytihenoielkkdkaa
/- THE CELL 'sum', in the pinned program and in every row, IS THE sha256 OF THE DUMP (.gsa) THAT YtihenoielkkdkaaProg.lean LOADS. Nothing in Lean hashes anything: it is a label: what it is worth is what the hold of that sum in a sandbox is worth. -/
noncomputable def Try.pinned : Pinned := { name := "ytihenoielkkdkaa", sum := "8c6b52a8a3e9c9d0ee83bfb6e65833a2aa6d033377b9f5d68044f7383960b085", checked := Try.checked }
namespace Rows
def none {H : Type} : Left H := { results := [], args := [] }

/-- 'selvagelaw01.IntsDo': WHATEVER THE INPUT: true; the input reads as it did. -/
def intsDoSpec : ChangeSpec := { name := "intsDo", fn := fun _ => fun
  | [d1, d2, d3] => { results := [.lit (.bool true)], args := [d1, d2, d3] }
  | _ => none }
def intsDoRow : OpenClaim := { program := "ytihenoielkkdkaa", sum := "8c6b52a8a3e9c9d0ee83bfb6e65833a2aa6d033377b9f5d68044f7383960b085", func := "selvage/selvagelaw01.IntsDo", spec := "intsDo", apart := false }
def IntsDoSaid : Prop := intsDoRow.holds Try.pinned (OpenSpec.ofChange intsDoSpec)

/-- ITS FALSE NEIGHBOUR: 'it returns false'. Refute it at one input. -/
def intsDoWrong : ChangeSpec := { name := "intsDo", fn := fun _ => fun
  | [d1, d2, d3] => { results := [.lit (.bool false)], args := [d1, d2, d3] }
  | _ => none }
def IntsDoWrongFalsely : Prop := intsDoRow.holds Try.pinned (OpenSpec.ofChange intsDoWrong)

/-- 'selvagelaw01.IntsWrap': WHATEVER THE INPUT: true; the input reads as it did. -/
def intsWrapSpec : ChangeSpec := { name := "intsWrap", fn := fun _ => fun
  | [d] => { results := [.lit (.bool true)], args := [d] }
  | _ => none }
def intsWrapRow : OpenClaim := { program := "ytihenoielkkdkaa", sum := "8c6b52a8a3e9c9d0ee83bfb6e65833a2aa6d033377b9f5d68044f7383960b085", func := "selvage/selvagelaw01.IntsWrap", spec := "intsWrap", apart := false }
def IntsWrapSaid : Prop := intsWrapRow.holds Try.pinned (OpenSpec.ofChange intsWrapSpec)

/-- ITS FALSE NEIGHBOUR: 'it returns false'. Refute it at one input. -/
def intsWrapWrong : ChangeSpec := { name := "intsWrap", fn := fun _ => fun
  | [d] => { results := [.lit (.bool false)], args := [d] }
  | _ => none }
def IntsWrapWrongFalsely : Prop := intsWrapRow.holds Try.pinned (OpenSpec.ofChange intsWrapWrong)

/-- 'selvagelaw01.IntsRing': WHATEVER THE INPUT: true; the input reads as it did. -/
def intsRingSpec : ChangeSpec := { name := "intsRing", fn := fun _ => fun
  | [d1, d2, d3] => { results := [.lit (.bool true)], args := [d1, d2, d3] }
  | _ => none }
def intsRingRow : OpenClaim := { program := "ytihenoielkkdkaa", sum := "8c6b52a8a3e9c9d0ee83bfb6e65833a2aa6d033377b9f5d68044f7383960b085", func := "selvage/selvagelaw01.IntsRing", spec := "intsRing", apart := false }
def IntsRingSaid : Prop := intsRingRow.holds Try.pinned (OpenSpec.ofChange intsRingSpec)

/-- ITS FALSE NEIGHBOUR: 'it returns false'. Refute it at one input. -/
def intsRingWrong : ChangeSpec := { name := "intsRing", fn := fun _ => fun
  | [d1, d2, d3] => { results := [.lit (.bool false)], args := [d1, d2, d3] }
  | _ => none }
def IntsRingWrongFalsely : Prop := intsRingRow.holds Try.pinned (OpenSpec.ofChange intsRingWrong)

/-- 'selvagelaw01.IntsDivides': WHATEVER THE INPUT: true; the input reads as it did. -/
def intsDividesSpec : ChangeSpec := { name := "intsDivides", fn := fun _ => fun
  | [d1, d2] => { results := [.lit (.bool true)], args := [d1, d2] }
  | _ => none }
def intsDividesRow : OpenClaim := { program := "ytihenoielkkdkaa", sum := "8c6b52a8a3e9c9d0ee83bfb6e65833a2aa6d033377b9f5d68044f7383960b085", func := "selvage/selvagelaw01.IntsDivides", spec := "intsDivides", apart := false }
def IntsDividesSaid : Prop := intsDividesRow.holds Try.pinned (OpenSpec.ofChange intsDividesSpec)

/-- ITS FALSE NEIGHBOUR: 'it returns false'. Refute it at one input. -/
def intsDividesWrong : ChangeSpec := { name := "intsDivides", fn := fun _ => fun
  | [d1, d2] => { results := [.lit (.bool false)], args := [d1, d2] }
  | _ => none }
def IntsDividesWrongFalsely : Prop := intsDividesRow.holds Try.pinned (OpenSpec.ofChange intsDividesWrong)

/-- 'selvagelaw01.IntsOrder': WHATEVER THE INPUT: true; the input reads as it did. -/
def intsOrderSpec : ChangeSpec := { name := "intsOrder", fn := fun _ => fun
  | [d1, d2, d3] => { results := [.lit (.bool true)], args := [d1, d2, d3] }
  | _ => none }
def intsOrderRow : OpenClaim := { program := "ytihenoielkkdkaa", sum := "8c6b52a8a3e9c9d0ee83bfb6e65833a2aa6d033377b9f5d68044f7383960b085", func := "selvage/selvagelaw01.IntsOrder", spec := "intsOrder", apart := false }
def IntsOrderSaid : Prop := intsOrderRow.holds Try.pinned (OpenSpec.ofChange intsOrderSpec)

/-- ITS FALSE NEIGHBOUR: 'it returns false'. Refute it at one input. -/
def intsOrderWrong : ChangeSpec := { name := "intsOrder", fn := fun _ => fun
  | [d1, d2, d3] => { results := [.lit (.bool false)], args := [d1, d2, d3] }
  | _ => none }
def IntsOrderWrongFalsely : Prop := intsOrderRow.holds Try.pinned (OpenSpec.ofChange intsOrderWrong)

/-- 'selvagelaw01.IntsBack': WHATEVER THE INPUT: true; the input reads as it did. -/
def intsBackSpec : ChangeSpec := { name := "intsBack", fn := fun _ => fun
  | [d1, d2] => { results := [.lit (.bool true)], args := [d1, d2] }
  | _ => none }
def intsBackRow : OpenClaim := { program := "ytihenoielkkdkaa", sum := "8c6b52a8a3e9c9d0ee83bfb6e65833a2aa6d033377b9f5d68044f7383960b085", func := "selvage/selvagelaw01.IntsBack", spec := "intsBack", apart := false }
def IntsBackSaid : Prop := intsBackRow.holds Try.pinned (OpenSpec.ofChange intsBackSpec)

/-- ITS FALSE NEIGHBOUR: 'it returns false'. Refute it at one input. -/
def intsBackWrong : ChangeSpec := { name := "intsBack", fn := fun _ => fun
  | [d1, d2] => { results := [.lit (.bool false)], args := [d1, d2] }
  | _ => none }
def IntsBackWrongFalsely : Prop := intsBackRow.holds Try.pinned (OpenSpec.ofChange intsBackWrong)

/-- 'selvagelaw01.IntsWords': WHATEVER THE INPUT: true; the input reads as it did. -/
def intsWordsSpec : ChangeSpec := { name := "intsWords", fn := fun _ => fun
  | [d1, d2, d3, d4] => { results := [.lit (.bool true)], args := [d1, d2, d3, d4] }
  | _ => none }
def intsWordsRow : OpenClaim := { program := "ytihenoielkkdkaa", sum := "8c6b52a8a3e9c9d0ee83bfb6e65833a2aa6d033377b9f5d68044f7383960b085", func := "selvage/selvagelaw01.IntsWords", spec := "intsWords", apart := false }
def IntsWordsSaid : Prop := intsWordsRow.holds Try.pinned (OpenSpec.ofChange intsWordsSpec)

/-- ITS FALSE NEIGHBOUR: 'it returns false'. Refute it at one input. -/
def intsWordsWrong : ChangeSpec := { name := "intsWords", fn := fun _ => fun
  | [d1, d2, d3, d4] => { results := [.lit (.bool false)], args := [d1, d2, d3, d4] }
  | _ => none }
def IntsWordsWrongFalsely : Prop := intsWordsRow.holds Try.pinned (OpenSpec.ofChange intsWordsWrong)

/-- 'selvagelaw01.IntsKinds': WHATEVER THE INPUT: true; the input reads as it did. -/
def intsKindsSpec : ChangeSpec := { name := "intsKinds", fn := fun _ => fun
  | [d] => { results := [.lit (.bool true)], args := [d] }
  | _ => none }
def intsKindsRow : OpenClaim := { program := "ytihenoielkkdkaa", sum := "8c6b52a8a3e9c9d0ee83bfb6e65833a2aa6d033377b9f5d68044f7383960b085", func := "selvage/selvagelaw01.IntsKinds", spec := "intsKinds", apart := false }
def IntsKindsSaid : Prop := intsKindsRow.holds Try.pinned (OpenSpec.ofChange intsKindsSpec)

/-- ITS FALSE NEIGHBOUR: 'it returns false'. Refute it at one input. -/
def intsKindsWrong : ChangeSpec := { name := "intsKinds", fn := fun _ => fun
  | [d] => { results := [.lit (.bool false)], args := [d] }
  | _ => none }
def IntsKindsWrongFalsely : Prop := intsKindsRow.holds Try.pinned (OpenSpec.ofChange intsKindsWrong)

/-- 'selvagelaw01.IntsShows': WHATEVER THE INPUT: true; the input reads as it did. -/
def intsShowsSpec : ChangeSpec := { name := "intsShows", fn := fun _ => fun
  | [d] => { results := [.lit (.bool true)], args := [d] }
  | _ => none }
def intsShowsRow : OpenClaim := { program := "ytihenoielkkdkaa", sum := "8c6b52a8a3e9c9d0ee83bfb6e65833a2aa6d033377b9f5d68044f7383960b085", func := "selvage/selvagelaw01.IntsShows", spec := "intsShows", apart := false }
def IntsShowsSaid : Prop := intsShowsRow.holds Try.pinned (OpenSpec.ofChange intsShowsSpec)

/-- ITS FALSE NEIGHBOUR: 'it returns false'. Refute it at one input. -/
def intsShowsWrong : ChangeSpec := { name := "intsShows", fn := fun _ => fun
  | [d] => { results := [.lit (.bool false)], args := [d] }
  | _ => none }
def IntsShowsWrongFalsely : Prop := intsShowsRow.holds Try.pinned (OpenSpec.ofChange intsShowsWrong)

/-- 'selvagelaw01.IntsReads': WHATEVER THE INPUT: true; the input reads as it did. -/
def intsReadsSpec : ChangeSpec := { name := "intsReads", fn := fun _ => fun
  | [d] => { results := [.lit (.bool true)], args := [d] }
  | _ => none }
def intsReadsRow : OpenClaim := { program := "ytihenoielkkdkaa", sum := "8c6b52a8a3e9c9d0ee83bfb6e65833a2aa6d033377b9f5d68044f7383960b085", func := "selvage/selvagelaw01.IntsReads", spec := "intsReads", apart := false }
def IntsReadsSaid : Prop := intsReadsRow.holds Try.pinned (OpenSpec.ofChange intsReadsSpec)

/-- ITS FALSE NEIGHBOUR: 'it returns false'. Refute it at one input. -/
def intsReadsWrong : ChangeSpec := { name := "intsReads", fn := fun _ => fun
  | [d] => { results := [.lit (.bool false)], args := [d] }
  | _ => none }
def IntsReadsWrongFalsely : Prop := intsReadsRow.holds Try.pinned (OpenSpec.ofChange intsReadsWrong)

/- THE SECOND FORM. 'bulk': how many values and letters a reading holds, each counted each time it is reached (what is shared counts as often as it is met; a slice's spare places count too). A statement '..UptoSaid' is the law's where the arguments, and the package variables that the reading takes, are together of bulk at most 1048576: NARROWER than '..Said'. Prove '..Said' where nothing that the law and all that it calls make is longer than what came in: it says more and counts as full. Else prove '..UptoSaid'. A law counts once. -/
mutual
def uptoBulk {H : Type} : DataW H → Nat
  | .lit (.string bytes) => bytes.length + 1
  | .lit _ => 1
  | .nil => 1
  | .ptr d => uptoBulk d + 1
  | .slice elems spare => uptoBulkAll elems + uptoBulkAll spare + 1
  | .agg parts => uptoBulkAll parts + 1
  | .iface _ d => uptoBulk d + 1
  | .map entries => uptoBulkEntries entries + 1
  | .held _ => 1
def uptoBulkAll {H : Type} : List (DataW H) → Nat
  | [] => 0
  | d :: r => uptoBulk d + uptoBulkAll r
def uptoBulkEntries {H : Type} : List (Lit × DataW H) → Nat
  | [] => 0
  | x :: r => uptoBulkEntry x + uptoBulkEntries r
def uptoBulkEntry {H : Type} : Lit × DataW H → Nat
  | (.string bytes, d) => bytes.length + uptoBulk d + 1
  | (_, d) => uptoBulk d + 1
 end
def uptoSmall : (H : Type) → List (DataW H) → Bool := fun _ ds => decide (uptoBulkAll ds ≤ 1048576)
def OpenSpec.upto (s : _root_.Go.ChangeSpec) : _root_.Go.OpenSpec := { _root_.Go.OpenSpec.ofChange s with cond := some uptoSmall }

/-- 'selvagelaw01.IntsDo', WHERE WHAT IT READS IS OF BULK AT MOST 1048576: true; the input reads as it did. -/
def intsDoUptoRow : OpenClaim := { program := "ytihenoielkkdkaa", sum := "8c6b52a8a3e9c9d0ee83bfb6e65833a2aa6d033377b9f5d68044f7383960b085", func := "selvage/selvagelaw01.IntsDo", spec := "intsDo", apart := false, narrowed := true }
def IntsDoUptoSaid : Prop := intsDoUptoRow.holds Try.pinned (OpenSpec.upto intsDoSpec)

/-- 'selvagelaw01.IntsWrap', WHERE WHAT IT READS IS OF BULK AT MOST 1048576: true; the input reads as it did. -/
def intsWrapUptoRow : OpenClaim := { program := "ytihenoielkkdkaa", sum := "8c6b52a8a3e9c9d0ee83bfb6e65833a2aa6d033377b9f5d68044f7383960b085", func := "selvage/selvagelaw01.IntsWrap", spec := "intsWrap", apart := false, narrowed := true }
def IntsWrapUptoSaid : Prop := intsWrapUptoRow.holds Try.pinned (OpenSpec.upto intsWrapSpec)

/-- 'selvagelaw01.IntsRing', WHERE WHAT IT READS IS OF BULK AT MOST 1048576: true; the input reads as it did. -/
def intsRingUptoRow : OpenClaim := { program := "ytihenoielkkdkaa", sum := "8c6b52a8a3e9c9d0ee83bfb6e65833a2aa6d033377b9f5d68044f7383960b085", func := "selvage/selvagelaw01.IntsRing", spec := "intsRing", apart := false, narrowed := true }
def IntsRingUptoSaid : Prop := intsRingUptoRow.holds Try.pinned (OpenSpec.upto intsRingSpec)

/-- 'selvagelaw01.IntsDivides', WHERE WHAT IT READS IS OF BULK AT MOST 1048576: true; the input reads as it did. -/
def intsDividesUptoRow : OpenClaim := { program := "ytihenoielkkdkaa", sum := "8c6b52a8a3e9c9d0ee83bfb6e65833a2aa6d033377b9f5d68044f7383960b085", func := "selvage/selvagelaw01.IntsDivides", spec := "intsDivides", apart := false, narrowed := true }
def IntsDividesUptoSaid : Prop := intsDividesUptoRow.holds Try.pinned (OpenSpec.upto intsDividesSpec)

/-- 'selvagelaw01.IntsOrder', WHERE WHAT IT READS IS OF BULK AT MOST 1048576: true; the input reads as it did. -/
def intsOrderUptoRow : OpenClaim := { program := "ytihenoielkkdkaa", sum := "8c6b52a8a3e9c9d0ee83bfb6e65833a2aa6d033377b9f5d68044f7383960b085", func := "selvage/selvagelaw01.IntsOrder", spec := "intsOrder", apart := false, narrowed := true }
def IntsOrderUptoSaid : Prop := intsOrderUptoRow.holds Try.pinned (OpenSpec.upto intsOrderSpec)

/-- 'selvagelaw01.IntsBack', WHERE WHAT IT READS IS OF BULK AT MOST 1048576: true; the input reads as it did. -/
def intsBackUptoRow : OpenClaim := { program := "ytihenoielkkdkaa", sum := "8c6b52a8a3e9c9d0ee83bfb6e65833a2aa6d033377b9f5d68044f7383960b085", func := "selvage/selvagelaw01.IntsBack", spec := "intsBack", apart := false, narrowed := true }
def IntsBackUptoSaid : Prop := intsBackUptoRow.holds Try.pinned (OpenSpec.upto intsBackSpec)

/-- 'selvagelaw01.IntsWords', WHERE WHAT IT READS IS OF BULK AT MOST 1048576: true; the input reads as it did. -/
def intsWordsUptoRow : OpenClaim := { program := "ytihenoielkkdkaa", sum := "8c6b52a8a3e9c9d0ee83bfb6e65833a2aa6d033377b9f5d68044f7383960b085", func := "selvage/selvagelaw01.IntsWords", spec := "intsWords", apart := false, narrowed := true }
def IntsWordsUptoSaid : Prop := intsWordsUptoRow.holds Try.pinned (OpenSpec.upto intsWordsSpec)

/-- 'selvagelaw01.IntsKinds', WHERE WHAT IT READS IS OF BULK AT MOST 1048576: true; the input reads as it did. -/
def intsKindsUptoRow : OpenClaim := { program := "ytihenoielkkdkaa", sum := "8c6b52a8a3e9c9d0ee83bfb6e65833a2aa6d033377b9f5d68044f7383960b085", func := "selvage/selvagelaw01.IntsKinds", spec := "intsKinds", apart := false, narrowed := true }
def IntsKindsUptoSaid : Prop := intsKindsUptoRow.holds Try.pinned (OpenSpec.upto intsKindsSpec)

/-- 'selvagelaw01.IntsShows', WHERE WHAT IT READS IS OF BULK AT MOST 1048576: true; the input reads as it did. -/
def intsShowsUptoRow : OpenClaim := { program := "ytihenoielkkdkaa", sum := "8c6b52a8a3e9c9d0ee83bfb6e65833a2aa6d033377b9f5d68044f7383960b085", func := "selvage/selvagelaw01.IntsShows", spec := "intsShows", apart := false, narrowed := true }
def IntsShowsUptoSaid : Prop := intsShowsUptoRow.holds Try.pinned (OpenSpec.upto intsShowsSpec)

/-- 'selvagelaw01.IntsReads', WHERE WHAT IT READS IS OF BULK AT MOST 1048576: true; the input reads as it did. -/
def intsReadsUptoRow : OpenClaim := { program := "ytihenoielkkdkaa", sum := "8c6b52a8a3e9c9d0ee83bfb6e65833a2aa6d033377b9f5d68044f7383960b085", func := "selvage/selvagelaw01.IntsReads", spec := "intsReads", apart := false, narrowed := true }
def IntsReadsUptoSaid : Prop := intsReadsUptoRow.holds Try.pinned (OpenSpec.upto intsReadsSpec)

end Rows
end Go.Proofs.Ytihenoielkkdkaa
