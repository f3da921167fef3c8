/-
  DERIVED. GIVEN WITH THE SEED: THE CARDS: each row of YtmjjjnmfkdidgaaDoorRows.lean that lists a variable, with what it lists TIED to the program's text (the seventh form; the later family's looks); each row that meets fmt, with fmt's text TOLD by the authors' own Lean function (tested against real Go, not proved from fmt's source: count such statements apart). THE CARD IS WHAT COUNTS. Prove the row's statement (the work); the ties are given (YtmjjjnmfkdidgaaDoorTie.lean); close each card by the builder's one call (the guide's Derived/Test/ToyasCard.lean, 'card_holds'). Laid BY PROGRAM, IN A SANDBOX (cutbox-door.mjs). By AI agents, Wed Nov 11 2026. No macro, syntax, notation, axiom, sorry.
-/
import Derived.Test.YtmjjjnmfkdidgaaDoorRows
import GoSem.ClaimSeven
namespace Go.Proofs.YtmjjjnmfkdidgaaDoor
namespace Rows

/-- THE TIED CARD OF 'selvagelaw04.LexTokens'. -/
def lexTokensCard : Claim7 := { stood := { row := lexTokensRow, standIns := [], harness := (true, "79c769b734bee0a7299398f54f210b1ecdb411047799f69303c809a9bf82e357"), looks := false }, kinds := [], alts := [], laidByText := true, laidKinds := [.data, .pinned], laidTests := true, laidLooks := .later }
def LexTokensCardSaid : Prop := Claim7.holds Tryd.pinned (.plain (OpenSpec.ofChange lexTokensSpec)) lexTokensCard

/-- THE TIED CARD OF 'selvagelaw04.LexKeys'. -/
def lexKeysCard : Claim7 := { stood := { row := lexKeysRow, standIns := [], harness := (true, "79c769b734bee0a7299398f54f210b1ecdb411047799f69303c809a9bf82e357"), looks := false }, kinds := [], alts := [], laidByText := true, laidKinds := [.data, .pinned], laidTests := true, laidLooks := .later }
def LexKeysCardSaid : Prop := Claim7.holds Tryd.pinned (.plain (OpenSpec.ofChange lexKeysSpec)) lexKeysCard

/-- THE TIED CARD OF 'selvagelaw04.LexJoined'. -/
def lexJoinedCard : Claim7 := { stood := { row := lexJoinedRow, standIns := [], harness := (true, "79c769b734bee0a7299398f54f210b1ecdb411047799f69303c809a9bf82e357"), looks := false }, kinds := [], alts := [], laidByText := true, laidKinds := [.data, .pinned], laidTests := true, laidLooks := .later }
def LexJoinedCardSaid : Prop := Claim7.holds Tryd.pinned (.plain (OpenSpec.ofChange lexJoinedSpec)) lexJoinedCard

/-- THE TIED CARD OF 'selvagelaw04.LexPlaces'. -/
def lexPlacesCard : Claim7 := { stood := { row := lexPlacesRow, standIns := [], harness := (true, "79c769b734bee0a7299398f54f210b1ecdb411047799f69303c809a9bf82e357"), looks := false }, kinds := [], alts := [], laidByText := true, laidKinds := [.data, .pinned], laidTests := true, laidLooks := .later }
def LexPlacesCardSaid : Prop := Claim7.holds Tryd.pinned (.plain (OpenSpec.ofChange lexPlacesSpec)) lexPlacesCard

/-- THE TIED CARD OF 'selvagelaw04.LexLong'. -/
def lexLongCard : Claim7 := { stood := { row := lexLongRow, standIns := [], harness := (true, "79c769b734bee0a7299398f54f210b1ecdb411047799f69303c809a9bf82e357"), looks := false }, kinds := [], alts := [], laidByText := true, laidKinds := [.data, .pinned], laidTests := true, laidLooks := .later }
def LexLongCardSaid : Prop := Claim7.holds Tryd.pinned (.plain (OpenSpec.ofChange lexLongSpec)) lexLongCard

/-- THE TIED CARD OF 'selvagelaw04.LexNames'. -/
def lexNamesCard : Claim7 := { stood := { row := lexNamesRow, standIns := [], harness := (true, "79c769b734bee0a7299398f54f210b1ecdb411047799f69303c809a9bf82e357"), looks := false }, kinds := [], alts := [], laidByText := true, laidKinds := [.data, .pinned], laidTests := true, laidLooks := .later }
def LexNamesCardSaid : Prop := Claim7.holds Tryd.pinned (.plain (OpenSpec.ofChange lexNamesSpec)) lexNamesCard

/-- THE TIED CARD OF 'selvagelaw04.LexDigits'. -/
def lexDigitsCard : Claim7 := { stood := { row := lexDigitsRow, standIns := [], harness := (true, "79c769b734bee0a7299398f54f210b1ecdb411047799f69303c809a9bf82e357"), looks := false }, kinds := [], alts := [], laidByText := true, laidKinds := [.data, .pinned], laidTests := true, laidLooks := .later }
def LexDigitsCardSaid : Prop := Claim7.holds Tryd.pinned (.plain (OpenSpec.ofChange lexDigitsSpec)) lexDigitsCard

/-- THE SECOND FORM's CARD OF 'selvagelaw04.LexTokens'. -/
def lexTokensUptoCard : Claim7 := { stood := { row := lexTokensUptoRow, standIns := [], harness := (true, "79c769b734bee0a7299398f54f210b1ecdb411047799f69303c809a9bf82e357"), looks := false }, kinds := [], alts := [], laidByText := true, laidKinds := [.data, .pinned], laidTests := true, laidLooks := .later }
def LexTokensUptoCardSaid : Prop := Claim7.holds Tryd.pinned (.plain (OpenSpec.upto lexTokensSpec)) lexTokensUptoCard

/-- THE SECOND FORM's CARD OF 'selvagelaw04.LexKeys'. -/
def lexKeysUptoCard : Claim7 := { stood := { row := lexKeysUptoRow, standIns := [], harness := (true, "79c769b734bee0a7299398f54f210b1ecdb411047799f69303c809a9bf82e357"), looks := false }, kinds := [], alts := [], laidByText := true, laidKinds := [.data, .pinned], laidTests := true, laidLooks := .later }
def LexKeysUptoCardSaid : Prop := Claim7.holds Tryd.pinned (.plain (OpenSpec.upto lexKeysSpec)) lexKeysUptoCard

/-- THE SECOND FORM's CARD OF 'selvagelaw04.LexJoined'. -/
def lexJoinedUptoCard : Claim7 := { stood := { row := lexJoinedUptoRow, standIns := [], harness := (true, "79c769b734bee0a7299398f54f210b1ecdb411047799f69303c809a9bf82e357"), looks := false }, kinds := [], alts := [], laidByText := true, laidKinds := [.data, .pinned], laidTests := true, laidLooks := .later }
def LexJoinedUptoCardSaid : Prop := Claim7.holds Tryd.pinned (.plain (OpenSpec.upto lexJoinedSpec)) lexJoinedUptoCard

/-- THE SECOND FORM's CARD OF 'selvagelaw04.LexPlaces'. -/
def lexPlacesUptoCard : Claim7 := { stood := { row := lexPlacesUptoRow, standIns := [], harness := (true, "79c769b734bee0a7299398f54f210b1ecdb411047799f69303c809a9bf82e357"), looks := false }, kinds := [], alts := [], laidByText := true, laidKinds := [.data, .pinned], laidTests := true, laidLooks := .later }
def LexPlacesUptoCardSaid : Prop := Claim7.holds Tryd.pinned (.plain (OpenSpec.upto lexPlacesSpec)) lexPlacesUptoCard

/-- THE SECOND FORM's CARD OF 'selvagelaw04.LexLong'. -/
def lexLongUptoCard : Claim7 := { stood := { row := lexLongUptoRow, standIns := [], harness := (true, "79c769b734bee0a7299398f54f210b1ecdb411047799f69303c809a9bf82e357"), looks := false }, kinds := [], alts := [], laidByText := true, laidKinds := [.data, .pinned], laidTests := true, laidLooks := .later }
def LexLongUptoCardSaid : Prop := Claim7.holds Tryd.pinned (.plain (OpenSpec.upto lexLongSpec)) lexLongUptoCard

/-- THE SECOND FORM's CARD OF 'selvagelaw04.LexNames'. -/
def lexNamesUptoCard : Claim7 := { stood := { row := lexNamesUptoRow, standIns := [], harness := (true, "79c769b734bee0a7299398f54f210b1ecdb411047799f69303c809a9bf82e357"), looks := false }, kinds := [], alts := [], laidByText := true, laidKinds := [.data, .pinned], laidTests := true, laidLooks := .later }
def LexNamesUptoCardSaid : Prop := Claim7.holds Tryd.pinned (.plain (OpenSpec.upto lexNamesSpec)) lexNamesUptoCard

/-- THE SECOND FORM's CARD OF 'selvagelaw04.LexDigits'. -/
def lexDigitsUptoCard : Claim7 := { stood := { row := lexDigitsUptoRow, standIns := [], harness := (true, "79c769b734bee0a7299398f54f210b1ecdb411047799f69303c809a9bf82e357"), looks := false }, kinds := [], alts := [], laidByText := true, laidKinds := [.data, .pinned], laidTests := true, laidLooks := .later }
def LexDigitsUptoCardSaid : Prop := Claim7.holds Tryd.pinned (.plain (OpenSpec.upto lexDigitsSpec)) lexDigitsUptoCard
end Rows
end Go.Proofs.YtmjjjnmfkdidgaaDoor
