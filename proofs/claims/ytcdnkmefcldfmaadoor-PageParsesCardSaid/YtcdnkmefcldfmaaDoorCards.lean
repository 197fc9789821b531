/-
  DERIVED. GIVEN WITH THE SEED: THE CARDS: each row of YtcdnkmefcldfmaaDoorRows.lean that lists a variable, with what it lists TIED to the program's text (the seventh form; the later family's looks); each row that meets fmt, with fmt's text TOLD by the authors' own Lean function (tested against real Go, not proved from fmt's source: count such statements apart). THE CARD IS WHAT COUNTS. Prove the row's statement (the work); the ties are given (YtcdnkmefcldfmaaDoorTie.lean); close each card by the builder's one call (the guide's Derived/Test/ToyasCard.lean, 'card_holds'). Laid BY PROGRAM, IN A SANDBOX (cutbox-door.mjs). By AI agents, Wed Nov 11 2026. No macro, syntax, notation, axiom, sorry.
-/
import Derived.Test.YtcdnkmefcldfmaaDoorRows
import GoSem.ClaimSeven
namespace Go.Proofs.YtcdnkmefcldfmaaDoor
namespace Rows

/-- THE TIED CARD OF 'umlautlaw26.PagePrints'. -/
def pagePrintsCard : Claim7 := { stood := { row := pagePrintsRow, standIns := [], harness := (true, "90982f69cbdade8cb96212e11faa162b27c13e6a9b40bfde0ccb2fbbbcf7dfa5"), looks := true }, kinds := [], alts := [], laidByText := true, laidKinds := [.data, .data, .data, .sentinel, .sentinel], laidTests := true, laidLooks := .later }
def PagePrintsCardSaid : Prop := Claim7.holds Tryd.pinned (.plain (OpenSpec.ofChange pagePrintsSpec)) pagePrintsCard

/-- THE TIED CARD OF 'umlautlaw26.PageParses'. -/
def pageParsesCard : Claim7 := { stood := { row := pageParsesRow, standIns := [], harness := (true, "90982f69cbdade8cb96212e11faa162b27c13e6a9b40bfde0ccb2fbbbcf7dfa5"), looks := true }, kinds := [], alts := [], laidByText := true, laidKinds := [.data, .data, .data, .sentinel, .sentinel], laidTests := true, laidLooks := .later }
def PageParsesCardSaid : Prop := Claim7.holds Tryd.pinned (.plain (OpenSpec.ofChange pageParsesSpec)) pageParsesCard

/-- THE TIED CARD OF 'umlautlaw26.PageBack'. -/
def pageBackCard : Claim7 := { stood := { row := pageBackRow, standIns := [], harness := (true, "90982f69cbdade8cb96212e11faa162b27c13e6a9b40bfde0ccb2fbbbcf7dfa5"), looks := true }, kinds := [], alts := [], laidByText := true, laidKinds := [.data, .data, .data, .sentinel, .sentinel], laidTests := true, laidLooks := .later }
def PageBackCardSaid : Prop := Claim7.holds Tryd.pinned (.plain (OpenSpec.ofChange pageBackSpec)) pageBackCard

/-- THE TIED CARD OF 'umlautlaw26.PageAgain'. -/
def pageAgainCard : Claim7 := { stood := { row := pageAgainRow, standIns := [], harness := (true, "90982f69cbdade8cb96212e11faa162b27c13e6a9b40bfde0ccb2fbbbcf7dfa5"), looks := true }, kinds := [], alts := [], laidByText := true, laidKinds := [.data, .data, .data, .sentinel, .sentinel], laidTests := true, laidLooks := .later }
def PageAgainCardSaid : Prop := Claim7.holds Tryd.pinned (.plain (OpenSpec.ofChange pageAgainSpec)) pageAgainCard

/-- THE TIED CARD OF 'umlautlaw26.PageLines'. -/
def pageLinesCard : Claim7 := { stood := { row := pageLinesRow, standIns := [], harness := (true, "90982f69cbdade8cb96212e11faa162b27c13e6a9b40bfde0ccb2fbbbcf7dfa5"), looks := true }, kinds := [], alts := [], laidByText := true, laidKinds := [.data, .data, .data, .sentinel, .sentinel], laidTests := true, laidLooks := .later }
def PageLinesCardSaid : Prop := Claim7.holds Tryd.pinned (.plain (OpenSpec.ofChange pageLinesSpec)) pageLinesCard

/-- THE SECOND FORM's CARD OF 'umlautlaw26.PagePrints'. -/
def pagePrintsUptoCard : Claim7 := { stood := { row := pagePrintsUptoRow, standIns := [], harness := (true, "90982f69cbdade8cb96212e11faa162b27c13e6a9b40bfde0ccb2fbbbcf7dfa5"), looks := true }, kinds := [], alts := [], laidByText := true, laidKinds := [.data, .data, .data, .sentinel, .sentinel], laidTests := true, laidLooks := .later }
def PagePrintsUptoCardSaid : Prop := Claim7.holds Tryd.pinned (.plain (OpenSpec.upto pagePrintsSpec)) pagePrintsUptoCard

/-- THE SECOND FORM's CARD OF 'umlautlaw26.PageParses'. -/
def pageParsesUptoCard : Claim7 := { stood := { row := pageParsesUptoRow, standIns := [], harness := (true, "90982f69cbdade8cb96212e11faa162b27c13e6a9b40bfde0ccb2fbbbcf7dfa5"), looks := true }, kinds := [], alts := [], laidByText := true, laidKinds := [.data, .data, .data, .sentinel, .sentinel], laidTests := true, laidLooks := .later }
def PageParsesUptoCardSaid : Prop := Claim7.holds Tryd.pinned (.plain (OpenSpec.upto pageParsesSpec)) pageParsesUptoCard

/-- THE SECOND FORM's CARD OF 'umlautlaw26.PageBack'. -/
def pageBackUptoCard : Claim7 := { stood := { row := pageBackUptoRow, standIns := [], harness := (true, "90982f69cbdade8cb96212e11faa162b27c13e6a9b40bfde0ccb2fbbbcf7dfa5"), looks := true }, kinds := [], alts := [], laidByText := true, laidKinds := [.data, .data, .data, .sentinel, .sentinel], laidTests := true, laidLooks := .later }
def PageBackUptoCardSaid : Prop := Claim7.holds Tryd.pinned (.plain (OpenSpec.upto pageBackSpec)) pageBackUptoCard

/-- THE SECOND FORM's CARD OF 'umlautlaw26.PageAgain'. -/
def pageAgainUptoCard : Claim7 := { stood := { row := pageAgainUptoRow, standIns := [], harness := (true, "90982f69cbdade8cb96212e11faa162b27c13e6a9b40bfde0ccb2fbbbcf7dfa5"), looks := true }, kinds := [], alts := [], laidByText := true, laidKinds := [.data, .data, .data, .sentinel, .sentinel], laidTests := true, laidLooks := .later }
def PageAgainUptoCardSaid : Prop := Claim7.holds Tryd.pinned (.plain (OpenSpec.upto pageAgainSpec)) pageAgainUptoCard

/-- THE SECOND FORM's CARD OF 'umlautlaw26.PageLines'. -/
def pageLinesUptoCard : Claim7 := { stood := { row := pageLinesUptoRow, standIns := [], harness := (true, "90982f69cbdade8cb96212e11faa162b27c13e6a9b40bfde0ccb2fbbbcf7dfa5"), looks := true }, kinds := [], alts := [], laidByText := true, laidKinds := [.data, .data, .data, .sentinel, .sentinel], laidTests := true, laidLooks := .later }
def PageLinesUptoCardSaid : Prop := Claim7.holds Tryd.pinned (.plain (OpenSpec.upto pageLinesSpec)) pageLinesUptoCard
end Rows
end Go.Proofs.YtcdnkmefcldfmaaDoor
