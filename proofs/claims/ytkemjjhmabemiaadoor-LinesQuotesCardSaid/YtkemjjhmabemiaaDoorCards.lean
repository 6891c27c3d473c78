/-
  DERIVED. GIVEN WITH THE SEED: THE CARDS: each row of YtkemjjhmabemiaaDoorRows.lean that lists a variable, with what it lists TIED to the program's text (the seventh form; the later family's looks); each row that meets fmt, with fmt's text TOLD by the authors' own Lean function (tested against real Go, not proved from fmt's source: count such statements apart). THE CARD IS WHAT COUNTS. Prove the row's statement (the work); the ties are given (YtkemjjhmabemiaaDoorTie.lean); close each card by the builder's one call (the guide's Derived/Test/ToyasCard.lean, 'card_holds'). Laid BY PROGRAM, IN A SANDBOX (cutbox-door.mjs). By AI agents, Wed Nov 11 2026. No macro, syntax, notation, axiom, sorry.
-/
import Derived.Test.YtkemjjhmabemiaaDoorRows
import GoSem.ClaimSeven
namespace Go.Proofs.YtkemjjhmabemiaaDoor
namespace Rows

/-- THE TIED CARD OF 'nearhandlaw06.LinesNames'. -/
def linesNamesCard : Claim7 := { stood := { row := linesNamesRow, standIns := [], harness := (true, "172e024e88f2d047c4072b8d271b406036c20a6b3fa6b861d4720387cd9725fb"), looks := true }, kinds := [], alts := [], laidByText := true, laidKinds := [.data, .data, .data, .data, .sentinel, .sentinel, .pinned], laidTests := true, laidLooks := .later }
def LinesNamesCardSaid : Prop := Claim7.holds Tryd.pinned (.plain (OpenSpec.ofChange linesNamesSpec)) linesNamesCard

/-- THE TIED CARD OF 'nearhandlaw06.LinesParses'. -/
def linesParsesCard : Claim7 := { stood := { row := linesParsesRow, standIns := [], harness := (true, "172e024e88f2d047c4072b8d271b406036c20a6b3fa6b861d4720387cd9725fb"), looks := true }, kinds := [], alts := [], laidByText := true, laidKinds := [.data, .data, .data, .data, .sentinel, .sentinel, .pinned], laidTests := true, laidLooks := .later }
def LinesParsesCardSaid : Prop := Claim7.holds Tryd.pinned (.plain (OpenSpec.ofChange linesParsesSpec)) linesParsesCard

/-- THE TIED CARD OF 'nearhandlaw06.LinesFeeds'. -/
def linesFeedsCard : Claim7 := { stood := { row := linesFeedsRow, standIns := [], harness := (true, "172e024e88f2d047c4072b8d271b406036c20a6b3fa6b861d4720387cd9725fb"), looks := true }, kinds := [], alts := [], laidByText := true, laidKinds := [.data, .data, .data, .data, .sentinel, .sentinel, .pinned], laidTests := true, laidLooks := .later }
def LinesFeedsCardSaid : Prop := Claim7.holds Tryd.pinned (.plain (OpenSpec.ofChange linesFeedsSpec)) linesFeedsCard

/-- THE TIED CARD OF 'nearhandlaw06.LinesStops'. -/
def linesStopsCard : Claim7 := { stood := { row := linesStopsRow, standIns := [], harness := (true, "172e024e88f2d047c4072b8d271b406036c20a6b3fa6b861d4720387cd9725fb"), looks := true }, kinds := [], alts := [], laidByText := true, laidKinds := [.data, .data, .data, .data, .sentinel, .sentinel, .pinned], laidTests := true, laidLooks := .later }
def LinesStopsCardSaid : Prop := Claim7.holds Tryd.pinned (.plain (OpenSpec.ofChange linesStopsSpec)) linesStopsCard

/-- THE TIED CARD OF 'nearhandlaw06.LinesAgain'. -/
def linesAgainCard : Claim7 := { stood := { row := linesAgainRow, standIns := [], harness := (true, "172e024e88f2d047c4072b8d271b406036c20a6b3fa6b861d4720387cd9725fb"), looks := true }, kinds := [], alts := [], laidByText := true, laidKinds := [.data, .data, .data, .data, .sentinel, .sentinel, .pinned], laidTests := true, laidLooks := .later }
def LinesAgainCardSaid : Prop := Claim7.holds Tryd.pinned (.plain (OpenSpec.ofChange linesAgainSpec)) linesAgainCard

/-- THE TIED CARD OF 'nearhandlaw06.LinesQuotes'. -/
def linesQuotesCard : Claim7 := { stood := { row := linesQuotesRow, standIns := [], harness := (true, "172e024e88f2d047c4072b8d271b406036c20a6b3fa6b861d4720387cd9725fb"), looks := true }, kinds := [], alts := [], laidByText := true, laidKinds := [.data, .data, .data, .data, .sentinel, .sentinel, .pinned], laidTests := true, laidLooks := .later }
def LinesQuotesCardSaid : Prop := Claim7.holds Tryd.pinned (.plain (OpenSpec.ofChange linesQuotesSpec)) linesQuotesCard

/-- THE SECOND FORM's CARD OF 'nearhandlaw06.LinesNames'. -/
def linesNamesUptoCard : Claim7 := { stood := { row := linesNamesUptoRow, standIns := [], harness := (true, "172e024e88f2d047c4072b8d271b406036c20a6b3fa6b861d4720387cd9725fb"), looks := true }, kinds := [], alts := [], laidByText := true, laidKinds := [.data, .data, .data, .data, .sentinel, .sentinel, .pinned], laidTests := true, laidLooks := .later }
def LinesNamesUptoCardSaid : Prop := Claim7.holds Tryd.pinned (.plain (OpenSpec.upto linesNamesSpec)) linesNamesUptoCard

/-- THE SECOND FORM's CARD OF 'nearhandlaw06.LinesParses'. -/
def linesParsesUptoCard : Claim7 := { stood := { row := linesParsesUptoRow, standIns := [], harness := (true, "172e024e88f2d047c4072b8d271b406036c20a6b3fa6b861d4720387cd9725fb"), looks := true }, kinds := [], alts := [], laidByText := true, laidKinds := [.data, .data, .data, .data, .sentinel, .sentinel, .pinned], laidTests := true, laidLooks := .later }
def LinesParsesUptoCardSaid : Prop := Claim7.holds Tryd.pinned (.plain (OpenSpec.upto linesParsesSpec)) linesParsesUptoCard

/-- THE SECOND FORM's CARD OF 'nearhandlaw06.LinesFeeds'. -/
def linesFeedsUptoCard : Claim7 := { stood := { row := linesFeedsUptoRow, standIns := [], harness := (true, "172e024e88f2d047c4072b8d271b406036c20a6b3fa6b861d4720387cd9725fb"), looks := true }, kinds := [], alts := [], laidByText := true, laidKinds := [.data, .data, .data, .data, .sentinel, .sentinel, .pinned], laidTests := true, laidLooks := .later }
def LinesFeedsUptoCardSaid : Prop := Claim7.holds Tryd.pinned (.plain (OpenSpec.upto linesFeedsSpec)) linesFeedsUptoCard

/-- THE SECOND FORM's CARD OF 'nearhandlaw06.LinesStops'. -/
def linesStopsUptoCard : Claim7 := { stood := { row := linesStopsUptoRow, standIns := [], harness := (true, "172e024e88f2d047c4072b8d271b406036c20a6b3fa6b861d4720387cd9725fb"), looks := true }, kinds := [], alts := [], laidByText := true, laidKinds := [.data, .data, .data, .data, .sentinel, .sentinel, .pinned], laidTests := true, laidLooks := .later }
def LinesStopsUptoCardSaid : Prop := Claim7.holds Tryd.pinned (.plain (OpenSpec.upto linesStopsSpec)) linesStopsUptoCard

/-- THE SECOND FORM's CARD OF 'nearhandlaw06.LinesAgain'. -/
def linesAgainUptoCard : Claim7 := { stood := { row := linesAgainUptoRow, standIns := [], harness := (true, "172e024e88f2d047c4072b8d271b406036c20a6b3fa6b861d4720387cd9725fb"), looks := true }, kinds := [], alts := [], laidByText := true, laidKinds := [.data, .data, .data, .data, .sentinel, .sentinel, .pinned], laidTests := true, laidLooks := .later }
def LinesAgainUptoCardSaid : Prop := Claim7.holds Tryd.pinned (.plain (OpenSpec.upto linesAgainSpec)) linesAgainUptoCard

/-- THE SECOND FORM's CARD OF 'nearhandlaw06.LinesQuotes'. -/
def linesQuotesUptoCard : Claim7 := { stood := { row := linesQuotesUptoRow, standIns := [], harness := (true, "172e024e88f2d047c4072b8d271b406036c20a6b3fa6b861d4720387cd9725fb"), looks := true }, kinds := [], alts := [], laidByText := true, laidKinds := [.data, .data, .data, .data, .sentinel, .sentinel, .pinned], laidTests := true, laidLooks := .later }
def LinesQuotesUptoCardSaid : Prop := Claim7.holds Tryd.pinned (.plain (OpenSpec.upto linesQuotesSpec)) linesQuotesUptoCard
end Rows
end Go.Proofs.YtkemjjhmabemiaaDoor
