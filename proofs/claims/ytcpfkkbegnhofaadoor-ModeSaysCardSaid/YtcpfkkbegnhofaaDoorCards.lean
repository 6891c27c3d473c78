/-
  DERIVED. GIVEN WITH THE SEED: THE CARDS: each row of YtcpfkkbegnhofaaDoorRows.lean that lists a variable, with what it lists TIED to the program's text (the seventh form; the later family's looks); each row that meets fmt, with fmt's text TOLD by the authors' own Lean function (tested against real Go, not proved from fmt's source: count such statements apart). THE CARD IS WHAT COUNTS. Prove the row's statement (the work); the ties are given (YtcpfkkbegnhofaaDoorTie.lean); close each card by the builder's one call (the guide's Derived/Test/ToyasCard.lean, 'card_holds'). Laid BY PROGRAM, IN A SANDBOX (cutbox-door.mjs). By AI agents, Wed Nov 11 2026. No macro, syntax, notation, axiom, sorry.
-/
import Derived.Test.YtcpfkkbegnhofaaDoorRows
import GoSem.ClaimSeven
namespace Go.Proofs.YtcpfkkbegnhofaaDoor
namespace Rows

/-- THE TIED CARD OF 'nearhandlaw13.ModeWords'. -/
def modeWordsCard : Claim7 := { stood := { row := modeWordsRow, standIns := [], harness := (true, "02dda834549e4f3e5dc43314c65b11c950511a91483411dae762209bdb74393e"), looks := true }, kinds := [], alts := [], laidByText := true, laidKinds := [.data, .data, .data, .data, .sentinel, .sentinel, .pinned], laidTests := true, laidLooks := .later }
def ModeWordsCardSaid : Prop := Claim7.holds Tryd.pinned (.plain (OpenSpec.ofChange modeWordsSpec)) modeWordsCard

/-- THE TIED CARD OF 'nearhandlaw13.ModeParses'. -/
def modeParsesCard : Claim7 := { stood := { row := modeParsesRow, standIns := [], harness := (true, "02dda834549e4f3e5dc43314c65b11c950511a91483411dae762209bdb74393e"), looks := true }, kinds := [], alts := [], laidByText := true, laidKinds := [.data, .data, .data, .data, .sentinel, .sentinel, .pinned], laidTests := true, laidLooks := .later }
def ModeParsesCardSaid : Prop := Claim7.holds Tryd.pinned (.plain (OpenSpec.ofChange modeParsesSpec)) modeParsesCard

/-- THE TIED CARD OF 'nearhandlaw13.ModeNames'. -/
def modeNamesCard : Claim7 := { stood := { row := modeNamesRow, standIns := [], harness := (true, "02dda834549e4f3e5dc43314c65b11c950511a91483411dae762209bdb74393e"), looks := true }, kinds := [], alts := [], laidByText := true, laidKinds := [.data, .data, .data, .data, .sentinel, .sentinel, .pinned], laidTests := true, laidLooks := .later }
def ModeNamesCardSaid : Prop := Claim7.holds Tryd.pinned (.plain (OpenSpec.ofChange modeNamesSpec)) modeNamesCard

/-- THE TIED CARD OF 'nearhandlaw13.ModeSays'. -/
def modeSaysCard : Claim7 := { stood := { row := modeSaysRow, standIns := [], harness := (true, "02dda834549e4f3e5dc43314c65b11c950511a91483411dae762209bdb74393e"), looks := true }, kinds := [], alts := [], laidByText := true, laidKinds := [.data, .data, .data, .data, .sentinel, .sentinel, .pinned], laidTests := true, laidLooks := .later }
def ModeSaysCardSaid : Prop := Claim7.holds Tryd.pinned (.plain (OpenSpec.ofChange modeSaysSpec)) modeSaysCard

/-- THE TIED CARD OF 'nearhandlaw13.ModeOff'. -/
def modeOffCard : Claim7 := { stood := { row := modeOffRow, standIns := [], harness := (true, "02dda834549e4f3e5dc43314c65b11c950511a91483411dae762209bdb74393e"), looks := true }, kinds := [], alts := [], laidByText := true, laidKinds := [.data, .data, .data, .data, .sentinel, .sentinel, .pinned], laidTests := true, laidLooks := .later }
def ModeOffCardSaid : Prop := Claim7.holds Tryd.pinned (.plain (OpenSpec.ofChange modeOffSpec)) modeOffCard

/-- THE TIED CARD OF 'nearhandlaw13.ModeSwitches'. -/
def modeSwitchesCard : Claim7 := { stood := { row := modeSwitchesRow, standIns := [], harness := (true, "02dda834549e4f3e5dc43314c65b11c950511a91483411dae762209bdb74393e"), looks := true }, kinds := [], alts := [], laidByText := true, laidKinds := [.data, .data, .data, .data, .sentinel, .sentinel, .pinned], laidTests := true, laidLooks := .later }
def ModeSwitchesCardSaid : Prop := Claim7.holds Tryd.pinned (.plain (OpenSpec.ofChange modeSwitchesSpec)) modeSwitchesCard

/-- THE SECOND FORM's CARD OF 'nearhandlaw13.ModeWords'. -/
def modeWordsUptoCard : Claim7 := { stood := { row := modeWordsUptoRow, standIns := [], harness := (true, "02dda834549e4f3e5dc43314c65b11c950511a91483411dae762209bdb74393e"), looks := true }, kinds := [], alts := [], laidByText := true, laidKinds := [.data, .data, .data, .data, .sentinel, .sentinel, .pinned], laidTests := true, laidLooks := .later }
def ModeWordsUptoCardSaid : Prop := Claim7.holds Tryd.pinned (.plain (OpenSpec.upto modeWordsSpec)) modeWordsUptoCard

/-- THE SECOND FORM's CARD OF 'nearhandlaw13.ModeParses'. -/
def modeParsesUptoCard : Claim7 := { stood := { row := modeParsesUptoRow, standIns := [], harness := (true, "02dda834549e4f3e5dc43314c65b11c950511a91483411dae762209bdb74393e"), looks := true }, kinds := [], alts := [], laidByText := true, laidKinds := [.data, .data, .data, .data, .sentinel, .sentinel, .pinned], laidTests := true, laidLooks := .later }
def ModeParsesUptoCardSaid : Prop := Claim7.holds Tryd.pinned (.plain (OpenSpec.upto modeParsesSpec)) modeParsesUptoCard

/-- THE SECOND FORM's CARD OF 'nearhandlaw13.ModeNames'. -/
def modeNamesUptoCard : Claim7 := { stood := { row := modeNamesUptoRow, standIns := [], harness := (true, "02dda834549e4f3e5dc43314c65b11c950511a91483411dae762209bdb74393e"), looks := true }, kinds := [], alts := [], laidByText := true, laidKinds := [.data, .data, .data, .data, .sentinel, .sentinel, .pinned], laidTests := true, laidLooks := .later }
def ModeNamesUptoCardSaid : Prop := Claim7.holds Tryd.pinned (.plain (OpenSpec.upto modeNamesSpec)) modeNamesUptoCard

/-- THE SECOND FORM's CARD OF 'nearhandlaw13.ModeSays'. -/
def modeSaysUptoCard : Claim7 := { stood := { row := modeSaysUptoRow, standIns := [], harness := (true, "02dda834549e4f3e5dc43314c65b11c950511a91483411dae762209bdb74393e"), looks := true }, kinds := [], alts := [], laidByText := true, laidKinds := [.data, .data, .data, .data, .sentinel, .sentinel, .pinned], laidTests := true, laidLooks := .later }
def ModeSaysUptoCardSaid : Prop := Claim7.holds Tryd.pinned (.plain (OpenSpec.upto modeSaysSpec)) modeSaysUptoCard

/-- THE SECOND FORM's CARD OF 'nearhandlaw13.ModeOff'. -/
def modeOffUptoCard : Claim7 := { stood := { row := modeOffUptoRow, standIns := [], harness := (true, "02dda834549e4f3e5dc43314c65b11c950511a91483411dae762209bdb74393e"), looks := true }, kinds := [], alts := [], laidByText := true, laidKinds := [.data, .data, .data, .data, .sentinel, .sentinel, .pinned], laidTests := true, laidLooks := .later }
def ModeOffUptoCardSaid : Prop := Claim7.holds Tryd.pinned (.plain (OpenSpec.upto modeOffSpec)) modeOffUptoCard

/-- THE SECOND FORM's CARD OF 'nearhandlaw13.ModeSwitches'. -/
def modeSwitchesUptoCard : Claim7 := { stood := { row := modeSwitchesUptoRow, standIns := [], harness := (true, "02dda834549e4f3e5dc43314c65b11c950511a91483411dae762209bdb74393e"), looks := true }, kinds := [], alts := [], laidByText := true, laidKinds := [.data, .data, .data, .data, .sentinel, .sentinel, .pinned], laidTests := true, laidLooks := .later }
def ModeSwitchesUptoCardSaid : Prop := Claim7.holds Tryd.pinned (.plain (OpenSpec.upto modeSwitchesSpec)) modeSwitchesUptoCard
end Rows
end Go.Proofs.YtcpfkkbegnhofaaDoor
