/-
  DERIVED. GIVEN WITH THE SEED: THE CARDS: each row of YtcachinbmdchmaaDoorRows.lean that lists a variable, with what it lists TIED to the program's text (the seventh form; the later family's looks); each row that meets fmt, with fmt's text TOLD by the authors' own Lean function (tested against real Go, not proved from fmt's source: count such statements apart). THE CARD IS WHAT COUNTS. Prove the row's statement (the work); the ties are given (YtcachinbmdchmaaDoorTie.lean); close each card by the builder's one call (the guide's Derived/Test/ToyasCard.lean, 'card_holds'). Laid BY PROGRAM, IN A SANDBOX (cutbox-door.mjs). By AI agents, Wed Nov 11 2026. No macro, syntax, notation, axiom, sorry.
-/
import Derived.Test.YtcachinbmdchmaaDoorRows
import GoSem.ClaimSeven
namespace Go.Proofs.YtcachinbmdchmaaDoor
namespace Rows

/-- THE TIED CARD OF 'nearhandlaw01.WholeTexts'. -/
def wholeTextsCard : Claim7 := { stood := { row := wholeTextsRow, standIns := [], harness := (true, "a64f0d8720e425e98d1f51c61d96e15996201747bb0b00c0474a57752c79f26a"), looks := true }, kinds := [], alts := [], laidByText := true, laidKinds := [.data, .data, .data, .sentinel, .sentinel], laidTests := true, laidLooks := .later }
def WholeTextsCardSaid : Prop := Claim7.holds Tryd.pinned (.plain (OpenSpec.ofChange wholeTextsSpec)) wholeTextsCard

/-- THE TIED CARD OF 'nearhandlaw01.WholeOrder'. -/
def wholeOrderCard : Claim7 := { stood := { row := wholeOrderRow, standIns := [], harness := (true, "a64f0d8720e425e98d1f51c61d96e15996201747bb0b00c0474a57752c79f26a"), looks := true }, kinds := [], alts := [], laidByText := true, laidKinds := [.data, .data, .data, .sentinel, .sentinel], laidTests := true, laidLooks := .later }
def WholeOrderCardSaid : Prop := Claim7.holds Tryd.pinned (.plain (OpenSpec.ofChange wholeOrderSpec)) wholeOrderCard

/-- THE TIED CARD OF 'nearhandlaw01.WholeSums'. -/
def wholeSumsCard : Claim7 := { stood := { row := wholeSumsRow, standIns := [], harness := (true, "a64f0d8720e425e98d1f51c61d96e15996201747bb0b00c0474a57752c79f26a"), looks := true }, kinds := [], alts := [], laidByText := true, laidKinds := [.data, .data, .data, .sentinel, .sentinel], laidTests := true, laidLooks := .later }
def WholeSumsCardSaid : Prop := Claim7.holds Tryd.pinned (.plain (OpenSpec.ofChange wholeSumsSpec)) wholeSumsCard

/-- THE TIED CARD OF 'nearhandlaw01.WholeBack'. -/
def wholeBackCard : Claim7 := { stood := { row := wholeBackRow, standIns := [], harness := (true, "a64f0d8720e425e98d1f51c61d96e15996201747bb0b00c0474a57752c79f26a"), looks := true }, kinds := [], alts := [], laidByText := true, laidKinds := [.data, .data, .data, .sentinel, .sentinel], laidTests := true, laidLooks := .later }
def WholeBackCardSaid : Prop := Claim7.holds Tryd.pinned (.plain (OpenSpec.ofChange wholeBackSpec)) wholeBackCard

/-- THE TIED CARD OF 'nearhandlaw01.WholeNames'. -/
def wholeNamesCard : Claim7 := { stood := { row := wholeNamesRow, standIns := [], harness := (true, "a64f0d8720e425e98d1f51c61d96e15996201747bb0b00c0474a57752c79f26a"), looks := true }, kinds := [], alts := [], laidByText := true, laidKinds := [.data, .data, .data, .sentinel, .sentinel], laidTests := true, laidLooks := .later }
def WholeNamesCardSaid : Prop := Claim7.holds Tryd.pinned (.plain (OpenSpec.ofChange wholeNamesSpec)) wholeNamesCard

/-- THE SECOND FORM's CARD OF 'nearhandlaw01.WholeTexts'. -/
def wholeTextsUptoCard : Claim7 := { stood := { row := wholeTextsUptoRow, standIns := [], harness := (true, "a64f0d8720e425e98d1f51c61d96e15996201747bb0b00c0474a57752c79f26a"), looks := true }, kinds := [], alts := [], laidByText := true, laidKinds := [.data, .data, .data, .sentinel, .sentinel], laidTests := true, laidLooks := .later }
def WholeTextsUptoCardSaid : Prop := Claim7.holds Tryd.pinned (.plain (OpenSpec.upto wholeTextsSpec)) wholeTextsUptoCard

/-- THE SECOND FORM's CARD OF 'nearhandlaw01.WholeOrder'. -/
def wholeOrderUptoCard : Claim7 := { stood := { row := wholeOrderUptoRow, standIns := [], harness := (true, "a64f0d8720e425e98d1f51c61d96e15996201747bb0b00c0474a57752c79f26a"), looks := true }, kinds := [], alts := [], laidByText := true, laidKinds := [.data, .data, .data, .sentinel, .sentinel], laidTests := true, laidLooks := .later }
def WholeOrderUptoCardSaid : Prop := Claim7.holds Tryd.pinned (.plain (OpenSpec.upto wholeOrderSpec)) wholeOrderUptoCard

/-- THE SECOND FORM's CARD OF 'nearhandlaw01.WholeSums'. -/
def wholeSumsUptoCard : Claim7 := { stood := { row := wholeSumsUptoRow, standIns := [], harness := (true, "a64f0d8720e425e98d1f51c61d96e15996201747bb0b00c0474a57752c79f26a"), looks := true }, kinds := [], alts := [], laidByText := true, laidKinds := [.data, .data, .data, .sentinel, .sentinel], laidTests := true, laidLooks := .later }
def WholeSumsUptoCardSaid : Prop := Claim7.holds Tryd.pinned (.plain (OpenSpec.upto wholeSumsSpec)) wholeSumsUptoCard

/-- THE SECOND FORM's CARD OF 'nearhandlaw01.WholeBack'. -/
def wholeBackUptoCard : Claim7 := { stood := { row := wholeBackUptoRow, standIns := [], harness := (true, "a64f0d8720e425e98d1f51c61d96e15996201747bb0b00c0474a57752c79f26a"), looks := true }, kinds := [], alts := [], laidByText := true, laidKinds := [.data, .data, .data, .sentinel, .sentinel], laidTests := true, laidLooks := .later }
def WholeBackUptoCardSaid : Prop := Claim7.holds Tryd.pinned (.plain (OpenSpec.upto wholeBackSpec)) wholeBackUptoCard

/-- THE SECOND FORM's CARD OF 'nearhandlaw01.WholeNames'. -/
def wholeNamesUptoCard : Claim7 := { stood := { row := wholeNamesUptoRow, standIns := [], harness := (true, "a64f0d8720e425e98d1f51c61d96e15996201747bb0b00c0474a57752c79f26a"), looks := true }, kinds := [], alts := [], laidByText := true, laidKinds := [.data, .data, .data, .sentinel, .sentinel], laidTests := true, laidLooks := .later }
def WholeNamesUptoCardSaid : Prop := Claim7.holds Tryd.pinned (.plain (OpenSpec.upto wholeNamesSpec)) wholeNamesUptoCard
end Rows
end Go.Proofs.YtcachinbmdchmaaDoor
