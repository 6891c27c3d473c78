/-
  DERIVED. GIVEN WITH THE SEED: THE CARDS: each row of YtgdenmddbgcacaaGreatDoorRows.lean that lists a variable, with what it lists TIED to the program's text (the seventh form; the later family's looks); each row that meets fmt, with fmt's text TOLD by the authors' own Lean function (tested against real Go, not proved from fmt's source: count such statements apart). THE CARD IS WHAT COUNTS. Prove the row's statement (the work); the ties are given (YtgdenmddbgcacaaGreatDoorTie.lean); close each card by the builder's one call (the guide's Derived/Test/ToyasCard.lean, 'card_holds'). Laid BY PROGRAM, IN A SANDBOX (cutbox-door.mjs). By AI agents, Wed Nov 11 2026. No macro, syntax, notation, axiom, sorry.
-/
import Derived.Test.YtgdenmddbgcacaaGreatDoorRows
import GoSem.ClaimSeven
namespace Go.Proofs.YtgdenmddbgcacaaGreatDoor
namespace Rows

/-- THE TIED CARD OF 'nearhandlaw12.StoreRuns'. -/
def storeRunsCard : Claim7 := { stood := { row := storeRunsRow, standIns := [], harness := (true, "d2d1b1e8549e5c036e638eb6d1053aec68c2a5c8021034e64bb5aec09fe2dfdb"), looks := true }, kinds := [], alts := [], laidByText := true, laidKinds := [.data, .data, .data, .sentinel, .sentinel], laidTests := true, laidLooks := .later }
def StoreRunsCardSaid : Prop := Claim7.holds Tryz.pinned (.plain (OpenSpec.ofChange storeRunsSpec)) storeRunsCard

/-- THE TIED CARD OF 'nearhandlaw12.StoreTells'. -/
def storeTellsCard : Claim7 := { stood := { row := storeTellsRow, standIns := [], harness := (true, "d2d1b1e8549e5c036e638eb6d1053aec68c2a5c8021034e64bb5aec09fe2dfdb"), looks := true }, kinds := [], alts := [], laidByText := true, laidKinds := [.data, .data, .data, .sentinel, .sentinel], laidTests := true, laidLooks := .later }
def StoreTellsCardSaid : Prop := Claim7.holds Tryz.pinned (.plain (OpenSpec.ofChange storeTellsSpec)) storeTellsCard

/-- THE SECOND FORM's CARD OF 'nearhandlaw12.StoreRuns'. -/
def storeRunsUptoCard : Claim7 := { stood := { row := storeRunsUptoRow, standIns := [], harness := (true, "d2d1b1e8549e5c036e638eb6d1053aec68c2a5c8021034e64bb5aec09fe2dfdb"), looks := true }, kinds := [], alts := [], laidByText := true, laidKinds := [.data, .data, .data, .sentinel, .sentinel], laidTests := true, laidLooks := .later }
def StoreRunsUptoCardSaid : Prop := Claim7.holds Tryz.pinned (.plain (OpenSpec.upto storeRunsSpec)) storeRunsUptoCard

/-- THE SECOND FORM's CARD OF 'nearhandlaw12.StoreTells'. -/
def storeTellsUptoCard : Claim7 := { stood := { row := storeTellsUptoRow, standIns := [], harness := (true, "d2d1b1e8549e5c036e638eb6d1053aec68c2a5c8021034e64bb5aec09fe2dfdb"), looks := true }, kinds := [], alts := [], laidByText := true, laidKinds := [.data, .data, .data, .sentinel, .sentinel], laidTests := true, laidLooks := .later }
def StoreTellsUptoCardSaid : Prop := Claim7.holds Tryz.pinned (.plain (OpenSpec.upto storeTellsSpec)) storeTellsUptoCard
end Rows
end Go.Proofs.YtgdenmddbgcacaaGreatDoor
