/-
  DERIVED. GIVEN WITH THE SEED: THE CARDS: each row of YtcdihffcncaibaaGreatDoorRows.lean that lists a variable, with what it lists TIED to the program's text (the seventh form; the later family's looks); each row that meets fmt, with fmt's text TOLD by the authors' own Lean function (tested against real Go, not proved from fmt's source: count such statements apart). THE CARD IS WHAT COUNTS. Prove the row's statement (the work); the ties are given (YtcdihffcncaibaaGreatDoorTie.lean); close each card by the builder's one call (the guide's Derived/Test/ToyasCard.lean, 'card_holds'). Laid BY PROGRAM, IN A SANDBOX (cutbox-door.mjs). By AI agents, Wed Nov 11 2026. No macro, syntax, notation, axiom, sorry.
-/
import Derived.Test.YtcdihffcncaibaaGreatDoorRows
import GoSem.ClaimSeven
namespace Go.Proofs.YtcdihffcncaibaaGreatDoor
namespace Rows

/-- THE TIED CARD OF 'nearhandlaw12.StoreOne'. -/
def storeOneCard : Claim7 := { stood := { row := storeOneRow, standIns := [], harness := (true, "1df731359c76c857068d51f0b06dddddfe77e487b76c7f68c59f6b2e1105d792"), looks := true }, kinds := [], alts := [], laidByText := true, laidKinds := [.data, .data, .data, .sentinel, .sentinel], laidTests := true, laidLooks := .later }
def StoreOneCardSaid : Prop := Claim7.holds Tryz.pinned (.plain (OpenSpec.ofChange storeOneSpec)) storeOneCard

/-- THE TIED CARD OF 'nearhandlaw12.StoreSweeps'. -/
def storeSweepsCard : Claim7 := { stood := { row := storeSweepsRow, standIns := [], harness := (true, "1df731359c76c857068d51f0b06dddddfe77e487b76c7f68c59f6b2e1105d792"), looks := true }, kinds := [], alts := [], laidByText := true, laidKinds := [.data, .data, .data, .sentinel, .sentinel], laidTests := true, laidLooks := .later }
def StoreSweepsCardSaid : Prop := Claim7.holds Tryz.pinned (.plain (OpenSpec.ofChange storeSweepsSpec)) storeSweepsCard

/-- THE TIED CARD OF 'nearhandlaw12.StoreLast'. -/
def storeLastCard : Claim7 := { stood := { row := storeLastRow, standIns := [], harness := (true, "1df731359c76c857068d51f0b06dddddfe77e487b76c7f68c59f6b2e1105d792"), looks := true }, kinds := [], alts := [], laidByText := true, laidKinds := [.data, .data, .data, .sentinel, .sentinel], laidTests := true, laidLooks := .later }
def StoreLastCardSaid : Prop := Claim7.holds Tryz.pinned (.plain (OpenSpec.ofChange storeLastSpec)) storeLastCard

/-- THE TIED CARD OF 'nearhandlaw12.StoreRuns'. -/
def storeRunsCard : Claim7 := { stood := { row := storeRunsRow, standIns := [], harness := (true, "1df731359c76c857068d51f0b06dddddfe77e487b76c7f68c59f6b2e1105d792"), looks := true }, kinds := [], alts := [], laidByText := true, laidKinds := [.data, .data, .data, .sentinel, .sentinel], laidTests := true, laidLooks := .later }
def StoreRunsCardSaid : Prop := Claim7.holds Tryz.pinned (.plain (OpenSpec.ofChange storeRunsSpec)) storeRunsCard

/-- THE TIED CARD OF 'nearhandlaw12.StoreTells'. -/
def storeTellsCard : Claim7 := { stood := { row := storeTellsRow, standIns := [], harness := (true, "1df731359c76c857068d51f0b06dddddfe77e487b76c7f68c59f6b2e1105d792"), looks := true }, kinds := [], alts := [], laidByText := true, laidKinds := [.data, .data, .data, .sentinel, .sentinel], laidTests := true, laidLooks := .later }
def StoreTellsCardSaid : Prop := Claim7.holds Tryz.pinned (.plain (OpenSpec.ofChange storeTellsSpec)) storeTellsCard

/-- THE SECOND FORM's CARD OF 'nearhandlaw12.StoreOne'. -/
def storeOneUptoCard : Claim7 := { stood := { row := storeOneUptoRow, standIns := [], harness := (true, "1df731359c76c857068d51f0b06dddddfe77e487b76c7f68c59f6b2e1105d792"), looks := true }, kinds := [], alts := [], laidByText := true, laidKinds := [.data, .data, .data, .sentinel, .sentinel], laidTests := true, laidLooks := .later }
def StoreOneUptoCardSaid : Prop := Claim7.holds Tryz.pinned (.plain (OpenSpec.upto storeOneSpec)) storeOneUptoCard

/-- THE SECOND FORM's CARD OF 'nearhandlaw12.StoreSweeps'. -/
def storeSweepsUptoCard : Claim7 := { stood := { row := storeSweepsUptoRow, standIns := [], harness := (true, "1df731359c76c857068d51f0b06dddddfe77e487b76c7f68c59f6b2e1105d792"), looks := true }, kinds := [], alts := [], laidByText := true, laidKinds := [.data, .data, .data, .sentinel, .sentinel], laidTests := true, laidLooks := .later }
def StoreSweepsUptoCardSaid : Prop := Claim7.holds Tryz.pinned (.plain (OpenSpec.upto storeSweepsSpec)) storeSweepsUptoCard

/-- THE SECOND FORM's CARD OF 'nearhandlaw12.StoreLast'. -/
def storeLastUptoCard : Claim7 := { stood := { row := storeLastUptoRow, standIns := [], harness := (true, "1df731359c76c857068d51f0b06dddddfe77e487b76c7f68c59f6b2e1105d792"), looks := true }, kinds := [], alts := [], laidByText := true, laidKinds := [.data, .data, .data, .sentinel, .sentinel], laidTests := true, laidLooks := .later }
def StoreLastUptoCardSaid : Prop := Claim7.holds Tryz.pinned (.plain (OpenSpec.upto storeLastSpec)) storeLastUptoCard

/-- THE SECOND FORM's CARD OF 'nearhandlaw12.StoreRuns'. -/
def storeRunsUptoCard : Claim7 := { stood := { row := storeRunsUptoRow, standIns := [], harness := (true, "1df731359c76c857068d51f0b06dddddfe77e487b76c7f68c59f6b2e1105d792"), looks := true }, kinds := [], alts := [], laidByText := true, laidKinds := [.data, .data, .data, .sentinel, .sentinel], laidTests := true, laidLooks := .later }
def StoreRunsUptoCardSaid : Prop := Claim7.holds Tryz.pinned (.plain (OpenSpec.upto storeRunsSpec)) storeRunsUptoCard

/-- THE SECOND FORM's CARD OF 'nearhandlaw12.StoreTells'. -/
def storeTellsUptoCard : Claim7 := { stood := { row := storeTellsUptoRow, standIns := [], harness := (true, "1df731359c76c857068d51f0b06dddddfe77e487b76c7f68c59f6b2e1105d792"), looks := true }, kinds := [], alts := [], laidByText := true, laidKinds := [.data, .data, .data, .sentinel, .sentinel], laidTests := true, laidLooks := .later }
def StoreTellsUptoCardSaid : Prop := Claim7.holds Tryz.pinned (.plain (OpenSpec.upto storeTellsSpec)) storeTellsUptoCard
end Rows
end Go.Proofs.YtcdihffcncaibaaGreatDoor
