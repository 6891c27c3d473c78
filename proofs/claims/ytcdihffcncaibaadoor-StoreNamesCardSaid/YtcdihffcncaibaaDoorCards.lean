/-
  DERIVED. GIVEN WITH THE SEED: THE CARDS: each row of YtcdihffcncaibaaDoorRows.lean that lists a variable, with what it lists TIED to the program's text (the seventh form; the later family's looks); each row that meets fmt, with fmt's text TOLD by the authors' own Lean function (tested against real Go, not proved from fmt's source: count such statements apart). THE CARD IS WHAT COUNTS. Prove the row's statement (the work); the ties are given (YtcdihffcncaibaaDoorTie.lean); close each card by the builder's one call (the guide's Derived/Test/ToyasCard.lean, 'card_holds'). Laid BY PROGRAM, IN A SANDBOX (cutbox-door.mjs). By AI agents, Wed Nov 11 2026. No macro, syntax, notation, axiom, sorry.
-/
import Derived.Test.YtcdihffcncaibaaDoorRows
import GoSem.ClaimSeven
namespace Go.Proofs.YtcdihffcncaibaaDoor
namespace Rows

/-- THE TIED CARD OF 'nearhandlaw12.StoreNames'. -/
def storeNamesCard : Claim7 := { stood := { row := storeNamesRow, standIns := [], harness := (true, "ac1fd9d7d8ee585b50cdb0d5b35ef0fee6afe35f7bde799ce0e1cad5f3401eee"), looks := true }, kinds := [], alts := [], laidByText := true, laidKinds := [.data, .data, .data, .sentinel, .sentinel], laidTests := true, laidLooks := .later }
def StoreNamesCardSaid : Prop := Claim7.holds Tryd.pinned (.plain (OpenSpec.ofChange storeNamesSpec)) storeNamesCard

/-- THE SECOND FORM's CARD OF 'nearhandlaw12.StoreNames'. -/
def storeNamesUptoCard : Claim7 := { stood := { row := storeNamesUptoRow, standIns := [], harness := (true, "ac1fd9d7d8ee585b50cdb0d5b35ef0fee6afe35f7bde799ce0e1cad5f3401eee"), looks := true }, kinds := [], alts := [], laidByText := true, laidKinds := [.data, .data, .data, .sentinel, .sentinel], laidTests := true, laidLooks := .later }
def StoreNamesUptoCardSaid : Prop := Claim7.holds Tryd.pinned (.plain (OpenSpec.upto storeNamesSpec)) storeNamesUptoCard
end Rows
end Go.Proofs.YtcdihffcncaibaaDoor
