/-
  No cell of these rows narrows 'for every input' (looked for: loops, veiled, ifaces, maps, wideKeys, modest, calm, conditions, laid).
  DERIVED. THE GIVEN ROWS OF THIS SEAT. 4 by the template 'for every input the law returns true; each argument reads behind the call as it read before'; 0 by the template 'total and deterministic' (their statements: YtokkhddbdjflhaaTotals.lean).
  GIVEN WITH THE SEED: the statements are not yours to turn. If you find one false, say at which input.
  Laid BY PROGRAM, IN A SANDBOX (cutbox-rows.mjs): the forced cells as the released guide's own fill.sh prints them over the translation abc24b97a45be3df… (all of the seat's roots in one cut). By AI agents, Wed Nov 11 2026. No macro, syntax, notation, axiom, sorry.
-/
import Derived.Test.YtokkhddbdjflhaaChecked
import GoSem.Claim
import GoSem.ClaimJoined
import GoSem.ClaimMapViews
import Derived.JoinedTies
import Derived.KernelRfl
namespace Go.Proofs.Ytokkhddbdjflhaa
/- THE CELL 'sum', in the pinned program and in every row, IS THE sha256 OF THE DUMP (.gsa) THAT YtokkhddbdjflhaaProg.lean LOADS. Nothing in Lean hashes anything: it is a label: what it is worth is what the hold of that sum in a sandbox is worth. -/
noncomputable def Try.pinned : Pinned := { name := "ytokkhddbdjflhaa", sum := "abc24b97a45be3df12655064d9ab76e47996db3db9ee217cce61313842ddc659", checked := Try.checked }
namespace Rows
def none {H : Type} : Left H := { results := [], args := [] }

/-- 'nearhandlaw11.ExpiryNames': WHATEVER THE INPUT: true; the input reads as it did. -/
def expiryNamesSpec : ChangeSpec := { name := "expiryNames", fn := fun _ => fun
  | [] => { results := [.lit (.bool true)], args := [] }
  | _ => none }
def expiryNamesRow : OpenClaim := { program := "ytokkhddbdjflhaa", sum := "abc24b97a45be3df12655064d9ab76e47996db3db9ee217cce61313842ddc659", func := "nearhand/nearhandlaw11.ExpiryNames", spec := "expiryNames", unfollowed := true, recurses := true, apart := false }
def ExpiryNamesSaid : Prop := expiryNamesRow.holds Try.pinned (OpenSpec.ofChange expiryNamesSpec)

/-- ITS FALSE NEIGHBOUR: 'it returns false'. Refute it at one input. -/
def expiryNamesWrong : ChangeSpec := { name := "expiryNames", fn := fun _ => fun
  | [] => { results := [.lit (.bool false)], args := [] }
  | _ => none }
def ExpiryNamesWrongFalsely : Prop := expiryNamesRow.holds Try.pinned (OpenSpec.ofChange expiryNamesWrong)

/-- 'nearhandlaw11.ExpiryOrders': WHATEVER THE INPUT: true; the input reads as it did. -/
def expiryOrdersSpec : ChangeSpec := { name := "expiryOrders", fn := fun _ => fun
  | [d1, d2] => { results := [.lit (.bool true)], args := [d1, d2] }
  | _ => none }
def expiryOrdersRow : OpenClaim := { program := "ytokkhddbdjflhaa", sum := "abc24b97a45be3df12655064d9ab76e47996db3db9ee217cce61313842ddc659", func := "nearhand/nearhandlaw11.ExpiryOrders", spec := "expiryOrders", unfollowed := true, recurses := true, apart := false }
def ExpiryOrdersSaid : Prop := expiryOrdersRow.holds Try.pinned (OpenSpec.ofChange expiryOrdersSpec)

/-- ITS FALSE NEIGHBOUR: 'it returns false'. Refute it at one input. -/
def expiryOrdersWrong : ChangeSpec := { name := "expiryOrders", fn := fun _ => fun
  | [d1, d2] => { results := [.lit (.bool false)], args := [d1, d2] }
  | _ => none }
def ExpiryOrdersWrongFalsely : Prop := expiryOrdersRow.holds Try.pinned (OpenSpec.ofChange expiryOrdersWrong)

/-- 'nearhandlaw11.ExpiryMoves': WHATEVER THE INPUT: true; the input reads as it did. -/
def expiryMovesSpec : ChangeSpec := { name := "expiryMoves", fn := fun _ => fun
  | [d1, d2, d3] => { results := [.lit (.bool true)], args := [d1, d2, d3] }
  | _ => none }
def expiryMovesRow : OpenClaim := { program := "ytokkhddbdjflhaa", sum := "abc24b97a45be3df12655064d9ab76e47996db3db9ee217cce61313842ddc659", func := "nearhand/nearhandlaw11.ExpiryMoves", spec := "expiryMoves", unfollowed := true, recurses := true, apart := false }
def ExpiryMovesSaid : Prop := expiryMovesRow.holds Try.pinned (OpenSpec.ofChange expiryMovesSpec)

/-- ITS FALSE NEIGHBOUR: 'it returns false'. Refute it at one input. -/
def expiryMovesWrong : ChangeSpec := { name := "expiryMoves", fn := fun _ => fun
  | [d1, d2, d3] => { results := [.lit (.bool false)], args := [d1, d2, d3] }
  | _ => none }
def ExpiryMovesWrongFalsely : Prop := expiryMovesRow.holds Try.pinned (OpenSpec.ofChange expiryMovesWrong)

/-- 'nearhandlaw11.ExpiryRuns': WHATEVER THE INPUT: true; the input reads as it did. -/
def expiryRunsSpec : ChangeSpec := { name := "expiryRuns", fn := fun _ => fun
  | [d1, d2, d3] => { results := [.lit (.bool true)], args := [d1, d2, d3] }
  | _ => none }
def expiryRunsRow : OpenClaim := { program := "ytokkhddbdjflhaa", sum := "abc24b97a45be3df12655064d9ab76e47996db3db9ee217cce61313842ddc659", func := "nearhand/nearhandlaw11.ExpiryRuns", spec := "expiryRuns", unfollowed := true, recurses := true, apart := false }
def ExpiryRunsSaid : Prop := expiryRunsRow.holds Try.pinned (OpenSpec.ofChange expiryRunsSpec)

/-- ITS FALSE NEIGHBOUR: 'it returns false'. Refute it at one input. -/
def expiryRunsWrong : ChangeSpec := { name := "expiryRuns", fn := fun _ => fun
  | [d1, d2, d3] => { results := [.lit (.bool false)], args := [d1, d2, d3] }
  | _ => none }
def ExpiryRunsWrongFalsely : Prop := expiryRunsRow.holds Try.pinned (OpenSpec.ofChange expiryRunsWrong)

/- THE SECOND FORM. 'bulk': how many values and letters a reading holds, each counted each time it is reached (what is shared counts as often as it is met; a slice's spare places count too). A statement '..UptoSaid' is the law's where the arguments, and the package variables that the reading takes, are together of bulk at most 1048576: NARROWER than '..Said'. Prove '..Said' where nothing that the law and all that it calls make is longer than what came in: it says more and counts as full. Else prove '..UptoSaid'. A law counts once. -/
mutual
def uptoBulk {H : Type} : DataW H → Nat
  | .lit (.string bytes) => bytes.length + 1
  | .lit _ => 1
  | .nil => 1
  | .ptr d => uptoBulk d + 1
  | .slice elems spare => uptoBulkAll elems + uptoBulkAll spare + 1
  | .agg parts => uptoBulkAll parts + 1
  | .iface _ d => uptoBulk d + 1
  | .map entries => uptoBulkEntries entries + 1
  | .held _ => 1
def uptoBulkAll {H : Type} : List (DataW H) → Nat
  | [] => 0
  | d :: r => uptoBulk d + uptoBulkAll r
def uptoBulkEntries {H : Type} : List (Lit × DataW H) → Nat
  | [] => 0
  | x :: r => uptoBulkEntry x + uptoBulkEntries r
def uptoBulkEntry {H : Type} : Lit × DataW H → Nat
  | (.string bytes, d) => bytes.length + uptoBulk d + 1
  | (_, d) => uptoBulk d + 1
 end
def uptoSmall : (H : Type) → List (DataW H) → Bool := fun _ ds => decide (uptoBulkAll ds ≤ 1048576)
def OpenSpec.upto (s : _root_.Go.ChangeSpec) : _root_.Go.OpenSpec := { _root_.Go.OpenSpec.ofChange s with cond := some uptoSmall }

/-- 'nearhandlaw11.ExpiryNames', WHERE WHAT IT READS IS OF BULK AT MOST 1048576: true; the input reads as it did. -/
def expiryNamesUptoRow : OpenClaim := { program := "ytokkhddbdjflhaa", sum := "abc24b97a45be3df12655064d9ab76e47996db3db9ee217cce61313842ddc659", func := "nearhand/nearhandlaw11.ExpiryNames", spec := "expiryNames", unfollowed := true, recurses := true, apart := false, narrowed := true }
def ExpiryNamesUptoSaid : Prop := expiryNamesUptoRow.holds Try.pinned (OpenSpec.upto expiryNamesSpec)

/-- 'nearhandlaw11.ExpiryOrders', WHERE WHAT IT READS IS OF BULK AT MOST 1048576: true; the input reads as it did. -/
def expiryOrdersUptoRow : OpenClaim := { program := "ytokkhddbdjflhaa", sum := "abc24b97a45be3df12655064d9ab76e47996db3db9ee217cce61313842ddc659", func := "nearhand/nearhandlaw11.ExpiryOrders", spec := "expiryOrders", unfollowed := true, recurses := true, apart := false, narrowed := true }
def ExpiryOrdersUptoSaid : Prop := expiryOrdersUptoRow.holds Try.pinned (OpenSpec.upto expiryOrdersSpec)

/-- 'nearhandlaw11.ExpiryMoves', WHERE WHAT IT READS IS OF BULK AT MOST 1048576: true; the input reads as it did. -/
def expiryMovesUptoRow : OpenClaim := { program := "ytokkhddbdjflhaa", sum := "abc24b97a45be3df12655064d9ab76e47996db3db9ee217cce61313842ddc659", func := "nearhand/nearhandlaw11.ExpiryMoves", spec := "expiryMoves", unfollowed := true, recurses := true, apart := false, narrowed := true }
def ExpiryMovesUptoSaid : Prop := expiryMovesUptoRow.holds Try.pinned (OpenSpec.upto expiryMovesSpec)

/-- 'nearhandlaw11.ExpiryRuns', WHERE WHAT IT READS IS OF BULK AT MOST 1048576: true; the input reads as it did. -/
def expiryRunsUptoRow : OpenClaim := { program := "ytokkhddbdjflhaa", sum := "abc24b97a45be3df12655064d9ab76e47996db3db9ee217cce61313842ddc659", func := "nearhand/nearhandlaw11.ExpiryRuns", spec := "expiryRuns", unfollowed := true, recurses := true, apart := false, narrowed := true }
def ExpiryRunsUptoSaid : Prop := expiryRunsUptoRow.holds Try.pinned (OpenSpec.upto expiryRunsSpec)

end Rows
end Go.Proofs.Ytokkhddbdjflhaa
