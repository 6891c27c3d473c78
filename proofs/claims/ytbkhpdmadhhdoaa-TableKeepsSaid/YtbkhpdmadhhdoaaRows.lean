/-
  No cell of these rows narrows 'for every input' (looked for: loops, veiled, ifaces, maps, wideKeys, modest, calm, conditions, laid).
  DERIVED. THE GIVEN ROWS OF THIS SEAT. 4 by the template 'for every input the law returns true; each argument reads behind the call as it read before'; 0 by the template 'total and deterministic' (their statements: YtbkhpdmadhhdoaaTotals.lean).
  GIVEN WITH THE SEED: the statements are not yours to turn. If you find one false, say at which input.
  Laid BY PROGRAM, IN A SANDBOX (cutbox-rows.mjs): the forced cells as the released guide's own fill.sh prints them over the translation 1a699f1d2f323c2e… (all of the seat's roots in one cut). By AI agents, Wed Nov 11 2026. No macro, syntax, notation, axiom, sorry.
-/
import Derived.Test.YtbkhpdmadhhdoaaChecked
import GoSem.Claim
import GoSem.ClaimJoined
import GoSem.ClaimMapViews
import Derived.JoinedTies
import Derived.KernelRfl
namespace Go.Proofs.Ytbkhpdmadhhdoaa
/- THE CELL 'sum', in the pinned program and in every row, IS THE sha256 OF THE DUMP (.gsa) THAT YtbkhpdmadhhdoaaProg.lean LOADS. Nothing in Lean hashes anything: it is a label: what it is worth is what the hold of that sum in a sandbox is worth. -/
noncomputable def Try.pinned : Pinned := { name := "ytbkhpdmadhhdoaa", sum := "1a699f1d2f323c2e3cb89d2a78b317ee01992b2f375048ca882a7253b1071d7a", checked := Try.checked }
namespace Rows
def none {H : Type} : Left H := { results := [], args := [] }

/-- 'nearhandlaw08.TableHash': WHATEVER THE INPUT: true; the input reads as it did. -/
def tableHashSpec : ChangeSpec := { name := "tableHash", fn := fun _ => fun
  | [d1, d2, d3] => { results := [.lit (.bool true)], args := [d1, d2, d3] }
  | _ => none }
def tableHashRow : OpenClaim := { program := "ytbkhpdmadhhdoaa", sum := "1a699f1d2f323c2e3cb89d2a78b317ee01992b2f375048ca882a7253b1071d7a", func := "nearhand/nearhandlaw08.TableHash", spec := "tableHash", apart := false }
def TableHashSaid : Prop := tableHashRow.holds Try.pinned (OpenSpec.ofChange tableHashSpec)

/-- ITS FALSE NEIGHBOUR: 'it returns false'. Refute it at one input. -/
def tableHashWrong : ChangeSpec := { name := "tableHash", fn := fun _ => fun
  | [d1, d2, d3] => { results := [.lit (.bool false)], args := [d1, d2, d3] }
  | _ => none }
def TableHashWrongFalsely : Prop := tableHashRow.holds Try.pinned (OpenSpec.ofChange tableHashWrong)

/-- 'nearhandlaw08.TableRoom': WHATEVER THE INPUT: true; the input reads as it did. -/
def tableRoomSpec : ChangeSpec := { name := "tableRoom", fn := fun _ => fun
  | [d1, d2] => { results := [.lit (.bool true)], args := [d1, d2] }
  | _ => none }
def tableRoomRow : OpenClaim := { program := "ytbkhpdmadhhdoaa", sum := "1a699f1d2f323c2e3cb89d2a78b317ee01992b2f375048ca882a7253b1071d7a", func := "nearhand/nearhandlaw08.TableRoom", spec := "tableRoom", apart := false }
def TableRoomSaid : Prop := tableRoomRow.holds Try.pinned (OpenSpec.ofChange tableRoomSpec)

/-- ITS FALSE NEIGHBOUR: 'it returns false'. Refute it at one input. -/
def tableRoomWrong : ChangeSpec := { name := "tableRoom", fn := fun _ => fun
  | [d1, d2] => { results := [.lit (.bool false)], args := [d1, d2] }
  | _ => none }
def TableRoomWrongFalsely : Prop := tableRoomRow.holds Try.pinned (OpenSpec.ofChange tableRoomWrong)

/-- 'nearhandlaw08.TableClears': WHATEVER THE INPUT: true; the input reads as it did. -/
def tableClearsSpec : ChangeSpec := { name := "tableClears", fn := fun _ => fun
  | [d1, d2] => { results := [.lit (.bool true)], args := [d1, d2] }
  | _ => none }
def tableClearsRow : OpenClaim := { program := "ytbkhpdmadhhdoaa", sum := "1a699f1d2f323c2e3cb89d2a78b317ee01992b2f375048ca882a7253b1071d7a", func := "nearhand/nearhandlaw08.TableClears", spec := "tableClears", recurses := true, apart := false }
def TableClearsSaid : Prop := tableClearsRow.holds Try.pinned (OpenSpec.ofChange tableClearsSpec)

/-- ITS FALSE NEIGHBOUR: 'it returns false'. Refute it at one input. -/
def tableClearsWrong : ChangeSpec := { name := "tableClears", fn := fun _ => fun
  | [d1, d2] => { results := [.lit (.bool false)], args := [d1, d2] }
  | _ => none }
def TableClearsWrongFalsely : Prop := tableClearsRow.holds Try.pinned (OpenSpec.ofChange tableClearsWrong)

/-- 'nearhandlaw08.TableKeeps': WHATEVER THE INPUT: true; the input reads as it did. -/
def tableKeepsSpec : ChangeSpec := { name := "tableKeeps", fn := fun _ => fun
  | [d] => { results := [.lit (.bool true)], args := [d] }
  | _ => none }
def tableKeepsRow : OpenClaim := { program := "ytbkhpdmadhhdoaa", sum := "1a699f1d2f323c2e3cb89d2a78b317ee01992b2f375048ca882a7253b1071d7a", func := "nearhand/nearhandlaw08.TableKeeps", spec := "tableKeeps", recurses := true, apart := false }
def TableKeepsSaid : Prop := tableKeepsRow.holds Try.pinned (OpenSpec.ofChange tableKeepsSpec)

/-- ITS FALSE NEIGHBOUR: 'it returns false'. Refute it at one input. -/
def tableKeepsWrong : ChangeSpec := { name := "tableKeeps", fn := fun _ => fun
  | [d] => { results := [.lit (.bool false)], args := [d] }
  | _ => none }
def TableKeepsWrongFalsely : Prop := tableKeepsRow.holds Try.pinned (OpenSpec.ofChange tableKeepsWrong)

/- THE SECOND FORM. 'bulk': how many values and letters a reading holds, each counted each time it is reached (what is shared counts as often as it is met; a slice's spare places count too). A statement '..UptoSaid' is the law's where the arguments, and the package variables that the reading takes, are together of bulk at most 1048576: NARROWER than '..Said'. Prove '..Said' where nothing that the law and all that it calls make is longer than what came in: it says more and counts as full. Else prove '..UptoSaid'. A law counts once. -/
mutual
def uptoBulk {H : Type} : DataW H → Nat
  | .lit (.string bytes) => bytes.length + 1
  | .lit _ => 1
  | .nil => 1
  | .ptr d => uptoBulk d + 1
  | .slice elems spare => uptoBulkAll elems + uptoBulkAll spare + 1
  | .agg parts => uptoBulkAll parts + 1
  | .iface _ d => uptoBulk d + 1
  | .map entries => uptoBulkEntries entries + 1
  | .held _ => 1
def uptoBulkAll {H : Type} : List (DataW H) → Nat
  | [] => 0
  | d :: r => uptoBulk d + uptoBulkAll r
def uptoBulkEntries {H : Type} : List (Lit × DataW H) → Nat
  | [] => 0
  | x :: r => uptoBulkEntry x + uptoBulkEntries r
def uptoBulkEntry {H : Type} : Lit × DataW H → Nat
  | (.string bytes, d) => bytes.length + uptoBulk d + 1
  | (_, d) => uptoBulk d + 1
 end
def uptoSmall : (H : Type) → List (DataW H) → Bool := fun _ ds => decide (uptoBulkAll ds ≤ 1048576)
def OpenSpec.upto (s : _root_.Go.ChangeSpec) : _root_.Go.OpenSpec := { _root_.Go.OpenSpec.ofChange s with cond := some uptoSmall }

/-- 'nearhandlaw08.TableHash', WHERE WHAT IT READS IS OF BULK AT MOST 1048576: true; the input reads as it did. -/
def tableHashUptoRow : OpenClaim := { program := "ytbkhpdmadhhdoaa", sum := "1a699f1d2f323c2e3cb89d2a78b317ee01992b2f375048ca882a7253b1071d7a", func := "nearhand/nearhandlaw08.TableHash", spec := "tableHash", apart := false, narrowed := true }
def TableHashUptoSaid : Prop := tableHashUptoRow.holds Try.pinned (OpenSpec.upto tableHashSpec)

/-- 'nearhandlaw08.TableRoom', WHERE WHAT IT READS IS OF BULK AT MOST 1048576: true; the input reads as it did. -/
def tableRoomUptoRow : OpenClaim := { program := "ytbkhpdmadhhdoaa", sum := "1a699f1d2f323c2e3cb89d2a78b317ee01992b2f375048ca882a7253b1071d7a", func := "nearhand/nearhandlaw08.TableRoom", spec := "tableRoom", apart := false, narrowed := true }
def TableRoomUptoSaid : Prop := tableRoomUptoRow.holds Try.pinned (OpenSpec.upto tableRoomSpec)

/-- 'nearhandlaw08.TableClears', WHERE WHAT IT READS IS OF BULK AT MOST 1048576: true; the input reads as it did. -/
def tableClearsUptoRow : OpenClaim := { program := "ytbkhpdmadhhdoaa", sum := "1a699f1d2f323c2e3cb89d2a78b317ee01992b2f375048ca882a7253b1071d7a", func := "nearhand/nearhandlaw08.TableClears", spec := "tableClears", recurses := true, apart := false, narrowed := true }
def TableClearsUptoSaid : Prop := tableClearsUptoRow.holds Try.pinned (OpenSpec.upto tableClearsSpec)

/-- 'nearhandlaw08.TableKeeps', WHERE WHAT IT READS IS OF BULK AT MOST 1048576: true; the input reads as it did. -/
def tableKeepsUptoRow : OpenClaim := { program := "ytbkhpdmadhhdoaa", sum := "1a699f1d2f323c2e3cb89d2a78b317ee01992b2f375048ca882a7253b1071d7a", func := "nearhand/nearhandlaw08.TableKeeps", spec := "tableKeeps", recurses := true, apart := false, narrowed := true }
def TableKeepsUptoSaid : Prop := tableKeepsUptoRow.holds Try.pinned (OpenSpec.upto tableKeepsSpec)

end Rows
end Go.Proofs.Ytbkhpdmadhhdoaa
