/-
  No cell of these rows narrows 'for every input' (looked for: loops, veiled, ifaces, maps, wideKeys, modest, calm, conditions, laid).
  DERIVED. THE GIVEN ROWS OF THIS SEAT. 3 by the template 'for every input the law returns true; each argument reads behind the call as it read before'; 0 by the template 'total and deterministic' (their statements: YthgojhchakclcaaTotals.lean).
  GIVEN WITH THE SEED: the statements are not yours to turn. If you find one false, say at which input.
  Laid BY PROGRAM, IN A SANDBOX (cutbox-rows.mjs): the forced cells as the released guide's own fill.sh prints them over the translation a22f6fa322b8a3ec… (all of the seat's roots in one cut). By AI agents, Wed Nov 11 2026. No macro, syntax, notation, axiom, sorry.
-/
import Derived.Test.YthgojhchakclcaaChecked
import GoSem.Claim
import GoSem.ClaimJoined
import GoSem.ClaimMapViews
import Derived.JoinedTies
import Derived.KernelRfl
namespace Go.Proofs.Ythgojhchakclcaa
/- THE CELL 'sum', in the pinned program and in every row, IS THE sha256 OF THE DUMP (.gsa) THAT YthgojhchakclcaaProg.lean LOADS. Nothing in Lean hashes anything: it is a label: what it is worth is what the hold of that sum in a sandbox is worth. -/
noncomputable def Try.pinned : Pinned := { name := "ythgojhchakclcaa", sum := "a22f6fa322b8a3ec2dd1a063e9e9a9a584f3628fa2cc7c5e104d6b7b0f0f2629", checked := Try.checked }
namespace Rows
def none {H : Type} : Left H := { results := [], args := [] }

/-- 'nearhandlaw14.KeysBound': WHATEVER THE INPUT: true; the input reads as it did. -/
def keysBoundSpec : ChangeSpec := { name := "keysBound", fn := fun _ => fun
  | [d1, d2, d3] => { results := [.lit (.bool true)], args := [d1, d2, d3] }
  | _ => none }
def keysBoundRow : OpenClaim := { program := "ythgojhchakclcaa", sum := "a22f6fa322b8a3ec2dd1a063e9e9a9a584f3628fa2cc7c5e104d6b7b0f0f2629", func := "nearhand/nearhandlaw14.KeysBound", spec := "keysBound", inPlace := ["slices.overlaps[int]"], unfollowed := true, recurses := true, apart := false }
def KeysBoundSaid : Prop := keysBoundRow.holds Try.pinned (OpenSpec.ofChange keysBoundSpec)

/-- ITS FALSE NEIGHBOUR: 'it returns false'. Refute it at one input. -/
def keysBoundWrong : ChangeSpec := { name := "keysBound", fn := fun _ => fun
  | [d1, d2, d3] => { results := [.lit (.bool false)], args := [d1, d2, d3] }
  | _ => none }
def KeysBoundWrongFalsely : Prop := keysBoundRow.holds Try.pinned (OpenSpec.ofChange keysBoundWrong)

/-- 'nearhandlaw14.KeysRuns': WHATEVER THE INPUT: true; the input reads as it did. -/
def keysRunsSpec : ChangeSpec := { name := "keysRuns", fn := fun _ => fun
  | [d1, d2] => { results := [.lit (.bool true)], args := [d1, d2] }
  | _ => none }
def keysRunsRow : OpenClaim := { program := "ythgojhchakclcaa", sum := "a22f6fa322b8a3ec2dd1a063e9e9a9a584f3628fa2cc7c5e104d6b7b0f0f2629", func := "nearhand/nearhandlaw14.KeysRuns", spec := "keysRuns", inPlace := ["slices.overlaps[int]"], unfollowed := true, recurses := true, apart := false }
def KeysRunsSaid : Prop := keysRunsRow.holds Try.pinned (OpenSpec.ofChange keysRunsSpec)

/-- ITS FALSE NEIGHBOUR: 'it returns false'. Refute it at one input. -/
def keysRunsWrong : ChangeSpec := { name := "keysRuns", fn := fun _ => fun
  | [d1, d2] => { results := [.lit (.bool false)], args := [d1, d2] }
  | _ => none }
def KeysRunsWrongFalsely : Prop := keysRunsRow.holds Try.pinned (OpenSpec.ofChange keysRunsWrong)

/-- 'nearhandlaw14.KeysLeave': WHATEVER THE INPUT: true; the input reads as it did. -/
def keysLeaveSpec : ChangeSpec := { name := "keysLeave", fn := fun _ => fun
  | [d1, d2] => { results := [.lit (.bool true)], args := [d1, d2] }
  | _ => none }
def keysLeaveRow : OpenClaim := { program := "ythgojhchakclcaa", sum := "a22f6fa322b8a3ec2dd1a063e9e9a9a584f3628fa2cc7c5e104d6b7b0f0f2629", func := "nearhand/nearhandlaw14.KeysLeave", spec := "keysLeave", inPlace := ["slices.overlaps[int]"], unfollowed := true, recurses := true, apart := false }
def KeysLeaveSaid : Prop := keysLeaveRow.holds Try.pinned (OpenSpec.ofChange keysLeaveSpec)

/-- ITS FALSE NEIGHBOUR: 'it returns false'. Refute it at one input. -/
def keysLeaveWrong : ChangeSpec := { name := "keysLeave", fn := fun _ => fun
  | [d1, d2] => { results := [.lit (.bool false)], args := [d1, d2] }
  | _ => none }
def KeysLeaveWrongFalsely : Prop := keysLeaveRow.holds Try.pinned (OpenSpec.ofChange keysLeaveWrong)

/- THE SECOND FORM. 'bulk': how many values and letters a reading holds, each counted each time it is reached (what is shared counts as often as it is met; a slice's spare places count too). A statement '..UptoSaid' is the law's where the arguments, and the package variables that the reading takes, are together of bulk at most 1048576: NARROWER than '..Said'. Prove '..Said' where nothing that the law and all that it calls make is longer than what came in: it says more and counts as full. Else prove '..UptoSaid'. A law counts once. -/
mutual
def uptoBulk {H : Type} : DataW H → Nat
  | .lit (.string bytes) => bytes.length + 1
  | .lit _ => 1
  | .nil => 1
  | .ptr d => uptoBulk d + 1
  | .slice elems spare => uptoBulkAll elems + uptoBulkAll spare + 1
  | .agg parts => uptoBulkAll parts + 1
  | .iface _ d => uptoBulk d + 1
  | .map entries => uptoBulkEntries entries + 1
  | .held _ => 1
def uptoBulkAll {H : Type} : List (DataW H) → Nat
  | [] => 0
  | d :: r => uptoBulk d + uptoBulkAll r
def uptoBulkEntries {H : Type} : List (Lit × DataW H) → Nat
  | [] => 0
  | x :: r => uptoBulkEntry x + uptoBulkEntries r
def uptoBulkEntry {H : Type} : Lit × DataW H → Nat
  | (.string bytes, d) => bytes.length + uptoBulk d + 1
  | (_, d) => uptoBulk d + 1
 end
def uptoSmall : (H : Type) → List (DataW H) → Bool := fun _ ds => decide (uptoBulkAll ds ≤ 1048576)
def OpenSpec.upto (s : _root_.Go.ChangeSpec) : _root_.Go.OpenSpec := { _root_.Go.OpenSpec.ofChange s with cond := some uptoSmall }

/-- 'nearhandlaw14.KeysBound', WHERE WHAT IT READS IS OF BULK AT MOST 1048576: true; the input reads as it did. -/
def keysBoundUptoRow : OpenClaim := { program := "ythgojhchakclcaa", sum := "a22f6fa322b8a3ec2dd1a063e9e9a9a584f3628fa2cc7c5e104d6b7b0f0f2629", func := "nearhand/nearhandlaw14.KeysBound", spec := "keysBound", inPlace := ["slices.overlaps[int]"], unfollowed := true, recurses := true, apart := false, narrowed := true }
def KeysBoundUptoSaid : Prop := keysBoundUptoRow.holds Try.pinned (OpenSpec.upto keysBoundSpec)

/-- 'nearhandlaw14.KeysRuns', WHERE WHAT IT READS IS OF BULK AT MOST 1048576: true; the input reads as it did. -/
def keysRunsUptoRow : OpenClaim := { program := "ythgojhchakclcaa", sum := "a22f6fa322b8a3ec2dd1a063e9e9a9a584f3628fa2cc7c5e104d6b7b0f0f2629", func := "nearhand/nearhandlaw14.KeysRuns", spec := "keysRuns", inPlace := ["slices.overlaps[int]"], unfollowed := true, recurses := true, apart := false, narrowed := true }
def KeysRunsUptoSaid : Prop := keysRunsUptoRow.holds Try.pinned (OpenSpec.upto keysRunsSpec)

/-- 'nearhandlaw14.KeysLeave', WHERE WHAT IT READS IS OF BULK AT MOST 1048576: true; the input reads as it did. -/
def keysLeaveUptoRow : OpenClaim := { program := "ythgojhchakclcaa", sum := "a22f6fa322b8a3ec2dd1a063e9e9a9a584f3628fa2cc7c5e104d6b7b0f0f2629", func := "nearhand/nearhandlaw14.KeysLeave", spec := "keysLeave", inPlace := ["slices.overlaps[int]"], unfollowed := true, recurses := true, apart := false, narrowed := true }
def KeysLeaveUptoSaid : Prop := keysLeaveUptoRow.holds Try.pinned (OpenSpec.upto keysLeaveSpec)

end Rows
end Go.Proofs.Ythgojhchakclcaa
