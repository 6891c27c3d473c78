/-
  No cell of these rows narrows 'for every input' (looked for: loops, veiled, ifaces, maps, wideKeys, modest, calm, conditions, laid).
  DERIVED. THE GIVEN ROWS OF THIS SEAT. 7 by the template 'for every input the law returns true; each argument reads behind the call as it read before'; 0 by the template 'total and deterministic' (their statements: YtnlbmplbaalgmaaTotals.lean).
  GIVEN WITH THE SEED: the statements are not yours to turn. If you find one false, say at which input.
  Laid BY PROGRAM, IN A SANDBOX (cutbox-rows.mjs): the forced cells as the released guide's own fill.sh prints them over the translation a805055a143c3d03… (all of the seat's roots in one cut). By AI agents, Wed Nov 11 2026. No macro, syntax, notation, axiom, sorry.
-/
import Derived.Test.YtnlbmplbaalgmaaChecked
import GoSem.Claim
import GoSem.ClaimJoined
import GoSem.ClaimMapViews
import Derived.JoinedTies
import Derived.KernelRfl
namespace Go.Proofs.Ytnlbmplbaalgmaa
/- THE CELL 'sum', in the pinned program and in every row, IS THE sha256 OF THE DUMP (.gsa) THAT YtnlbmplbaalgmaaProg.lean LOADS. Nothing in Lean hashes anything: it is a label: what it is worth is what the hold of that sum in a sandbox is worth. -/
noncomputable def Try.pinned : Pinned := { name := "ytnlbmplbaalgmaa", sum := "a805055a143c3d035fc81034077e83e2dccbe348b0d3af8ba7e44c46d98f043d", checked := Try.checked }
namespace Rows
def none {H : Type} : Left H := { results := [], args := [] }

/-- 'nearhandlaw07.RadixParts': WHATEVER THE INPUT: true; the input reads as it did. -/
def radixPartsSpec : ChangeSpec := { name := "radixParts", fn := fun _ => fun
  | [d] => { results := [.lit (.bool true)], args := [d] }
  | _ => none }
def radixPartsRow : OpenClaim := { program := "ytnlbmplbaalgmaa", sum := "a805055a143c3d035fc81034077e83e2dccbe348b0d3af8ba7e44c46d98f043d", func := "nearhand/nearhandlaw07.RadixParts", spec := "radixParts", inPlace := ["slices.overlaps[*nearhand/radix.node]"], unfollowed := true, recurses := true, apart := false }
def RadixPartsSaid : Prop := radixPartsRow.holds Try.pinned (OpenSpec.ofChange radixPartsSpec)

/-- ITS FALSE NEIGHBOUR: 'it returns false'. Refute it at one input. -/
def radixPartsWrong : ChangeSpec := { name := "radixParts", fn := fun _ => fun
  | [d] => { results := [.lit (.bool false)], args := [d] }
  | _ => none }
def RadixPartsWrongFalsely : Prop := radixPartsRow.holds Try.pinned (OpenSpec.ofChange radixPartsWrong)

/-- 'nearhandlaw07.RadixOrders': WHATEVER THE INPUT: true; the input reads as it did. -/
def radixOrdersSpec : ChangeSpec := { name := "radixOrders", fn := fun _ => fun
  | [d1, d2] => { results := [.lit (.bool true)], args := [d1, d2] }
  | _ => none }
def radixOrdersRow : OpenClaim := { program := "ytnlbmplbaalgmaa", sum := "a805055a143c3d035fc81034077e83e2dccbe348b0d3af8ba7e44c46d98f043d", func := "nearhand/nearhandlaw07.RadixOrders", spec := "radixOrders", inPlace := ["slices.overlaps[*nearhand/radix.node]"], unfollowed := true, recurses := true, apart := false }
def RadixOrdersSaid : Prop := radixOrdersRow.holds Try.pinned (OpenSpec.ofChange radixOrdersSpec)

/-- ITS FALSE NEIGHBOUR: 'it returns false'. Refute it at one input. -/
def radixOrdersWrong : ChangeSpec := { name := "radixOrders", fn := fun _ => fun
  | [d1, d2] => { results := [.lit (.bool false)], args := [d1, d2] }
  | _ => none }
def RadixOrdersWrongFalsely : Prop := radixOrdersRow.holds Try.pinned (OpenSpec.ofChange radixOrdersWrong)

/-- 'nearhandlaw07.RadixWalks': WHATEVER THE INPUT: true; the input reads as it did. -/
def radixWalksSpec : ChangeSpec := { name := "radixWalks", fn := fun _ => fun
  | [d1, d2, d3] => { results := [.lit (.bool true)], args := [d1, d2, d3] }
  | _ => none }
def radixWalksRow : OpenClaim := { program := "ytnlbmplbaalgmaa", sum := "a805055a143c3d035fc81034077e83e2dccbe348b0d3af8ba7e44c46d98f043d", func := "nearhand/nearhandlaw07.RadixWalks", spec := "radixWalks", inPlace := ["slices.overlaps[*nearhand/radix.node]"], unfollowed := true, recurses := true, apart := false }
def RadixWalksSaid : Prop := radixWalksRow.holds Try.pinned (OpenSpec.ofChange radixWalksSpec)

/-- ITS FALSE NEIGHBOUR: 'it returns false'. Refute it at one input. -/
def radixWalksWrong : ChangeSpec := { name := "radixWalks", fn := fun _ => fun
  | [d1, d2, d3] => { results := [.lit (.bool false)], args := [d1, d2, d3] }
  | _ => none }
def RadixWalksWrongFalsely : Prop := radixWalksRow.holds Try.pinned (OpenSpec.ofChange radixWalksWrong)

/-- 'nearhandlaw07.RadixRuns': WHATEVER THE INPUT: true; the input reads as it did. -/
def radixRunsSpec : ChangeSpec := { name := "radixRuns", fn := fun _ => fun
  | [d1, d2] => { results := [.lit (.bool true)], args := [d1, d2] }
  | _ => none }
def radixRunsRow : OpenClaim := { program := "ytnlbmplbaalgmaa", sum := "a805055a143c3d035fc81034077e83e2dccbe348b0d3af8ba7e44c46d98f043d", func := "nearhand/nearhandlaw07.RadixRuns", spec := "radixRuns", inPlace := ["slices.overlaps[*nearhand/radix.node]"], unfollowed := true, recurses := true, apart := false }
def RadixRunsSaid : Prop := radixRunsRow.holds Try.pinned (OpenSpec.ofChange radixRunsSpec)

/-- ITS FALSE NEIGHBOUR: 'it returns false'. Refute it at one input. -/
def radixRunsWrong : ChangeSpec := { name := "radixRuns", fn := fun _ => fun
  | [d1, d2] => { results := [.lit (.bool false)], args := [d1, d2] }
  | _ => none }
def RadixRunsWrongFalsely : Prop := radixRunsRow.holds Try.pinned (OpenSpec.ofChange radixRunsWrong)

/-- 'nearhandlaw15.PrefixOrders': WHATEVER THE INPUT: true; the input reads as it did. -/
def prefixOrdersSpec : ChangeSpec := { name := "prefixOrders", fn := fun _ => fun
  | [d1, d2, d3] => { results := [.lit (.bool true)], args := [d1, d2, d3] }
  | _ => none }
def prefixOrdersRow : OpenClaim := { program := "ytnlbmplbaalgmaa", sum := "a805055a143c3d035fc81034077e83e2dccbe348b0d3af8ba7e44c46d98f043d", func := "nearhand/nearhandlaw15.PrefixOrders", spec := "prefixOrders", inPlace := ["slices.overlaps[*nearhand/radix.node]", "slices.overlaps[int]", "slices.overlaps[string]"], unfollowed := true, recurses := true, apart := false }
def PrefixOrdersSaid : Prop := prefixOrdersRow.holds Try.pinned (OpenSpec.ofChange prefixOrdersSpec)

/-- ITS FALSE NEIGHBOUR: 'it returns false'. Refute it at one input. -/
def prefixOrdersWrong : ChangeSpec := { name := "prefixOrders", fn := fun _ => fun
  | [d1, d2, d3] => { results := [.lit (.bool false)], args := [d1, d2, d3] }
  | _ => none }
def PrefixOrdersWrongFalsely : Prop := prefixOrdersRow.holds Try.pinned (OpenSpec.ofChange prefixOrdersWrong)

/-- 'nearhandlaw15.PrefixRuns': WHATEVER THE INPUT: true; the input reads as it did. -/
def prefixRunsSpec : ChangeSpec := { name := "prefixRuns", fn := fun _ => fun
  | [d1, d2] => { results := [.lit (.bool true)], args := [d1, d2] }
  | _ => none }
def prefixRunsRow : OpenClaim := { program := "ytnlbmplbaalgmaa", sum := "a805055a143c3d035fc81034077e83e2dccbe348b0d3af8ba7e44c46d98f043d", func := "nearhand/nearhandlaw15.PrefixRuns", spec := "prefixRuns", inPlace := ["slices.overlaps[*nearhand/radix.node]", "slices.overlaps[int]", "slices.overlaps[string]"], unfollowed := true, recurses := true, apart := false }
def PrefixRunsSaid : Prop := prefixRunsRow.holds Try.pinned (OpenSpec.ofChange prefixRunsSpec)

/-- ITS FALSE NEIGHBOUR: 'it returns false'. Refute it at one input. -/
def prefixRunsWrong : ChangeSpec := { name := "prefixRuns", fn := fun _ => fun
  | [d1, d2] => { results := [.lit (.bool false)], args := [d1, d2] }
  | _ => none }
def PrefixRunsWrongFalsely : Prop := prefixRunsRow.holds Try.pinned (OpenSpec.ofChange prefixRunsWrong)

/-- 'nearhandlaw15.PrefixLeaves': WHATEVER THE INPUT: true; the input reads as it did. -/
def prefixLeavesSpec : ChangeSpec := { name := "prefixLeaves", fn := fun _ => fun
  | [d1, d2] => { results := [.lit (.bool true)], args := [d1, d2] }
  | _ => none }
def prefixLeavesRow : OpenClaim := { program := "ytnlbmplbaalgmaa", sum := "a805055a143c3d035fc81034077e83e2dccbe348b0d3af8ba7e44c46d98f043d", func := "nearhand/nearhandlaw15.PrefixLeaves", spec := "prefixLeaves", inPlace := ["slices.overlaps[*nearhand/radix.node]", "slices.overlaps[int]", "slices.overlaps[string]"], unfollowed := true, recurses := true, apart := false }
def PrefixLeavesSaid : Prop := prefixLeavesRow.holds Try.pinned (OpenSpec.ofChange prefixLeavesSpec)

/-- ITS FALSE NEIGHBOUR: 'it returns false'. Refute it at one input. -/
def prefixLeavesWrong : ChangeSpec := { name := "prefixLeaves", fn := fun _ => fun
  | [d1, d2] => { results := [.lit (.bool false)], args := [d1, d2] }
  | _ => none }
def PrefixLeavesWrongFalsely : Prop := prefixLeavesRow.holds Try.pinned (OpenSpec.ofChange prefixLeavesWrong)

/- THE SECOND FORM. 'bulk': how many values and letters a reading holds, each counted each time it is reached (what is shared counts as often as it is met; a slice's spare places count too). A statement '..UptoSaid' is the law's where the arguments, and the package variables that the reading takes, are together of bulk at most 1048576: NARROWER than '..Said'. Prove '..Said' where nothing that the law and all that it calls make is longer than what came in: it says more and counts as full. Else prove '..UptoSaid'. A law counts once. -/
mutual
def uptoBulk {H : Type} : DataW H → Nat
  | .lit (.string bytes) => bytes.length + 1
  | .lit _ => 1
  | .nil => 1
  | .ptr d => uptoBulk d + 1
  | .slice elems spare => uptoBulkAll elems + uptoBulkAll spare + 1
  | .agg parts => uptoBulkAll parts + 1
  | .iface _ d => uptoBulk d + 1
  | .map entries => uptoBulkEntries entries + 1
  | .held _ => 1
def uptoBulkAll {H : Type} : List (DataW H) → Nat
  | [] => 0
  | d :: r => uptoBulk d + uptoBulkAll r
def uptoBulkEntries {H : Type} : List (Lit × DataW H) → Nat
  | [] => 0
  | x :: r => uptoBulkEntry x + uptoBulkEntries r
def uptoBulkEntry {H : Type} : Lit × DataW H → Nat
  | (.string bytes, d) => bytes.length + uptoBulk d + 1
  | (_, d) => uptoBulk d + 1
 end
def uptoSmall : (H : Type) → List (DataW H) → Bool := fun _ ds => decide (uptoBulkAll ds ≤ 1048576)
def OpenSpec.upto (s : _root_.Go.ChangeSpec) : _root_.Go.OpenSpec := { _root_.Go.OpenSpec.ofChange s with cond := some uptoSmall }

/-- 'nearhandlaw07.RadixParts', WHERE WHAT IT READS IS OF BULK AT MOST 1048576: true; the input reads as it did. -/
def radixPartsUptoRow : OpenClaim := { program := "ytnlbmplbaalgmaa", sum := "a805055a143c3d035fc81034077e83e2dccbe348b0d3af8ba7e44c46d98f043d", func := "nearhand/nearhandlaw07.RadixParts", spec := "radixParts", inPlace := ["slices.overlaps[*nearhand/radix.node]"], unfollowed := true, recurses := true, apart := false, narrowed := true }
def RadixPartsUptoSaid : Prop := radixPartsUptoRow.holds Try.pinned (OpenSpec.upto radixPartsSpec)

/-- 'nearhandlaw07.RadixOrders', WHERE WHAT IT READS IS OF BULK AT MOST 1048576: true; the input reads as it did. -/
def radixOrdersUptoRow : OpenClaim := { program := "ytnlbmplbaalgmaa", sum := "a805055a143c3d035fc81034077e83e2dccbe348b0d3af8ba7e44c46d98f043d", func := "nearhand/nearhandlaw07.RadixOrders", spec := "radixOrders", inPlace := ["slices.overlaps[*nearhand/radix.node]"], unfollowed := true, recurses := true, apart := false, narrowed := true }
def RadixOrdersUptoSaid : Prop := radixOrdersUptoRow.holds Try.pinned (OpenSpec.upto radixOrdersSpec)

/-- 'nearhandlaw07.RadixWalks', WHERE WHAT IT READS IS OF BULK AT MOST 1048576: true; the input reads as it did. -/
def radixWalksUptoRow : OpenClaim := { program := "ytnlbmplbaalgmaa", sum := "a805055a143c3d035fc81034077e83e2dccbe348b0d3af8ba7e44c46d98f043d", func := "nearhand/nearhandlaw07.RadixWalks", spec := "radixWalks", inPlace := ["slices.overlaps[*nearhand/radix.node]"], unfollowed := true, recurses := true, apart := false, narrowed := true }
def RadixWalksUptoSaid : Prop := radixWalksUptoRow.holds Try.pinned (OpenSpec.upto radixWalksSpec)

/-- 'nearhandlaw07.RadixRuns', WHERE WHAT IT READS IS OF BULK AT MOST 1048576: true; the input reads as it did. -/
def radixRunsUptoRow : OpenClaim := { program := "ytnlbmplbaalgmaa", sum := "a805055a143c3d035fc81034077e83e2dccbe348b0d3af8ba7e44c46d98f043d", func := "nearhand/nearhandlaw07.RadixRuns", spec := "radixRuns", inPlace := ["slices.overlaps[*nearhand/radix.node]"], unfollowed := true, recurses := true, apart := false, narrowed := true }
def RadixRunsUptoSaid : Prop := radixRunsUptoRow.holds Try.pinned (OpenSpec.upto radixRunsSpec)

/-- 'nearhandlaw15.PrefixOrders', WHERE WHAT IT READS IS OF BULK AT MOST 1048576: true; the input reads as it did. -/
def prefixOrdersUptoRow : OpenClaim := { program := "ytnlbmplbaalgmaa", sum := "a805055a143c3d035fc81034077e83e2dccbe348b0d3af8ba7e44c46d98f043d", func := "nearhand/nearhandlaw15.PrefixOrders", spec := "prefixOrders", inPlace := ["slices.overlaps[*nearhand/radix.node]", "slices.overlaps[int]", "slices.overlaps[string]"], unfollowed := true, recurses := true, apart := false, narrowed := true }
def PrefixOrdersUptoSaid : Prop := prefixOrdersUptoRow.holds Try.pinned (OpenSpec.upto prefixOrdersSpec)

/-- 'nearhandlaw15.PrefixRuns', WHERE WHAT IT READS IS OF BULK AT MOST 1048576: true; the input reads as it did. -/
def prefixRunsUptoRow : OpenClaim := { program := "ytnlbmplbaalgmaa", sum := "a805055a143c3d035fc81034077e83e2dccbe348b0d3af8ba7e44c46d98f043d", func := "nearhand/nearhandlaw15.PrefixRuns", spec := "prefixRuns", inPlace := ["slices.overlaps[*nearhand/radix.node]", "slices.overlaps[int]", "slices.overlaps[string]"], unfollowed := true, recurses := true, apart := false, narrowed := true }
def PrefixRunsUptoSaid : Prop := prefixRunsUptoRow.holds Try.pinned (OpenSpec.upto prefixRunsSpec)

/-- 'nearhandlaw15.PrefixLeaves', WHERE WHAT IT READS IS OF BULK AT MOST 1048576: true; the input reads as it did. -/
def prefixLeavesUptoRow : OpenClaim := { program := "ytnlbmplbaalgmaa", sum := "a805055a143c3d035fc81034077e83e2dccbe348b0d3af8ba7e44c46d98f043d", func := "nearhand/nearhandlaw15.PrefixLeaves", spec := "prefixLeaves", inPlace := ["slices.overlaps[*nearhand/radix.node]", "slices.overlaps[int]", "slices.overlaps[string]"], unfollowed := true, recurses := true, apart := false, narrowed := true }
def PrefixLeavesUptoSaid : Prop := prefixLeavesUptoRow.holds Try.pinned (OpenSpec.upto prefixLeavesSpec)

end Rows
end Go.Proofs.Ytnlbmplbaalgmaa
