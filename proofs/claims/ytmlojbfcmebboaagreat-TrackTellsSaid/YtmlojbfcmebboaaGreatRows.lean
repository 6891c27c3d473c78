/-
  No cell of these rows narrows 'for every input' (looked for: loops, veiled, ifaces, maps, wideKeys, modest, calm, conditions, laid).
  DERIVED. THE GIVEN ROWS OF THIS SEAT. 5 by the template 'for every input the law returns true; each argument reads behind the call as it read before'; 0 by the template 'total and deterministic' (their statements: YtmlojbfcmebboaaGreatTotals.lean).
  GIVEN WITH THE SEED: the statements are not yours to turn. If you find one false, say at which input.
  Laid BY PROGRAM, IN A SANDBOX (cutbox-rows.mjs): the forced cells as the released guide's own fill.sh prints them over the translation 3ac6d85586dc1902… (all of the seat's roots in one cut). By AI agents, Wed Nov 11 2026. No macro, syntax, notation, axiom, sorry.
-/
import Derived.Test.YtmlojbfcmebboaaGreatChecked
import GoSem.Claim
import GoSem.ClaimJoined
import GoSem.ClaimMapViews
import Derived.JoinedTies
import Derived.KernelRfl
namespace Go.Proofs.YtmlojbfcmebboaaGreat
/- THE CELL 'sum', in the pinned program and in every row, IS THE sha256 OF THE DUMP (.gsa) THAT YtmlojbfcmebboaaGreatProg.lean LOADS. Nothing in Lean hashes anything: it is a label: what it is worth is what the hold of that sum in a sandbox is worth. -/
noncomputable def Tryz.pinned : Pinned := { name := "ytmlojbfcmebboaagreat", sum := "3ac6d85586dc190234c395cccd86a79cf5c776eeaf2da804d4869caaecd8a7ea", checked := Tryz.checked }
namespace Rows
def none {H : Type} : Left H := { results := [], args := [] }

/-- 'nearhandlaw16.TrackTells': WHATEVER THE INPUT: true; the input reads as it did. -/
def trackTellsSpec : ChangeSpec := { name := "trackTells", fn := fun _ => fun
  | [d1, d2] => { results := [.lit (.bool true)], args := [d1, d2] }
  | _ => none }
def trackTellsRow : OpenClaim := { program := "ytmlojbfcmebboaagreat", sum := "3ac6d85586dc190234c395cccd86a79cf5c776eeaf2da804d4869caaecd8a7ea", func := "nearhand/nearhandlaw16.TrackTells", spec := "trackTells", inPlace := ["slices.overlaps[*nearhand/radix.node]", "slices.overlaps[int]", "slices.overlaps[string]"], unfollowed := true, recurses := true, plainKeys := false, apart := false }
def TrackTellsSaid : Prop := trackTellsRow.holds Tryz.pinned (OpenSpec.ofChange trackTellsSpec)

/-- ITS FALSE NEIGHBOUR: 'it returns false'. Refute it at one input. -/
def trackTellsWrong : ChangeSpec := { name := "trackTells", fn := fun _ => fun
  | [d1, d2] => { results := [.lit (.bool false)], args := [d1, d2] }
  | _ => none }
def TrackTellsWrongFalsely : Prop := trackTellsRow.holds Tryz.pinned (OpenSpec.ofChange trackTellsWrong)

/-- 'nearhandlaw16.TrackNames': WHATEVER THE INPUT: true; the input reads as it did. -/
def trackNamesSpec : ChangeSpec := { name := "trackNames", fn := fun _ => fun
  | [] => { results := [.lit (.bool true)], args := [] }
  | _ => none }
def trackNamesRow : OpenClaim := { program := "ytmlojbfcmebboaagreat", sum := "3ac6d85586dc190234c395cccd86a79cf5c776eeaf2da804d4869caaecd8a7ea", func := "nearhand/nearhandlaw16.TrackNames", spec := "trackNames", inPlace := ["slices.overlaps[*nearhand/radix.node]", "slices.overlaps[int]", "slices.overlaps[string]"], unfollowed := true, recurses := true, plainKeys := false, apart := false }
def TrackNamesSaid : Prop := trackNamesRow.holds Tryz.pinned (OpenSpec.ofChange trackNamesSpec)

/-- ITS FALSE NEIGHBOUR: 'it returns false'. Refute it at one input. -/
def trackNamesWrong : ChangeSpec := { name := "trackNames", fn := fun _ => fun
  | [] => { results := [.lit (.bool false)], args := [] }
  | _ => none }
def TrackNamesWrongFalsely : Prop := trackNamesRow.holds Tryz.pinned (OpenSpec.ofChange trackNamesWrong)

/-- 'nearhandlaw16.TrackGone': WHATEVER THE INPUT: true; the input reads as it did. -/
def trackGoneSpec : ChangeSpec := { name := "trackGone", fn := fun _ => fun
  | [d1, d2] => { results := [.lit (.bool true)], args := [d1, d2] }
  | _ => none }
def trackGoneRow : OpenClaim := { program := "ytmlojbfcmebboaagreat", sum := "3ac6d85586dc190234c395cccd86a79cf5c776eeaf2da804d4869caaecd8a7ea", func := "nearhand/nearhandlaw16.TrackGone", spec := "trackGone", inPlace := ["slices.overlaps[*nearhand/radix.node]", "slices.overlaps[int]", "slices.overlaps[string]"], unfollowed := true, recurses := true, plainKeys := false, apart := false }
def TrackGoneSaid : Prop := trackGoneRow.holds Tryz.pinned (OpenSpec.ofChange trackGoneSpec)

/-- ITS FALSE NEIGHBOUR: 'it returns false'. Refute it at one input. -/
def trackGoneWrong : ChangeSpec := { name := "trackGone", fn := fun _ => fun
  | [d1, d2] => { results := [.lit (.bool false)], args := [d1, d2] }
  | _ => none }
def TrackGoneWrongFalsely : Prop := trackGoneRow.holds Tryz.pinned (OpenSpec.ofChange trackGoneWrong)

/-- 'nearhandlaw16.TrackQuiet': WHATEVER THE INPUT: true; the input reads as it did. -/
def trackQuietSpec : ChangeSpec := { name := "trackQuiet", fn := fun _ => fun
  | [d1, d2] => { results := [.lit (.bool true)], args := [d1, d2] }
  | _ => none }
def trackQuietRow : OpenClaim := { program := "ytmlojbfcmebboaagreat", sum := "3ac6d85586dc190234c395cccd86a79cf5c776eeaf2da804d4869caaecd8a7ea", func := "nearhand/nearhandlaw16.TrackQuiet", spec := "trackQuiet", inPlace := ["slices.overlaps[*nearhand/radix.node]", "slices.overlaps[int]", "slices.overlaps[string]"], unfollowed := true, recurses := true, plainKeys := false, apart := false }
def TrackQuietSaid : Prop := trackQuietRow.holds Tryz.pinned (OpenSpec.ofChange trackQuietSpec)

/-- ITS FALSE NEIGHBOUR: 'it returns false'. Refute it at one input. -/
def trackQuietWrong : ChangeSpec := { name := "trackQuiet", fn := fun _ => fun
  | [d1, d2] => { results := [.lit (.bool false)], args := [d1, d2] }
  | _ => none }
def TrackQuietWrongFalsely : Prop := trackQuietRow.holds Tryz.pinned (OpenSpec.ofChange trackQuietWrong)

/-- 'nearhandlaw16.TrackRuns': WHATEVER THE INPUT: true; the input reads as it did. -/
def trackRunsSpec : ChangeSpec := { name := "trackRuns", fn := fun _ => fun
  | [d1, d2] => { results := [.lit (.bool true)], args := [d1, d2] }
  | _ => none }
def trackRunsRow : OpenClaim := { program := "ytmlojbfcmebboaagreat", sum := "3ac6d85586dc190234c395cccd86a79cf5c776eeaf2da804d4869caaecd8a7ea", func := "nearhand/nearhandlaw16.TrackRuns", spec := "trackRuns", inPlace := ["slices.overlaps[*nearhand/radix.node]", "slices.overlaps[int]", "slices.overlaps[string]"], unfollowed := true, recurses := true, plainKeys := false, apart := false }
def TrackRunsSaid : Prop := trackRunsRow.holds Tryz.pinned (OpenSpec.ofChange trackRunsSpec)

/-- ITS FALSE NEIGHBOUR: 'it returns false'. Refute it at one input. -/
def trackRunsWrong : ChangeSpec := { name := "trackRuns", fn := fun _ => fun
  | [d1, d2] => { results := [.lit (.bool false)], args := [d1, d2] }
  | _ => none }
def TrackRunsWrongFalsely : Prop := trackRunsRow.holds Tryz.pinned (OpenSpec.ofChange trackRunsWrong)

/- THE SECOND FORM. 'bulk': how many values and letters a reading holds, each counted each time it is reached (what is shared counts as often as it is met; a slice's spare places count too). A statement '..UptoSaid' is the law's where the arguments, and the package variables that the reading takes, are together of bulk at most 1048576: NARROWER than '..Said'. Prove '..Said' where nothing that the law and all that it calls make is longer than what came in: it says more and counts as full. Else prove '..UptoSaid'. A law counts once. -/
mutual
def uptoBulk {H : Type} : DataW H → Nat
  | .lit (.string bytes) => bytes.length + 1
  | .lit _ => 1
  | .nil => 1
  | .ptr d => uptoBulk d + 1
  | .slice elems spare => uptoBulkAll elems + uptoBulkAll spare + 1
  | .agg parts => uptoBulkAll parts + 1
  | .iface _ d => uptoBulk d + 1
  | .map entries => uptoBulkEntries entries + 1
  | .held _ => 1
def uptoBulkAll {H : Type} : List (DataW H) → Nat
  | [] => 0
  | d :: r => uptoBulk d + uptoBulkAll r
def uptoBulkEntries {H : Type} : List (Lit × DataW H) → Nat
  | [] => 0
  | x :: r => uptoBulkEntry x + uptoBulkEntries r
def uptoBulkEntry {H : Type} : Lit × DataW H → Nat
  | (.string bytes, d) => bytes.length + uptoBulk d + 1
  | (_, d) => uptoBulk d + 1
 end
def uptoSmall : (H : Type) → List (DataW H) → Bool := fun _ ds => decide (uptoBulkAll ds ≤ 1048576)
def OpenSpec.upto (s : _root_.Go.ChangeSpec) : _root_.Go.OpenSpec := { _root_.Go.OpenSpec.ofChange s with cond := some uptoSmall }

/-- 'nearhandlaw16.TrackTells', WHERE WHAT IT READS IS OF BULK AT MOST 1048576: true; the input reads as it did. -/
def trackTellsUptoRow : OpenClaim := { program := "ytmlojbfcmebboaagreat", sum := "3ac6d85586dc190234c395cccd86a79cf5c776eeaf2da804d4869caaecd8a7ea", func := "nearhand/nearhandlaw16.TrackTells", spec := "trackTells", inPlace := ["slices.overlaps[*nearhand/radix.node]", "slices.overlaps[int]", "slices.overlaps[string]"], unfollowed := true, recurses := true, plainKeys := false, apart := false, narrowed := true }
def TrackTellsUptoSaid : Prop := trackTellsUptoRow.holds Tryz.pinned (OpenSpec.upto trackTellsSpec)

/-- 'nearhandlaw16.TrackNames', WHERE WHAT IT READS IS OF BULK AT MOST 1048576: true; the input reads as it did. -/
def trackNamesUptoRow : OpenClaim := { program := "ytmlojbfcmebboaagreat", sum := "3ac6d85586dc190234c395cccd86a79cf5c776eeaf2da804d4869caaecd8a7ea", func := "nearhand/nearhandlaw16.TrackNames", spec := "trackNames", inPlace := ["slices.overlaps[*nearhand/radix.node]", "slices.overlaps[int]", "slices.overlaps[string]"], unfollowed := true, recurses := true, plainKeys := false, apart := false, narrowed := true }
def TrackNamesUptoSaid : Prop := trackNamesUptoRow.holds Tryz.pinned (OpenSpec.upto trackNamesSpec)

/-- 'nearhandlaw16.TrackGone', WHERE WHAT IT READS IS OF BULK AT MOST 1048576: true; the input reads as it did. -/
def trackGoneUptoRow : OpenClaim := { program := "ytmlojbfcmebboaagreat", sum := "3ac6d85586dc190234c395cccd86a79cf5c776eeaf2da804d4869caaecd8a7ea", func := "nearhand/nearhandlaw16.TrackGone", spec := "trackGone", inPlace := ["slices.overlaps[*nearhand/radix.node]", "slices.overlaps[int]", "slices.overlaps[string]"], unfollowed := true, recurses := true, plainKeys := false, apart := false, narrowed := true }
def TrackGoneUptoSaid : Prop := trackGoneUptoRow.holds Tryz.pinned (OpenSpec.upto trackGoneSpec)

/-- 'nearhandlaw16.TrackQuiet', WHERE WHAT IT READS IS OF BULK AT MOST 1048576: true; the input reads as it did. -/
def trackQuietUptoRow : OpenClaim := { program := "ytmlojbfcmebboaagreat", sum := "3ac6d85586dc190234c395cccd86a79cf5c776eeaf2da804d4869caaecd8a7ea", func := "nearhand/nearhandlaw16.TrackQuiet", spec := "trackQuiet", inPlace := ["slices.overlaps[*nearhand/radix.node]", "slices.overlaps[int]", "slices.overlaps[string]"], unfollowed := true, recurses := true, plainKeys := false, apart := false, narrowed := true }
def TrackQuietUptoSaid : Prop := trackQuietUptoRow.holds Tryz.pinned (OpenSpec.upto trackQuietSpec)

/-- 'nearhandlaw16.TrackRuns', WHERE WHAT IT READS IS OF BULK AT MOST 1048576: true; the input reads as it did. -/
def trackRunsUptoRow : OpenClaim := { program := "ytmlojbfcmebboaagreat", sum := "3ac6d85586dc190234c395cccd86a79cf5c776eeaf2da804d4869caaecd8a7ea", func := "nearhand/nearhandlaw16.TrackRuns", spec := "trackRuns", inPlace := ["slices.overlaps[*nearhand/radix.node]", "slices.overlaps[int]", "slices.overlaps[string]"], unfollowed := true, recurses := true, plainKeys := false, apart := false, narrowed := true }
def TrackRunsUptoSaid : Prop := trackRunsUptoRow.holds Tryz.pinned (OpenSpec.upto trackRunsSpec)

end Rows
end Go.Proofs.YtmlojbfcmebboaaGreat
