/-
  No cell of these rows narrows 'for every input' (looked for: loops, veiled, ifaces, maps, wideKeys, modest, calm, conditions, laid).
  DERIVED. THE GIVEN ROWS OF THIS SEAT. 5 by the template 'for every input the law returns true; each argument reads behind the call as it read before'; 0 by the template 'total and deterministic' (their statements: YtebhddpildfgcaaTotals.lean).
  GIVEN WITH THE SEED: the statements are not yours to turn. If you find one false, say at which input.
  Laid BY PROGRAM, IN A SANDBOX (cutbox-rows.mjs): the forced cells as the released guide's own fill.sh prints them over the translation cfcb0aa8bcd1f376… (all of the seat's roots in one cut). By AI agents, Wed Nov 11 2026. No macro, syntax, notation, axiom, sorry.
-/
import Derived.Test.YtebhddpildfgcaaChecked
import GoSem.Claim
import GoSem.ClaimJoined
import GoSem.ClaimMapViews
import Derived.JoinedTies
import Derived.KernelRfl
namespace Go.Proofs.Ytebhddpildfgcaa
/- THE CELL 'sum', in the pinned program and in every row, IS THE sha256 OF THE DUMP (.gsa) THAT YtebhddpildfgcaaProg.lean LOADS. Nothing in Lean hashes anything: it is a label: what it is worth is what the hold of that sum in a sandbox is worth. -/
noncomputable def Try.pinned : Pinned := { name := "ytebhddpildfgcaa", sum := "cfcb0aa8bcd1f376196f900be4481ee9647043be3e4411f2e82ac76df5185593", checked := Try.checked }
namespace Rows
def none {H : Type} : Left H := { results := [], args := [] }

/-- 'conciergelaw43.DiffMakes': WHATEVER THE INPUT: true; the input reads as it did. -/
def diffMakesSpec : ChangeSpec := { name := "diffMakes", fn := fun _ => fun
  | [d1, d2] => { results := [.lit (.bool true)], args := [d1, d2] }
  | _ => none }
def diffMakesRow : OpenClaim := { program := "ytebhddpildfgcaa", sum := "cfcb0aa8bcd1f376196f900be4481ee9647043be3e4411f2e82ac76df5185593", func := "concierge/conciergelaw43.DiffMakes", spec := "diffMakes", inPlace := ["slices.overlaps[concierge/api.Entry]"], unfollowed := true, recurses := true, plainKeys := false, apart := false }
def DiffMakesSaid : Prop := diffMakesRow.holds Try.pinned (OpenSpec.ofChange diffMakesSpec)

/-- ITS FALSE NEIGHBOUR: 'it returns false'. Refute it at one input. -/
def diffMakesWrong : ChangeSpec := { name := "diffMakes", fn := fun _ => fun
  | [d1, d2] => { results := [.lit (.bool false)], args := [d1, d2] }
  | _ => none }
def DiffMakesWrongFalsely : Prop := diffMakesRow.holds Try.pinned (OpenSpec.ofChange diffMakesWrong)

/-- 'conciergelaw43.DiffApplies': WHATEVER THE INPUT: true; the input reads as it did. -/
def diffAppliesSpec : ChangeSpec := { name := "diffApplies", fn := fun _ => fun
  | [d1, d2] => { results := [.lit (.bool true)], args := [d1, d2] }
  | _ => none }
def diffAppliesRow : OpenClaim := { program := "ytebhddpildfgcaa", sum := "cfcb0aa8bcd1f376196f900be4481ee9647043be3e4411f2e82ac76df5185593", func := "concierge/conciergelaw43.DiffApplies", spec := "diffApplies", inPlace := ["slices.overlaps[concierge/api.Entry]"], unfollowed := true, recurses := true, plainKeys := false, apart := false }
def DiffAppliesSaid : Prop := diffAppliesRow.holds Try.pinned (OpenSpec.ofChange diffAppliesSpec)

/-- ITS FALSE NEIGHBOUR: 'it returns false'. Refute it at one input. -/
def diffAppliesWrong : ChangeSpec := { name := "diffApplies", fn := fun _ => fun
  | [d1, d2] => { results := [.lit (.bool false)], args := [d1, d2] }
  | _ => none }
def DiffAppliesWrongFalsely : Prop := diffAppliesRow.holds Try.pinned (OpenSpec.ofChange diffAppliesWrong)

/-- 'conciergelaw43.DiffLeast': WHATEVER THE INPUT: true; the input reads as it did. -/
def diffLeastSpec : ChangeSpec := { name := "diffLeast", fn := fun _ => fun
  | [d1, d2, d3] => { results := [.lit (.bool true)], args := [d1, d2, d3] }
  | _ => none }
def diffLeastRow : OpenClaim := { program := "ytebhddpildfgcaa", sum := "cfcb0aa8bcd1f376196f900be4481ee9647043be3e4411f2e82ac76df5185593", func := "concierge/conciergelaw43.DiffLeast", spec := "diffLeast", inPlace := ["slices.overlaps[concierge/api.Entry]"], unfollowed := true, recurses := true, plainKeys := false, apart := false }
def DiffLeastSaid : Prop := diffLeastRow.holds Try.pinned (OpenSpec.ofChange diffLeastSpec)

/-- ITS FALSE NEIGHBOUR: 'it returns false'. Refute it at one input. -/
def diffLeastWrong : ChangeSpec := { name := "diffLeast", fn := fun _ => fun
  | [d1, d2, d3] => { results := [.lit (.bool false)], args := [d1, d2, d3] }
  | _ => none }
def DiffLeastWrongFalsely : Prop := diffLeastRow.holds Try.pinned (OpenSpec.ofChange diffLeastWrong)

/-- 'conciergelaw43.DiffJoins': WHATEVER THE INPUT: true; the input reads as it did. -/
def diffJoinsSpec : ChangeSpec := { name := "diffJoins", fn := fun _ => fun
  | [d1, d2, d3] => { results := [.lit (.bool true)], args := [d1, d2, d3] }
  | _ => none }
def diffJoinsRow : OpenClaim := { program := "ytebhddpildfgcaa", sum := "cfcb0aa8bcd1f376196f900be4481ee9647043be3e4411f2e82ac76df5185593", func := "concierge/conciergelaw43.DiffJoins", spec := "diffJoins", inPlace := ["slices.overlaps[concierge/api.Entry]"], unfollowed := true, recurses := true, plainKeys := false, apart := false }
def DiffJoinsSaid : Prop := diffJoinsRow.holds Try.pinned (OpenSpec.ofChange diffJoinsSpec)

/-- ITS FALSE NEIGHBOUR: 'it returns false'. Refute it at one input. -/
def diffJoinsWrong : ChangeSpec := { name := "diffJoins", fn := fun _ => fun
  | [d1, d2, d3] => { results := [.lit (.bool false)], args := [d1, d2, d3] }
  | _ => none }
def DiffJoinsWrongFalsely : Prop := diffJoinsRow.holds Try.pinned (OpenSpec.ofChange diffJoinsWrong)

/-- 'conciergelaw43.DiffNames': WHATEVER THE INPUT: true; the input reads as it did. -/
def diffNamesSpec : ChangeSpec := { name := "diffNames", fn := fun _ => fun
  | [d1, d2] => { results := [.lit (.bool true)], args := [d1, d2] }
  | _ => none }
def diffNamesRow : OpenClaim := { program := "ytebhddpildfgcaa", sum := "cfcb0aa8bcd1f376196f900be4481ee9647043be3e4411f2e82ac76df5185593", func := "concierge/conciergelaw43.DiffNames", spec := "diffNames", inPlace := ["slices.overlaps[concierge/api.Entry]"], unfollowed := true, recurses := true, plainKeys := false, apart := false }
def DiffNamesSaid : Prop := diffNamesRow.holds Try.pinned (OpenSpec.ofChange diffNamesSpec)

/-- ITS FALSE NEIGHBOUR: 'it returns false'. Refute it at one input. -/
def diffNamesWrong : ChangeSpec := { name := "diffNames", fn := fun _ => fun
  | [d1, d2] => { results := [.lit (.bool false)], args := [d1, d2] }
  | _ => none }
def DiffNamesWrongFalsely : Prop := diffNamesRow.holds Try.pinned (OpenSpec.ofChange diffNamesWrong)

/- THE SECOND FORM. 'bulk': how many values and letters a reading holds, each counted each time it is reached (what is shared counts as often as it is met; a slice's spare places count too). A statement '..UptoSaid' is the law's where the arguments, and the package variables that the reading takes, are together of bulk at most 1048576: NARROWER than '..Said'. Prove '..Said' where nothing that the law and all that it calls make is longer than what came in: it says more and counts as full. Else prove '..UptoSaid'. A law counts once. -/
mutual
def uptoBulk {H : Type} : DataW H → Nat
  | .lit (.string bytes) => bytes.length + 1
  | .lit _ => 1
  | .nil => 1
  | .ptr d => uptoBulk d + 1
  | .slice elems spare => uptoBulkAll elems + uptoBulkAll spare + 1
  | .agg parts => uptoBulkAll parts + 1
  | .iface _ d => uptoBulk d + 1
  | .map entries => uptoBulkEntries entries + 1
  | .held _ => 1
def uptoBulkAll {H : Type} : List (DataW H) → Nat
  | [] => 0
  | d :: r => uptoBulk d + uptoBulkAll r
def uptoBulkEntries {H : Type} : List (Lit × DataW H) → Nat
  | [] => 0
  | x :: r => uptoBulkEntry x + uptoBulkEntries r
def uptoBulkEntry {H : Type} : Lit × DataW H → Nat
  | (.string bytes, d) => bytes.length + uptoBulk d + 1
  | (_, d) => uptoBulk d + 1
 end
def uptoSmall : (H : Type) → List (DataW H) → Bool := fun _ ds => decide (uptoBulkAll ds ≤ 1048576)
def OpenSpec.upto (s : _root_.Go.ChangeSpec) : _root_.Go.OpenSpec := { _root_.Go.OpenSpec.ofChange s with cond := some uptoSmall }

/-- 'conciergelaw43.DiffMakes', WHERE WHAT IT READS IS OF BULK AT MOST 1048576: true; the input reads as it did. -/
def diffMakesUptoRow : OpenClaim := { program := "ytebhddpildfgcaa", sum := "cfcb0aa8bcd1f376196f900be4481ee9647043be3e4411f2e82ac76df5185593", func := "concierge/conciergelaw43.DiffMakes", spec := "diffMakes", inPlace := ["slices.overlaps[concierge/api.Entry]"], unfollowed := true, recurses := true, plainKeys := false, apart := false, narrowed := true }
def DiffMakesUptoSaid : Prop := diffMakesUptoRow.holds Try.pinned (OpenSpec.upto diffMakesSpec)

/-- 'conciergelaw43.DiffApplies', WHERE WHAT IT READS IS OF BULK AT MOST 1048576: true; the input reads as it did. -/
def diffAppliesUptoRow : OpenClaim := { program := "ytebhddpildfgcaa", sum := "cfcb0aa8bcd1f376196f900be4481ee9647043be3e4411f2e82ac76df5185593", func := "concierge/conciergelaw43.DiffApplies", spec := "diffApplies", inPlace := ["slices.overlaps[concierge/api.Entry]"], unfollowed := true, recurses := true, plainKeys := false, apart := false, narrowed := true }
def DiffAppliesUptoSaid : Prop := diffAppliesUptoRow.holds Try.pinned (OpenSpec.upto diffAppliesSpec)

/-- 'conciergelaw43.DiffLeast', WHERE WHAT IT READS IS OF BULK AT MOST 1048576: true; the input reads as it did. -/
def diffLeastUptoRow : OpenClaim := { program := "ytebhddpildfgcaa", sum := "cfcb0aa8bcd1f376196f900be4481ee9647043be3e4411f2e82ac76df5185593", func := "concierge/conciergelaw43.DiffLeast", spec := "diffLeast", inPlace := ["slices.overlaps[concierge/api.Entry]"], unfollowed := true, recurses := true, plainKeys := false, apart := false, narrowed := true }
def DiffLeastUptoSaid : Prop := diffLeastUptoRow.holds Try.pinned (OpenSpec.upto diffLeastSpec)

/-- 'conciergelaw43.DiffJoins', WHERE WHAT IT READS IS OF BULK AT MOST 1048576: true; the input reads as it did. -/
def diffJoinsUptoRow : OpenClaim := { program := "ytebhddpildfgcaa", sum := "cfcb0aa8bcd1f376196f900be4481ee9647043be3e4411f2e82ac76df5185593", func := "concierge/conciergelaw43.DiffJoins", spec := "diffJoins", inPlace := ["slices.overlaps[concierge/api.Entry]"], unfollowed := true, recurses := true, plainKeys := false, apart := false, narrowed := true }
def DiffJoinsUptoSaid : Prop := diffJoinsUptoRow.holds Try.pinned (OpenSpec.upto diffJoinsSpec)

/-- 'conciergelaw43.DiffNames', WHERE WHAT IT READS IS OF BULK AT MOST 1048576: true; the input reads as it did. -/
def diffNamesUptoRow : OpenClaim := { program := "ytebhddpildfgcaa", sum := "cfcb0aa8bcd1f376196f900be4481ee9647043be3e4411f2e82ac76df5185593", func := "concierge/conciergelaw43.DiffNames", spec := "diffNames", inPlace := ["slices.overlaps[concierge/api.Entry]"], unfollowed := true, recurses := true, plainKeys := false, apart := false, narrowed := true }
def DiffNamesUptoSaid : Prop := diffNamesUptoRow.holds Try.pinned (OpenSpec.upto diffNamesSpec)

end Rows
end Go.Proofs.Ytebhddpildfgcaa
