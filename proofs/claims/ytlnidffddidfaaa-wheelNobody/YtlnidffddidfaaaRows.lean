/-
  No cell of these rows narrows 'for every input' (looked for: loops, veiled, ifaces, maps, wideKeys, modest, calm, conditions, laid).
  DERIVED. THE GIVEN ROWS OF THIS SEAT. 3 by the template 'for every input the law returns true; each argument reads behind the call as it read before'; 0 by the template 'total and deterministic' (their statements: YtlnidffddidfaaaTotals.lean).
  GIVEN WITH THE SEED: the statements are not yours to turn. If you find one false, say at which input.
  Laid BY PROGRAM, IN A SANDBOX (cutbox-rows.mjs): the forced cells as the released guide's own fill.sh prints them over the translation a397574286c7dbd1… (all of the seat's roots in one cut). By AI agents, Wed Nov 11 2026. No macro, syntax, notation, axiom, sorry.
-/
import Derived.Test.YtlnidffddidfaaaChecked
import GoSem.Claim
import GoSem.ClaimJoined
import GoSem.ClaimMapViews
import Derived.JoinedTies
import Derived.KernelRfl
namespace Go.Proofs.Ytlnidffddidfaaa
/- THE CELL 'sum', in the pinned program and in every row, IS THE sha256 OF THE DUMP (.gsa) THAT YtlnidffddidfaaaProg.lean LOADS. Nothing in Lean hashes anything: it is a label: what it is worth is what the hold of that sum in a sandbox is worth. -/
noncomputable def Try.pinned : Pinned := { name := "ytlnidffddidfaaa", sum := "a397574286c7dbd1e30af342c4024619cd05efddd1d81231d2dbdcbd5335d635", checked := Try.checked }
namespace Rows
def none {H : Type} : Left H := { results := [], args := [] }

/-- 'conciergelaw46.WheelSteps': WHATEVER THE INPUT: true; the input reads as it did. -/
def wheelStepsSpec : ChangeSpec := { name := "wheelSteps", fn := fun _ => fun
  | [d1, d2] => { results := [.lit (.bool true)], args := [d1, d2] }
  | _ => none }
def wheelStepsRow : OpenClaim := { program := "ytlnidffddidfaaa", sum := "a397574286c7dbd1e30af342c4024619cd05efddd1d81231d2dbdcbd5335d635", func := "concierge/conciergelaw46.WheelSteps", spec := "wheelSteps", unfollowed := true, recurses := true, plainKeys := false, apart := false }
def WheelStepsSaid : Prop := wheelStepsRow.holds Try.pinned (OpenSpec.ofChange wheelStepsSpec)

/-- ITS FALSE NEIGHBOUR: 'it returns false'. Refute it at one input. -/
def wheelStepsWrong : ChangeSpec := { name := "wheelSteps", fn := fun _ => fun
  | [d1, d2] => { results := [.lit (.bool false)], args := [d1, d2] }
  | _ => none }
def WheelStepsWrongFalsely : Prop := wheelStepsRow.holds Try.pinned (OpenSpec.ofChange wheelStepsWrong)

/-- 'conciergelaw46.WheelRuns': WHATEVER THE INPUT: true; the input reads as it did. -/
def wheelRunsSpec : ChangeSpec := { name := "wheelRuns", fn := fun _ => fun
  | [d1, d2] => { results := [.lit (.bool true)], args := [d1, d2] }
  | _ => none }
def wheelRunsRow : OpenClaim := { program := "ytlnidffddidfaaa", sum := "a397574286c7dbd1e30af342c4024619cd05efddd1d81231d2dbdcbd5335d635", func := "concierge/conciergelaw46.WheelRuns", spec := "wheelRuns", unfollowed := true, recurses := true, plainKeys := false, apart := false }
def WheelRunsSaid : Prop := wheelRunsRow.holds Try.pinned (OpenSpec.ofChange wheelRunsSpec)

/-- ITS FALSE NEIGHBOUR: 'it returns false'. Refute it at one input. -/
def wheelRunsWrong : ChangeSpec := { name := "wheelRuns", fn := fun _ => fun
  | [d1, d2] => { results := [.lit (.bool false)], args := [d1, d2] }
  | _ => none }
def WheelRunsWrongFalsely : Prop := wheelRunsRow.holds Try.pinned (OpenSpec.ofChange wheelRunsWrong)

/-- 'conciergelaw46.WheelNobody': WHATEVER THE INPUT: true; the input reads as it did. -/
def wheelNobodySpec : ChangeSpec := { name := "wheelNobody", fn := fun _ => fun
  | [d] => { results := [.lit (.bool true)], args := [d] }
  | _ => none }
def wheelNobodyRow : OpenClaim := { program := "ytlnidffddidfaaa", sum := "a397574286c7dbd1e30af342c4024619cd05efddd1d81231d2dbdcbd5335d635", func := "concierge/conciergelaw46.WheelNobody", spec := "wheelNobody", unfollowed := true, recurses := true, plainKeys := false, apart := false }
def WheelNobodySaid : Prop := wheelNobodyRow.holds Try.pinned (OpenSpec.ofChange wheelNobodySpec)

/-- ITS FALSE NEIGHBOUR: 'it returns false'. Refute it at one input. -/
def wheelNobodyWrong : ChangeSpec := { name := "wheelNobody", fn := fun _ => fun
  | [d] => { results := [.lit (.bool false)], args := [d] }
  | _ => none }
def WheelNobodyWrongFalsely : Prop := wheelNobodyRow.holds Try.pinned (OpenSpec.ofChange wheelNobodyWrong)

/- THE SECOND FORM. 'bulk': how many values and letters a reading holds, each counted each time it is reached (what is shared counts as often as it is met; a slice's spare places count too). A statement '..UptoSaid' is the law's where the arguments, and the package variables that the reading takes, are together of bulk at most 1048576: NARROWER than '..Said'. Prove '..Said' where nothing that the law and all that it calls make is longer than what came in: it says more and counts as full. Else prove '..UptoSaid'. A law counts once. -/
mutual
def uptoBulk {H : Type} : DataW H → Nat
  | .lit (.string bytes) => bytes.length + 1
  | .lit _ => 1
  | .nil => 1
  | .ptr d => uptoBulk d + 1
  | .slice elems spare => uptoBulkAll elems + uptoBulkAll spare + 1
  | .agg parts => uptoBulkAll parts + 1
  | .iface _ d => uptoBulk d + 1
  | .map entries => uptoBulkEntries entries + 1
  | .held _ => 1
def uptoBulkAll {H : Type} : List (DataW H) → Nat
  | [] => 0
  | d :: r => uptoBulk d + uptoBulkAll r
def uptoBulkEntries {H : Type} : List (Lit × DataW H) → Nat
  | [] => 0
  | x :: r => uptoBulkEntry x + uptoBulkEntries r
def uptoBulkEntry {H : Type} : Lit × DataW H → Nat
  | (.string bytes, d) => bytes.length + uptoBulk d + 1
  | (_, d) => uptoBulk d + 1
 end
def uptoSmall : (H : Type) → List (DataW H) → Bool := fun _ ds => decide (uptoBulkAll ds ≤ 1048576)
def OpenSpec.upto (s : _root_.Go.ChangeSpec) : _root_.Go.OpenSpec := { _root_.Go.OpenSpec.ofChange s with cond := some uptoSmall }

/-- 'conciergelaw46.WheelSteps', WHERE WHAT IT READS IS OF BULK AT MOST 1048576: true; the input reads as it did. -/
def wheelStepsUptoRow : OpenClaim := { program := "ytlnidffddidfaaa", sum := "a397574286c7dbd1e30af342c4024619cd05efddd1d81231d2dbdcbd5335d635", func := "concierge/conciergelaw46.WheelSteps", spec := "wheelSteps", unfollowed := true, recurses := true, plainKeys := false, apart := false, narrowed := true }
def WheelStepsUptoSaid : Prop := wheelStepsUptoRow.holds Try.pinned (OpenSpec.upto wheelStepsSpec)

/-- 'conciergelaw46.WheelRuns', WHERE WHAT IT READS IS OF BULK AT MOST 1048576: true; the input reads as it did. -/
def wheelRunsUptoRow : OpenClaim := { program := "ytlnidffddidfaaa", sum := "a397574286c7dbd1e30af342c4024619cd05efddd1d81231d2dbdcbd5335d635", func := "concierge/conciergelaw46.WheelRuns", spec := "wheelRuns", unfollowed := true, recurses := true, plainKeys := false, apart := false, narrowed := true }
def WheelRunsUptoSaid : Prop := wheelRunsUptoRow.holds Try.pinned (OpenSpec.upto wheelRunsSpec)

/-- 'conciergelaw46.WheelNobody', WHERE WHAT IT READS IS OF BULK AT MOST 1048576: true; the input reads as it did. -/
def wheelNobodyUptoRow : OpenClaim := { program := "ytlnidffddidfaaa", sum := "a397574286c7dbd1e30af342c4024619cd05efddd1d81231d2dbdcbd5335d635", func := "concierge/conciergelaw46.WheelNobody", spec := "wheelNobody", unfollowed := true, recurses := true, plainKeys := false, apart := false, narrowed := true }
def WheelNobodyUptoSaid : Prop := wheelNobodyUptoRow.holds Try.pinned (OpenSpec.upto wheelNobodySpec)

end Rows
end Go.Proofs.Ytlnidffddidfaaa
