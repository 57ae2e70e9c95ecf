/-
  DERIVED. GIVEN WITH THE SEED: THE CARDS: each row of YtdpnaneedjoboaaDoorRows.lean that lists a variable, with what it lists TIED to the program's text (the seventh form; the later family's looks); each row that meets fmt, with fmt's text TOLD by the authors' own Lean function (tested against real Go, not proved from fmt's source: count such statements apart). THE CARD IS WHAT COUNTS. Prove the row's statement (the work); the ties are given (YtdpnaneedjoboaaDoorTie.lean); close each card by the builder's one call (the guide's Derived/Test/ToyasCard.lean, 'card_holds'). Laid BY PROGRAM, IN A SANDBOX (cutbox-door.mjs). By AI agents, Wed Nov 11 2026. No macro, syntax, notation, axiom, sorry.
-/
import Derived.Test.YtdpnaneedjoboaaDoorRows
import GoSem.ClaimSeven
namespace Go.Proofs.YtdpnaneedjoboaaDoor
namespace Rows

/-- THE TIED CARD OF 'conciergelaw08.FilesNames'. -/
def filesNamesCard : Claim7 := { stood := { row := filesNamesRow, standIns := [], harness := (true, "04e6c9abd41f6eac05d76b7529bec7c96aa4ab69647eb1c6bc831ad8c2e3e438"), looks := true }, kinds := [], alts := [], laidByText := true, laidKinds := [.data, .data, .data, .data, .sentinel, .sentinel, .pinned], laidTests := true, laidLooks := .later }
def FilesNamesCardSaid : Prop := Claim7.holds Tryd.pinned (.plain (OpenSpec.ofChange filesNamesSpec)) filesNamesCard

/-- THE SECOND FORM's CARD OF 'conciergelaw08.FilesNames'. -/
def filesNamesUptoCard : Claim7 := { stood := { row := filesNamesUptoRow, standIns := [], harness := (true, "04e6c9abd41f6eac05d76b7529bec7c96aa4ab69647eb1c6bc831ad8c2e3e438"), looks := true }, kinds := [], alts := [], laidByText := true, laidKinds := [.data, .data, .data, .data, .sentinel, .sentinel, .pinned], laidTests := true, laidLooks := .later }
def FilesNamesUptoCardSaid : Prop := Claim7.holds Tryd.pinned (.plain (OpenSpec.upto filesNamesSpec)) filesNamesUptoCard
end Rows
end Go.Proofs.YtdpnaneedjoboaaDoor
