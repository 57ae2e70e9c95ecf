/-
  DERIVED. GIVEN WITH THE SEED: THE CARDS: each row of YtelgcaacaolgfaaDoorRows.lean that lists a variable, with what it lists TIED to the program's text (the seventh form; the later family's looks); each row that meets fmt, with fmt's text TOLD by the authors' own Lean function (tested against real Go, not proved from fmt's source: count such statements apart). THE CARD IS WHAT COUNTS. Prove the row's statement (the work); the ties are given (YtelgcaacaolgfaaDoorTie.lean); close each card by the builder's one call (the guide's Derived/Test/ToyasCard.lean, 'card_holds'). Laid BY PROGRAM, IN A SANDBOX (cutbox-door.mjs). By AI agents, Wed Nov 11 2026. No macro, syntax, notation, axiom, sorry.
-/
import Derived.Test.YtelgcaacaolgfaaDoorRows
import GoSem.ClaimSeven
namespace Go.Proofs.YtelgcaacaolgfaaDoor
namespace Rows

/-- THE TIED CARD OF 'conciergelaw21.LeaseVerdicts'. -/
def leaseVerdictsCard : Claim7 := { stood := { row := leaseVerdictsRow, standIns := [], harness := (true, "19ae5595a3bbab6561cc3c0e9d744e5eb0d7226d257d0b357f165e0d8a20b9e5"), looks := false }, kinds := [], alts := [], laidByText := true, laidKinds := [.data, .pinned], laidTests := true, laidLooks := .later }
def LeaseVerdictsCardSaid : Prop := Claim7.holds Tryd.pinned (.plain (OpenSpec.ofChange leaseVerdictsSpec)) leaseVerdictsCard

/-- THE SECOND FORM's CARD OF 'conciergelaw21.LeaseVerdicts'. -/
def leaseVerdictsUptoCard : Claim7 := { stood := { row := leaseVerdictsUptoRow, standIns := [], harness := (true, "19ae5595a3bbab6561cc3c0e9d744e5eb0d7226d257d0b357f165e0d8a20b9e5"), looks := false }, kinds := [], alts := [], laidByText := true, laidKinds := [.data, .pinned], laidTests := true, laidLooks := .later }
def LeaseVerdictsUptoCardSaid : Prop := Claim7.holds Tryd.pinned (.plain (OpenSpec.upto leaseVerdictsSpec)) leaseVerdictsUptoCard
end Rows
end Go.Proofs.YtelgcaacaolgfaaDoor
