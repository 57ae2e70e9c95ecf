/-
  DERIVED. GIVEN WITH THE SEED: THE CARDS: each row of YtelgcaacaolgfaaGreatDoorRows.lean that lists a variable, with what it lists TIED to the program's text (the seventh form; the later family's looks); each row that meets fmt, with fmt's text TOLD by the authors' own Lean function (tested against real Go, not proved from fmt's source: count such statements apart). THE CARD IS WHAT COUNTS. Prove the row's statement (the work); the ties are given (YtelgcaacaolgfaaGreatDoorTie.lean); close each card by the builder's one call (the guide's Derived/Test/ToyasCard.lean, 'card_holds'). Laid BY PROGRAM, IN A SANDBOX (cutbox-door.mjs). By AI agents, Wed Nov 11 2026. No macro, syntax, notation, axiom, sorry.
-/
import Derived.Test.YtelgcaacaolgfaaGreatDoorRows
import GoSem.ClaimSeven
namespace Go.Proofs.YtelgcaacaolgfaaGreatDoor
namespace Rows

/-- THE TIED CARD OF 'conciergelaw21.LeaseSteps'. -/
def leaseStepsCard : Claim7 := { stood := { row := leaseStepsRow, standIns := [], harness := (true, "06c8daee1e9668fc94bbad3bd0dbd1c42dbdbe50cde404deb8c9e1965119bc86"), looks := true }, kinds := [], alts := [], laidByText := true, laidKinds := [.data, .pinned], laidTests := true, laidLooks := .later }
def LeaseStepsCardSaid : Prop := Claim7.holds Tryz.pinned (.plain (OpenSpec.ofChange leaseStepsSpec)) leaseStepsCard

/-- THE TIED CARD OF 'conciergelaw21.LeaseFences'. -/
def leaseFencesCard : Claim7 := { stood := { row := leaseFencesRow, standIns := [], harness := (true, "06c8daee1e9668fc94bbad3bd0dbd1c42dbdbe50cde404deb8c9e1965119bc86"), looks := true }, kinds := [], alts := [], laidByText := true, laidKinds := [.data, .pinned], laidTests := true, laidLooks := .later }
def LeaseFencesCardSaid : Prop := Claim7.holds Tryz.pinned (.plain (OpenSpec.ofChange leaseFencesSpec)) leaseFencesCard

/-- THE TIED CARD OF 'conciergelaw21.LeaseFits'. -/
def leaseFitsCard : Claim7 := { stood := { row := leaseFitsRow, standIns := [], harness := (true, "06c8daee1e9668fc94bbad3bd0dbd1c42dbdbe50cde404deb8c9e1965119bc86"), looks := true }, kinds := [], alts := [], laidByText := true, laidKinds := [.data, .pinned], laidTests := true, laidLooks := .later }
def LeaseFitsCardSaid : Prop := Claim7.holds Tryz.pinned (.plain (OpenSpec.ofChange leaseFitsSpec)) leaseFitsCard

/-- THE SECOND FORM's CARD OF 'conciergelaw21.LeaseSteps'. -/
def leaseStepsUptoCard : Claim7 := { stood := { row := leaseStepsUptoRow, standIns := [], harness := (true, "06c8daee1e9668fc94bbad3bd0dbd1c42dbdbe50cde404deb8c9e1965119bc86"), looks := true }, kinds := [], alts := [], laidByText := true, laidKinds := [.data, .pinned], laidTests := true, laidLooks := .later }
def LeaseStepsUptoCardSaid : Prop := Claim7.holds Tryz.pinned (.plain (OpenSpec.upto leaseStepsSpec)) leaseStepsUptoCard

/-- THE SECOND FORM's CARD OF 'conciergelaw21.LeaseFences'. -/
def leaseFencesUptoCard : Claim7 := { stood := { row := leaseFencesUptoRow, standIns := [], harness := (true, "06c8daee1e9668fc94bbad3bd0dbd1c42dbdbe50cde404deb8c9e1965119bc86"), looks := true }, kinds := [], alts := [], laidByText := true, laidKinds := [.data, .pinned], laidTests := true, laidLooks := .later }
def LeaseFencesUptoCardSaid : Prop := Claim7.holds Tryz.pinned (.plain (OpenSpec.upto leaseFencesSpec)) leaseFencesUptoCard

/-- THE SECOND FORM's CARD OF 'conciergelaw21.LeaseFits'. -/
def leaseFitsUptoCard : Claim7 := { stood := { row := leaseFitsUptoRow, standIns := [], harness := (true, "06c8daee1e9668fc94bbad3bd0dbd1c42dbdbe50cde404deb8c9e1965119bc86"), looks := true }, kinds := [], alts := [], laidByText := true, laidKinds := [.data, .pinned], laidTests := true, laidLooks := .later }
def LeaseFitsUptoCardSaid : Prop := Claim7.holds Tryz.pinned (.plain (OpenSpec.upto leaseFitsSpec)) leaseFitsUptoCard
end Rows
end Go.Proofs.YtelgcaacaolgfaaGreatDoor
