/-
  DERIVED. GIVEN WITH THE SEED: THE CARDS: each row of YtkfhgpegnnokgaaGreatDoorRows.lean that lists a variable, with what it lists TIED to the program's text (the seventh form; the later family's looks); each row that meets fmt, with fmt's text TOLD by the authors' own Lean function (tested against real Go, not proved from fmt's source: count such statements apart). THE CARD IS WHAT COUNTS. Prove the row's statement (the work); the ties are given (YtkfhgpegnnokgaaGreatDoorTie.lean); close each card by the builder's one call (the guide's Derived/Test/ToyasCard.lean, 'card_holds'). Laid BY PROGRAM, IN A SANDBOX (cutbox-door.mjs). By AI agents, Wed Nov 11 2026. No macro, syntax, notation, axiom, sorry.
-/
import Derived.Test.YtkfhgpegnnokgaaGreatDoorRows
import GoSem.ClaimSeven
namespace Go.Proofs.YtkfhgpegnnokgaaGreatDoor
namespace Rows

/-- THE TIED CARD OF 'conciergelaw11.SeglogKeeps'. -/
def seglogKeepsCard : Claim7 := { stood := { row := seglogKeepsRow, standIns := [], harness := (true, "d8bcc17691c115b904e618a379f251b76af20e6ad104cb97791671729f6a4b37"), looks := true }, kinds := [], alts := [], laidByText := true, laidKinds := [.data, .data, .data, .data, .sentinel, .sentinel, .pinned], laidTests := true, laidLooks := .later }
def SeglogKeepsCardSaid : Prop := Claim7.holds Tryz.pinned (.plain (OpenSpec.ofChange seglogKeepsSpec)) seglogKeepsCard

/-- THE TIED CARD OF 'conciergelaw11.SeglogAny'. -/
def seglogAnyCard : Claim7 := { stood := { row := seglogAnyRow, standIns := [], harness := (true, "d8bcc17691c115b904e618a379f251b76af20e6ad104cb97791671729f6a4b37"), looks := true }, kinds := [], alts := [], laidByText := true, laidKinds := [.data, .data, .data, .data, .sentinel, .sentinel, .pinned], laidTests := true, laidLooks := .later }
def SeglogAnyCardSaid : Prop := Claim7.holds Tryz.pinned (.plain (OpenSpec.ofChange seglogAnySpec)) seglogAnyCard

/-- THE TIED CARD OF 'conciergelaw11.SeglogRot'. -/
def seglogRotCard : Claim7 := { stood := { row := seglogRotRow, standIns := [], harness := (true, "d8bcc17691c115b904e618a379f251b76af20e6ad104cb97791671729f6a4b37"), looks := true }, kinds := [], alts := [], laidByText := true, laidKinds := [.data, .data, .data, .data, .sentinel, .sentinel, .pinned], laidTests := true, laidLooks := .later }
def SeglogRotCardSaid : Prop := Claim7.holds Tryz.pinned (.plain (OpenSpec.ofChange seglogRotSpec)) seglogRotCard

/-- THE TIED CARD OF 'conciergelaw11.SeglogRuns'. -/
def seglogRunsCard : Claim7 := { stood := { row := seglogRunsRow, standIns := [], harness := (true, "d8bcc17691c115b904e618a379f251b76af20e6ad104cb97791671729f6a4b37"), looks := true }, kinds := [], alts := [], laidByText := true, laidKinds := [.data, .data, .data, .data, .sentinel, .sentinel, .pinned], laidTests := true, laidLooks := .later }
def SeglogRunsCardSaid : Prop := Claim7.holds Tryz.pinned (.plain (OpenSpec.ofChange seglogRunsSpec)) seglogRunsCard

/-- THE SECOND FORM's CARD OF 'conciergelaw11.SeglogKeeps'. -/
def seglogKeepsUptoCard : Claim7 := { stood := { row := seglogKeepsUptoRow, standIns := [], harness := (true, "d8bcc17691c115b904e618a379f251b76af20e6ad104cb97791671729f6a4b37"), looks := true }, kinds := [], alts := [], laidByText := true, laidKinds := [.data, .data, .data, .data, .sentinel, .sentinel, .pinned], laidTests := true, laidLooks := .later }
def SeglogKeepsUptoCardSaid : Prop := Claim7.holds Tryz.pinned (.plain (OpenSpec.upto seglogKeepsSpec)) seglogKeepsUptoCard

/-- THE SECOND FORM's CARD OF 'conciergelaw11.SeglogAny'. -/
def seglogAnyUptoCard : Claim7 := { stood := { row := seglogAnyUptoRow, standIns := [], harness := (true, "d8bcc17691c115b904e618a379f251b76af20e6ad104cb97791671729f6a4b37"), looks := true }, kinds := [], alts := [], laidByText := true, laidKinds := [.data, .data, .data, .data, .sentinel, .sentinel, .pinned], laidTests := true, laidLooks := .later }
def SeglogAnyUptoCardSaid : Prop := Claim7.holds Tryz.pinned (.plain (OpenSpec.upto seglogAnySpec)) seglogAnyUptoCard

/-- THE SECOND FORM's CARD OF 'conciergelaw11.SeglogRot'. -/
def seglogRotUptoCard : Claim7 := { stood := { row := seglogRotUptoRow, standIns := [], harness := (true, "d8bcc17691c115b904e618a379f251b76af20e6ad104cb97791671729f6a4b37"), looks := true }, kinds := [], alts := [], laidByText := true, laidKinds := [.data, .data, .data, .data, .sentinel, .sentinel, .pinned], laidTests := true, laidLooks := .later }
def SeglogRotUptoCardSaid : Prop := Claim7.holds Tryz.pinned (.plain (OpenSpec.upto seglogRotSpec)) seglogRotUptoCard

/-- THE SECOND FORM's CARD OF 'conciergelaw11.SeglogRuns'. -/
def seglogRunsUptoCard : Claim7 := { stood := { row := seglogRunsUptoRow, standIns := [], harness := (true, "d8bcc17691c115b904e618a379f251b76af20e6ad104cb97791671729f6a4b37"), looks := true }, kinds := [], alts := [], laidByText := true, laidKinds := [.data, .data, .data, .data, .sentinel, .sentinel, .pinned], laidTests := true, laidLooks := .later }
def SeglogRunsUptoCardSaid : Prop := Claim7.holds Tryz.pinned (.plain (OpenSpec.upto seglogRunsSpec)) seglogRunsUptoCard
end Rows
end Go.Proofs.YtkfhgpegnnokgaaGreatDoor
