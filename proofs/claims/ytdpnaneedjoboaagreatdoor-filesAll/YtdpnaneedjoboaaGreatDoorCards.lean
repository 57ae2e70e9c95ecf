/-
  DERIVED. GIVEN WITH THE SEED: THE CARDS: each row of YtdpnaneedjoboaaGreatDoorRows.lean that lists a variable, with what it lists TIED to the program's text (the seventh form; the later family's looks); each row that meets fmt, with fmt's text TOLD by the authors' own Lean function (tested against real Go, not proved from fmt's source: count such statements apart). THE CARD IS WHAT COUNTS. Prove the row's statement (the work); the ties are given (YtdpnaneedjoboaaGreatDoorTie.lean); close each card by the builder's one call (the guide's Derived/Test/ToyasCard.lean, 'card_holds'). Laid BY PROGRAM, IN A SANDBOX (cutbox-door.mjs). By AI agents, Wed Nov 11 2026. No macro, syntax, notation, axiom, sorry.
-/
import Derived.Test.YtdpnaneedjoboaaGreatDoorRows
import GoSem.ClaimSeven
namespace Go.Proofs.YtdpnaneedjoboaaGreatDoor
namespace Rows

/-- THE TIED CARD OF 'conciergelaw08.FilesNobody'. -/
def filesNobodyCard : Claim7 := { stood := { row := filesNobodyRow, standIns := [], harness := (true, "fb33921a72ca3b8806eb5ca06e08f9ae3d5148397cde8be900fa9b62ad04d2d4"), looks := true }, kinds := [], alts := [], laidByText := true, laidKinds := [.data, .data, .data, .data, .sentinel, .sentinel, .pinned], laidTests := true, laidLooks := .later }
def FilesNobodyCardSaid : Prop := Claim7.holds Tryz.pinned (.plain (OpenSpec.ofChange filesNobodySpec)) filesNobodyCard

/-- THE TIED CARD OF 'conciergelaw08.FilesAll'. -/
def filesAllCard : Claim7 := { stood := { row := filesAllRow, standIns := [], harness := (true, "fb33921a72ca3b8806eb5ca06e08f9ae3d5148397cde8be900fa9b62ad04d2d4"), looks := true }, kinds := [], alts := [], laidByText := true, laidKinds := [.data, .data, .data, .data, .sentinel, .sentinel, .pinned], laidTests := true, laidLooks := .later }
def FilesAllCardSaid : Prop := Claim7.holds Tryz.pinned (.plain (OpenSpec.ofChange filesAllSpec)) filesAllCard

/-- THE SECOND FORM's CARD OF 'conciergelaw08.FilesNobody'. -/
def filesNobodyUptoCard : Claim7 := { stood := { row := filesNobodyUptoRow, standIns := [], harness := (true, "fb33921a72ca3b8806eb5ca06e08f9ae3d5148397cde8be900fa9b62ad04d2d4"), looks := true }, kinds := [], alts := [], laidByText := true, laidKinds := [.data, .data, .data, .data, .sentinel, .sentinel, .pinned], laidTests := true, laidLooks := .later }
def FilesNobodyUptoCardSaid : Prop := Claim7.holds Tryz.pinned (.plain (OpenSpec.upto filesNobodySpec)) filesNobodyUptoCard

/-- THE SECOND FORM's CARD OF 'conciergelaw08.FilesAll'. -/
def filesAllUptoCard : Claim7 := { stood := { row := filesAllUptoRow, standIns := [], harness := (true, "fb33921a72ca3b8806eb5ca06e08f9ae3d5148397cde8be900fa9b62ad04d2d4"), looks := true }, kinds := [], alts := [], laidByText := true, laidKinds := [.data, .data, .data, .data, .sentinel, .sentinel, .pinned], laidTests := true, laidLooks := .later }
def FilesAllUptoCardSaid : Prop := Claim7.holds Tryz.pinned (.plain (OpenSpec.upto filesAllSpec)) filesAllUptoCard
end Rows
end Go.Proofs.YtdpnaneedjoboaaGreatDoor
