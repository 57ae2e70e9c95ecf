/-
  DERIVED. GIVEN WITH THE SEED: THE CARDS: each row of YtjgcgepfidcihaaGreatDoorRows.lean that lists a variable, with what it lists TIED to the program's text (the seventh form; the later family's looks); each row that meets fmt, with fmt's text TOLD by the authors' own Lean function (tested against real Go, not proved from fmt's source: count such statements apart). THE CARD IS WHAT COUNTS. Prove the row's statement (the work); the ties are given (YtjgcgepfidcihaaGreatDoorTie.lean); close each card by the builder's one call (the guide's Derived/Test/ToyasCard.lean, 'card_holds'). Laid BY PROGRAM, IN A SANDBOX (cutbox-door.mjs). By AI agents, Wed Nov 11 2026. No macro, syntax, notation, axiom, sorry.
-/
import Derived.Test.YtjgcgepfidcihaaGreatDoorRows
import GoSem.ClaimSeven
namespace Go.Proofs.YtjgcgepfidcihaaGreatDoor
namespace Rows

/-- THE TIED CARD OF 'conciergelaw18.StoreRises'. -/
def storeRisesCard : Claim7 := { stood := { row := storeRisesRow, standIns := [], harness := (true, "10709ae1796592c90148b1ccdc949d333b0b196f600839a0433c2deffed3c85e"), looks := true }, kinds := [], alts := [], laidByText := true, laidKinds := [.data, .pinned], laidTests := true, laidLooks := .later }
def StoreRisesCardSaid : Prop := Claim7.holds Tryz.pinned (.plain (OpenSpec.ofChange storeRisesSpec)) storeRisesCard

/-- THE TIED CARD OF 'conciergelaw18.StoreTimes'. -/
def storeTimesCard : Claim7 := { stood := { row := storeTimesRow, standIns := [], harness := (true, "10709ae1796592c90148b1ccdc949d333b0b196f600839a0433c2deffed3c85e"), looks := true }, kinds := [], alts := [], laidByText := true, laidKinds := [.data, .pinned], laidTests := true, laidLooks := .later }
def StoreTimesCardSaid : Prop := Claim7.holds Tryz.pinned (.plain (OpenSpec.ofChange storeTimesSpec)) storeTimesCard

/-- THE TIED CARD OF 'conciergelaw18.StoreRuns'. -/
def storeRunsCard : Claim7 := { stood := { row := storeRunsRow, standIns := [], harness := (true, "10709ae1796592c90148b1ccdc949d333b0b196f600839a0433c2deffed3c85e"), looks := true }, kinds := [], alts := [], laidByText := true, laidKinds := [.data, .pinned], laidTests := true, laidLooks := .later }
def StoreRunsCardSaid : Prop := Claim7.holds Tryz.pinned (.plain (OpenSpec.ofChange storeRunsSpec)) storeRunsCard

/-- THE TIED CARD OF 'conciergelaw18.StoreLoads'. -/
def storeLoadsCard : Claim7 := { stood := { row := storeLoadsRow, standIns := [], harness := (true, "10709ae1796592c90148b1ccdc949d333b0b196f600839a0433c2deffed3c85e"), looks := true }, kinds := [], alts := [], laidByText := true, laidKinds := [.data, .pinned], laidTests := true, laidLooks := .later }
def StoreLoadsCardSaid : Prop := Claim7.holds Tryz.pinned (.plain (OpenSpec.ofChange storeLoadsSpec)) storeLoadsCard

/-- THE SECOND FORM's CARD OF 'conciergelaw18.StoreRises'. -/
def storeRisesUptoCard : Claim7 := { stood := { row := storeRisesUptoRow, standIns := [], harness := (true, "10709ae1796592c90148b1ccdc949d333b0b196f600839a0433c2deffed3c85e"), looks := true }, kinds := [], alts := [], laidByText := true, laidKinds := [.data, .pinned], laidTests := true, laidLooks := .later }
def StoreRisesUptoCardSaid : Prop := Claim7.holds Tryz.pinned (.plain (OpenSpec.upto storeRisesSpec)) storeRisesUptoCard

/-- THE SECOND FORM's CARD OF 'conciergelaw18.StoreTimes'. -/
def storeTimesUptoCard : Claim7 := { stood := { row := storeTimesUptoRow, standIns := [], harness := (true, "10709ae1796592c90148b1ccdc949d333b0b196f600839a0433c2deffed3c85e"), looks := true }, kinds := [], alts := [], laidByText := true, laidKinds := [.data, .pinned], laidTests := true, laidLooks := .later }
def StoreTimesUptoCardSaid : Prop := Claim7.holds Tryz.pinned (.plain (OpenSpec.upto storeTimesSpec)) storeTimesUptoCard

/-- THE SECOND FORM's CARD OF 'conciergelaw18.StoreRuns'. -/
def storeRunsUptoCard : Claim7 := { stood := { row := storeRunsUptoRow, standIns := [], harness := (true, "10709ae1796592c90148b1ccdc949d333b0b196f600839a0433c2deffed3c85e"), looks := true }, kinds := [], alts := [], laidByText := true, laidKinds := [.data, .pinned], laidTests := true, laidLooks := .later }
def StoreRunsUptoCardSaid : Prop := Claim7.holds Tryz.pinned (.plain (OpenSpec.upto storeRunsSpec)) storeRunsUptoCard

/-- THE SECOND FORM's CARD OF 'conciergelaw18.StoreLoads'. -/
def storeLoadsUptoCard : Claim7 := { stood := { row := storeLoadsUptoRow, standIns := [], harness := (true, "10709ae1796592c90148b1ccdc949d333b0b196f600839a0433c2deffed3c85e"), looks := true }, kinds := [], alts := [], laidByText := true, laidKinds := [.data, .pinned], laidTests := true, laidLooks := .later }
def StoreLoadsUptoCardSaid : Prop := Claim7.holds Tryz.pinned (.plain (OpenSpec.upto storeLoadsSpec)) storeLoadsUptoCard
end Rows
end Go.Proofs.YtjgcgepfidcihaaGreatDoor
