/-
  DERIVED. GIVEN WITH THE SEED: THE CARDS: each row of YtejbkjndipineaaGreatDoorRows.lean that lists a variable, with what it lists TIED to the program's text (the seventh form; the later family's looks); each row that meets fmt, with fmt's text TOLD by the authors' own Lean function (tested against real Go, not proved from fmt's source: count such statements apart). THE CARD IS WHAT COUNTS. Prove the row's statement (the work); the ties are given (YtejbkjndipineaaGreatDoorTie.lean); close each card by the builder's one call (the guide's Derived/Test/ToyasCard.lean, 'card_holds'). Laid BY PROGRAM, IN A SANDBOX (cutbox-door.mjs). By AI agents, Wed Nov 11 2026. No macro, syntax, notation, axiom, sorry.
-/
import Derived.Test.YtejbkjndipineaaGreatDoorRows
import GoSem.ClaimSeven
namespace Go.Proofs.YtejbkjndipineaaGreatDoor
namespace Rows

/-- THE TIED CARD OF 'porticolaw10.TravelArrives'. -/
def travelArrivesCard : Claim7 := { stood := { row := travelArrivesRow, standIns := [], harness := (true, "6c48f899711b5c2989737b562bdb0d25ad5ef5b77165edca1ce0f7440d213603"), looks := false }, kinds := [], alts := [], laidByText := true, laidKinds := [.data, .pinned], laidTests := true, laidLooks := .later }
def TravelArrivesCardSaid : Prop := Claim7.holds Tryz.pinned (.plain (OpenSpec.ofChange travelArrivesSpec)) travelArrivesCard

/-- THE SECOND FORM's CARD OF 'porticolaw10.TravelArrives'. -/
def travelArrivesUptoCard : Claim7 := { stood := { row := travelArrivesUptoRow, standIns := [], harness := (true, "6c48f899711b5c2989737b562bdb0d25ad5ef5b77165edca1ce0f7440d213603"), looks := false }, kinds := [], alts := [], laidByText := true, laidKinds := [.data, .pinned], laidTests := true, laidLooks := .later }
def TravelArrivesUptoCardSaid : Prop := Claim7.holds Tryz.pinned (.plain (OpenSpec.upto travelArrivesSpec)) travelArrivesUptoCard
end Rows
end Go.Proofs.YtejbkjndipineaaGreatDoor
