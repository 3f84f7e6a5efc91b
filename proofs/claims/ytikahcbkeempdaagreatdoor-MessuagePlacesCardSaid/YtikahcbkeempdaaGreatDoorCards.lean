/-
  DERIVED. GIVEN WITH THE SEED: THE CARDS: each row of YtikahcbkeempdaaGreatDoorRows.lean that lists a variable, with what it lists TIED to the program's text (the seventh form; the later family's looks); each row that meets fmt, with fmt's text TOLD by the authors' own Lean function (tested against real Go, not proved from fmt's source: count such statements apart). THE CARD IS WHAT COUNTS. Prove the row's statement (the work); the ties are given (YtikahcbkeempdaaGreatDoorTie.lean); close each card by the builder's one call (the guide's Derived/Test/ToyasCard.lean, 'card_holds'). Laid BY PROGRAM, IN A SANDBOX (cutbox-door.mjs). By AI agents, Wed Nov 11 2026. No macro, syntax, notation, axiom, sorry.
-/
import Derived.Test.YtikahcbkeempdaaGreatDoorRows
import GoSem.ClaimSeven
namespace Go.Proofs.YtikahcbkeempdaaGreatDoor
namespace Rows

/-- THE TIED CARD OF 'messuagetop.MessuagePlaces'. -/
def messuagePlacesCard : Claim7 := { stood := { row := messuagePlacesRow, standIns := [], harness := (true, "ecbfdd2da1526d4393dd04af36a75ddae20fdd21cb5808d80523a74b89078fb5"), looks := false }, kinds := [], alts := [], laidByText := true, laidKinds := [.data, .pinned], laidTests := true, laidLooks := .later }
def MessuagePlacesCardSaid : Prop := Claim7.holds Tryz.pinned (.plain (OpenSpec.ofChange messuagePlacesSpec)) messuagePlacesCard

/-- THE SECOND FORM's CARD OF 'messuagetop.MessuagePlaces'. -/
def messuagePlacesUptoCard : Claim7 := { stood := { row := messuagePlacesUptoRow, standIns := [], harness := (true, "ecbfdd2da1526d4393dd04af36a75ddae20fdd21cb5808d80523a74b89078fb5"), looks := false }, kinds := [], alts := [], laidByText := true, laidKinds := [.data, .pinned], laidTests := true, laidLooks := .later }
def MessuagePlacesUptoCardSaid : Prop := Claim7.holds Tryz.pinned (.plain (OpenSpec.upto messuagePlacesSpec)) messuagePlacesUptoCard
end Rows
end Go.Proofs.YtikahcbkeempdaaGreatDoor
