/-
  DERIVED. GIVEN WITH THE SEED: THE CARDS: each row of YtikahcbkeempdaaDoorRows.lean that lists a variable, with what it lists TIED to the program's text (the seventh form; the later family's looks); each row that meets fmt, with fmt's text TOLD by the authors' own Lean function (tested against real Go, not proved from fmt's source: count such statements apart). THE CARD IS WHAT COUNTS. Prove the row's statement (the work); the ties are given (YtikahcbkeempdaaDoorTie.lean); close each card by the builder's one call (the guide's Derived/Test/ToyasCard.lean, 'card_holds'). Laid BY PROGRAM, IN A SANDBOX (cutbox-door.mjs). By AI agents, Wed Nov 11 2026. No macro, syntax, notation, axiom, sorry.
-/
import Derived.Test.YtikahcbkeempdaaDoorRows
import GoSem.ClaimSeven
namespace Go.Proofs.YtikahcbkeempdaaDoor
namespace Rows

/-- THE TIED CARD OF 'messuagetop.MessuageKeeps'. -/
def messuageKeepsCard : Claim7 := { stood := { row := messuageKeepsRow, standIns := [], harness := (true, "7627cf1fc3e5bb3ebfba779fb83b663fecac558ac45b0597a0a3d537d6560352"), looks := false }, kinds := [], alts := [], laidByText := true, laidKinds := [.data, .data, .pinned], laidTests := true, laidLooks := .later }
def MessuageKeepsCardSaid : Prop := Claim7.holds Tryd.pinned (.plain (OpenSpec.ofChange messuageKeepsSpec)) messuageKeepsCard

/-- THE TIED CARD OF 'messuagetop.MessuageFrags'. -/
def messuageFragsCard : Claim7 := { stood := { row := messuageFragsRow, standIns := [], harness := (true, "7627cf1fc3e5bb3ebfba779fb83b663fecac558ac45b0597a0a3d537d6560352"), looks := false }, kinds := [], alts := [], laidByText := true, laidKinds := [.data, .pinned], laidTests := true, laidLooks := .later }
def MessuageFragsCardSaid : Prop := Claim7.holds Tryd.pinned (.plain (OpenSpec.ofChange messuageFragsSpec)) messuageFragsCard

/-- THE TIED CARD OF 'messuagetop.MessuageRuns'. -/
def messuageRunsCard : Claim7 := { stood := { row := messuageRunsRow, standIns := [], harness := (true, "7627cf1fc3e5bb3ebfba779fb83b663fecac558ac45b0597a0a3d537d6560352"), looks := false }, kinds := [], alts := [], laidByText := true, laidKinds := [.data, .pinned], laidTests := true, laidLooks := .later }
def MessuageRunsCardSaid : Prop := Claim7.holds Tryd.pinned (.plain (OpenSpec.ofChange messuageRunsSpec)) messuageRunsCard

/-- THE SECOND FORM's CARD OF 'messuagetop.MessuageKeeps'. -/
def messuageKeepsUptoCard : Claim7 := { stood := { row := messuageKeepsUptoRow, standIns := [], harness := (true, "7627cf1fc3e5bb3ebfba779fb83b663fecac558ac45b0597a0a3d537d6560352"), looks := false }, kinds := [], alts := [], laidByText := true, laidKinds := [.data, .data, .pinned], laidTests := true, laidLooks := .later }
def MessuageKeepsUptoCardSaid : Prop := Claim7.holds Tryd.pinned (.plain (OpenSpec.upto messuageKeepsSpec)) messuageKeepsUptoCard

/-- THE SECOND FORM's CARD OF 'messuagetop.MessuageFrags'. -/
def messuageFragsUptoCard : Claim7 := { stood := { row := messuageFragsUptoRow, standIns := [], harness := (true, "7627cf1fc3e5bb3ebfba779fb83b663fecac558ac45b0597a0a3d537d6560352"), looks := false }, kinds := [], alts := [], laidByText := true, laidKinds := [.data, .pinned], laidTests := true, laidLooks := .later }
def MessuageFragsUptoCardSaid : Prop := Claim7.holds Tryd.pinned (.plain (OpenSpec.upto messuageFragsSpec)) messuageFragsUptoCard

/-- THE SECOND FORM's CARD OF 'messuagetop.MessuageRuns'. -/
def messuageRunsUptoCard : Claim7 := { stood := { row := messuageRunsUptoRow, standIns := [], harness := (true, "7627cf1fc3e5bb3ebfba779fb83b663fecac558ac45b0597a0a3d537d6560352"), looks := false }, kinds := [], alts := [], laidByText := true, laidKinds := [.data, .pinned], laidTests := true, laidLooks := .later }
def MessuageRunsUptoCardSaid : Prop := Claim7.holds Tryd.pinned (.plain (OpenSpec.upto messuageRunsSpec)) messuageRunsUptoCard
end Rows
end Go.Proofs.YtikahcbkeempdaaDoor
