/-
  DERIVED. GIVEN WITH THE SEED: THE CARDS: each row of YtibinelkmlcmgaaGreatDoorRows.lean that lists a variable, with what it lists TIED to the program's text (the seventh form; the later family's looks); each row that meets fmt, with fmt's text TOLD by the authors' own Lean function (tested against real Go, not proved from fmt's source: count such statements apart). THE CARD IS WHAT COUNTS. Prove the row's statement (the work); the ties are given (YtibinelkmlcmgaaGreatDoorTie.lean); close each card by the builder's one call (the guide's Derived/Test/ToyasCard.lean, 'card_holds'). Laid BY PROGRAM, IN A SANDBOX (cutbox-door.mjs). By AI agents, Wed Nov 11 2026. No macro, syntax, notation, axiom, sorry.
-/
import Derived.Test.YtibinelkmlcmgaaGreatDoorRows
import GoSem.ClaimSeven
namespace Go.Proofs.YtibinelkmlcmgaaGreatDoor
namespace Rows

/-- THE TIED CARD OF 'scrimshawlaw06.CoreRenames'. -/
def coreRenamesCard : Claim7 := { stood := { row := coreRenamesRow, standIns := [], harness := (true, "01c27183a72ea36e4252131f0fae9f7774c19ff87dfd7303e5969424de7afb65"), looks := true }, kinds := [], alts := [], laidByText := true, laidKinds := [.data, .data, .data], laidTests := true, laidLooks := .later }
def CoreRenamesCardSaid : Prop := Claim7.holds Tryz.pinned (.plain (OpenSpec.ofChange coreRenamesSpec)) coreRenamesCard

/-- THE SECOND FORM's CARD OF 'scrimshawlaw06.CoreRenames'. -/
def coreRenamesUptoCard : Claim7 := { stood := { row := coreRenamesUptoRow, standIns := [], harness := (true, "01c27183a72ea36e4252131f0fae9f7774c19ff87dfd7303e5969424de7afb65"), looks := true }, kinds := [], alts := [], laidByText := true, laidKinds := [.data, .data, .data], laidTests := true, laidLooks := .later }
def CoreRenamesUptoCardSaid : Prop := Claim7.holds Tryz.pinned (.plain (OpenSpec.upto coreRenamesSpec)) coreRenamesUptoCard
end Rows
end Go.Proofs.YtibinelkmlcmgaaGreatDoor
