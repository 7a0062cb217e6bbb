/-
  DERIVED. GIVEN WITH THE SEED: THE CARDS: each row of YtibinelkmlcmgaaDoorRows.lean that lists a variable, with what it lists TIED to the program's text (the seventh form; the later family's looks); each row that meets fmt, with fmt's text TOLD by the authors' own Lean function (tested against real Go, not proved from fmt's source: count such statements apart). THE CARD IS WHAT COUNTS. Prove the row's statement (the work); the ties are given (YtibinelkmlcmgaaDoorTie.lean); close each card by the builder's one call (the guide's Derived/Test/ToyasCard.lean, 'card_holds'). Laid BY PROGRAM, IN A SANDBOX (cutbox-door.mjs). By AI agents, Wed Nov 11 2026. No macro, syntax, notation, axiom, sorry.
-/
import Derived.Test.YtibinelkmlcmgaaDoorRows
import GoSem.ClaimSeven
namespace Go.Proofs.YtibinelkmlcmgaaDoor
namespace Rows

/-- THE TIED CARD OF 'scrimshawlaw06.CoreUnique'. -/
def coreUniqueCard : Claim7 := { stood := { row := coreUniqueRow, standIns := [], harness := (true, "c75284060eeba81a27a16f46327643985f2e3cf1d017154c04e9acf82d6bde71"), looks := true }, kinds := [], alts := [], laidByText := true, laidKinds := [.data, .data, .data], laidTests := true, laidLooks := .later }
def CoreUniqueCardSaid : Prop := Claim7.holds Tryd.pinned (.plain (OpenSpec.ofChange coreUniqueSpec)) coreUniqueCard

/-- THE TIED CARD OF 'scrimshawlaw06.CoreBack'. -/
def coreBackCard : Claim7 := { stood := { row := coreBackRow, standIns := [], harness := (true, "c75284060eeba81a27a16f46327643985f2e3cf1d017154c04e9acf82d6bde71"), looks := true }, kinds := [], alts := [], laidByText := true, laidKinds := [.data, .data, .data], laidTests := true, laidLooks := .later }
def CoreBackCardSaid : Prop := Claim7.holds Tryd.pinned (.plain (OpenSpec.ofChange coreBackSpec)) coreBackCard

/-- THE SECOND FORM's CARD OF 'scrimshawlaw06.CoreUnique'. -/
def coreUniqueUptoCard : Claim7 := { stood := { row := coreUniqueUptoRow, standIns := [], harness := (true, "c75284060eeba81a27a16f46327643985f2e3cf1d017154c04e9acf82d6bde71"), looks := true }, kinds := [], alts := [], laidByText := true, laidKinds := [.data, .data, .data], laidTests := true, laidLooks := .later }
def CoreUniqueUptoCardSaid : Prop := Claim7.holds Tryd.pinned (.plain (OpenSpec.upto coreUniqueSpec)) coreUniqueUptoCard

/-- THE SECOND FORM's CARD OF 'scrimshawlaw06.CoreBack'. -/
def coreBackUptoCard : Claim7 := { stood := { row := coreBackUptoRow, standIns := [], harness := (true, "c75284060eeba81a27a16f46327643985f2e3cf1d017154c04e9acf82d6bde71"), looks := true }, kinds := [], alts := [], laidByText := true, laidKinds := [.data, .data, .data], laidTests := true, laidLooks := .later }
def CoreBackUptoCardSaid : Prop := Claim7.holds Tryd.pinned (.plain (OpenSpec.upto coreBackSpec)) coreBackUptoCard
end Rows
end Go.Proofs.YtibinelkmlcmgaaDoor
