/-
  DERIVED. GIVEN WITH THE SEED: THE CARDS: each row of YtlnmmakbgldflaaGreatDoorRows.lean that lists a variable, with what it lists TIED to the program's text (the seventh form; the later family's looks); each row that meets fmt, with fmt's text TOLD by the authors' own Lean function (tested against real Go, not proved from fmt's source: count such statements apart). THE CARD IS WHAT COUNTS. Prove the row's statement (the work); the ties are given (YtlnmmakbgldflaaGreatDoorTie.lean); close each card by the builder's one call (the guide's Derived/Test/ToyasCard.lean, 'card_holds'). Laid BY PROGRAM, IN A SANDBOX (cutbox-door.mjs). By AI agents, Wed Nov 11 2026. No macro, syntax, notation, axiom, sorry.
-/
import Derived.Test.YtlnmmakbgldflaaGreatDoorRows
import GoSem.ClaimSeven
namespace Go.Proofs.YtlnmmakbgldflaaGreatDoor
namespace Rows

/-- THE TIED CARD OF 'scrimshawlaw04.SourceReads'. -/
def sourceReadsCard : Claim7 := { stood := { row := sourceReadsRow, standIns := [], harness := (true, "d03bbe4056ab26c4f24c2bb45ac706f6143bed14b3ed0a4d6f7d24a6672a1d62"), looks := true }, kinds := [], alts := [], laidByText := true, laidKinds := [.data, .data, .data, .data, .sentinel, .sentinel, .pinned], laidTests := true, laidLooks := .later }
def SourceReadsCardSaid : Prop := Claim7.holds Tryz.pinned (.plain (OpenSpec.ofChange sourceReadsSpec)) sourceReadsCard

/-- THE TIED CARD OF 'scrimshawlaw04.SourceBack'. -/
def sourceBackCard : Claim7 := { stood := { row := sourceBackRow, standIns := [], harness := (true, "d03bbe4056ab26c4f24c2bb45ac706f6143bed14b3ed0a4d6f7d24a6672a1d62"), looks := true }, kinds := [], alts := [], laidByText := true, laidKinds := [.data, .data, .data, .data, .sentinel, .sentinel, .pinned], laidTests := true, laidLooks := .later }
def SourceBackCardSaid : Prop := Claim7.holds Tryz.pinned (.plain (OpenSpec.ofChange sourceBackSpec)) sourceBackCard

/-- THE TIED CARD OF 'scrimshawlaw04.SourceAgain'. -/
def sourceAgainCard : Claim7 := { stood := { row := sourceAgainRow, standIns := [], harness := (true, "d03bbe4056ab26c4f24c2bb45ac706f6143bed14b3ed0a4d6f7d24a6672a1d62"), looks := true }, kinds := [], alts := [], laidByText := true, laidKinds := [.data, .data, .data, .data, .sentinel, .sentinel, .pinned], laidTests := true, laidLooks := .later }
def SourceAgainCardSaid : Prop := Claim7.holds Tryz.pinned (.plain (OpenSpec.ofChange sourceAgainSpec)) sourceAgainCard

/-- THE TIED CARD OF 'scrimshawlaw04.SourceWrites'. -/
def sourceWritesCard : Claim7 := { stood := { row := sourceWritesRow, standIns := [], harness := (true, "d03bbe4056ab26c4f24c2bb45ac706f6143bed14b3ed0a4d6f7d24a6672a1d62"), looks := true }, kinds := [], alts := [], laidByText := true, laidKinds := [.data, .data, .data, .data, .sentinel, .sentinel, .pinned], laidTests := true, laidLooks := .later }
def SourceWritesCardSaid : Prop := Claim7.holds Tryz.pinned (.plain (OpenSpec.ofChange sourceWritesSpec)) sourceWritesCard

/-- THE TIED CARD OF 'scrimshawlaw04.SourceJoins'. -/
def sourceJoinsCard : Claim7 := { stood := { row := sourceJoinsRow, standIns := [], harness := (true, "d03bbe4056ab26c4f24c2bb45ac706f6143bed14b3ed0a4d6f7d24a6672a1d62"), looks := true }, kinds := [], alts := [], laidByText := true, laidKinds := [.data, .data, .data, .data, .sentinel, .sentinel, .pinned], laidTests := true, laidLooks := .later }
def SourceJoinsCardSaid : Prop := Claim7.holds Tryz.pinned (.plain (OpenSpec.ofChange sourceJoinsSpec)) sourceJoinsCard

/-- THE TIED CARD OF 'scrimshawlaw04.SourceQuotes'. -/
def sourceQuotesCard : Claim7 := { stood := { row := sourceQuotesRow, standIns := [], harness := (true, "d03bbe4056ab26c4f24c2bb45ac706f6143bed14b3ed0a4d6f7d24a6672a1d62"), looks := true }, kinds := [], alts := [], laidByText := true, laidKinds := [.data, .data, .data, .data, .sentinel, .sentinel, .pinned], laidTests := true, laidLooks := .later }
def SourceQuotesCardSaid : Prop := Claim7.holds Tryz.pinned (.plain (OpenSpec.ofChange sourceQuotesSpec)) sourceQuotesCard

/-- THE TIED CARD OF 'scrimshawlaw04.SourceDots'. -/
def sourceDotsCard : Claim7 := { stood := { row := sourceDotsRow, standIns := [], harness := (true, "d03bbe4056ab26c4f24c2bb45ac706f6143bed14b3ed0a4d6f7d24a6672a1d62"), looks := true }, kinds := [], alts := [], laidByText := true, laidKinds := [.data, .data, .data, .data, .sentinel, .sentinel, .pinned], laidTests := true, laidLooks := .later }
def SourceDotsCardSaid : Prop := Claim7.holds Tryz.pinned (.plain (OpenSpec.ofChange sourceDotsSpec)) sourceDotsCard

/-- THE SECOND FORM's CARD OF 'scrimshawlaw04.SourceReads'. -/
def sourceReadsUptoCard : Claim7 := { stood := { row := sourceReadsUptoRow, standIns := [], harness := (true, "d03bbe4056ab26c4f24c2bb45ac706f6143bed14b3ed0a4d6f7d24a6672a1d62"), looks := true }, kinds := [], alts := [], laidByText := true, laidKinds := [.data, .data, .data, .data, .sentinel, .sentinel, .pinned], laidTests := true, laidLooks := .later }
def SourceReadsUptoCardSaid : Prop := Claim7.holds Tryz.pinned (.plain (OpenSpec.upto sourceReadsSpec)) sourceReadsUptoCard

/-- THE SECOND FORM's CARD OF 'scrimshawlaw04.SourceBack'. -/
def sourceBackUptoCard : Claim7 := { stood := { row := sourceBackUptoRow, standIns := [], harness := (true, "d03bbe4056ab26c4f24c2bb45ac706f6143bed14b3ed0a4d6f7d24a6672a1d62"), looks := true }, kinds := [], alts := [], laidByText := true, laidKinds := [.data, .data, .data, .data, .sentinel, .sentinel, .pinned], laidTests := true, laidLooks := .later }
def SourceBackUptoCardSaid : Prop := Claim7.holds Tryz.pinned (.plain (OpenSpec.upto sourceBackSpec)) sourceBackUptoCard

/-- THE SECOND FORM's CARD OF 'scrimshawlaw04.SourceAgain'. -/
def sourceAgainUptoCard : Claim7 := { stood := { row := sourceAgainUptoRow, standIns := [], harness := (true, "d03bbe4056ab26c4f24c2bb45ac706f6143bed14b3ed0a4d6f7d24a6672a1d62"), looks := true }, kinds := [], alts := [], laidByText := true, laidKinds := [.data, .data, .data, .data, .sentinel, .sentinel, .pinned], laidTests := true, laidLooks := .later }
def SourceAgainUptoCardSaid : Prop := Claim7.holds Tryz.pinned (.plain (OpenSpec.upto sourceAgainSpec)) sourceAgainUptoCard

/-- THE SECOND FORM's CARD OF 'scrimshawlaw04.SourceWrites'. -/
def sourceWritesUptoCard : Claim7 := { stood := { row := sourceWritesUptoRow, standIns := [], harness := (true, "d03bbe4056ab26c4f24c2bb45ac706f6143bed14b3ed0a4d6f7d24a6672a1d62"), looks := true }, kinds := [], alts := [], laidByText := true, laidKinds := [.data, .data, .data, .data, .sentinel, .sentinel, .pinned], laidTests := true, laidLooks := .later }
def SourceWritesUptoCardSaid : Prop := Claim7.holds Tryz.pinned (.plain (OpenSpec.upto sourceWritesSpec)) sourceWritesUptoCard

/-- THE SECOND FORM's CARD OF 'scrimshawlaw04.SourceJoins'. -/
def sourceJoinsUptoCard : Claim7 := { stood := { row := sourceJoinsUptoRow, standIns := [], harness := (true, "d03bbe4056ab26c4f24c2bb45ac706f6143bed14b3ed0a4d6f7d24a6672a1d62"), looks := true }, kinds := [], alts := [], laidByText := true, laidKinds := [.data, .data, .data, .data, .sentinel, .sentinel, .pinned], laidTests := true, laidLooks := .later }
def SourceJoinsUptoCardSaid : Prop := Claim7.holds Tryz.pinned (.plain (OpenSpec.upto sourceJoinsSpec)) sourceJoinsUptoCard

/-- THE SECOND FORM's CARD OF 'scrimshawlaw04.SourceQuotes'. -/
def sourceQuotesUptoCard : Claim7 := { stood := { row := sourceQuotesUptoRow, standIns := [], harness := (true, "d03bbe4056ab26c4f24c2bb45ac706f6143bed14b3ed0a4d6f7d24a6672a1d62"), looks := true }, kinds := [], alts := [], laidByText := true, laidKinds := [.data, .data, .data, .data, .sentinel, .sentinel, .pinned], laidTests := true, laidLooks := .later }
def SourceQuotesUptoCardSaid : Prop := Claim7.holds Tryz.pinned (.plain (OpenSpec.upto sourceQuotesSpec)) sourceQuotesUptoCard

/-- THE SECOND FORM's CARD OF 'scrimshawlaw04.SourceDots'. -/
def sourceDotsUptoCard : Claim7 := { stood := { row := sourceDotsUptoRow, standIns := [], harness := (true, "d03bbe4056ab26c4f24c2bb45ac706f6143bed14b3ed0a4d6f7d24a6672a1d62"), looks := true }, kinds := [], alts := [], laidByText := true, laidKinds := [.data, .data, .data, .data, .sentinel, .sentinel, .pinned], laidTests := true, laidLooks := .later }
def SourceDotsUptoCardSaid : Prop := Claim7.holds Tryz.pinned (.plain (OpenSpec.upto sourceDotsSpec)) sourceDotsUptoCard
end Rows
end Go.Proofs.YtlnmmakbgldflaaGreatDoor
