/-
  DERIVED. GIVEN WITH THE SEED: THE CARDS: each row of YtlnmmakbgldflaaDoorRows.lean that lists a variable, with what it lists TIED to the program's text (the seventh form; the later family's looks); each row that meets fmt, with fmt's text TOLD by the authors' own Lean function (tested against real Go, not proved from fmt's source: count such statements apart). THE CARD IS WHAT COUNTS. Prove the row's statement (the work); the ties are given (YtlnmmakbgldflaaDoorTie.lean); close each card by the builder's one call (the guide's Derived/Test/ToyasCard.lean, 'card_holds'). Laid BY PROGRAM, IN A SANDBOX (cutbox-door.mjs). By AI agents, Wed Nov 11 2026. No macro, syntax, notation, axiom, sorry.
-/
import Derived.Test.YtlnmmakbgldflaaDoorRows
import GoSem.ClaimSeven
namespace Go.Proofs.YtlnmmakbgldflaaDoor
namespace Rows

/-- THE TIED CARD OF 'scrimshawlaw03.SignReads'. -/
def signReadsCard : Claim7 := { stood := { row := signReadsRow, standIns := [], harness := (true, "5d0526d46e2f32bba61a05173320fbaef13eafd92649cb0984e4bce769343e1d"), looks := true }, kinds := [], alts := [], laidByText := true, laidKinds := [.data, .data, .data, .data, .sentinel, .sentinel, .pinned], laidTests := true, laidLooks := .later }
def SignReadsCardSaid : Prop := Claim7.holds Tryd.pinned (.plain (OpenSpec.ofChange signReadsSpec)) signReadsCard

/-- THE TIED CARD OF 'scrimshawlaw03.SignApart'. -/
def signApartCard : Claim7 := { stood := { row := signApartRow, standIns := [], harness := (true, "5d0526d46e2f32bba61a05173320fbaef13eafd92649cb0984e4bce769343e1d"), looks := true }, kinds := [], alts := [], laidByText := true, laidKinds := [.data, .data, .data, .data, .sentinel, .sentinel, .pinned], laidTests := true, laidLooks := .later }
def SignApartCardSaid : Prop := Claim7.holds Tryd.pinned (.plain (OpenSpec.ofChange signApartSpec)) signApartCard

/-- THE TIED CARD OF 'scrimshawlaw03.SignGaps'. -/
def signGapsCard : Claim7 := { stood := { row := signGapsRow, standIns := [], harness := (true, "5d0526d46e2f32bba61a05173320fbaef13eafd92649cb0984e4bce769343e1d"), looks := true }, kinds := [], alts := [], laidByText := true, laidKinds := [.data, .data, .data, .data, .sentinel, .sentinel, .pinned], laidTests := true, laidLooks := .later }
def SignGapsCardSaid : Prop := Claim7.holds Tryd.pinned (.plain (OpenSpec.ofChange signGapsSpec)) signGapsCard

/-- THE TIED CARD OF 'scrimshawlaw03.SignJoins'. -/
def signJoinsCard : Claim7 := { stood := { row := signJoinsRow, standIns := [], harness := (true, "5d0526d46e2f32bba61a05173320fbaef13eafd92649cb0984e4bce769343e1d"), looks := true }, kinds := [], alts := [], laidByText := true, laidKinds := [.data, .data, .data, .data, .sentinel, .sentinel, .pinned], laidTests := true, laidLooks := .later }
def SignJoinsCardSaid : Prop := Claim7.holds Tryd.pinned (.plain (OpenSpec.ofChange signJoinsSpec)) signJoinsCard

/-- THE TIED CARD OF 'scrimshawlaw03.SignStrings'. -/
def signStringsCard : Claim7 := { stood := { row := signStringsRow, standIns := [], harness := (true, "5d0526d46e2f32bba61a05173320fbaef13eafd92649cb0984e4bce769343e1d"), looks := true }, kinds := [], alts := [], laidByText := true, laidKinds := [.data, .data, .data, .data, .sentinel, .sentinel, .pinned], laidTests := true, laidLooks := .later }
def SignStringsCardSaid : Prop := Claim7.holds Tryd.pinned (.plain (OpenSpec.ofChange signStringsSpec)) signStringsCard

/-- THE TIED CARD OF 'scrimshawlaw03.SignPlain'. -/
def signPlainCard : Claim7 := { stood := { row := signPlainRow, standIns := [], harness := (true, "5d0526d46e2f32bba61a05173320fbaef13eafd92649cb0984e4bce769343e1d"), looks := true }, kinds := [], alts := [], laidByText := true, laidKinds := [.data, .data, .data, .data, .sentinel, .sentinel, .pinned], laidTests := true, laidLooks := .later }
def SignPlainCardSaid : Prop := Claim7.holds Tryd.pinned (.plain (OpenSpec.ofChange signPlainSpec)) signPlainCard

/-- THE SECOND FORM's CARD OF 'scrimshawlaw03.SignReads'. -/
def signReadsUptoCard : Claim7 := { stood := { row := signReadsUptoRow, standIns := [], harness := (true, "5d0526d46e2f32bba61a05173320fbaef13eafd92649cb0984e4bce769343e1d"), looks := true }, kinds := [], alts := [], laidByText := true, laidKinds := [.data, .data, .data, .data, .sentinel, .sentinel, .pinned], laidTests := true, laidLooks := .later }
def SignReadsUptoCardSaid : Prop := Claim7.holds Tryd.pinned (.plain (OpenSpec.upto signReadsSpec)) signReadsUptoCard

/-- THE SECOND FORM's CARD OF 'scrimshawlaw03.SignApart'. -/
def signApartUptoCard : Claim7 := { stood := { row := signApartUptoRow, standIns := [], harness := (true, "5d0526d46e2f32bba61a05173320fbaef13eafd92649cb0984e4bce769343e1d"), looks := true }, kinds := [], alts := [], laidByText := true, laidKinds := [.data, .data, .data, .data, .sentinel, .sentinel, .pinned], laidTests := true, laidLooks := .later }
def SignApartUptoCardSaid : Prop := Claim7.holds Tryd.pinned (.plain (OpenSpec.upto signApartSpec)) signApartUptoCard

/-- THE SECOND FORM's CARD OF 'scrimshawlaw03.SignGaps'. -/
def signGapsUptoCard : Claim7 := { stood := { row := signGapsUptoRow, standIns := [], harness := (true, "5d0526d46e2f32bba61a05173320fbaef13eafd92649cb0984e4bce769343e1d"), looks := true }, kinds := [], alts := [], laidByText := true, laidKinds := [.data, .data, .data, .data, .sentinel, .sentinel, .pinned], laidTests := true, laidLooks := .later }
def SignGapsUptoCardSaid : Prop := Claim7.holds Tryd.pinned (.plain (OpenSpec.upto signGapsSpec)) signGapsUptoCard

/-- THE SECOND FORM's CARD OF 'scrimshawlaw03.SignJoins'. -/
def signJoinsUptoCard : Claim7 := { stood := { row := signJoinsUptoRow, standIns := [], harness := (true, "5d0526d46e2f32bba61a05173320fbaef13eafd92649cb0984e4bce769343e1d"), looks := true }, kinds := [], alts := [], laidByText := true, laidKinds := [.data, .data, .data, .data, .sentinel, .sentinel, .pinned], laidTests := true, laidLooks := .later }
def SignJoinsUptoCardSaid : Prop := Claim7.holds Tryd.pinned (.plain (OpenSpec.upto signJoinsSpec)) signJoinsUptoCard

/-- THE SECOND FORM's CARD OF 'scrimshawlaw03.SignStrings'. -/
def signStringsUptoCard : Claim7 := { stood := { row := signStringsUptoRow, standIns := [], harness := (true, "5d0526d46e2f32bba61a05173320fbaef13eafd92649cb0984e4bce769343e1d"), looks := true }, kinds := [], alts := [], laidByText := true, laidKinds := [.data, .data, .data, .data, .sentinel, .sentinel, .pinned], laidTests := true, laidLooks := .later }
def SignStringsUptoCardSaid : Prop := Claim7.holds Tryd.pinned (.plain (OpenSpec.upto signStringsSpec)) signStringsUptoCard

/-- THE SECOND FORM's CARD OF 'scrimshawlaw03.SignPlain'. -/
def signPlainUptoCard : Claim7 := { stood := { row := signPlainUptoRow, standIns := [], harness := (true, "5d0526d46e2f32bba61a05173320fbaef13eafd92649cb0984e4bce769343e1d"), looks := true }, kinds := [], alts := [], laidByText := true, laidKinds := [.data, .data, .data, .data, .sentinel, .sentinel, .pinned], laidTests := true, laidLooks := .later }
def SignPlainUptoCardSaid : Prop := Claim7.holds Tryd.pinned (.plain (OpenSpec.upto signPlainSpec)) signPlainUptoCard
end Rows
end Go.Proofs.YtlnmmakbgldflaaDoor
