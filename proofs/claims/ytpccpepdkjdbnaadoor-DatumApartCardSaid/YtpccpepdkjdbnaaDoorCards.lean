/-
  DERIVED. GIVEN WITH THE SEED: THE CARDS: each row of YtpccpepdkjdbnaaDoorRows.lean that lists a variable, with what it lists TIED to the program's text (the seventh form; the later family's looks); each row that meets fmt, with fmt's text TOLD by the authors' own Lean function (tested against real Go, not proved from fmt's source: count such statements apart). THE CARD IS WHAT COUNTS. Prove the row's statement (the work); the ties are given (YtpccpepdkjdbnaaDoorTie.lean); close each card by the builder's one call (the guide's Derived/Test/ToyasCard.lean, 'card_holds'). Laid BY PROGRAM, IN A SANDBOX (cutbox-door.mjs). By AI agents, Wed Nov 11 2026. No macro, syntax, notation, axiom, sorry.
-/
import Derived.Test.YtpccpepdkjdbnaaDoorRows
import GoSem.ClaimSeven
namespace Go.Proofs.YtpccpepdkjdbnaaDoor
namespace Rows

/-- THE TIED CARD OF 'scrimshawlaw02.DatumChecks'. -/
def datumChecksCard : Claim7 := { stood := { row := datumChecksRow, standIns := [], harness := (true, "542230bb5f59b6cbf319908c027b004ebf255e48c69c0bdab5aa98f4202883c3"), looks := false }, kinds := [], alts := [], laidByText := true, laidKinds := [.data, .data, .data], laidTests := true, laidLooks := .later }
def DatumChecksCardSaid : Prop := Claim7.holds Tryd.pinned (.plain (OpenSpec.ofChange datumChecksSpec)) datumChecksCard

/-- THE TIED CARD OF 'scrimshawlaw02.DatumTexts'. -/
def datumTextsCard : Claim7 := { stood := { row := datumTextsRow, standIns := [], harness := (true, "542230bb5f59b6cbf319908c027b004ebf255e48c69c0bdab5aa98f4202883c3"), looks := false }, kinds := [], alts := [], laidByText := true, laidKinds := [.data, .data, .data], laidTests := true, laidLooks := .later }
def DatumTextsCardSaid : Prop := Claim7.holds Tryd.pinned (.plain (OpenSpec.ofChange datumTextsSpec)) datumTextsCard

/-- THE TIED CARD OF 'scrimshawlaw02.DatumParts'. -/
def datumPartsCard : Claim7 := { stood := { row := datumPartsRow, standIns := [], harness := (true, "542230bb5f59b6cbf319908c027b004ebf255e48c69c0bdab5aa98f4202883c3"), looks := false }, kinds := [], alts := [], laidByText := true, laidKinds := [.data, .data, .data], laidTests := true, laidLooks := .later }
def DatumPartsCardSaid : Prop := Claim7.holds Tryd.pinned (.plain (OpenSpec.ofChange datumPartsSpec)) datumPartsCard

/-- THE TIED CARD OF 'scrimshawlaw02.DatumEquals'. -/
def datumEqualsCard : Claim7 := { stood := { row := datumEqualsRow, standIns := [], harness := (true, "542230bb5f59b6cbf319908c027b004ebf255e48c69c0bdab5aa98f4202883c3"), looks := false }, kinds := [], alts := [], laidByText := true, laidKinds := [.data, .data, .data], laidTests := true, laidLooks := .later }
def DatumEqualsCardSaid : Prop := Claim7.holds Tryd.pinned (.plain (OpenSpec.ofChange datumEqualsSpec)) datumEqualsCard

/-- THE TIED CARD OF 'scrimshawlaw02.DatumApart'. -/
def datumApartCard : Claim7 := { stood := { row := datumApartRow, standIns := [], harness := (true, "542230bb5f59b6cbf319908c027b004ebf255e48c69c0bdab5aa98f4202883c3"), looks := false }, kinds := [], alts := [], laidByText := true, laidKinds := [.data, .data, .data], laidTests := true, laidLooks := .later }
def DatumApartCardSaid : Prop := Claim7.holds Tryd.pinned (.plain (OpenSpec.ofChange datumApartSpec)) datumApartCard

/-- THE TIED CARD OF 'scrimshawlaw02.DatumMakes'. -/
def datumMakesCard : Claim7 := { stood := { row := datumMakesRow, standIns := [], harness := (true, "542230bb5f59b6cbf319908c027b004ebf255e48c69c0bdab5aa98f4202883c3"), looks := false }, kinds := [], alts := [], laidByText := true, laidKinds := [.data, .data, .data], laidTests := true, laidLooks := .later }
def DatumMakesCardSaid : Prop := Claim7.holds Tryd.pinned (.plain (OpenSpec.ofChange datumMakesSpec)) datumMakesCard

/-- THE SECOND FORM's CARD OF 'scrimshawlaw02.DatumChecks'. -/
def datumChecksUptoCard : Claim7 := { stood := { row := datumChecksUptoRow, standIns := [], harness := (true, "542230bb5f59b6cbf319908c027b004ebf255e48c69c0bdab5aa98f4202883c3"), looks := false }, kinds := [], alts := [], laidByText := true, laidKinds := [.data, .data, .data], laidTests := true, laidLooks := .later }
def DatumChecksUptoCardSaid : Prop := Claim7.holds Tryd.pinned (.plain (OpenSpec.upto datumChecksSpec)) datumChecksUptoCard

/-- THE SECOND FORM's CARD OF 'scrimshawlaw02.DatumTexts'. -/
def datumTextsUptoCard : Claim7 := { stood := { row := datumTextsUptoRow, standIns := [], harness := (true, "542230bb5f59b6cbf319908c027b004ebf255e48c69c0bdab5aa98f4202883c3"), looks := false }, kinds := [], alts := [], laidByText := true, laidKinds := [.data, .data, .data], laidTests := true, laidLooks := .later }
def DatumTextsUptoCardSaid : Prop := Claim7.holds Tryd.pinned (.plain (OpenSpec.upto datumTextsSpec)) datumTextsUptoCard

/-- THE SECOND FORM's CARD OF 'scrimshawlaw02.DatumParts'. -/
def datumPartsUptoCard : Claim7 := { stood := { row := datumPartsUptoRow, standIns := [], harness := (true, "542230bb5f59b6cbf319908c027b004ebf255e48c69c0bdab5aa98f4202883c3"), looks := false }, kinds := [], alts := [], laidByText := true, laidKinds := [.data, .data, .data], laidTests := true, laidLooks := .later }
def DatumPartsUptoCardSaid : Prop := Claim7.holds Tryd.pinned (.plain (OpenSpec.upto datumPartsSpec)) datumPartsUptoCard

/-- THE SECOND FORM's CARD OF 'scrimshawlaw02.DatumEquals'. -/
def datumEqualsUptoCard : Claim7 := { stood := { row := datumEqualsUptoRow, standIns := [], harness := (true, "542230bb5f59b6cbf319908c027b004ebf255e48c69c0bdab5aa98f4202883c3"), looks := false }, kinds := [], alts := [], laidByText := true, laidKinds := [.data, .data, .data], laidTests := true, laidLooks := .later }
def DatumEqualsUptoCardSaid : Prop := Claim7.holds Tryd.pinned (.plain (OpenSpec.upto datumEqualsSpec)) datumEqualsUptoCard

/-- THE SECOND FORM's CARD OF 'scrimshawlaw02.DatumApart'. -/
def datumApartUptoCard : Claim7 := { stood := { row := datumApartUptoRow, standIns := [], harness := (true, "542230bb5f59b6cbf319908c027b004ebf255e48c69c0bdab5aa98f4202883c3"), looks := false }, kinds := [], alts := [], laidByText := true, laidKinds := [.data, .data, .data], laidTests := true, laidLooks := .later }
def DatumApartUptoCardSaid : Prop := Claim7.holds Tryd.pinned (.plain (OpenSpec.upto datumApartSpec)) datumApartUptoCard

/-- THE SECOND FORM's CARD OF 'scrimshawlaw02.DatumMakes'. -/
def datumMakesUptoCard : Claim7 := { stood := { row := datumMakesUptoRow, standIns := [], harness := (true, "542230bb5f59b6cbf319908c027b004ebf255e48c69c0bdab5aa98f4202883c3"), looks := false }, kinds := [], alts := [], laidByText := true, laidKinds := [.data, .data, .data], laidTests := true, laidLooks := .later }
def DatumMakesUptoCardSaid : Prop := Claim7.holds Tryd.pinned (.plain (OpenSpec.upto datumMakesSpec)) datumMakesUptoCard
end Rows
end Go.Proofs.YtpccpepdkjdbnaaDoor
