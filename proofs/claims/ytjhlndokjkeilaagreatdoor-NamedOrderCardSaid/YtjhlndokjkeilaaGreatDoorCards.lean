/-
  DERIVED. GIVEN WITH THE SEED: THE CARDS: each row of YtjhlndokjkeilaaGreatDoorRows.lean that lists a variable, with what it lists TIED to the program's text (the seventh form; the later family's looks); each row that meets fmt, with fmt's text TOLD by the authors' own Lean function (tested against real Go, not proved from fmt's source: count such statements apart). THE CARD IS WHAT COUNTS. Prove the row's statement (the work); the ties are given (YtjhlndokjkeilaaGreatDoorTie.lean); close each card by the builder's one call (the guide's Derived/Test/ToyasCard.lean, 'card_holds'). Laid BY PROGRAM, IN A SANDBOX (cutbox-door.mjs). By AI agents, Wed Nov 11 2026. No macro, syntax, notation, axiom, sorry.
-/
import Derived.Test.YtjhlndokjkeilaaGreatDoorRows
import GoSem.ClaimSeven
namespace Go.Proofs.YtjhlndokjkeilaaGreatDoor
namespace Rows

/-- THE TIED CARD OF 'scrimshawlaw13.NamedForms'. -/
def namedFormsCard : Claim7 := { stood := { row := namedFormsRow, standIns := [], harness := (true, "3ee6f53e2ed926f031830c3f3928e29ed80f8259d8fdb71d4fc0e43313d459d8"), looks := false }, kinds := [], alts := [], laidByText := true, laidKinds := [.data, .data, .data], laidTests := true, laidLooks := .later }
def NamedFormsCardSaid : Prop := Claim7.holds Tryz.pinned (.plain (OpenSpec.ofChange namedFormsSpec)) namedFormsCard

/-- THE TIED CARD OF 'scrimshawlaw13.NamedAgain'. -/
def namedAgainCard : Claim7 := { stood := { row := namedAgainRow, standIns := [], harness := (true, "3ee6f53e2ed926f031830c3f3928e29ed80f8259d8fdb71d4fc0e43313d459d8"), looks := false }, kinds := [], alts := [], laidByText := true, laidKinds := [.data, .data, .data], laidTests := true, laidLooks := .later }
def NamedAgainCardSaid : Prop := Claim7.holds Tryz.pinned (.plain (OpenSpec.ofChange namedAgainSpec)) namedAgainCard

/-- THE TIED CARD OF 'scrimshawlaw13.NamedOrder'. -/
def namedOrderCard : Claim7 := { stood := { row := namedOrderRow, standIns := [], harness := (true, "3ee6f53e2ed926f031830c3f3928e29ed80f8259d8fdb71d4fc0e43313d459d8"), looks := false }, kinds := [], alts := [], laidByText := true, laidKinds := [.data, .data, .data], laidTests := true, laidLooks := .later }
def NamedOrderCardSaid : Prop := Claim7.holds Tryz.pinned (.plain (OpenSpec.ofChange namedOrderSpec)) namedOrderCard

/-- THE SECOND FORM's CARD OF 'scrimshawlaw13.NamedForms'. -/
def namedFormsUptoCard : Claim7 := { stood := { row := namedFormsUptoRow, standIns := [], harness := (true, "3ee6f53e2ed926f031830c3f3928e29ed80f8259d8fdb71d4fc0e43313d459d8"), looks := false }, kinds := [], alts := [], laidByText := true, laidKinds := [.data, .data, .data], laidTests := true, laidLooks := .later }
def NamedFormsUptoCardSaid : Prop := Claim7.holds Tryz.pinned (.plain (OpenSpec.upto namedFormsSpec)) namedFormsUptoCard

/-- THE SECOND FORM's CARD OF 'scrimshawlaw13.NamedAgain'. -/
def namedAgainUptoCard : Claim7 := { stood := { row := namedAgainUptoRow, standIns := [], harness := (true, "3ee6f53e2ed926f031830c3f3928e29ed80f8259d8fdb71d4fc0e43313d459d8"), looks := false }, kinds := [], alts := [], laidByText := true, laidKinds := [.data, .data, .data], laidTests := true, laidLooks := .later }
def NamedAgainUptoCardSaid : Prop := Claim7.holds Tryz.pinned (.plain (OpenSpec.upto namedAgainSpec)) namedAgainUptoCard

/-- THE SECOND FORM's CARD OF 'scrimshawlaw13.NamedOrder'. -/
def namedOrderUptoCard : Claim7 := { stood := { row := namedOrderUptoRow, standIns := [], harness := (true, "3ee6f53e2ed926f031830c3f3928e29ed80f8259d8fdb71d4fc0e43313d459d8"), looks := false }, kinds := [], alts := [], laidByText := true, laidKinds := [.data, .data, .data], laidTests := true, laidLooks := .later }
def NamedOrderUptoCardSaid : Prop := Claim7.holds Tryz.pinned (.plain (OpenSpec.upto namedOrderSpec)) namedOrderUptoCard
end Rows
end Go.Proofs.YtjhlndokjkeilaaGreatDoor
