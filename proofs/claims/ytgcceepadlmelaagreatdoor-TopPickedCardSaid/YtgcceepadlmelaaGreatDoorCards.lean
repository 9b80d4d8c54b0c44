/-
  DERIVED. GIVEN WITH THE SEED: THE CARDS: each row of YtgcceepadlmelaaGreatDoorRows.lean that lists a variable, with what it lists TIED to the program's text (the seventh form; the later family's looks); each row that meets fmt, with fmt's text TOLD by the authors' own Lean function (tested against real Go, not proved from fmt's source: count such statements apart). THE CARD IS WHAT COUNTS. Prove the row's statement (the work); the ties are given (YtgcceepadlmelaaGreatDoorTie.lean); close each card by the builder's one call (the guide's Derived/Test/ToyasCard.lean, 'card_holds'). Laid BY PROGRAM, IN A SANDBOX (cutbox-door.mjs). By AI agents, Wed Nov 11 2026. No macro, syntax, notation, axiom, sorry.
-/
import Derived.Test.YtgcceepadlmelaaGreatDoorRows
import GoSem.ClaimSeven
namespace Go.Proofs.YtgcceepadlmelaaGreatDoor
namespace Rows

/-- THE TIED CARD OF 'cordwoodtop.TopReordered'. -/
def topReorderedCard : Claim7 := { stood := { row := topReorderedRow, standIns := [], harness := (true, "68bddfb355acb8850a6b30c80799ebcfe1497ccfd5cce6ae1388550d07d6dc92"), looks := false }, kinds := [], alts := [], laidByText := true, laidKinds := [.data, .pinned], laidTests := true, laidLooks := .later }
def TopReorderedCardSaid : Prop := Claim7.holds Tryz.pinned (.plain (OpenSpec.ofChange topReorderedSpec)) topReorderedCard

/-- THE TIED CARD OF 'cordwoodtop.TopPicked'. -/
def topPickedCard : Claim7 := { stood := { row := topPickedRow, standIns := [], harness := (true, "68bddfb355acb8850a6b30c80799ebcfe1497ccfd5cce6ae1388550d07d6dc92"), looks := false }, kinds := [], alts := [], laidByText := true, laidKinds := [.data, .pinned], laidTests := true, laidLooks := .later }
def TopPickedCardSaid : Prop := Claim7.holds Tryz.pinned (.plain (OpenSpec.ofChange topPickedSpec)) topPickedCard

/-- THE SECOND FORM's CARD OF 'cordwoodtop.TopReordered'. -/
def topReorderedUptoCard : Claim7 := { stood := { row := topReorderedUptoRow, standIns := [], harness := (true, "68bddfb355acb8850a6b30c80799ebcfe1497ccfd5cce6ae1388550d07d6dc92"), looks := false }, kinds := [], alts := [], laidByText := true, laidKinds := [.data, .pinned], laidTests := true, laidLooks := .later }
def TopReorderedUptoCardSaid : Prop := Claim7.holds Tryz.pinned (.plain (OpenSpec.upto topReorderedSpec)) topReorderedUptoCard

/-- THE SECOND FORM's CARD OF 'cordwoodtop.TopPicked'. -/
def topPickedUptoCard : Claim7 := { stood := { row := topPickedUptoRow, standIns := [], harness := (true, "68bddfb355acb8850a6b30c80799ebcfe1497ccfd5cce6ae1388550d07d6dc92"), looks := false }, kinds := [], alts := [], laidByText := true, laidKinds := [.data, .pinned], laidTests := true, laidLooks := .later }
def TopPickedUptoCardSaid : Prop := Claim7.holds Tryz.pinned (.plain (OpenSpec.upto topPickedSpec)) topPickedUptoCard
end Rows
end Go.Proofs.YtgcceepadlmelaaGreatDoor
