/-
  DERIVED. GIVEN WITH THE SEED: THE CARDS: each row of YtphjillihapbfaaGreatDoorRows.lean that lists a variable, with what it lists TIED to the program's text (the seventh form; the later family's looks); each row that meets fmt, with fmt's text TOLD by the authors' own Lean function (tested against real Go, not proved from fmt's source: count such statements apart). THE CARD IS WHAT COUNTS. Prove the row's statement (the work); the ties are given (YtphjillihapbfaaGreatDoorTie.lean); close each card by the builder's one call (the guide's Derived/Test/ToyasCard.lean, 'card_holds'). Laid BY PROGRAM, IN A SANDBOX (cutbox-door.mjs). By AI agents, Wed Nov 11 2026. No macro, syntax, notation, axiom, sorry.
-/
import Derived.Test.YtphjillihapbfaaGreatDoorRows
import GoSem.ClaimSeven
namespace Go.Proofs.YtphjillihapbfaaGreatDoor
namespace Rows

/-- THE TIED CARD OF 'cordwoodtop.TopTreeDiffs'. -/
def topTreeDiffsCard : Claim7 := { stood := { row := topTreeDiffsRow, standIns := [], harness := (true, "7d2bedaeced4853833f7c2b0723d2209f91d415530bc5a9d0a8abdb2545afa3b"), looks := false }, kinds := [], alts := [], laidByText := true, laidKinds := [.data, .pinned], laidTests := true, laidLooks := .later }
def TopTreeDiffsCardSaid : Prop := Claim7.holds Tryz.pinned (.plain (OpenSpec.ofChange topTreeDiffsSpec)) topTreeDiffsCard

/-- THE SECOND FORM's CARD OF 'cordwoodtop.TopTreeDiffs'. -/
def topTreeDiffsUptoCard : Claim7 := { stood := { row := topTreeDiffsUptoRow, standIns := [], harness := (true, "7d2bedaeced4853833f7c2b0723d2209f91d415530bc5a9d0a8abdb2545afa3b"), looks := false }, kinds := [], alts := [], laidByText := true, laidKinds := [.data, .pinned], laidTests := true, laidLooks := .later }
def TopTreeDiffsUptoCardSaid : Prop := Claim7.holds Tryz.pinned (.plain (OpenSpec.upto topTreeDiffsSpec)) topTreeDiffsUptoCard
end Rows
end Go.Proofs.YtphjillihapbfaaGreatDoor
