/-
  DERIVED. GIVEN WITH THE SEED: THE CARDS: each row of YtefehgdckmajiaaGreatDoorRows.lean that lists a variable, with what it lists TIED to the program's text (the seventh form; the later family's looks); each row that meets fmt, with fmt's text TOLD by the authors' own Lean function (tested against real Go, not proved from fmt's source: count such statements apart). THE CARD IS WHAT COUNTS. Prove the row's statement (the work); the ties are given (YtefehgdckmajiaaGreatDoorTie.lean); close each card by the builder's one call (the guide's Derived/Test/ToyasCard.lean, 'card_holds'). Laid BY PROGRAM, IN A SANDBOX (cutbox-door.mjs). By AI agents, Wed Nov 11 2026. No macro, syntax, notation, axiom, sorry.
-/
import Derived.Test.YtefehgdckmajiaaGreatDoorRows
import GoSem.ClaimSeven
namespace Go.Proofs.YtefehgdckmajiaaGreatDoor
namespace Rows

/-- THE TIED CARD OF 'cordwoodtop.TopSelfApproval'. -/
def topSelfApprovalCard : Claim7 := { stood := { row := topSelfApprovalRow, standIns := [], harness := (true, "bc80167db0028e8005f1e55f73a02396a4e1205b5dd0f4a2a19940c078a1e74e"), looks := false }, kinds := [], alts := [], laidByText := true, laidKinds := [.data, .pinned], laidTests := true, laidLooks := .later }
def TopSelfApprovalCardSaid : Prop := Claim7.holds Tryz.pinned (.plain (OpenSpec.ofChange topSelfApprovalSpec)) topSelfApprovalCard

/-- THE SECOND FORM's CARD OF 'cordwoodtop.TopSelfApproval'. -/
def topSelfApprovalUptoCard : Claim7 := { stood := { row := topSelfApprovalUptoRow, standIns := [], harness := (true, "bc80167db0028e8005f1e55f73a02396a4e1205b5dd0f4a2a19940c078a1e74e"), looks := false }, kinds := [], alts := [], laidByText := true, laidKinds := [.data, .pinned], laidTests := true, laidLooks := .later }
def TopSelfApprovalUptoCardSaid : Prop := Claim7.holds Tryz.pinned (.plain (OpenSpec.upto topSelfApprovalSpec)) topSelfApprovalUptoCard
end Rows
end Go.Proofs.YtefehgdckmajiaaGreatDoor
