/-
  isWord of ledger, name of its reference.
-/
import Derived.Test.YtphjillihapbfaaGreatDoorLedSpec
namespace Go.Proofs.YtphjillihapbfaaGreatDoor
open Go.RowKit

theorem ret_bool' {a b : Bool} (h : a = b) : Ending.returned (.bool a) = .returned (.bool b) := by rw [h]
end Go.Proofs.YtphjillihapbfaaGreatDoor
