/-
  digest.Of returns ofU of its bytes, and makes new memory alone.
-/
import Derived.Test.YtghkldodceamcaaRows
import Derived.Test.YtghkldodceamcaaDigSpec
import Derived.Test.YtghkldodceamcaaDigEq
import Derived.WalkKit
import Derived.WalkSpells
import Derived.WalkLawsBesides
namespace Go.Proofs.Ytghkldodceamcaa
open Go.RowKit

theorem ret_u64 {a b : Int} (h : a = b) : Ending.returned (.int .u64 a) = .returned (.int .u64 b) := by rw [h]

end Go.Proofs.Ytghkldodceamcaa
