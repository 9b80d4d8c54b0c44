/-
  The reference's Of returns ofU of its bytes too.
-/
import Derived.Test.YtghkldodceamcaaDigOf
namespace Go.Proofs.Ytghkldodceamcaa
open Go.RowKit
end Go.Proofs.Ytghkldodceamcaa
