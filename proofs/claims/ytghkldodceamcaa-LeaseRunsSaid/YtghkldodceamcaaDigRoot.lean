/-
  digest.Root returns rootD of the digests of a slice, and makes new memory alone.
-/
import Derived.Test.YtghkldodceamcaaDigPair
import Derived.Test.YtghkldodceamcaaDigHalf
namespace Go.Proofs.Ytghkldodceamcaa
open Go.RowKit

end Go.Proofs.Ytghkldodceamcaa
