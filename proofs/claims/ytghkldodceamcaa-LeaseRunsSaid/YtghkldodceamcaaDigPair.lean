/-
  digest.Pair and digest.leaf, and the reference's Node, Leaf and Pair.
-/
import Derived.Test.YtghkldodceamcaaDigBytes
import Derived.Test.YtghkldodceamcaaDigRefOf
import Derived.Test.YtghkldodceamcaaRegion
namespace Go.Proofs.Ytghkldodceamcaa
open Go.RowKit

end Go.Proofs.Ytghkldodceamcaa
