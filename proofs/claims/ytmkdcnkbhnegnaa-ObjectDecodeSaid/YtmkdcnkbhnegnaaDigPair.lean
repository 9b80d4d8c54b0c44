/-
  digest.Pair and digest.leaf, and the reference's Node, Leaf and Pair.
-/
import Derived.Test.YtmkdcnkbhnegnaaDigBytes
import Derived.Test.YtmkdcnkbhnegnaaDigRefOf
import Derived.Test.YtmkdcnkbhnegnaaRegion
namespace Go.Proofs.Ytmkdcnkbhnegnaa
open Go.RowKit

end Go.Proofs.Ytmkdcnkbhnegnaa
