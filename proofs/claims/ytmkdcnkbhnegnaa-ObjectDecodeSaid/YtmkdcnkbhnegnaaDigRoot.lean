/-
  digest.Root returns rootD of the digests of a slice, and makes new memory alone.
-/
import Derived.Test.YtmkdcnkbhnegnaaDigPair
import Derived.Test.YtmkdcnkbhnegnaaDigHalf
namespace Go.Proofs.Ytmkdcnkbhnegnaa
open Go.RowKit

end Go.Proofs.Ytmkdcnkbhnegnaa
