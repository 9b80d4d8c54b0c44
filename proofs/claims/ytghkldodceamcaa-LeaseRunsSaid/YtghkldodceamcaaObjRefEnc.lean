/-
  The reference's encode.
-/
import Derived.Test.YtghkldodceamcaaObjEnc
namespace Go.Proofs.Ytghkldodceamcaa
open Go.RowKit

end Go.Proofs.Ytghkldodceamcaa
