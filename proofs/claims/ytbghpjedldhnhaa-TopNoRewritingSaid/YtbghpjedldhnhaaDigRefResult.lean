/-
  The reference's result returns resultD.
-/
import Derived.Test.YtbghpjedldhnhaaDigRootOf
import Derived.Test.YtbghpjedldhnhaaDigRefRoot
import Derived.Test.YtbghpjedldhnhaaRegion
namespace Go.Proofs.Ytbghpjedldhnhaa
open Go.RowKit

end Go.Proofs.Ytbghpjedldhnhaa
