/-
  Why an object is not valid, apart from its size: the reference's only and fields.
-/
import Derived.Test.YtghkldodceamcaaObjChk
namespace Go.Proofs.Ytghkldodceamcaa
open Go.RowKit

def onlyB (o : Ob) : Bool := if ((o.kind = 2 ∨ o.kind = 3) ∧ hasD o = true) ∨ (o.kind ≠ 2 ∧ hasE o = true) then false else decide (o.kind = 3) || !hasC o

end Go.Proofs.Ytghkldodceamcaa
