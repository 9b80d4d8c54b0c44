/-
  digest.rootOf returns resultD.
-/
import Derived.Test.YtghkldodceamcaaDigRoot
import Derived.Test.YtghkldodceamcaaRegion
namespace Go.Proofs.Ytghkldodceamcaa
open Go.RowKit

/-- The slice value of a list of digests: where it has elements, their cells lie there. -/
def DSl (w : World) (ao : Option Addr) (p : List Dg) : Prop := p.length = 0 ∨ ∃ b off, ao = some ⟨b, off, none⟩ ∧ b < w.heap.size ∧ DCells w b off p
theorem DSl.below {w w' : World} {ao : Option Addr} {p : List Dg} (h : DSl w ao p) (hb : Below w.heap.size w w') : DSl w' ao p :=
  h.imp id fun ⟨b, off, e, hlt, hc⟩ => ⟨b, off, e, Nat.lt_of_lt_of_le hlt hb.size, hc.below hb hlt⟩

end Go.Proofs.Ytghkldodceamcaa
