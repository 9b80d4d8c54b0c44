/-
  The bytes of a digest: the reference's bytes, and digest.appendBytes.
-/
import Derived.Test.YtghkldodceamcaaDigOf
import Derived.Test.YtghkldodceamcaaKit
namespace Go.Proofs.Ytghkldodceamcaa
open Go.RowKit
theorem ret_string {a b : ByteArray} (h : a = b) : Ending.returned (.string a) = .returned (.string b) := by rw [h]
theorem info_u8 : (Try.prog.info? 5).map (fun i => (i.zero, i.size, i.bytes)) = some (some (.int .u8 0), 1, 1) := by kernel_rfl

end Go.Proofs.Ytghkldodceamcaa
