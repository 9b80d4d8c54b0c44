/-
  No cell of these rows narrows 'for every input' (looked for: loops, veiled, ifaces, maps, wideKeys, modest, calm, conditions, laid).
  DERIVED. THE GIVEN ROWS OF THIS SEAT. 7 by the template 'for every input the law returns true; each argument reads behind the call as it read before'; 0 by the template 'total and deterministic' (their statements: YtmkdcnkbhnegnaaTotals.lean).
  GIVEN WITH THE SEED: the statements are not yours to turn. If you find one false, say at which input.
  Laid BY PROGRAM, IN A SANDBOX (cutbox-rows.mjs): the forced cells as the released guide's own fill.sh prints them over the translation c38b8ce187657a60… (all of the seat's roots in one cut). By AI agents, Wed Nov 11 2026. No macro, syntax, notation, axiom, sorry.
-/
import Derived.Test.YtmkdcnkbhnegnaaChecked
import GoSem.Claim
import GoSem.ClaimJoined
import GoSem.ClaimMapViews
import Derived.JoinedTies
import Derived.KernelRfl
namespace Go.Proofs.Ytmkdcnkbhnegnaa
/- THE CELL 'sum', in the pinned program and in every row, IS THE sha256 OF THE DUMP (.gsa) THAT YtmkdcnkbhnegnaaProg.lean LOADS. Nothing in Lean hashes anything: it is a label: what it is worth is what the hold of that sum in a sandbox is worth. -/
noncomputable def Try.pinned : Pinned := { name := "ytmkdcnkbhnegnaa", sum := "c38b8ce187657a60b011b78cfc26a624a82eee6a7aba0e4c6153755989c9372a", checked := Try.checked }
namespace Rows
def none {H : Type} : Left H := { results := [], args := [] }

/-- 'cordwoodlaw07.ObjectCheck': WHATEVER THE INPUT: true; the input reads as it did. -/
def objectCheckSpec : ChangeSpec := { name := "objectCheck", fn := fun _ => fun
  | [d] => { results := [.lit (.bool true)], args := [d] }
  | _ => none }
def objectCheckRow : OpenClaim := { program := "ytmkdcnkbhnegnaa", sum := "c38b8ce187657a60b011b78cfc26a624a82eee6a7aba0e4c6153755989c9372a", func := "cordwood/cordwoodlaw07.ObjectCheck", spec := "objectCheck", inPlace := ["internal/abi.NoEscape"], unfollowed := true, recurses := true, apart := false }
def ObjectCheckSaid : Prop := objectCheckRow.holds Try.pinned (OpenSpec.ofChange objectCheckSpec)

/-- ITS FALSE NEIGHBOUR: 'it returns false'. Refute it at one input. -/
def objectCheckWrong : ChangeSpec := { name := "objectCheck", fn := fun _ => fun
  | [d] => { results := [.lit (.bool false)], args := [d] }
  | _ => none }
def ObjectCheckWrongFalsely : Prop := objectCheckRow.holds Try.pinned (OpenSpec.ofChange objectCheckWrong)

/-- 'cordwoodlaw07.ObjectLinks': WHATEVER THE INPUT: true; the input reads as it did. -/
def objectLinksSpec : ChangeSpec := { name := "objectLinks", fn := fun _ => fun
  | [d] => { results := [.lit (.bool true)], args := [d] }
  | _ => none }
def objectLinksRow : OpenClaim := { program := "ytmkdcnkbhnegnaa", sum := "c38b8ce187657a60b011b78cfc26a624a82eee6a7aba0e4c6153755989c9372a", func := "cordwood/cordwoodlaw07.ObjectLinks", spec := "objectLinks", inPlace := ["internal/abi.NoEscape"], unfollowed := true, recurses := true, apart := false }
def ObjectLinksSaid : Prop := objectLinksRow.holds Try.pinned (OpenSpec.ofChange objectLinksSpec)

/-- ITS FALSE NEIGHBOUR: 'it returns false'. Refute it at one input. -/
def objectLinksWrong : ChangeSpec := { name := "objectLinks", fn := fun _ => fun
  | [d] => { results := [.lit (.bool false)], args := [d] }
  | _ => none }
def ObjectLinksWrongFalsely : Prop := objectLinksRow.holds Try.pinned (OpenSpec.ofChange objectLinksWrong)

/-- 'cordwoodlaw07.ObjectEncode': WHATEVER THE INPUT: true; the input reads as it did. -/
def objectEncodeSpec : ChangeSpec := { name := "objectEncode", fn := fun _ => fun
  | [d] => { results := [.lit (.bool true)], args := [d] }
  | _ => none }
def objectEncodeRow : OpenClaim := { program := "ytmkdcnkbhnegnaa", sum := "c38b8ce187657a60b011b78cfc26a624a82eee6a7aba0e4c6153755989c9372a", func := "cordwood/cordwoodlaw07.ObjectEncode", spec := "objectEncode", inPlace := ["internal/abi.NoEscape"], unfollowed := true, recurses := true, apart := false }
def ObjectEncodeSaid : Prop := objectEncodeRow.holds Try.pinned (OpenSpec.ofChange objectEncodeSpec)

/-- ITS FALSE NEIGHBOUR: 'it returns false'. Refute it at one input. -/
def objectEncodeWrong : ChangeSpec := { name := "objectEncode", fn := fun _ => fun
  | [d] => { results := [.lit (.bool false)], args := [d] }
  | _ => none }
def ObjectEncodeWrongFalsely : Prop := objectEncodeRow.holds Try.pinned (OpenSpec.ofChange objectEncodeWrong)

/-- 'cordwoodlaw07.ObjectNames': WHATEVER THE INPUT: true; the input reads as it did. -/
def objectNamesSpec : ChangeSpec := { name := "objectNames", fn := fun _ => fun
  | [d1, d2] => { results := [.lit (.bool true)], args := [d1, d2] }
  | _ => none }
def objectNamesRow : OpenClaim := { program := "ytmkdcnkbhnegnaa", sum := "c38b8ce187657a60b011b78cfc26a624a82eee6a7aba0e4c6153755989c9372a", func := "cordwood/cordwoodlaw07.ObjectNames", spec := "objectNames", inPlace := ["internal/abi.NoEscape"], unfollowed := true, recurses := true, apart := false }
def ObjectNamesSaid : Prop := objectNamesRow.holds Try.pinned (OpenSpec.ofChange objectNamesSpec)

/-- ITS FALSE NEIGHBOUR: 'it returns false'. Refute it at one input. -/
def objectNamesWrong : ChangeSpec := { name := "objectNames", fn := fun _ => fun
  | [d1, d2] => { results := [.lit (.bool false)], args := [d1, d2] }
  | _ => none }
def ObjectNamesWrongFalsely : Prop := objectNamesRow.holds Try.pinned (OpenSpec.ofChange objectNamesWrong)

/-- 'cordwoodlaw07.ObjectDecode': WHATEVER THE INPUT: true; the input reads as it did. -/
def objectDecodeSpec : ChangeSpec := { name := "objectDecode", fn := fun _ => fun
  | [d] => { results := [.lit (.bool true)], args := [d] }
  | _ => none }
def objectDecodeRow : OpenClaim := { program := "ytmkdcnkbhnegnaa", sum := "c38b8ce187657a60b011b78cfc26a624a82eee6a7aba0e4c6153755989c9372a", func := "cordwood/cordwoodlaw07.ObjectDecode", spec := "objectDecode", inPlace := ["internal/abi.NoEscape"], unfollowed := true, recurses := true, apart := false }
def ObjectDecodeSaid : Prop := objectDecodeRow.holds Try.pinned (OpenSpec.ofChange objectDecodeSpec)

/-- ITS FALSE NEIGHBOUR: 'it returns false'. Refute it at one input. -/
def objectDecodeWrong : ChangeSpec := { name := "objectDecode", fn := fun _ => fun
  | [d] => { results := [.lit (.bool false)], args := [d] }
  | _ => none }
def ObjectDecodeWrongFalsely : Prop := objectDecodeRow.holds Try.pinned (OpenSpec.ofChange objectDecodeWrong)

/-- 'cordwoodlaw07.ObjectRoundTrip': WHATEVER THE INPUT: true; the input reads as it did. -/
def objectRoundTripSpec : ChangeSpec := { name := "objectRoundTrip", fn := fun _ => fun
  | [d] => { results := [.lit (.bool true)], args := [d] }
  | _ => none }
def objectRoundTripRow : OpenClaim := { program := "ytmkdcnkbhnegnaa", sum := "c38b8ce187657a60b011b78cfc26a624a82eee6a7aba0e4c6153755989c9372a", func := "cordwood/cordwoodlaw07.ObjectRoundTrip", spec := "objectRoundTrip", inPlace := ["internal/abi.NoEscape"], unfollowed := true, recurses := true, apart := false }
def ObjectRoundTripSaid : Prop := objectRoundTripRow.holds Try.pinned (OpenSpec.ofChange objectRoundTripSpec)

/-- ITS FALSE NEIGHBOUR: 'it returns false'. Refute it at one input. -/
def objectRoundTripWrong : ChangeSpec := { name := "objectRoundTrip", fn := fun _ => fun
  | [d] => { results := [.lit (.bool false)], args := [d] }
  | _ => none }
def ObjectRoundTripWrongFalsely : Prop := objectRoundTripRow.holds Try.pinned (OpenSpec.ofChange objectRoundTripWrong)

/-- 'cordwoodlaw07.ObjectCanonical': WHATEVER THE INPUT: true; the input reads as it did. -/
def objectCanonicalSpec : ChangeSpec := { name := "objectCanonical", fn := fun _ => fun
  | [d] => { results := [.lit (.bool true)], args := [d] }
  | _ => none }
def objectCanonicalRow : OpenClaim := { program := "ytmkdcnkbhnegnaa", sum := "c38b8ce187657a60b011b78cfc26a624a82eee6a7aba0e4c6153755989c9372a", func := "cordwood/cordwoodlaw07.ObjectCanonical", spec := "objectCanonical", inPlace := ["internal/abi.NoEscape"], unfollowed := true, recurses := true, apart := false }
def ObjectCanonicalSaid : Prop := objectCanonicalRow.holds Try.pinned (OpenSpec.ofChange objectCanonicalSpec)

/-- ITS FALSE NEIGHBOUR: 'it returns false'. Refute it at one input. -/
def objectCanonicalWrong : ChangeSpec := { name := "objectCanonical", fn := fun _ => fun
  | [d] => { results := [.lit (.bool false)], args := [d] }
  | _ => none }
def ObjectCanonicalWrongFalsely : Prop := objectCanonicalRow.holds Try.pinned (OpenSpec.ofChange objectCanonicalWrong)

/- THE SECOND FORM. 'bulk': how many values and letters a reading holds, each counted each time it is reached (what is shared counts as often as it is met; a slice's spare places count too). A statement '..UptoSaid' is the law's where the arguments, and the package variables that the reading takes, are together of bulk at most 1048576: NARROWER than '..Said'. Prove '..Said' where nothing that the law and all that it calls make is longer than what came in: it says more and counts as full. Else prove '..UptoSaid'. A law counts once. -/
mutual
def uptoBulk {H : Type} : DataW H → Nat
  | .lit (.string bytes) => bytes.length + 1
  | .lit _ => 1
  | .nil => 1
  | .ptr d => uptoBulk d + 1
  | .slice elems spare => uptoBulkAll elems + uptoBulkAll spare + 1
  | .agg parts => uptoBulkAll parts + 1
  | .iface _ d => uptoBulk d + 1
  | .map entries => uptoBulkEntries entries + 1
  | .held _ => 1
def uptoBulkAll {H : Type} : List (DataW H) → Nat
  | [] => 0
  | d :: r => uptoBulk d + uptoBulkAll r
def uptoBulkEntries {H : Type} : List (Lit × DataW H) → Nat
  | [] => 0
  | x :: r => uptoBulkEntry x + uptoBulkEntries r
def uptoBulkEntry {H : Type} : Lit × DataW H → Nat
  | (.string bytes, d) => bytes.length + uptoBulk d + 1
  | (_, d) => uptoBulk d + 1
 end
def uptoSmall : (H : Type) → List (DataW H) → Bool := fun _ ds => decide (uptoBulkAll ds ≤ 1048576)
def OpenSpec.upto (s : _root_.Go.ChangeSpec) : _root_.Go.OpenSpec := { _root_.Go.OpenSpec.ofChange s with cond := some uptoSmall }

/-- 'cordwoodlaw07.ObjectCheck', WHERE WHAT IT READS IS OF BULK AT MOST 1048576: true; the input reads as it did. -/
def objectCheckUptoRow : OpenClaim := { program := "ytmkdcnkbhnegnaa", sum := "c38b8ce187657a60b011b78cfc26a624a82eee6a7aba0e4c6153755989c9372a", func := "cordwood/cordwoodlaw07.ObjectCheck", spec := "objectCheck", inPlace := ["internal/abi.NoEscape"], unfollowed := true, recurses := true, apart := false, narrowed := true }
def ObjectCheckUptoSaid : Prop := objectCheckUptoRow.holds Try.pinned (OpenSpec.upto objectCheckSpec)

/-- 'cordwoodlaw07.ObjectLinks', WHERE WHAT IT READS IS OF BULK AT MOST 1048576: true; the input reads as it did. -/
def objectLinksUptoRow : OpenClaim := { program := "ytmkdcnkbhnegnaa", sum := "c38b8ce187657a60b011b78cfc26a624a82eee6a7aba0e4c6153755989c9372a", func := "cordwood/cordwoodlaw07.ObjectLinks", spec := "objectLinks", inPlace := ["internal/abi.NoEscape"], unfollowed := true, recurses := true, apart := false, narrowed := true }
def ObjectLinksUptoSaid : Prop := objectLinksUptoRow.holds Try.pinned (OpenSpec.upto objectLinksSpec)

/-- 'cordwoodlaw07.ObjectEncode', WHERE WHAT IT READS IS OF BULK AT MOST 1048576: true; the input reads as it did. -/
def objectEncodeUptoRow : OpenClaim := { program := "ytmkdcnkbhnegnaa", sum := "c38b8ce187657a60b011b78cfc26a624a82eee6a7aba0e4c6153755989c9372a", func := "cordwood/cordwoodlaw07.ObjectEncode", spec := "objectEncode", inPlace := ["internal/abi.NoEscape"], unfollowed := true, recurses := true, apart := false, narrowed := true }
def ObjectEncodeUptoSaid : Prop := objectEncodeUptoRow.holds Try.pinned (OpenSpec.upto objectEncodeSpec)

/-- 'cordwoodlaw07.ObjectNames', WHERE WHAT IT READS IS OF BULK AT MOST 1048576: true; the input reads as it did. -/
def objectNamesUptoRow : OpenClaim := { program := "ytmkdcnkbhnegnaa", sum := "c38b8ce187657a60b011b78cfc26a624a82eee6a7aba0e4c6153755989c9372a", func := "cordwood/cordwoodlaw07.ObjectNames", spec := "objectNames", inPlace := ["internal/abi.NoEscape"], unfollowed := true, recurses := true, apart := false, narrowed := true }
def ObjectNamesUptoSaid : Prop := objectNamesUptoRow.holds Try.pinned (OpenSpec.upto objectNamesSpec)

/-- 'cordwoodlaw07.ObjectDecode', WHERE WHAT IT READS IS OF BULK AT MOST 1048576: true; the input reads as it did. -/
def objectDecodeUptoRow : OpenClaim := { program := "ytmkdcnkbhnegnaa", sum := "c38b8ce187657a60b011b78cfc26a624a82eee6a7aba0e4c6153755989c9372a", func := "cordwood/cordwoodlaw07.ObjectDecode", spec := "objectDecode", inPlace := ["internal/abi.NoEscape"], unfollowed := true, recurses := true, apart := false, narrowed := true }
def ObjectDecodeUptoSaid : Prop := objectDecodeUptoRow.holds Try.pinned (OpenSpec.upto objectDecodeSpec)

/-- 'cordwoodlaw07.ObjectRoundTrip', WHERE WHAT IT READS IS OF BULK AT MOST 1048576: true; the input reads as it did. -/
def objectRoundTripUptoRow : OpenClaim := { program := "ytmkdcnkbhnegnaa", sum := "c38b8ce187657a60b011b78cfc26a624a82eee6a7aba0e4c6153755989c9372a", func := "cordwood/cordwoodlaw07.ObjectRoundTrip", spec := "objectRoundTrip", inPlace := ["internal/abi.NoEscape"], unfollowed := true, recurses := true, apart := false, narrowed := true }
def ObjectRoundTripUptoSaid : Prop := objectRoundTripUptoRow.holds Try.pinned (OpenSpec.upto objectRoundTripSpec)

/-- 'cordwoodlaw07.ObjectCanonical', WHERE WHAT IT READS IS OF BULK AT MOST 1048576: true; the input reads as it did. -/
def objectCanonicalUptoRow : OpenClaim := { program := "ytmkdcnkbhnegnaa", sum := "c38b8ce187657a60b011b78cfc26a624a82eee6a7aba0e4c6153755989c9372a", func := "cordwood/cordwoodlaw07.ObjectCanonical", spec := "objectCanonical", inPlace := ["internal/abi.NoEscape"], unfollowed := true, recurses := true, apart := false, narrowed := true }
def ObjectCanonicalUptoSaid : Prop := objectCanonicalUptoRow.holds Try.pinned (OpenSpec.upto objectCanonicalSpec)

end Rows
end Go.Proofs.Ytmkdcnkbhnegnaa
