/-
  No cell of these rows narrows 'for every input' (looked for: loops, veiled, ifaces, maps, wideKeys, modest, calm, conditions, laid).
  DERIVED. THE GIVEN ROWS OF THIS SEAT. 7 by the template 'for every input the law returns true; each argument reads behind the call as it read before'; 0 by the template 'total and deterministic' (their statements: YtnfekadnjblciaaTotals.lean).
  GIVEN WITH THE SEED: the statements are not yours to turn. If you find one false, say at which input.
  Laid BY PROGRAM, IN A SANDBOX (cutbox-rows.mjs): the forced cells as the released guide's own fill.sh prints them over the translation d7cd157919ef9cd9… (all of the seat's roots in one cut). By AI agents, Wed Nov 11 2026. No macro, syntax, notation, axiom, sorry.
-/
import Derived.Test.YtnfekadnjblciaaChecked
import GoSem.Claim
import GoSem.ClaimJoined
import GoSem.ClaimMapViews
import Derived.JoinedTies
import Derived.KernelRfl
namespace Go.Proofs.Ytnfekadnjblciaa
/- THE CELL 'sum', in the pinned program and in every row, IS THE sha256 OF THE DUMP (.gsa) THAT YtnfekadnjblciaaProg.lean LOADS. Nothing in Lean hashes anything: it is a label: what it is worth is what the hold of that sum in a sandbox is worth. -/
noncomputable def Try.pinned : Pinned := { name := "ytnfekadnjblciaa", sum := "d7cd157919ef9cd92a64954de52aae1e819dbe6a2623adbd7ac6adc9b7b6e481", checked := Try.checked }
namespace Rows
def none {H : Type} : Left H := { results := [], args := [] }

/-- 'cordwoodlaw56.LedgerRecords': WHATEVER THE INPUT: true; the input reads as it did. -/
def ledgerRecordsSpec : ChangeSpec := { name := "ledgerRecords", fn := fun _ => fun
  | [d] => { results := [.lit (.bool true)], args := [d] }
  | _ => none }
def ledgerRecordsRow : OpenClaim := { program := "ytnfekadnjblciaa", sum := "d7cd157919ef9cd92a64954de52aae1e819dbe6a2623adbd7ac6adc9b7b6e481", func := "cordwood/cordwoodlaw56.LedgerRecords", spec := "ledgerRecords", inPlace := ["internal/abi.NoEscape"], unfollowed := true, recurses := true, apart := false }
def LedgerRecordsSaid : Prop := ledgerRecordsRow.holds Try.pinned (OpenSpec.ofChange ledgerRecordsSpec)

/-- ITS FALSE NEIGHBOUR: 'it returns false'. Refute it at one input. -/
def ledgerRecordsWrong : ChangeSpec := { name := "ledgerRecords", fn := fun _ => fun
  | [d] => { results := [.lit (.bool false)], args := [d] }
  | _ => none }
def LedgerRecordsWrongFalsely : Prop := ledgerRecordsRow.holds Try.pinned (OpenSpec.ofChange ledgerRecordsWrong)

/-- 'cordwoodlaw56.LedgerSoundness': WHATEVER THE INPUT: true; the input reads as it did. -/
def ledgerSoundnessSpec : ChangeSpec := { name := "ledgerSoundness", fn := fun _ => fun
  | [d1, d2, d3, d4] => { results := [.lit (.bool true)], args := [d1, d2, d3, d4] }
  | _ => none }
def ledgerSoundnessRow : OpenClaim := { program := "ytnfekadnjblciaa", sum := "d7cd157919ef9cd92a64954de52aae1e819dbe6a2623adbd7ac6adc9b7b6e481", func := "cordwood/cordwoodlaw56.LedgerSoundness", spec := "ledgerSoundness", inPlace := ["internal/abi.NoEscape"], unfollowed := true, recurses := true, apart := false }
def LedgerSoundnessSaid : Prop := ledgerSoundnessRow.holds Try.pinned (OpenSpec.ofChange ledgerSoundnessSpec)

/-- ITS FALSE NEIGHBOUR: 'it returns false'. Refute it at one input. -/
def ledgerSoundnessWrong : ChangeSpec := { name := "ledgerSoundness", fn := fun _ => fun
  | [d1, d2, d3, d4] => { results := [.lit (.bool false)], args := [d1, d2, d3, d4] }
  | _ => none }
def LedgerSoundnessWrongFalsely : Prop := ledgerSoundnessRow.holds Try.pinned (OpenSpec.ofChange ledgerSoundnessWrong)

/-- 'cordwoodlaw56.LedgerProofs': WHATEVER THE INPUT: true; the input reads as it did. -/
def ledgerProofsSpec : ChangeSpec := { name := "ledgerProofs", fn := fun _ => fun
  | [d1, d2] => { results := [.lit (.bool true)], args := [d1, d2] }
  | _ => none }
def ledgerProofsRow : OpenClaim := { program := "ytnfekadnjblciaa", sum := "d7cd157919ef9cd92a64954de52aae1e819dbe6a2623adbd7ac6adc9b7b6e481", func := "cordwood/cordwoodlaw56.LedgerProofs", spec := "ledgerProofs", inPlace := ["internal/abi.NoEscape"], unfollowed := true, recurses := true, apart := false }
def LedgerProofsSaid : Prop := ledgerProofsRow.holds Try.pinned (OpenSpec.ofChange ledgerProofsSpec)

/-- ITS FALSE NEIGHBOUR: 'it returns false'. Refute it at one input. -/
def ledgerProofsWrong : ChangeSpec := { name := "ledgerProofs", fn := fun _ => fun
  | [d1, d2] => { results := [.lit (.bool false)], args := [d1, d2] }
  | _ => none }
def LedgerProofsWrongFalsely : Prop := ledgerProofsRow.holds Try.pinned (OpenSpec.ofChange ledgerProofsWrong)

/-- 'cordwoodlaw56.LedgerAppend': WHATEVER THE INPUT: true; the input reads as it did. -/
def ledgerAppendSpec : ChangeSpec := { name := "ledgerAppend", fn := fun _ => fun
  | [d1, d2] => { results := [.lit (.bool true)], args := [d1, d2] }
  | _ => none }
def ledgerAppendRow : OpenClaim := { program := "ytnfekadnjblciaa", sum := "d7cd157919ef9cd92a64954de52aae1e819dbe6a2623adbd7ac6adc9b7b6e481", func := "cordwood/cordwoodlaw56.LedgerAppend", spec := "ledgerAppend", inPlace := ["internal/abi.NoEscape"], unfollowed := true, recurses := true, apart := false }
def LedgerAppendSaid : Prop := ledgerAppendRow.holds Try.pinned (OpenSpec.ofChange ledgerAppendSpec)

/-- ITS FALSE NEIGHBOUR: 'it returns false'. Refute it at one input. -/
def ledgerAppendWrong : ChangeSpec := { name := "ledgerAppend", fn := fun _ => fun
  | [d1, d2] => { results := [.lit (.bool false)], args := [d1, d2] }
  | _ => none }
def LedgerAppendWrongFalsely : Prop := ledgerAppendRow.holds Try.pinned (OpenSpec.ofChange ledgerAppendWrong)

/-- 'cordwoodlaw56.LedgerVerifies': WHATEVER THE INPUT: true; the input reads as it did. -/
def ledgerVerifiesSpec : ChangeSpec := { name := "ledgerVerifies", fn := fun _ => fun
  | [d1, d2, d3, d4, d5, d6] => { results := [.lit (.bool true)], args := [d1, d2, d3, d4, d5, d6] }
  | _ => none }
def ledgerVerifiesRow : OpenClaim := { program := "ytnfekadnjblciaa", sum := "d7cd157919ef9cd92a64954de52aae1e819dbe6a2623adbd7ac6adc9b7b6e481", func := "cordwood/cordwoodlaw56.LedgerVerifies", spec := "ledgerVerifies", inPlace := ["internal/abi.NoEscape"], unfollowed := true, recurses := true, apart := false }
def LedgerVerifiesSaid : Prop := ledgerVerifiesRow.holds Try.pinned (OpenSpec.ofChange ledgerVerifiesSpec)

/-- ITS FALSE NEIGHBOUR: 'it returns false'. Refute it at one input. -/
def ledgerVerifiesWrong : ChangeSpec := { name := "ledgerVerifies", fn := fun _ => fun
  | [d1, d2, d3, d4, d5, d6] => { results := [.lit (.bool false)], args := [d1, d2, d3, d4, d5, d6] }
  | _ => none }
def LedgerVerifiesWrongFalsely : Prop := ledgerVerifiesRow.holds Try.pinned (OpenSpec.ofChange ledgerVerifiesWrong)

/-- 'cordwoodlaw56.LedgerGrowth': WHATEVER THE INPUT: true; the input reads as it did. -/
def ledgerGrowthSpec : ChangeSpec := { name := "ledgerGrowth", fn := fun _ => fun
  | [d] => { results := [.lit (.bool true)], args := [d] }
  | _ => none }
def ledgerGrowthRow : OpenClaim := { program := "ytnfekadnjblciaa", sum := "d7cd157919ef9cd92a64954de52aae1e819dbe6a2623adbd7ac6adc9b7b6e481", func := "cordwood/cordwoodlaw56.LedgerGrowth", spec := "ledgerGrowth", inPlace := ["internal/abi.NoEscape"], unfollowed := true, recurses := true, apart := false }
def LedgerGrowthSaid : Prop := ledgerGrowthRow.holds Try.pinned (OpenSpec.ofChange ledgerGrowthSpec)

/-- ITS FALSE NEIGHBOUR: 'it returns false'. Refute it at one input. -/
def ledgerGrowthWrong : ChangeSpec := { name := "ledgerGrowth", fn := fun _ => fun
  | [d] => { results := [.lit (.bool false)], args := [d] }
  | _ => none }
def LedgerGrowthWrongFalsely : Prop := ledgerGrowthRow.holds Try.pinned (OpenSpec.ofChange ledgerGrowthWrong)

/-- 'cordwoodlaw56.LedgerAppended': WHATEVER THE INPUT: true; the input reads as it did. -/
def ledgerAppendedSpec : ChangeSpec := { name := "ledgerAppended", fn := fun _ => fun
  | [d1, d2] => { results := [.lit (.bool true)], args := [d1, d2] }
  | _ => none }
def ledgerAppendedRow : OpenClaim := { program := "ytnfekadnjblciaa", sum := "d7cd157919ef9cd92a64954de52aae1e819dbe6a2623adbd7ac6adc9b7b6e481", func := "cordwood/cordwoodlaw56.LedgerAppended", spec := "ledgerAppended", inPlace := ["internal/abi.NoEscape"], unfollowed := true, recurses := true, apart := false }
def LedgerAppendedSaid : Prop := ledgerAppendedRow.holds Try.pinned (OpenSpec.ofChange ledgerAppendedSpec)

/-- ITS FALSE NEIGHBOUR: 'it returns false'. Refute it at one input. -/
def ledgerAppendedWrong : ChangeSpec := { name := "ledgerAppended", fn := fun _ => fun
  | [d1, d2] => { results := [.lit (.bool false)], args := [d1, d2] }
  | _ => none }
def LedgerAppendedWrongFalsely : Prop := ledgerAppendedRow.holds Try.pinned (OpenSpec.ofChange ledgerAppendedWrong)

/- THE SECOND FORM. 'bulk': how many values and letters a reading holds, each counted each time it is reached (what is shared counts as often as it is met; a slice's spare places count too). A statement '..UptoSaid' is the law's where the arguments, and the package variables that the reading takes, are together of bulk at most 1048576: NARROWER than '..Said'. Prove '..Said' where nothing that the law and all that it calls make is longer than what came in: it says more and counts as full. Else prove '..UptoSaid'. A law counts once. -/
mutual
def uptoBulk {H : Type} : DataW H → Nat
  | .lit (.string bytes) => bytes.length + 1
  | .lit _ => 1
  | .nil => 1
  | .ptr d => uptoBulk d + 1
  | .slice elems spare => uptoBulkAll elems + uptoBulkAll spare + 1
  | .agg parts => uptoBulkAll parts + 1
  | .iface _ d => uptoBulk d + 1
  | .map entries => uptoBulkEntries entries + 1
  | .held _ => 1
def uptoBulkAll {H : Type} : List (DataW H) → Nat
  | [] => 0
  | d :: r => uptoBulk d + uptoBulkAll r
def uptoBulkEntries {H : Type} : List (Lit × DataW H) → Nat
  | [] => 0
  | x :: r => uptoBulkEntry x + uptoBulkEntries r
def uptoBulkEntry {H : Type} : Lit × DataW H → Nat
  | (.string bytes, d) => bytes.length + uptoBulk d + 1
  | (_, d) => uptoBulk d + 1
 end
def uptoSmall : (H : Type) → List (DataW H) → Bool := fun _ ds => decide (uptoBulkAll ds ≤ 1048576)
def OpenSpec.upto (s : _root_.Go.ChangeSpec) : _root_.Go.OpenSpec := { _root_.Go.OpenSpec.ofChange s with cond := some uptoSmall }

/-- 'cordwoodlaw56.LedgerRecords', WHERE WHAT IT READS IS OF BULK AT MOST 1048576: true; the input reads as it did. -/
def ledgerRecordsUptoRow : OpenClaim := { program := "ytnfekadnjblciaa", sum := "d7cd157919ef9cd92a64954de52aae1e819dbe6a2623adbd7ac6adc9b7b6e481", func := "cordwood/cordwoodlaw56.LedgerRecords", spec := "ledgerRecords", inPlace := ["internal/abi.NoEscape"], unfollowed := true, recurses := true, apart := false, narrowed := true }
def LedgerRecordsUptoSaid : Prop := ledgerRecordsUptoRow.holds Try.pinned (OpenSpec.upto ledgerRecordsSpec)

/-- 'cordwoodlaw56.LedgerSoundness', WHERE WHAT IT READS IS OF BULK AT MOST 1048576: true; the input reads as it did. -/
def ledgerSoundnessUptoRow : OpenClaim := { program := "ytnfekadnjblciaa", sum := "d7cd157919ef9cd92a64954de52aae1e819dbe6a2623adbd7ac6adc9b7b6e481", func := "cordwood/cordwoodlaw56.LedgerSoundness", spec := "ledgerSoundness", inPlace := ["internal/abi.NoEscape"], unfollowed := true, recurses := true, apart := false, narrowed := true }
def LedgerSoundnessUptoSaid : Prop := ledgerSoundnessUptoRow.holds Try.pinned (OpenSpec.upto ledgerSoundnessSpec)

/-- 'cordwoodlaw56.LedgerProofs', WHERE WHAT IT READS IS OF BULK AT MOST 1048576: true; the input reads as it did. -/
def ledgerProofsUptoRow : OpenClaim := { program := "ytnfekadnjblciaa", sum := "d7cd157919ef9cd92a64954de52aae1e819dbe6a2623adbd7ac6adc9b7b6e481", func := "cordwood/cordwoodlaw56.LedgerProofs", spec := "ledgerProofs", inPlace := ["internal/abi.NoEscape"], unfollowed := true, recurses := true, apart := false, narrowed := true }
def LedgerProofsUptoSaid : Prop := ledgerProofsUptoRow.holds Try.pinned (OpenSpec.upto ledgerProofsSpec)

/-- 'cordwoodlaw56.LedgerAppend', WHERE WHAT IT READS IS OF BULK AT MOST 1048576: true; the input reads as it did. -/
def ledgerAppendUptoRow : OpenClaim := { program := "ytnfekadnjblciaa", sum := "d7cd157919ef9cd92a64954de52aae1e819dbe6a2623adbd7ac6adc9b7b6e481", func := "cordwood/cordwoodlaw56.LedgerAppend", spec := "ledgerAppend", inPlace := ["internal/abi.NoEscape"], unfollowed := true, recurses := true, apart := false, narrowed := true }
def LedgerAppendUptoSaid : Prop := ledgerAppendUptoRow.holds Try.pinned (OpenSpec.upto ledgerAppendSpec)

/-- 'cordwoodlaw56.LedgerVerifies', WHERE WHAT IT READS IS OF BULK AT MOST 1048576: true; the input reads as it did. -/
def ledgerVerifiesUptoRow : OpenClaim := { program := "ytnfekadnjblciaa", sum := "d7cd157919ef9cd92a64954de52aae1e819dbe6a2623adbd7ac6adc9b7b6e481", func := "cordwood/cordwoodlaw56.LedgerVerifies", spec := "ledgerVerifies", inPlace := ["internal/abi.NoEscape"], unfollowed := true, recurses := true, apart := false, narrowed := true }
def LedgerVerifiesUptoSaid : Prop := ledgerVerifiesUptoRow.holds Try.pinned (OpenSpec.upto ledgerVerifiesSpec)

/-- 'cordwoodlaw56.LedgerGrowth', WHERE WHAT IT READS IS OF BULK AT MOST 1048576: true; the input reads as it did. -/
def ledgerGrowthUptoRow : OpenClaim := { program := "ytnfekadnjblciaa", sum := "d7cd157919ef9cd92a64954de52aae1e819dbe6a2623adbd7ac6adc9b7b6e481", func := "cordwood/cordwoodlaw56.LedgerGrowth", spec := "ledgerGrowth", inPlace := ["internal/abi.NoEscape"], unfollowed := true, recurses := true, apart := false, narrowed := true }
def LedgerGrowthUptoSaid : Prop := ledgerGrowthUptoRow.holds Try.pinned (OpenSpec.upto ledgerGrowthSpec)

/-- 'cordwoodlaw56.LedgerAppended', WHERE WHAT IT READS IS OF BULK AT MOST 1048576: true; the input reads as it did. -/
def ledgerAppendedUptoRow : OpenClaim := { program := "ytnfekadnjblciaa", sum := "d7cd157919ef9cd92a64954de52aae1e819dbe6a2623adbd7ac6adc9b7b6e481", func := "cordwood/cordwoodlaw56.LedgerAppended", spec := "ledgerAppended", inPlace := ["internal/abi.NoEscape"], unfollowed := true, recurses := true, apart := false, narrowed := true }
def LedgerAppendedUptoSaid : Prop := ledgerAppendedUptoRow.holds Try.pinned (OpenSpec.upto ledgerAppendedSpec)

end Rows
end Go.Proofs.Ytnfekadnjblciaa
