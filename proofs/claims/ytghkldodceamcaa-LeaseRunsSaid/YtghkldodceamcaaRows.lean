/-
  No cell of these rows narrows 'for every input' (looked for: loops, veiled, ifaces, maps, wideKeys, modest, calm, conditions, laid).
  DERIVED. THE GIVEN ROWS OF THIS SEAT. 7 by the template 'for every input the law returns true; each argument reads behind the call as it read before'; 0 by the template 'total and deterministic' (their statements: YtghkldodceamcaaTotals.lean).
  GIVEN WITH THE SEED: the statements are not yours to turn. If you find one false, say at which input.
  Laid BY PROGRAM, IN A SANDBOX (cutbox-rows.mjs): the forced cells as the released guide's own fill.sh prints them over the translation e5e3c8311b574718… (all of the seat's roots in one cut). By AI agents, Wed Nov 11 2026. No macro, syntax, notation, axiom, sorry.
-/
import Derived.Test.YtghkldodceamcaaChecked
import GoSem.Claim
import GoSem.ClaimJoined
import GoSem.ClaimMapViews
import Derived.JoinedTies
import Derived.KernelRfl
namespace Go.Proofs.Ytghkldodceamcaa
/- THE CELL 'sum', in the pinned program and in every row, IS THE sha256 OF THE DUMP (.gsa) THAT YtghkldodceamcaaProg.lean LOADS. Nothing in Lean hashes anything: it is a label: what it is worth is what the hold of that sum in a sandbox is worth. -/
noncomputable def Try.pinned : Pinned := { name := "ytghkldodceamcaa", sum := "e5e3c8311b5747180b61242e549ba9a1a0c7f4e273a94eddd8a5dc250501d5e7", checked := Try.checked }
namespace Rows
def none {H : Type} : Left H := { results := [], args := [] }

/-- 'cordwoodlaw45.LeaseGrant': WHATEVER THE INPUT: true; the input reads as it did. -/
def leaseGrantSpec : ChangeSpec := { name := "leaseGrant", fn := fun _ => fun
  | [d1, d2, d3, d4] => { results := [.lit (.bool true)], args := [d1, d2, d3, d4] }
  | _ => none }
def leaseGrantRow : OpenClaim := { program := "ytghkldodceamcaa", sum := "e5e3c8311b5747180b61242e549ba9a1a0c7f4e273a94eddd8a5dc250501d5e7", func := "cordwood/cordwoodlaw45.LeaseGrant", spec := "leaseGrant", inPlace := ["internal/abi.NoEscape"], unfollowed := true, recurses := true, apart := false }
def LeaseGrantSaid : Prop := leaseGrantRow.holds Try.pinned (OpenSpec.ofChange leaseGrantSpec)

/-- ITS FALSE NEIGHBOUR: 'it returns false'. Refute it at one input. -/
def leaseGrantWrong : ChangeSpec := { name := "leaseGrant", fn := fun _ => fun
  | [d1, d2, d3, d4] => { results := [.lit (.bool false)], args := [d1, d2, d3, d4] }
  | _ => none }
def LeaseGrantWrongFalsely : Prop := leaseGrantRow.holds Try.pinned (OpenSpec.ofChange leaseGrantWrong)

/-- 'cordwoodlaw45.LeaseTime': WHATEVER THE INPUT: true; the input reads as it did. -/
def leaseTimeSpec : ChangeSpec := { name := "leaseTime", fn := fun _ => fun
  | [d1, d2, d3, d4] => { results := [.lit (.bool true)], args := [d1, d2, d3, d4] }
  | _ => none }
def leaseTimeRow : OpenClaim := { program := "ytghkldodceamcaa", sum := "e5e3c8311b5747180b61242e549ba9a1a0c7f4e273a94eddd8a5dc250501d5e7", func := "cordwood/cordwoodlaw45.LeaseTime", spec := "leaseTime", inPlace := ["internal/abi.NoEscape"], unfollowed := true, recurses := true, apart := false }
def LeaseTimeSaid : Prop := leaseTimeRow.holds Try.pinned (OpenSpec.ofChange leaseTimeSpec)

/-- ITS FALSE NEIGHBOUR: 'it returns false'. Refute it at one input. -/
def leaseTimeWrong : ChangeSpec := { name := "leaseTime", fn := fun _ => fun
  | [d1, d2, d3, d4] => { results := [.lit (.bool false)], args := [d1, d2, d3, d4] }
  | _ => none }
def LeaseTimeWrongFalsely : Prop := leaseTimeRow.holds Try.pinned (OpenSpec.ofChange leaseTimeWrong)

/-- 'cordwoodlaw45.LeaseAdvances': WHATEVER THE INPUT: true; the input reads as it did. -/
def leaseAdvancesSpec : ChangeSpec := { name := "leaseAdvances", fn := fun _ => fun
  | [d1, d2, d3] => { results := [.lit (.bool true)], args := [d1, d2, d3] }
  | _ => none }
def leaseAdvancesRow : OpenClaim := { program := "ytghkldodceamcaa", sum := "e5e3c8311b5747180b61242e549ba9a1a0c7f4e273a94eddd8a5dc250501d5e7", func := "cordwood/cordwoodlaw45.LeaseAdvances", spec := "leaseAdvances", inPlace := ["internal/abi.NoEscape"], unfollowed := true, recurses := true, apart := false }
def LeaseAdvancesSaid : Prop := leaseAdvancesRow.holds Try.pinned (OpenSpec.ofChange leaseAdvancesSpec)

/-- ITS FALSE NEIGHBOUR: 'it returns false'. Refute it at one input. -/
def leaseAdvancesWrong : ChangeSpec := { name := "leaseAdvances", fn := fun _ => fun
  | [d1, d2, d3] => { results := [.lit (.bool false)], args := [d1, d2, d3] }
  | _ => none }
def LeaseAdvancesWrongFalsely : Prop := leaseAdvancesRow.holds Try.pinned (OpenSpec.ofChange leaseAdvancesWrong)

/-- 'cordwoodlaw45.LeaseChanges': WHATEVER THE INPUT: true; the input reads as it did. -/
def leaseChangesSpec : ChangeSpec := { name := "leaseChanges", fn := fun _ => fun
  | [d1, d2, d3, d4] => { results := [.lit (.bool true)], args := [d1, d2, d3, d4] }
  | _ => none }
def leaseChangesRow : OpenClaim := { program := "ytghkldodceamcaa", sum := "e5e3c8311b5747180b61242e549ba9a1a0c7f4e273a94eddd8a5dc250501d5e7", func := "cordwood/cordwoodlaw45.LeaseChanges", spec := "leaseChanges", inPlace := ["internal/abi.NoEscape"], unfollowed := true, recurses := true, apart := false }
def LeaseChangesSaid : Prop := leaseChangesRow.holds Try.pinned (OpenSpec.ofChange leaseChangesSpec)

/-- ITS FALSE NEIGHBOUR: 'it returns false'. Refute it at one input. -/
def leaseChangesWrong : ChangeSpec := { name := "leaseChanges", fn := fun _ => fun
  | [d1, d2, d3, d4] => { results := [.lit (.bool false)], args := [d1, d2, d3, d4] }
  | _ => none }
def LeaseChangesWrongFalsely : Prop := leaseChangesRow.holds Try.pinned (OpenSpec.ofChange leaseChangesWrong)

/-- 'cordwoodlaw45.LeaseRuns': WHATEVER THE INPUT: true; the input reads as it did. -/
def leaseRunsSpec : ChangeSpec := { name := "leaseRuns", fn := fun _ => fun
  | [d] => { results := [.lit (.bool true)], args := [d] }
  | _ => none }
def leaseRunsRow : OpenClaim := { program := "ytghkldodceamcaa", sum := "e5e3c8311b5747180b61242e549ba9a1a0c7f4e273a94eddd8a5dc250501d5e7", func := "cordwood/cordwoodlaw45.LeaseRuns", spec := "leaseRuns", inPlace := ["internal/abi.NoEscape"], unfollowed := true, recurses := true, apart := false }
def LeaseRunsSaid : Prop := leaseRunsRow.holds Try.pinned (OpenSpec.ofChange leaseRunsSpec)

/-- ITS FALSE NEIGHBOUR: 'it returns false'. Refute it at one input. -/
def leaseRunsWrong : ChangeSpec := { name := "leaseRuns", fn := fun _ => fun
  | [d] => { results := [.lit (.bool false)], args := [d] }
  | _ => none }
def LeaseRunsWrongFalsely : Prop := leaseRunsRow.holds Try.pinned (OpenSpec.ofChange leaseRunsWrong)

/-- 'cordwoodlaw45.LeaseOthers': WHATEVER THE INPUT: true; the input reads as it did. -/
def leaseOthersSpec : ChangeSpec := { name := "leaseOthers", fn := fun _ => fun
  | [d1, d2, d3, d4] => { results := [.lit (.bool true)], args := [d1, d2, d3, d4] }
  | _ => none }
def leaseOthersRow : OpenClaim := { program := "ytghkldodceamcaa", sum := "e5e3c8311b5747180b61242e549ba9a1a0c7f4e273a94eddd8a5dc250501d5e7", func := "cordwood/cordwoodlaw45.LeaseOthers", spec := "leaseOthers", inPlace := ["internal/abi.NoEscape"], unfollowed := true, recurses := true, apart := false }
def LeaseOthersSaid : Prop := leaseOthersRow.holds Try.pinned (OpenSpec.ofChange leaseOthersSpec)

/-- ITS FALSE NEIGHBOUR: 'it returns false'. Refute it at one input. -/
def leaseOthersWrong : ChangeSpec := { name := "leaseOthers", fn := fun _ => fun
  | [d1, d2, d3, d4] => { results := [.lit (.bool false)], args := [d1, d2, d3, d4] }
  | _ => none }
def LeaseOthersWrongFalsely : Prop := leaseOthersRow.holds Try.pinned (OpenSpec.ofChange leaseOthersWrong)

/-- 'cordwoodlaw45.LeaseStrangers': WHATEVER THE INPUT: true; the input reads as it did. -/
def leaseStrangersSpec : ChangeSpec := { name := "leaseStrangers", fn := fun _ => fun
  | [d1, d2, d3, d4] => { results := [.lit (.bool true)], args := [d1, d2, d3, d4] }
  | _ => none }
def leaseStrangersRow : OpenClaim := { program := "ytghkldodceamcaa", sum := "e5e3c8311b5747180b61242e549ba9a1a0c7f4e273a94eddd8a5dc250501d5e7", func := "cordwood/cordwoodlaw45.LeaseStrangers", spec := "leaseStrangers", inPlace := ["internal/abi.NoEscape"], unfollowed := true, recurses := true, apart := false }
def LeaseStrangersSaid : Prop := leaseStrangersRow.holds Try.pinned (OpenSpec.ofChange leaseStrangersSpec)

/-- ITS FALSE NEIGHBOUR: 'it returns false'. Refute it at one input. -/
def leaseStrangersWrong : ChangeSpec := { name := "leaseStrangers", fn := fun _ => fun
  | [d1, d2, d3, d4] => { results := [.lit (.bool false)], args := [d1, d2, d3, d4] }
  | _ => none }
def LeaseStrangersWrongFalsely : Prop := leaseStrangersRow.holds Try.pinned (OpenSpec.ofChange leaseStrangersWrong)

/- THE SECOND FORM. 'bulk': how many values and letters a reading holds, each counted each time it is reached (what is shared counts as often as it is met; a slice's spare places count too). A statement '..UptoSaid' is the law's where the arguments, and the package variables that the reading takes, are together of bulk at most 1048576: NARROWER than '..Said'. Prove '..Said' where nothing that the law and all that it calls make is longer than what came in: it says more and counts as full. Else prove '..UptoSaid'. A law counts once. -/
mutual
def uptoBulk {H : Type} : DataW H → Nat
  | .lit (.string bytes) => bytes.length + 1
  | .lit _ => 1
  | .nil => 1
  | .ptr d => uptoBulk d + 1
  | .slice elems spare => uptoBulkAll elems + uptoBulkAll spare + 1
  | .agg parts => uptoBulkAll parts + 1
  | .iface _ d => uptoBulk d + 1
  | .map entries => uptoBulkEntries entries + 1
  | .held _ => 1
def uptoBulkAll {H : Type} : List (DataW H) → Nat
  | [] => 0
  | d :: r => uptoBulk d + uptoBulkAll r
def uptoBulkEntries {H : Type} : List (Lit × DataW H) → Nat
  | [] => 0
  | x :: r => uptoBulkEntry x + uptoBulkEntries r
def uptoBulkEntry {H : Type} : Lit × DataW H → Nat
  | (.string bytes, d) => bytes.length + uptoBulk d + 1
  | (_, d) => uptoBulk d + 1
 end
def uptoSmall : (H : Type) → List (DataW H) → Bool := fun _ ds => decide (uptoBulkAll ds ≤ 1048576)
def OpenSpec.upto (s : _root_.Go.ChangeSpec) : _root_.Go.OpenSpec := { _root_.Go.OpenSpec.ofChange s with cond := some uptoSmall }

/-- 'cordwoodlaw45.LeaseGrant', WHERE WHAT IT READS IS OF BULK AT MOST 1048576: true; the input reads as it did. -/
def leaseGrantUptoRow : OpenClaim := { program := "ytghkldodceamcaa", sum := "e5e3c8311b5747180b61242e549ba9a1a0c7f4e273a94eddd8a5dc250501d5e7", func := "cordwood/cordwoodlaw45.LeaseGrant", spec := "leaseGrant", inPlace := ["internal/abi.NoEscape"], unfollowed := true, recurses := true, apart := false, narrowed := true }
def LeaseGrantUptoSaid : Prop := leaseGrantUptoRow.holds Try.pinned (OpenSpec.upto leaseGrantSpec)

/-- 'cordwoodlaw45.LeaseTime', WHERE WHAT IT READS IS OF BULK AT MOST 1048576: true; the input reads as it did. -/
def leaseTimeUptoRow : OpenClaim := { program := "ytghkldodceamcaa", sum := "e5e3c8311b5747180b61242e549ba9a1a0c7f4e273a94eddd8a5dc250501d5e7", func := "cordwood/cordwoodlaw45.LeaseTime", spec := "leaseTime", inPlace := ["internal/abi.NoEscape"], unfollowed := true, recurses := true, apart := false, narrowed := true }
def LeaseTimeUptoSaid : Prop := leaseTimeUptoRow.holds Try.pinned (OpenSpec.upto leaseTimeSpec)

/-- 'cordwoodlaw45.LeaseAdvances', WHERE WHAT IT READS IS OF BULK AT MOST 1048576: true; the input reads as it did. -/
def leaseAdvancesUptoRow : OpenClaim := { program := "ytghkldodceamcaa", sum := "e5e3c8311b5747180b61242e549ba9a1a0c7f4e273a94eddd8a5dc250501d5e7", func := "cordwood/cordwoodlaw45.LeaseAdvances", spec := "leaseAdvances", inPlace := ["internal/abi.NoEscape"], unfollowed := true, recurses := true, apart := false, narrowed := true }
def LeaseAdvancesUptoSaid : Prop := leaseAdvancesUptoRow.holds Try.pinned (OpenSpec.upto leaseAdvancesSpec)

/-- 'cordwoodlaw45.LeaseChanges', WHERE WHAT IT READS IS OF BULK AT MOST 1048576: true; the input reads as it did. -/
def leaseChangesUptoRow : OpenClaim := { program := "ytghkldodceamcaa", sum := "e5e3c8311b5747180b61242e549ba9a1a0c7f4e273a94eddd8a5dc250501d5e7", func := "cordwood/cordwoodlaw45.LeaseChanges", spec := "leaseChanges", inPlace := ["internal/abi.NoEscape"], unfollowed := true, recurses := true, apart := false, narrowed := true }
def LeaseChangesUptoSaid : Prop := leaseChangesUptoRow.holds Try.pinned (OpenSpec.upto leaseChangesSpec)

/-- 'cordwoodlaw45.LeaseRuns', WHERE WHAT IT READS IS OF BULK AT MOST 1048576: true; the input reads as it did. -/
def leaseRunsUptoRow : OpenClaim := { program := "ytghkldodceamcaa", sum := "e5e3c8311b5747180b61242e549ba9a1a0c7f4e273a94eddd8a5dc250501d5e7", func := "cordwood/cordwoodlaw45.LeaseRuns", spec := "leaseRuns", inPlace := ["internal/abi.NoEscape"], unfollowed := true, recurses := true, apart := false, narrowed := true }
def LeaseRunsUptoSaid : Prop := leaseRunsUptoRow.holds Try.pinned (OpenSpec.upto leaseRunsSpec)

/-- 'cordwoodlaw45.LeaseOthers', WHERE WHAT IT READS IS OF BULK AT MOST 1048576: true; the input reads as it did. -/
def leaseOthersUptoRow : OpenClaim := { program := "ytghkldodceamcaa", sum := "e5e3c8311b5747180b61242e549ba9a1a0c7f4e273a94eddd8a5dc250501d5e7", func := "cordwood/cordwoodlaw45.LeaseOthers", spec := "leaseOthers", inPlace := ["internal/abi.NoEscape"], unfollowed := true, recurses := true, apart := false, narrowed := true }
def LeaseOthersUptoSaid : Prop := leaseOthersUptoRow.holds Try.pinned (OpenSpec.upto leaseOthersSpec)

/-- 'cordwoodlaw45.LeaseStrangers', WHERE WHAT IT READS IS OF BULK AT MOST 1048576: true; the input reads as it did. -/
def leaseStrangersUptoRow : OpenClaim := { program := "ytghkldodceamcaa", sum := "e5e3c8311b5747180b61242e549ba9a1a0c7f4e273a94eddd8a5dc250501d5e7", func := "cordwood/cordwoodlaw45.LeaseStrangers", spec := "leaseStrangers", inPlace := ["internal/abi.NoEscape"], unfollowed := true, recurses := true, apart := false, narrowed := true }
def LeaseStrangersUptoSaid : Prop := leaseStrangersUptoRow.holds Try.pinned (OpenSpec.upto leaseStrangersSpec)

end Rows
end Go.Proofs.Ytghkldodceamcaa
