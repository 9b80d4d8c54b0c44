/-
  No cell of these rows narrows 'for every input' (looked for: loops, veiled, ifaces, maps, wideKeys, modest, calm, conditions, laid).
  DERIVED. THE GIVEN ROWS OF THIS SEAT. 9 by the template 'for every input the law returns true; each argument reads behind the call as it read before'; 0 by the template 'total and deterministic' (their statements: YtmlkegopbdfiaaaTotals.lean).
  GIVEN WITH THE SEED: the statements are not yours to turn. If you find one false, say at which input.
  Laid BY PROGRAM, IN A SANDBOX (cutbox-rows.mjs): the forced cells as the released guide's own fill.sh prints them over the translation 42a2922567b33409… (all of the seat's roots in one cut). By AI agents, Wed Nov 11 2026. No macro, syntax, notation, axiom, sorry.
-/
import Derived.Test.YtmlkegopbdfiaaaChecked
import GoSem.Claim
import GoSem.ClaimJoined
import GoSem.ClaimMapViews
import Derived.JoinedTies
import Derived.KernelRfl
namespace Go.Proofs.Ytmlkegopbdfiaaa
/- THE CELL 'sum', in the pinned program and in every row, IS THE sha256 OF THE DUMP (.gsa) THAT YtmlkegopbdfiaaaProg.lean LOADS. Nothing in Lean hashes anything: it is a label: what it is worth is what the hold of that sum in a sandbox is worth. -/
noncomputable def Try.pinned : Pinned := { name := "ytmlkegopbdfiaaa", sum := "42a2922567b33409a15ccd4fb66abe56d6f083c0448174f86bc9c31a179c8554", checked := Try.checked }
namespace Rows
def none {H : Type} : Left H := { results := [], args := [] }

/-- 'cordwoodlaw52.SprtCheck': WHATEVER THE INPUT: true; the input reads as it did. -/
def sprtCheckSpec : ChangeSpec := { name := "sprtCheck", fn := fun _ => fun
  | [d] => { results := [.lit (.bool true)], args := [d] }
  | _ => none }
def sprtCheckRow : OpenClaim := { program := "ytmlkegopbdfiaaa", sum := "42a2922567b33409a15ccd4fb66abe56d6f083c0448174f86bc9c31a179c8554", func := "cordwood/cordwoodlaw52.SprtCheck", spec := "sprtCheck", unfollowed := true, recurses := true, apart := false }
def SprtCheckSaid : Prop := sprtCheckRow.holds Try.pinned (OpenSpec.ofChange sprtCheckSpec)

/-- ITS FALSE NEIGHBOUR: 'it returns false'. Refute it at one input. -/
def sprtCheckWrong : ChangeSpec := { name := "sprtCheck", fn := fun _ => fun
  | [d] => { results := [.lit (.bool false)], args := [d] }
  | _ => none }
def SprtCheckWrongFalsely : Prop := sprtCheckRow.holds Try.pinned (OpenSpec.ofChange sprtCheckWrong)

/-- 'cordwoodlaw52.SprtDecide': WHATEVER THE INPUT: true; the input reads as it did. -/
def sprtDecideSpec : ChangeSpec := { name := "sprtDecide", fn := fun _ => fun
  | [d1, d2, d3] => { results := [.lit (.bool true)], args := [d1, d2, d3] }
  | _ => none }
def sprtDecideRow : OpenClaim := { program := "ytmlkegopbdfiaaa", sum := "42a2922567b33409a15ccd4fb66abe56d6f083c0448174f86bc9c31a179c8554", func := "cordwood/cordwoodlaw52.SprtDecide", spec := "sprtDecide", unfollowed := true, recurses := true, apart := false }
def SprtDecideSaid : Prop := sprtDecideRow.holds Try.pinned (OpenSpec.ofChange sprtDecideSpec)

/-- ITS FALSE NEIGHBOUR: 'it returns false'. Refute it at one input. -/
def sprtDecideWrong : ChangeSpec := { name := "sprtDecide", fn := fun _ => fun
  | [d1, d2, d3] => { results := [.lit (.bool false)], args := [d1, d2, d3] }
  | _ => none }
def SprtDecideWrongFalsely : Prop := sprtDecideRow.holds Try.pinned (OpenSpec.ofChange sprtDecideWrong)

/-- 'cordwoodlaw52.SprtRun': WHATEVER THE INPUT: true; the input reads as it did. -/
def sprtRunSpec : ChangeSpec := { name := "sprtRun", fn := fun _ => fun
  | [d1, d2] => { results := [.lit (.bool true)], args := [d1, d2] }
  | _ => none }
def sprtRunRow : OpenClaim := { program := "ytmlkegopbdfiaaa", sum := "42a2922567b33409a15ccd4fb66abe56d6f083c0448174f86bc9c31a179c8554", func := "cordwood/cordwoodlaw52.SprtRun", spec := "sprtRun", unfollowed := true, recurses := true, apart := false }
def SprtRunSaid : Prop := sprtRunRow.holds Try.pinned (OpenSpec.ofChange sprtRunSpec)

/-- ITS FALSE NEIGHBOUR: 'it returns false'. Refute it at one input. -/
def sprtRunWrong : ChangeSpec := { name := "sprtRun", fn := fun _ => fun
  | [d1, d2] => { results := [.lit (.bool false)], args := [d1, d2] }
  | _ => none }
def SprtRunWrongFalsely : Prop := sprtRunRow.holds Try.pinned (OpenSpec.ofChange sprtRunWrong)

/-- 'cordwoodlaw52.SprtFirst': WHATEVER THE INPUT: true; the input reads as it did. -/
def sprtFirstSpec : ChangeSpec := { name := "sprtFirst", fn := fun _ => fun
  | [d1, d2] => { results := [.lit (.bool true)], args := [d1, d2] }
  | _ => none }
def sprtFirstRow : OpenClaim := { program := "ytmlkegopbdfiaaa", sum := "42a2922567b33409a15ccd4fb66abe56d6f083c0448174f86bc9c31a179c8554", func := "cordwood/cordwoodlaw52.SprtFirst", spec := "sprtFirst", unfollowed := true, recurses := true, apart := false }
def SprtFirstSaid : Prop := sprtFirstRow.holds Try.pinned (OpenSpec.ofChange sprtFirstSpec)

/-- ITS FALSE NEIGHBOUR: 'it returns false'. Refute it at one input. -/
def sprtFirstWrong : ChangeSpec := { name := "sprtFirst", fn := fun _ => fun
  | [d1, d2] => { results := [.lit (.bool false)], args := [d1, d2] }
  | _ => none }
def SprtFirstWrongFalsely : Prop := sprtFirstRow.holds Try.pinned (OpenSpec.ofChange sprtFirstWrong)

/-- 'cordwoodlaw52.SprtMonotone': WHATEVER THE INPUT: true; the input reads as it did. -/
def sprtMonotoneSpec : ChangeSpec := { name := "sprtMonotone", fn := fun _ => fun
  | [d1, d2, d3] => { results := [.lit (.bool true)], args := [d1, d2, d3] }
  | _ => none }
def sprtMonotoneRow : OpenClaim := { program := "ytmlkegopbdfiaaa", sum := "42a2922567b33409a15ccd4fb66abe56d6f083c0448174f86bc9c31a179c8554", func := "cordwood/cordwoodlaw52.SprtMonotone", spec := "sprtMonotone", unfollowed := true, recurses := true, apart := false }
def SprtMonotoneSaid : Prop := sprtMonotoneRow.holds Try.pinned (OpenSpec.ofChange sprtMonotoneSpec)

/-- ITS FALSE NEIGHBOUR: 'it returns false'. Refute it at one input. -/
def sprtMonotoneWrong : ChangeSpec := { name := "sprtMonotone", fn := fun _ => fun
  | [d1, d2, d3] => { results := [.lit (.bool false)], args := [d1, d2, d3] }
  | _ => none }
def SprtMonotoneWrongFalsely : Prop := sprtMonotoneRow.holds Try.pinned (OpenSpec.ofChange sprtMonotoneWrong)

/-- 'cordwoodlaw52.SprtMirror': WHATEVER THE INPUT: true; the input reads as it did. -/
def sprtMirrorSpec : ChangeSpec := { name := "sprtMirror", fn := fun _ => fun
  | [d1, d2, d3] => { results := [.lit (.bool true)], args := [d1, d2, d3] }
  | _ => none }
def sprtMirrorRow : OpenClaim := { program := "ytmlkegopbdfiaaa", sum := "42a2922567b33409a15ccd4fb66abe56d6f083c0448174f86bc9c31a179c8554", func := "cordwood/cordwoodlaw52.SprtMirror", spec := "sprtMirror", unfollowed := true, recurses := true, apart := false }
def SprtMirrorSaid : Prop := sprtMirrorRow.holds Try.pinned (OpenSpec.ofChange sprtMirrorSpec)

/-- ITS FALSE NEIGHBOUR: 'it returns false'. Refute it at one input. -/
def sprtMirrorWrong : ChangeSpec := { name := "sprtMirror", fn := fun _ => fun
  | [d1, d2, d3] => { results := [.lit (.bool false)], args := [d1, d2, d3] }
  | _ => none }
def SprtMirrorWrongFalsely : Prop := sprtMirrorRow.holds Try.pinned (OpenSpec.ofChange sprtMirrorWrong)

/-- 'cordwoodlaw52.SprtEnds': WHATEVER THE INPUT: true; the input reads as it did. -/
def sprtEndsSpec : ChangeSpec := { name := "sprtEnds", fn := fun _ => fun
  | [d1, d2] => { results := [.lit (.bool true)], args := [d1, d2] }
  | _ => none }
def sprtEndsRow : OpenClaim := { program := "ytmlkegopbdfiaaa", sum := "42a2922567b33409a15ccd4fb66abe56d6f083c0448174f86bc9c31a179c8554", func := "cordwood/cordwoodlaw52.SprtEnds", spec := "sprtEnds", unfollowed := true, recurses := true, apart := false }
def SprtEndsSaid : Prop := sprtEndsRow.holds Try.pinned (OpenSpec.ofChange sprtEndsSpec)

/-- ITS FALSE NEIGHBOUR: 'it returns false'. Refute it at one input. -/
def sprtEndsWrong : ChangeSpec := { name := "sprtEnds", fn := fun _ => fun
  | [d1, d2] => { results := [.lit (.bool false)], args := [d1, d2] }
  | _ => none }
def SprtEndsWrongFalsely : Prop := sprtEndsRow.holds Try.pinned (OpenSpec.ofChange sprtEndsWrong)

/-- 'cordwoodlaw52.SprtComplete': WHATEVER THE INPUT: true; the input reads as it did. -/
def sprtCompleteSpec : ChangeSpec := { name := "sprtComplete", fn := fun _ => fun
  | [d1, d2] => { results := [.lit (.bool true)], args := [d1, d2] }
  | _ => none }
def sprtCompleteRow : OpenClaim := { program := "ytmlkegopbdfiaaa", sum := "42a2922567b33409a15ccd4fb66abe56d6f083c0448174f86bc9c31a179c8554", func := "cordwood/cordwoodlaw52.SprtComplete", spec := "sprtComplete", unfollowed := true, recurses := true, apart := false }
def SprtCompleteSaid : Prop := sprtCompleteRow.holds Try.pinned (OpenSpec.ofChange sprtCompleteSpec)

/-- ITS FALSE NEIGHBOUR: 'it returns false'. Refute it at one input. -/
def sprtCompleteWrong : ChangeSpec := { name := "sprtComplete", fn := fun _ => fun
  | [d1, d2] => { results := [.lit (.bool false)], args := [d1, d2] }
  | _ => none }
def SprtCompleteWrongFalsely : Prop := sprtCompleteRow.holds Try.pinned (OpenSpec.ofChange sprtCompleteWrong)

/-- 'cordwoodlaw52.SprtRisks': WHATEVER THE INPUT: true; the input reads as it did. -/
def sprtRisksSpec : ChangeSpec := { name := "sprtRisks", fn := fun _ => fun
  | [d1, d2] => { results := [.lit (.bool true)], args := [d1, d2] }
  | _ => none }
def sprtRisksRow : OpenClaim := { program := "ytmlkegopbdfiaaa", sum := "42a2922567b33409a15ccd4fb66abe56d6f083c0448174f86bc9c31a179c8554", func := "cordwood/cordwoodlaw52.SprtRisks", spec := "sprtRisks", unfollowed := true, recurses := true, apart := false }
def SprtRisksSaid : Prop := sprtRisksRow.holds Try.pinned (OpenSpec.ofChange sprtRisksSpec)

/-- ITS FALSE NEIGHBOUR: 'it returns false'. Refute it at one input. -/
def sprtRisksWrong : ChangeSpec := { name := "sprtRisks", fn := fun _ => fun
  | [d1, d2] => { results := [.lit (.bool false)], args := [d1, d2] }
  | _ => none }
def SprtRisksWrongFalsely : Prop := sprtRisksRow.holds Try.pinned (OpenSpec.ofChange sprtRisksWrong)

/- THE SECOND FORM. 'bulk': how many values and letters a reading holds, each counted each time it is reached (what is shared counts as often as it is met; a slice's spare places count too). A statement '..UptoSaid' is the law's where the arguments, and the package variables that the reading takes, are together of bulk at most 1048576: NARROWER than '..Said'. Prove '..Said' where nothing that the law and all that it calls make is longer than what came in: it says more and counts as full. Else prove '..UptoSaid'. A law counts once. -/
mutual
def uptoBulk {H : Type} : DataW H → Nat
  | .lit (.string bytes) => bytes.length + 1
  | .lit _ => 1
  | .nil => 1
  | .ptr d => uptoBulk d + 1
  | .slice elems spare => uptoBulkAll elems + uptoBulkAll spare + 1
  | .agg parts => uptoBulkAll parts + 1
  | .iface _ d => uptoBulk d + 1
  | .map entries => uptoBulkEntries entries + 1
  | .held _ => 1
def uptoBulkAll {H : Type} : List (DataW H) → Nat
  | [] => 0
  | d :: r => uptoBulk d + uptoBulkAll r
def uptoBulkEntries {H : Type} : List (Lit × DataW H) → Nat
  | [] => 0
  | x :: r => uptoBulkEntry x + uptoBulkEntries r
def uptoBulkEntry {H : Type} : Lit × DataW H → Nat
  | (.string bytes, d) => bytes.length + uptoBulk d + 1
  | (_, d) => uptoBulk d + 1
 end
def uptoSmall : (H : Type) → List (DataW H) → Bool := fun _ ds => decide (uptoBulkAll ds ≤ 1048576)
def OpenSpec.upto (s : _root_.Go.ChangeSpec) : _root_.Go.OpenSpec := { _root_.Go.OpenSpec.ofChange s with cond := some uptoSmall }

/-- 'cordwoodlaw52.SprtCheck', WHERE WHAT IT READS IS OF BULK AT MOST 1048576: true; the input reads as it did. -/
def sprtCheckUptoRow : OpenClaim := { program := "ytmlkegopbdfiaaa", sum := "42a2922567b33409a15ccd4fb66abe56d6f083c0448174f86bc9c31a179c8554", func := "cordwood/cordwoodlaw52.SprtCheck", spec := "sprtCheck", unfollowed := true, recurses := true, apart := false, narrowed := true }
def SprtCheckUptoSaid : Prop := sprtCheckUptoRow.holds Try.pinned (OpenSpec.upto sprtCheckSpec)

/-- 'cordwoodlaw52.SprtDecide', WHERE WHAT IT READS IS OF BULK AT MOST 1048576: true; the input reads as it did. -/
def sprtDecideUptoRow : OpenClaim := { program := "ytmlkegopbdfiaaa", sum := "42a2922567b33409a15ccd4fb66abe56d6f083c0448174f86bc9c31a179c8554", func := "cordwood/cordwoodlaw52.SprtDecide", spec := "sprtDecide", unfollowed := true, recurses := true, apart := false, narrowed := true }
def SprtDecideUptoSaid : Prop := sprtDecideUptoRow.holds Try.pinned (OpenSpec.upto sprtDecideSpec)

/-- 'cordwoodlaw52.SprtRun', WHERE WHAT IT READS IS OF BULK AT MOST 1048576: true; the input reads as it did. -/
def sprtRunUptoRow : OpenClaim := { program := "ytmlkegopbdfiaaa", sum := "42a2922567b33409a15ccd4fb66abe56d6f083c0448174f86bc9c31a179c8554", func := "cordwood/cordwoodlaw52.SprtRun", spec := "sprtRun", unfollowed := true, recurses := true, apart := false, narrowed := true }
def SprtRunUptoSaid : Prop := sprtRunUptoRow.holds Try.pinned (OpenSpec.upto sprtRunSpec)

/-- 'cordwoodlaw52.SprtFirst', WHERE WHAT IT READS IS OF BULK AT MOST 1048576: true; the input reads as it did. -/
def sprtFirstUptoRow : OpenClaim := { program := "ytmlkegopbdfiaaa", sum := "42a2922567b33409a15ccd4fb66abe56d6f083c0448174f86bc9c31a179c8554", func := "cordwood/cordwoodlaw52.SprtFirst", spec := "sprtFirst", unfollowed := true, recurses := true, apart := false, narrowed := true }
def SprtFirstUptoSaid : Prop := sprtFirstUptoRow.holds Try.pinned (OpenSpec.upto sprtFirstSpec)

/-- 'cordwoodlaw52.SprtMonotone', WHERE WHAT IT READS IS OF BULK AT MOST 1048576: true; the input reads as it did. -/
def sprtMonotoneUptoRow : OpenClaim := { program := "ytmlkegopbdfiaaa", sum := "42a2922567b33409a15ccd4fb66abe56d6f083c0448174f86bc9c31a179c8554", func := "cordwood/cordwoodlaw52.SprtMonotone", spec := "sprtMonotone", unfollowed := true, recurses := true, apart := false, narrowed := true }
def SprtMonotoneUptoSaid : Prop := sprtMonotoneUptoRow.holds Try.pinned (OpenSpec.upto sprtMonotoneSpec)

/-- 'cordwoodlaw52.SprtMirror', WHERE WHAT IT READS IS OF BULK AT MOST 1048576: true; the input reads as it did. -/
def sprtMirrorUptoRow : OpenClaim := { program := "ytmlkegopbdfiaaa", sum := "42a2922567b33409a15ccd4fb66abe56d6f083c0448174f86bc9c31a179c8554", func := "cordwood/cordwoodlaw52.SprtMirror", spec := "sprtMirror", unfollowed := true, recurses := true, apart := false, narrowed := true }
def SprtMirrorUptoSaid : Prop := sprtMirrorUptoRow.holds Try.pinned (OpenSpec.upto sprtMirrorSpec)

/-- 'cordwoodlaw52.SprtEnds', WHERE WHAT IT READS IS OF BULK AT MOST 1048576: true; the input reads as it did. -/
def sprtEndsUptoRow : OpenClaim := { program := "ytmlkegopbdfiaaa", sum := "42a2922567b33409a15ccd4fb66abe56d6f083c0448174f86bc9c31a179c8554", func := "cordwood/cordwoodlaw52.SprtEnds", spec := "sprtEnds", unfollowed := true, recurses := true, apart := false, narrowed := true }
def SprtEndsUptoSaid : Prop := sprtEndsUptoRow.holds Try.pinned (OpenSpec.upto sprtEndsSpec)

/-- 'cordwoodlaw52.SprtComplete', WHERE WHAT IT READS IS OF BULK AT MOST 1048576: true; the input reads as it did. -/
def sprtCompleteUptoRow : OpenClaim := { program := "ytmlkegopbdfiaaa", sum := "42a2922567b33409a15ccd4fb66abe56d6f083c0448174f86bc9c31a179c8554", func := "cordwood/cordwoodlaw52.SprtComplete", spec := "sprtComplete", unfollowed := true, recurses := true, apart := false, narrowed := true }
def SprtCompleteUptoSaid : Prop := sprtCompleteUptoRow.holds Try.pinned (OpenSpec.upto sprtCompleteSpec)

/-- 'cordwoodlaw52.SprtRisks', WHERE WHAT IT READS IS OF BULK AT MOST 1048576: true; the input reads as it did. -/
def sprtRisksUptoRow : OpenClaim := { program := "ytmlkegopbdfiaaa", sum := "42a2922567b33409a15ccd4fb66abe56d6f083c0448174f86bc9c31a179c8554", func := "cordwood/cordwoodlaw52.SprtRisks", spec := "sprtRisks", unfollowed := true, recurses := true, apart := false, narrowed := true }
def SprtRisksUptoSaid : Prop := sprtRisksUptoRow.holds Try.pinned (OpenSpec.upto sprtRisksSpec)

end Rows
end Go.Proofs.Ytmlkegopbdfiaaa
