/-
  No cell of these rows narrows 'for every input' (looked for: loops, veiled, ifaces, maps, wideKeys, modest, calm, conditions, laid).
  DERIVED. THE GIVEN ROWS OF THIS SEAT. 8 by the template 'for every input the law returns true; each argument reads behind the call as it read before'; 0 by the template 'total and deterministic' (their statements: YtnjcoejnknpfoaaTotals.lean).
  GIVEN WITH THE SEED: the statements are not yours to turn. If you find one false, say at which input.
  Laid BY PROGRAM, IN A SANDBOX (cutbox-rows.mjs): the forced cells as the released guide's own fill.sh prints them over the translation 0f202a8dbc8467f7… (all of the seat's roots in one cut). By AI agents, Wed Nov 11 2026. No macro, syntax, notation, axiom, sorry.
-/
import Derived.Test.YtnjcoejnknpfoaaChecked
import GoSem.Claim
import GoSem.ClaimJoined
import GoSem.ClaimMapViews
import Derived.JoinedTies
import Derived.KernelRfl
namespace Go.Proofs.Ytnjcoejnknpfoaa
/- THE CELL 'sum', in the pinned program and in every row, IS THE sha256 OF THE DUMP (.gsa) THAT YtnjcoejnknpfoaaProg.lean LOADS. Nothing in Lean hashes anything: it is a label: what it is worth is what the hold of that sum in a sandbox is worth. -/
noncomputable def Try.pinned : Pinned := { name := "ytnjcoejnknpfoaa", sum := "0f202a8dbc8467f7972041664703631cb42827a2c5df8491faf7c2b3f594421f", checked := Try.checked }
namespace Rows
def none {H : Type} : Left H := { results := [], args := [] }

/-- 'cordwoodlaw57.MinimalSteps': WHATEVER THE INPUT: true; the input reads as it did. -/
def minimalStepsSpec : ChangeSpec := { name := "minimalSteps", fn := fun _ => fun
  | [d1, d2] => { results := [.lit (.bool true)], args := [d1, d2] }
  | _ => none }
def minimalStepsRow : OpenClaim := { program := "ytnjcoejnknpfoaa", sum := "0f202a8dbc8467f7972041664703631cb42827a2c5df8491faf7c2b3f594421f", func := "cordwood/cordwoodlaw57.MinimalSteps", spec := "minimalSteps", unfollowed := true, recurses := true, apart := false }
def MinimalStepsSaid : Prop := minimalStepsRow.holds Try.pinned (OpenSpec.ofChange minimalStepsSpec)

/-- ITS FALSE NEIGHBOUR: 'it returns false'. Refute it at one input. -/
def minimalStepsWrong : ChangeSpec := { name := "minimalSteps", fn := fun _ => fun
  | [d1, d2] => { results := [.lit (.bool false)], args := [d1, d2] }
  | _ => none }
def MinimalStepsWrongFalsely : Prop := minimalStepsRow.holds Try.pinned (OpenSpec.ofChange minimalStepsWrong)

/-- 'cordwoodlaw57.MinimalTell': WHATEVER THE INPUT: true; the input reads as it did. -/
def minimalTellSpec : ChangeSpec := { name := "minimalTell", fn := fun _ => fun
  | [d1, d2, d3] => { results := [.lit (.bool true)], args := [d1, d2, d3] }
  | _ => none }
def minimalTellRow : OpenClaim := { program := "ytnjcoejnknpfoaa", sum := "0f202a8dbc8467f7972041664703631cb42827a2c5df8491faf7c2b3f594421f", func := "cordwood/cordwoodlaw57.MinimalTell", spec := "minimalTell", unfollowed := true, recurses := true, apart := false }
def MinimalTellSaid : Prop := minimalTellRow.holds Try.pinned (OpenSpec.ofChange minimalTellSpec)

/-- ITS FALSE NEIGHBOUR: 'it returns false'. Refute it at one input. -/
def minimalTellWrong : ChangeSpec := { name := "minimalTell", fn := fun _ => fun
  | [d1, d2, d3] => { results := [.lit (.bool false)], args := [d1, d2, d3] }
  | _ => none }
def MinimalTellWrongFalsely : Prop := minimalTellRow.holds Try.pinned (OpenSpec.ofChange minimalTellWrong)

/-- 'cordwoodlaw57.MinimalSmallest': WHATEVER THE INPUT: true; the input reads as it did. -/
def minimalSmallestSpec : ChangeSpec := { name := "minimalSmallest", fn := fun _ => fun
  | [d1, d2] => { results := [.lit (.bool true)], args := [d1, d2] }
  | _ => none }
def minimalSmallestRow : OpenClaim := { program := "ytnjcoejnknpfoaa", sum := "0f202a8dbc8467f7972041664703631cb42827a2c5df8491faf7c2b3f594421f", func := "cordwood/cordwoodlaw57.MinimalSmallest", spec := "minimalSmallest", unfollowed := true, recurses := true, apart := false }
def MinimalSmallestSaid : Prop := minimalSmallestRow.holds Try.pinned (OpenSpec.ofChange minimalSmallestSpec)

/-- ITS FALSE NEIGHBOUR: 'it returns false'. Refute it at one input. -/
def minimalSmallestWrong : ChangeSpec := { name := "minimalSmallest", fn := fun _ => fun
  | [d1, d2] => { results := [.lit (.bool false)], args := [d1, d2] }
  | _ => none }
def MinimalSmallestWrongFalsely : Prop := minimalSmallestRow.holds Try.pinned (OpenSpec.ofChange minimalSmallestWrong)

/-- 'cordwoodlaw57.MinimalOne': WHATEVER THE INPUT: true; the input reads as it did. -/
def minimalOneSpec : ChangeSpec := { name := "minimalOne", fn := fun _ => fun
  | [d1, d2] => { results := [.lit (.bool true)], args := [d1, d2] }
  | _ => none }
def minimalOneRow : OpenClaim := { program := "ytnjcoejnknpfoaa", sum := "0f202a8dbc8467f7972041664703631cb42827a2c5df8491faf7c2b3f594421f", func := "cordwood/cordwoodlaw57.MinimalOne", spec := "minimalOne", unfollowed := true, recurses := true, apart := false }
def MinimalOneSaid : Prop := minimalOneRow.holds Try.pinned (OpenSpec.ofChange minimalOneSpec)

/-- ITS FALSE NEIGHBOUR: 'it returns false'. Refute it at one input. -/
def minimalOneWrong : ChangeSpec := { name := "minimalOne", fn := fun _ => fun
  | [d1, d2] => { results := [.lit (.bool false)], args := [d1, d2] }
  | _ => none }
def MinimalOneWrongFalsely : Prop := minimalOneRow.holds Try.pinned (OpenSpec.ofChange minimalOneWrong)

/-- 'cordwoodlaw57.MinimalMonotone': WHATEVER THE INPUT: true; the input reads as it did. -/
def minimalMonotoneSpec : ChangeSpec := { name := "minimalMonotone", fn := fun _ => fun
  | [d1, d2] => { results := [.lit (.bool true)], args := [d1, d2] }
  | _ => none }
def minimalMonotoneRow : OpenClaim := { program := "ytnjcoejnknpfoaa", sum := "0f202a8dbc8467f7972041664703631cb42827a2c5df8491faf7c2b3f594421f", func := "cordwood/cordwoodlaw57.MinimalMonotone", spec := "minimalMonotone", unfollowed := true, recurses := true, apart := false }
def MinimalMonotoneSaid : Prop := minimalMonotoneRow.holds Try.pinned (OpenSpec.ofChange minimalMonotoneSpec)

/-- ITS FALSE NEIGHBOUR: 'it returns false'. Refute it at one input. -/
def minimalMonotoneWrong : ChangeSpec := { name := "minimalMonotone", fn := fun _ => fun
  | [d1, d2] => { results := [.lit (.bool false)], args := [d1, d2] }
  | _ => none }
def MinimalMonotoneWrongFalsely : Prop := minimalMonotoneRow.holds Try.pinned (OpenSpec.ofChange minimalMonotoneWrong)

/-- 'cordwoodlaw57.MinimalQuestions': WHATEVER THE INPUT: true; the input reads as it did. -/
def minimalQuestionsSpec : ChangeSpec := { name := "minimalQuestions", fn := fun _ => fun
  | [d1, d2] => { results := [.lit (.bool true)], args := [d1, d2] }
  | _ => none }
def minimalQuestionsRow : OpenClaim := { program := "ytnjcoejnknpfoaa", sum := "0f202a8dbc8467f7972041664703631cb42827a2c5df8491faf7c2b3f594421f", func := "cordwood/cordwoodlaw57.MinimalQuestions", spec := "minimalQuestions", unfollowed := true, recurses := true, apart := false }
def MinimalQuestionsSaid : Prop := minimalQuestionsRow.holds Try.pinned (OpenSpec.ofChange minimalQuestionsSpec)

/-- ITS FALSE NEIGHBOUR: 'it returns false'. Refute it at one input. -/
def minimalQuestionsWrong : ChangeSpec := { name := "minimalQuestions", fn := fun _ => fun
  | [d1, d2] => { results := [.lit (.bool false)], args := [d1, d2] }
  | _ => none }
def MinimalQuestionsWrongFalsely : Prop := minimalQuestionsRow.holds Try.pinned (OpenSpec.ofChange minimalQuestionsWrong)

/-- 'cordwoodlaw57.MinimalStates': WHATEVER THE INPUT: true; the input reads as it did. -/
def minimalStatesSpec : ChangeSpec := { name := "minimalStates", fn := fun _ => fun
  | [d1, d2, d3] => { results := [.lit (.bool true)], args := [d1, d2, d3] }
  | _ => none }
def minimalStatesRow : OpenClaim := { program := "ytnjcoejnknpfoaa", sum := "0f202a8dbc8467f7972041664703631cb42827a2c5df8491faf7c2b3f594421f", func := "cordwood/cordwoodlaw57.MinimalStates", spec := "minimalStates", unfollowed := true, recurses := true, apart := false }
def MinimalStatesSaid : Prop := minimalStatesRow.holds Try.pinned (OpenSpec.ofChange minimalStatesSpec)

/-- ITS FALSE NEIGHBOUR: 'it returns false'. Refute it at one input. -/
def minimalStatesWrong : ChangeSpec := { name := "minimalStates", fn := fun _ => fun
  | [d1, d2, d3] => { results := [.lit (.bool false)], args := [d1, d2, d3] }
  | _ => none }
def MinimalStatesWrongFalsely : Prop := minimalStatesRow.holds Try.pinned (OpenSpec.ofChange minimalStatesWrong)

/-- 'cordwoodlaw57.MinimalWhole': WHATEVER THE INPUT: true; the input reads as it did. -/
def minimalWholeSpec : ChangeSpec := { name := "minimalWhole", fn := fun _ => fun
  | [d] => { results := [.lit (.bool true)], args := [d] }
  | _ => none }
def minimalWholeRow : OpenClaim := { program := "ytnjcoejnknpfoaa", sum := "0f202a8dbc8467f7972041664703631cb42827a2c5df8491faf7c2b3f594421f", func := "cordwood/cordwoodlaw57.MinimalWhole", spec := "minimalWhole", unfollowed := true, recurses := true, apart := false }
def MinimalWholeSaid : Prop := minimalWholeRow.holds Try.pinned (OpenSpec.ofChange minimalWholeSpec)

/-- ITS FALSE NEIGHBOUR: 'it returns false'. Refute it at one input. -/
def minimalWholeWrong : ChangeSpec := { name := "minimalWhole", fn := fun _ => fun
  | [d] => { results := [.lit (.bool false)], args := [d] }
  | _ => none }
def MinimalWholeWrongFalsely : Prop := minimalWholeRow.holds Try.pinned (OpenSpec.ofChange minimalWholeWrong)

/- THE SECOND FORM. 'bulk': how many values and letters a reading holds, each counted each time it is reached (what is shared counts as often as it is met; a slice's spare places count too). A statement '..UptoSaid' is the law's where the arguments, and the package variables that the reading takes, are together of bulk at most 1048576: NARROWER than '..Said'. Prove '..Said' where nothing that the law and all that it calls make is longer than what came in: it says more and counts as full. Else prove '..UptoSaid'. A law counts once. -/
mutual
def uptoBulk {H : Type} : DataW H → Nat
  | .lit (.string bytes) => bytes.length + 1
  | .lit _ => 1
  | .nil => 1
  | .ptr d => uptoBulk d + 1
  | .slice elems spare => uptoBulkAll elems + uptoBulkAll spare + 1
  | .agg parts => uptoBulkAll parts + 1
  | .iface _ d => uptoBulk d + 1
  | .map entries => uptoBulkEntries entries + 1
  | .held _ => 1
def uptoBulkAll {H : Type} : List (DataW H) → Nat
  | [] => 0
  | d :: r => uptoBulk d + uptoBulkAll r
def uptoBulkEntries {H : Type} : List (Lit × DataW H) → Nat
  | [] => 0
  | x :: r => uptoBulkEntry x + uptoBulkEntries r
def uptoBulkEntry {H : Type} : Lit × DataW H → Nat
  | (.string bytes, d) => bytes.length + uptoBulk d + 1
  | (_, d) => uptoBulk d + 1
 end
def uptoSmall : (H : Type) → List (DataW H) → Bool := fun _ ds => decide (uptoBulkAll ds ≤ 1048576)
def OpenSpec.upto (s : _root_.Go.ChangeSpec) : _root_.Go.OpenSpec := { _root_.Go.OpenSpec.ofChange s with cond := some uptoSmall }

/-- 'cordwoodlaw57.MinimalSteps', WHERE WHAT IT READS IS OF BULK AT MOST 1048576: true; the input reads as it did. -/
def minimalStepsUptoRow : OpenClaim := { program := "ytnjcoejnknpfoaa", sum := "0f202a8dbc8467f7972041664703631cb42827a2c5df8491faf7c2b3f594421f", func := "cordwood/cordwoodlaw57.MinimalSteps", spec := "minimalSteps", unfollowed := true, recurses := true, apart := false, narrowed := true }
def MinimalStepsUptoSaid : Prop := minimalStepsUptoRow.holds Try.pinned (OpenSpec.upto minimalStepsSpec)

/-- 'cordwoodlaw57.MinimalTell', WHERE WHAT IT READS IS OF BULK AT MOST 1048576: true; the input reads as it did. -/
def minimalTellUptoRow : OpenClaim := { program := "ytnjcoejnknpfoaa", sum := "0f202a8dbc8467f7972041664703631cb42827a2c5df8491faf7c2b3f594421f", func := "cordwood/cordwoodlaw57.MinimalTell", spec := "minimalTell", unfollowed := true, recurses := true, apart := false, narrowed := true }
def MinimalTellUptoSaid : Prop := minimalTellUptoRow.holds Try.pinned (OpenSpec.upto minimalTellSpec)

/-- 'cordwoodlaw57.MinimalSmallest', WHERE WHAT IT READS IS OF BULK AT MOST 1048576: true; the input reads as it did. -/
def minimalSmallestUptoRow : OpenClaim := { program := "ytnjcoejnknpfoaa", sum := "0f202a8dbc8467f7972041664703631cb42827a2c5df8491faf7c2b3f594421f", func := "cordwood/cordwoodlaw57.MinimalSmallest", spec := "minimalSmallest", unfollowed := true, recurses := true, apart := false, narrowed := true }
def MinimalSmallestUptoSaid : Prop := minimalSmallestUptoRow.holds Try.pinned (OpenSpec.upto minimalSmallestSpec)

/-- 'cordwoodlaw57.MinimalOne', WHERE WHAT IT READS IS OF BULK AT MOST 1048576: true; the input reads as it did. -/
def minimalOneUptoRow : OpenClaim := { program := "ytnjcoejnknpfoaa", sum := "0f202a8dbc8467f7972041664703631cb42827a2c5df8491faf7c2b3f594421f", func := "cordwood/cordwoodlaw57.MinimalOne", spec := "minimalOne", unfollowed := true, recurses := true, apart := false, narrowed := true }
def MinimalOneUptoSaid : Prop := minimalOneUptoRow.holds Try.pinned (OpenSpec.upto minimalOneSpec)

/-- 'cordwoodlaw57.MinimalMonotone', WHERE WHAT IT READS IS OF BULK AT MOST 1048576: true; the input reads as it did. -/
def minimalMonotoneUptoRow : OpenClaim := { program := "ytnjcoejnknpfoaa", sum := "0f202a8dbc8467f7972041664703631cb42827a2c5df8491faf7c2b3f594421f", func := "cordwood/cordwoodlaw57.MinimalMonotone", spec := "minimalMonotone", unfollowed := true, recurses := true, apart := false, narrowed := true }
def MinimalMonotoneUptoSaid : Prop := minimalMonotoneUptoRow.holds Try.pinned (OpenSpec.upto minimalMonotoneSpec)

/-- 'cordwoodlaw57.MinimalQuestions', WHERE WHAT IT READS IS OF BULK AT MOST 1048576: true; the input reads as it did. -/
def minimalQuestionsUptoRow : OpenClaim := { program := "ytnjcoejnknpfoaa", sum := "0f202a8dbc8467f7972041664703631cb42827a2c5df8491faf7c2b3f594421f", func := "cordwood/cordwoodlaw57.MinimalQuestions", spec := "minimalQuestions", unfollowed := true, recurses := true, apart := false, narrowed := true }
def MinimalQuestionsUptoSaid : Prop := minimalQuestionsUptoRow.holds Try.pinned (OpenSpec.upto minimalQuestionsSpec)

/-- 'cordwoodlaw57.MinimalStates', WHERE WHAT IT READS IS OF BULK AT MOST 1048576: true; the input reads as it did. -/
def minimalStatesUptoRow : OpenClaim := { program := "ytnjcoejnknpfoaa", sum := "0f202a8dbc8467f7972041664703631cb42827a2c5df8491faf7c2b3f594421f", func := "cordwood/cordwoodlaw57.MinimalStates", spec := "minimalStates", unfollowed := true, recurses := true, apart := false, narrowed := true }
def MinimalStatesUptoSaid : Prop := minimalStatesUptoRow.holds Try.pinned (OpenSpec.upto minimalStatesSpec)

/-- 'cordwoodlaw57.MinimalWhole', WHERE WHAT IT READS IS OF BULK AT MOST 1048576: true; the input reads as it did. -/
def minimalWholeUptoRow : OpenClaim := { program := "ytnjcoejnknpfoaa", sum := "0f202a8dbc8467f7972041664703631cb42827a2c5df8491faf7c2b3f594421f", func := "cordwood/cordwoodlaw57.MinimalWhole", spec := "minimalWhole", unfollowed := true, recurses := true, apart := false, narrowed := true }
def MinimalWholeUptoSaid : Prop := minimalWholeUptoRow.holds Try.pinned (OpenSpec.upto minimalWholeSpec)

end Rows
end Go.Proofs.Ytnjcoejnknpfoaa
