/-
  No cell of these rows narrows 'for every input' (looked for: loops, veiled, ifaces, maps, wideKeys, modest, calm, conditions, laid).
  DERIVED. THE GIVEN ROWS OF THIS SEAT. 6 by the template 'for every input the law returns true; each argument reads behind the call as it read before'; 0 by the template 'total and deterministic' (their statements: YtmebjjoldhcgpaaTotals.lean).
  GIVEN WITH THE SEED: the statements are not yours to turn. If you find one false, say at which input.
  Laid BY PROGRAM, IN A SANDBOX (cutbox-rows.mjs): the forced cells as the released guide's own fill.sh prints them over the translation c7a224a29edc42b9… (all of the seat's roots in one cut). By AI agents, Wed Nov 11 2026. No macro, syntax, notation, axiom, sorry.
-/
import Derived.Test.YtmebjjoldhcgpaaChecked
import GoSem.Claim
import GoSem.ClaimJoined
import GoSem.ClaimMapViews
import Derived.JoinedTies
import Derived.KernelRfl
namespace Go.Proofs.Ytmebjjoldhcgpaa
/- THE CELL 'sum', in the pinned program and in every row, IS THE sha256 OF THE DUMP (.gsa) THAT YtmebjjoldhcgpaaProg.lean LOADS. Nothing in Lean hashes anything: it is a label: what it is worth is what the hold of that sum in a sandbox is worth. -/
noncomputable def Try.pinned : Pinned := { name := "ytmebjjoldhcgpaa", sum := "c7a224a29edc42b96f5d136d158da401a5cadf0fba9bb1c4c3f3995970025508", checked := Try.checked }
namespace Rows
def none {H : Type} : Left H := { results := [], args := [] }

/-- 'cordwoodlaw03.ChunkDivides': WHATEVER THE INPUT: true; the input reads as it did. -/
def chunkDividesSpec : ChangeSpec := { name := "chunkDivides", fn := fun _ => fun
  | [d1, d2] => { results := [.lit (.bool true)], args := [d1, d2] }
  | _ => none }
def chunkDividesRow : OpenClaim := { program := "ytmebjjoldhcgpaa", sum := "c7a224a29edc42b96f5d136d158da401a5cadf0fba9bb1c4c3f3995970025508", func := "cordwood/cordwoodlaw03.ChunkDivides", spec := "chunkDivides", unfollowed := true, recurses := true, apart := false }
def ChunkDividesSaid : Prop := chunkDividesRow.holds Try.pinned (OpenSpec.ofChange chunkDividesSpec)

/-- ITS FALSE NEIGHBOUR: 'it returns false'. Refute it at one input. -/
def chunkDividesWrong : ChangeSpec := { name := "chunkDivides", fn := fun _ => fun
  | [d1, d2] => { results := [.lit (.bool false)], args := [d1, d2] }
  | _ => none }
def ChunkDividesWrongFalsely : Prop := chunkDividesRow.holds Try.pinned (OpenSpec.ofChange chunkDividesWrong)

/-- 'cordwoodlaw03.ChunkLocal': WHATEVER THE INPUT: true; the input reads as it did. -/
def chunkLocalSpec : ChangeSpec := { name := "chunkLocal", fn := fun _ => fun
  | [d1, d2, d3] => { results := [.lit (.bool true)], args := [d1, d2, d3] }
  | _ => none }
def chunkLocalRow : OpenClaim := { program := "ytmebjjoldhcgpaa", sum := "c7a224a29edc42b96f5d136d158da401a5cadf0fba9bb1c4c3f3995970025508", func := "cordwood/cordwoodlaw03.ChunkLocal", spec := "chunkLocal", unfollowed := true, recurses := true, apart := false }
def ChunkLocalSaid : Prop := chunkLocalRow.holds Try.pinned (OpenSpec.ofChange chunkLocalSpec)

/-- ITS FALSE NEIGHBOUR: 'it returns false'. Refute it at one input. -/
def chunkLocalWrong : ChangeSpec := { name := "chunkLocal", fn := fun _ => fun
  | [d1, d2, d3] => { results := [.lit (.bool false)], args := [d1, d2, d3] }
  | _ => none }
def ChunkLocalWrongFalsely : Prop := chunkLocalRow.holds Try.pinned (OpenSpec.ofChange chunkLocalWrong)

/-- 'cordwoodlaw03.ChunkMeets': WHATEVER THE INPUT: true; the input reads as it did. -/
def chunkMeetsSpec : ChangeSpec := { name := "chunkMeets", fn := fun _ => fun
  | [d1, d2, d3, d4] => { results := [.lit (.bool true)], args := [d1, d2, d3, d4] }
  | _ => none }
def chunkMeetsRow : OpenClaim := { program := "ytmebjjoldhcgpaa", sum := "c7a224a29edc42b96f5d136d158da401a5cadf0fba9bb1c4c3f3995970025508", func := "cordwood/cordwoodlaw03.ChunkMeets", spec := "chunkMeets", unfollowed := true, recurses := true, apart := false }
def ChunkMeetsSaid : Prop := chunkMeetsRow.holds Try.pinned (OpenSpec.ofChange chunkMeetsSpec)

/-- ITS FALSE NEIGHBOUR: 'it returns false'. Refute it at one input. -/
def chunkMeetsWrong : ChangeSpec := { name := "chunkMeets", fn := fun _ => fun
  | [d1, d2, d3, d4] => { results := [.lit (.bool false)], args := [d1, d2, d3, d4] }
  | _ => none }
def ChunkMeetsWrongFalsely : Prop := chunkMeetsRow.holds Try.pinned (OpenSpec.ofChange chunkMeetsWrong)

/-- 'cordwoodlaw03.ChunkFresh': WHATEVER THE INPUT: true; the input reads as it did. -/
def chunkFreshSpec : ChangeSpec := { name := "chunkFresh", fn := fun _ => fun
  | [d1, d2, d3] => { results := [.lit (.bool true)], args := [d1, d2, d3] }
  | _ => none }
def chunkFreshRow : OpenClaim := { program := "ytmebjjoldhcgpaa", sum := "c7a224a29edc42b96f5d136d158da401a5cadf0fba9bb1c4c3f3995970025508", func := "cordwood/cordwoodlaw03.ChunkFresh", spec := "chunkFresh", unfollowed := true, recurses := true, apart := false }
def ChunkFreshSaid : Prop := chunkFreshRow.holds Try.pinned (OpenSpec.ofChange chunkFreshSpec)

/-- ITS FALSE NEIGHBOUR: 'it returns false'. Refute it at one input. -/
def chunkFreshWrong : ChangeSpec := { name := "chunkFresh", fn := fun _ => fun
  | [d1, d2, d3] => { results := [.lit (.bool false)], args := [d1, d2, d3] }
  | _ => none }
def ChunkFreshWrongFalsely : Prop := chunkFreshRow.holds Try.pinned (OpenSpec.ofChange chunkFreshWrong)

/-- 'cordwoodlaw03.ChunkAppends': WHATEVER THE INPUT: true; the input reads as it did. -/
def chunkAppendsSpec : ChangeSpec := { name := "chunkAppends", fn := fun _ => fun
  | [d1, d2, d3] => { results := [.lit (.bool true)], args := [d1, d2, d3] }
  | _ => none }
def chunkAppendsRow : OpenClaim := { program := "ytmebjjoldhcgpaa", sum := "c7a224a29edc42b96f5d136d158da401a5cadf0fba9bb1c4c3f3995970025508", func := "cordwood/cordwoodlaw03.ChunkAppends", spec := "chunkAppends", unfollowed := true, recurses := true, apart := false }
def ChunkAppendsSaid : Prop := chunkAppendsRow.holds Try.pinned (OpenSpec.ofChange chunkAppendsSpec)

/-- ITS FALSE NEIGHBOUR: 'it returns false'. Refute it at one input. -/
def chunkAppendsWrong : ChangeSpec := { name := "chunkAppends", fn := fun _ => fun
  | [d1, d2, d3] => { results := [.lit (.bool false)], args := [d1, d2, d3] }
  | _ => none }
def ChunkAppendsWrongFalsely : Prop := chunkAppendsRow.holds Try.pinned (OpenSpec.ofChange chunkAppendsWrong)

/-- 'cordwoodlaw03.ChunkSplit': WHATEVER THE INPUT: true; the input reads as it did. -/
def chunkSplitSpec : ChangeSpec := { name := "chunkSplit", fn := fun _ => fun
  | [d1, d2] => { results := [.lit (.bool true)], args := [d1, d2] }
  | _ => none }
def chunkSplitRow : OpenClaim := { program := "ytmebjjoldhcgpaa", sum := "c7a224a29edc42b96f5d136d158da401a5cadf0fba9bb1c4c3f3995970025508", func := "cordwood/cordwoodlaw03.ChunkSplit", spec := "chunkSplit", unfollowed := true, recurses := true, apart := false }
def ChunkSplitSaid : Prop := chunkSplitRow.holds Try.pinned (OpenSpec.ofChange chunkSplitSpec)

/-- ITS FALSE NEIGHBOUR: 'it returns false'. Refute it at one input. -/
def chunkSplitWrong : ChangeSpec := { name := "chunkSplit", fn := fun _ => fun
  | [d1, d2] => { results := [.lit (.bool false)], args := [d1, d2] }
  | _ => none }
def ChunkSplitWrongFalsely : Prop := chunkSplitRow.holds Try.pinned (OpenSpec.ofChange chunkSplitWrong)

/- THE SECOND FORM. 'bulk': how many values and letters a reading holds, each counted each time it is reached (what is shared counts as often as it is met; a slice's spare places count too). A statement '..UptoSaid' is the law's where the arguments, and the package variables that the reading takes, are together of bulk at most 1048576: NARROWER than '..Said'. Prove '..Said' where nothing that the law and all that it calls make is longer than what came in: it says more and counts as full. Else prove '..UptoSaid'. A law counts once. -/
mutual
def uptoBulk {H : Type} : DataW H → Nat
  | .lit (.string bytes) => bytes.length + 1
  | .lit _ => 1
  | .nil => 1
  | .ptr d => uptoBulk d + 1
  | .slice elems spare => uptoBulkAll elems + uptoBulkAll spare + 1
  | .agg parts => uptoBulkAll parts + 1
  | .iface _ d => uptoBulk d + 1
  | .map entries => uptoBulkEntries entries + 1
  | .held _ => 1
def uptoBulkAll {H : Type} : List (DataW H) → Nat
  | [] => 0
  | d :: r => uptoBulk d + uptoBulkAll r
def uptoBulkEntries {H : Type} : List (Lit × DataW H) → Nat
  | [] => 0
  | x :: r => uptoBulkEntry x + uptoBulkEntries r
def uptoBulkEntry {H : Type} : Lit × DataW H → Nat
  | (.string bytes, d) => bytes.length + uptoBulk d + 1
  | (_, d) => uptoBulk d + 1
 end
def uptoSmall : (H : Type) → List (DataW H) → Bool := fun _ ds => decide (uptoBulkAll ds ≤ 1048576)
def OpenSpec.upto (s : _root_.Go.ChangeSpec) : _root_.Go.OpenSpec := { _root_.Go.OpenSpec.ofChange s with cond := some uptoSmall }

/-- 'cordwoodlaw03.ChunkDivides', WHERE WHAT IT READS IS OF BULK AT MOST 1048576: true; the input reads as it did. -/
def chunkDividesUptoRow : OpenClaim := { program := "ytmebjjoldhcgpaa", sum := "c7a224a29edc42b96f5d136d158da401a5cadf0fba9bb1c4c3f3995970025508", func := "cordwood/cordwoodlaw03.ChunkDivides", spec := "chunkDivides", unfollowed := true, recurses := true, apart := false, narrowed := true }
def ChunkDividesUptoSaid : Prop := chunkDividesUptoRow.holds Try.pinned (OpenSpec.upto chunkDividesSpec)

/-- 'cordwoodlaw03.ChunkLocal', WHERE WHAT IT READS IS OF BULK AT MOST 1048576: true; the input reads as it did. -/
def chunkLocalUptoRow : OpenClaim := { program := "ytmebjjoldhcgpaa", sum := "c7a224a29edc42b96f5d136d158da401a5cadf0fba9bb1c4c3f3995970025508", func := "cordwood/cordwoodlaw03.ChunkLocal", spec := "chunkLocal", unfollowed := true, recurses := true, apart := false, narrowed := true }
def ChunkLocalUptoSaid : Prop := chunkLocalUptoRow.holds Try.pinned (OpenSpec.upto chunkLocalSpec)

/-- 'cordwoodlaw03.ChunkMeets', WHERE WHAT IT READS IS OF BULK AT MOST 1048576: true; the input reads as it did. -/
def chunkMeetsUptoRow : OpenClaim := { program := "ytmebjjoldhcgpaa", sum := "c7a224a29edc42b96f5d136d158da401a5cadf0fba9bb1c4c3f3995970025508", func := "cordwood/cordwoodlaw03.ChunkMeets", spec := "chunkMeets", unfollowed := true, recurses := true, apart := false, narrowed := true }
def ChunkMeetsUptoSaid : Prop := chunkMeetsUptoRow.holds Try.pinned (OpenSpec.upto chunkMeetsSpec)

/-- 'cordwoodlaw03.ChunkFresh', WHERE WHAT IT READS IS OF BULK AT MOST 1048576: true; the input reads as it did. -/
def chunkFreshUptoRow : OpenClaim := { program := "ytmebjjoldhcgpaa", sum := "c7a224a29edc42b96f5d136d158da401a5cadf0fba9bb1c4c3f3995970025508", func := "cordwood/cordwoodlaw03.ChunkFresh", spec := "chunkFresh", unfollowed := true, recurses := true, apart := false, narrowed := true }
def ChunkFreshUptoSaid : Prop := chunkFreshUptoRow.holds Try.pinned (OpenSpec.upto chunkFreshSpec)

/-- 'cordwoodlaw03.ChunkAppends', WHERE WHAT IT READS IS OF BULK AT MOST 1048576: true; the input reads as it did. -/
def chunkAppendsUptoRow : OpenClaim := { program := "ytmebjjoldhcgpaa", sum := "c7a224a29edc42b96f5d136d158da401a5cadf0fba9bb1c4c3f3995970025508", func := "cordwood/cordwoodlaw03.ChunkAppends", spec := "chunkAppends", unfollowed := true, recurses := true, apart := false, narrowed := true }
def ChunkAppendsUptoSaid : Prop := chunkAppendsUptoRow.holds Try.pinned (OpenSpec.upto chunkAppendsSpec)

/-- 'cordwoodlaw03.ChunkSplit', WHERE WHAT IT READS IS OF BULK AT MOST 1048576: true; the input reads as it did. -/
def chunkSplitUptoRow : OpenClaim := { program := "ytmebjjoldhcgpaa", sum := "c7a224a29edc42b96f5d136d158da401a5cadf0fba9bb1c4c3f3995970025508", func := "cordwood/cordwoodlaw03.ChunkSplit", spec := "chunkSplit", unfollowed := true, recurses := true, apart := false, narrowed := true }
def ChunkSplitUptoSaid : Prop := chunkSplitUptoRow.holds Try.pinned (OpenSpec.upto chunkSplitSpec)

end Rows
end Go.Proofs.Ytmebjjoldhcgpaa
