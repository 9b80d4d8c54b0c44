/-
  No cell of these rows narrows 'for every input' (looked for: loops, veiled, ifaces, maps, wideKeys, modest, calm, conditions, laid).
  DERIVED. THE GIVEN ROWS OF THIS SEAT. 7 by the template 'for every input the law returns true; each argument reads behind the call as it read before'; 0 by the template 'total and deterministic' (their statements: YtchjmkmcgpbndaaTotals.lean).
  GIVEN WITH THE SEED: the statements are not yours to turn. If you find one false, say at which input.
  Laid BY PROGRAM, IN A SANDBOX (cutbox-rows.mjs): the forced cells as the released guide's own fill.sh prints them over the translation dbdc68ad551966e0… (all of the seat's roots in one cut). By AI agents, Wed Nov 11 2026. No macro, syntax, notation, axiom, sorry.
-/
import Derived.Test.YtchjmkmcgpbndaaChecked
import GoSem.Claim
import GoSem.ClaimJoined
import GoSem.ClaimMapViews
import Derived.JoinedTies
import Derived.KernelRfl
namespace Go.Proofs.Ytchjmkmcgpbndaa
/- THE CELL 'sum', in the pinned program and in every row, IS THE sha256 OF THE DUMP (.gsa) THAT YtchjmkmcgpbndaaProg.lean LOADS. Nothing in Lean hashes anything: it is a label: what it is worth is what the hold of that sum in a sandbox is worth. -/
noncomputable def Try.pinned : Pinned := { name := "ytchjmkmcgpbndaa", sum := "dbdc68ad551966e05261851a55bf4c1cc53f3301d4ab1e68c2bd040c56bd00d3", checked := Try.checked }
namespace Rows
def none {H : Type} : Left H := { results := [], args := [] }

/-- 'cordwoodlaw02.DigestFormat': WHATEVER THE INPUT: true; the input reads as it did. -/
def digestFormatSpec : ChangeSpec := { name := "digestFormat", fn := fun _ => fun
  | [d1, d2] => { results := [.lit (.bool true)], args := [d1, d2] }
  | _ => none }
def digestFormatRow : OpenClaim := { program := "ytchjmkmcgpbndaa", sum := "dbdc68ad551966e05261851a55bf4c1cc53f3301d4ab1e68c2bd040c56bd00d3", func := "cordwood/cordwoodlaw02.DigestFormat", spec := "digestFormat", unfollowed := true, recurses := true, apart := false }
def DigestFormatSaid : Prop := digestFormatRow.holds Try.pinned (OpenSpec.ofChange digestFormatSpec)

/-- ITS FALSE NEIGHBOUR: 'it returns false'. Refute it at one input. -/
def digestFormatWrong : ChangeSpec := { name := "digestFormat", fn := fun _ => fun
  | [d1, d2] => { results := [.lit (.bool false)], args := [d1, d2] }
  | _ => none }
def DigestFormatWrongFalsely : Prop := digestFormatRow.holds Try.pinned (OpenSpec.ofChange digestFormatWrong)

/-- 'cordwoodlaw02.DigestText': WHATEVER THE INPUT: true; the input reads as it did. -/
def digestTextSpec : ChangeSpec := { name := "digestText", fn := fun _ => fun
  | [d1, d2] => { results := [.lit (.bool true)], args := [d1, d2] }
  | _ => none }
def digestTextRow : OpenClaim := { program := "ytchjmkmcgpbndaa", sum := "dbdc68ad551966e05261851a55bf4c1cc53f3301d4ab1e68c2bd040c56bd00d3", func := "cordwood/cordwoodlaw02.DigestText", spec := "digestText", unfollowed := true, recurses := true, apart := false }
def DigestTextSaid : Prop := digestTextRow.holds Try.pinned (OpenSpec.ofChange digestTextSpec)

/-- ITS FALSE NEIGHBOUR: 'it returns false'. Refute it at one input. -/
def digestTextWrong : ChangeSpec := { name := "digestText", fn := fun _ => fun
  | [d1, d2] => { results := [.lit (.bool false)], args := [d1, d2] }
  | _ => none }
def DigestTextWrongFalsely : Prop := digestTextRow.holds Try.pinned (OpenSpec.ofChange digestTextWrong)

/-- 'cordwoodlaw02.DigestVerify': WHATEVER THE INPUT: true; the input reads as it did. -/
def digestVerifySpec : ChangeSpec := { name := "digestVerify", fn := fun _ => fun
  | [d] => { results := [.lit (.bool true)], args := [d] }
  | _ => none }
def digestVerifyRow : OpenClaim := { program := "ytchjmkmcgpbndaa", sum := "dbdc68ad551966e05261851a55bf4c1cc53f3301d4ab1e68c2bd040c56bd00d3", func := "cordwood/cordwoodlaw02.DigestVerify", spec := "digestVerify", unfollowed := true, recurses := true, apart := false }
def DigestVerifySaid : Prop := digestVerifyRow.holds Try.pinned (OpenSpec.ofChange digestVerifySpec)

/-- ITS FALSE NEIGHBOUR: 'it returns false'. Refute it at one input. -/
def digestVerifyWrong : ChangeSpec := { name := "digestVerify", fn := fun _ => fun
  | [d] => { results := [.lit (.bool false)], args := [d] }
  | _ => none }
def DigestVerifyWrongFalsely : Prop := digestVerifyRow.holds Try.pinned (OpenSpec.ofChange digestVerifyWrong)

/-- 'cordwoodlaw02.DigestTree': WHATEVER THE INPUT: true; the input reads as it did. -/
def digestTreeSpec : ChangeSpec := { name := "digestTree", fn := fun _ => fun
  | [d1, d2] => { results := [.lit (.bool true)], args := [d1, d2] }
  | _ => none }
def digestTreeRow : OpenClaim := { program := "ytchjmkmcgpbndaa", sum := "dbdc68ad551966e05261851a55bf4c1cc53f3301d4ab1e68c2bd040c56bd00d3", func := "cordwood/cordwoodlaw02.DigestTree", spec := "digestTree", unfollowed := true, recurses := true, apart := false }
def DigestTreeSaid : Prop := digestTreeRow.holds Try.pinned (OpenSpec.ofChange digestTreeSpec)

/-- ITS FALSE NEIGHBOUR: 'it returns false'. Refute it at one input. -/
def digestTreeWrong : ChangeSpec := { name := "digestTree", fn := fun _ => fun
  | [d1, d2] => { results := [.lit (.bool false)], args := [d1, d2] }
  | _ => none }
def DigestTreeWrongFalsely : Prop := digestTreeRow.holds Try.pinned (OpenSpec.ofChange digestTreeWrong)

/-- 'cordwoodlaw02.DigestOf': WHATEVER THE INPUT: true; the input reads as it did. -/
def digestOfSpec : ChangeSpec := { name := "digestOf", fn := fun _ => fun
  | [d1, d2, d3] => { results := [.lit (.bool true)], args := [d1, d2, d3] }
  | _ => none }
def digestOfRow : OpenClaim := { program := "ytchjmkmcgpbndaa", sum := "dbdc68ad551966e05261851a55bf4c1cc53f3301d4ab1e68c2bd040c56bd00d3", func := "cordwood/cordwoodlaw02.DigestOf", spec := "digestOf", unfollowed := true, recurses := true, apart := false }
def DigestOfSaid : Prop := digestOfRow.holds Try.pinned (OpenSpec.ofChange digestOfSpec)

/-- ITS FALSE NEIGHBOUR: 'it returns false'. Refute it at one input. -/
def digestOfWrong : ChangeSpec := { name := "digestOf", fn := fun _ => fun
  | [d1, d2, d3] => { results := [.lit (.bool false)], args := [d1, d2, d3] }
  | _ => none }
def DigestOfWrongFalsely : Prop := digestOfRow.holds Try.pinned (OpenSpec.ofChange digestOfWrong)

/-- 'cordwoodlaw02.DigestOrder': WHATEVER THE INPUT: true; the input reads as it did. -/
def digestOrderSpec : ChangeSpec := { name := "digestOrder", fn := fun _ => fun
  | [d1, d2] => { results := [.lit (.bool true)], args := [d1, d2] }
  | _ => none }
def digestOrderRow : OpenClaim := { program := "ytchjmkmcgpbndaa", sum := "dbdc68ad551966e05261851a55bf4c1cc53f3301d4ab1e68c2bd040c56bd00d3", func := "cordwood/cordwoodlaw02.DigestOrder", spec := "digestOrder", inPlace := ["internal/bytealg.abigen_runtime_cmpstring"], unfollowed := true, recurses := true, apart := false }
def DigestOrderSaid : Prop := digestOrderRow.holds Try.pinned (OpenSpec.ofChange digestOrderSpec)

/-- ITS FALSE NEIGHBOUR: 'it returns false'. Refute it at one input. -/
def digestOrderWrong : ChangeSpec := { name := "digestOrder", fn := fun _ => fun
  | [d1, d2] => { results := [.lit (.bool false)], args := [d1, d2] }
  | _ => none }
def DigestOrderWrongFalsely : Prop := digestOrderRow.holds Try.pinned (OpenSpec.ofChange digestOrderWrong)

/-- 'cordwoodlaw02.DigestForged': WHATEVER THE INPUT: true; the input reads as it did. -/
def digestForgedSpec : ChangeSpec := { name := "digestForged", fn := fun _ => fun
  | [d1, d2] => { results := [.lit (.bool true)], args := [d1, d2] }
  | _ => none }
def digestForgedRow : OpenClaim := { program := "ytchjmkmcgpbndaa", sum := "dbdc68ad551966e05261851a55bf4c1cc53f3301d4ab1e68c2bd040c56bd00d3", func := "cordwood/cordwoodlaw02.DigestForged", spec := "digestForged", unfollowed := true, recurses := true, apart := false }
def DigestForgedSaid : Prop := digestForgedRow.holds Try.pinned (OpenSpec.ofChange digestForgedSpec)

/-- ITS FALSE NEIGHBOUR: 'it returns false'. Refute it at one input. -/
def digestForgedWrong : ChangeSpec := { name := "digestForged", fn := fun _ => fun
  | [d1, d2] => { results := [.lit (.bool false)], args := [d1, d2] }
  | _ => none }
def DigestForgedWrongFalsely : Prop := digestForgedRow.holds Try.pinned (OpenSpec.ofChange digestForgedWrong)

/- THE SECOND FORM. 'bulk': how many values and letters a reading holds, each counted each time it is reached (what is shared counts as often as it is met; a slice's spare places count too). A statement '..UptoSaid' is the law's where the arguments, and the package variables that the reading takes, are together of bulk at most 1048576: NARROWER than '..Said'. Prove '..Said' where nothing that the law and all that it calls make is longer than what came in: it says more and counts as full. Else prove '..UptoSaid'. A law counts once. -/
mutual
def uptoBulk {H : Type} : DataW H → Nat
  | .lit (.string bytes) => bytes.length + 1
  | .lit _ => 1
  | .nil => 1
  | .ptr d => uptoBulk d + 1
  | .slice elems spare => uptoBulkAll elems + uptoBulkAll spare + 1
  | .agg parts => uptoBulkAll parts + 1
  | .iface _ d => uptoBulk d + 1
  | .map entries => uptoBulkEntries entries + 1
  | .held _ => 1
def uptoBulkAll {H : Type} : List (DataW H) → Nat
  | [] => 0
  | d :: r => uptoBulk d + uptoBulkAll r
def uptoBulkEntries {H : Type} : List (Lit × DataW H) → Nat
  | [] => 0
  | x :: r => uptoBulkEntry x + uptoBulkEntries r
def uptoBulkEntry {H : Type} : Lit × DataW H → Nat
  | (.string bytes, d) => bytes.length + uptoBulk d + 1
  | (_, d) => uptoBulk d + 1
 end
def uptoSmall : (H : Type) → List (DataW H) → Bool := fun _ ds => decide (uptoBulkAll ds ≤ 1048576)
def OpenSpec.upto (s : _root_.Go.ChangeSpec) : _root_.Go.OpenSpec := { _root_.Go.OpenSpec.ofChange s with cond := some uptoSmall }

/-- 'cordwoodlaw02.DigestFormat', WHERE WHAT IT READS IS OF BULK AT MOST 1048576: true; the input reads as it did. -/
def digestFormatUptoRow : OpenClaim := { program := "ytchjmkmcgpbndaa", sum := "dbdc68ad551966e05261851a55bf4c1cc53f3301d4ab1e68c2bd040c56bd00d3", func := "cordwood/cordwoodlaw02.DigestFormat", spec := "digestFormat", unfollowed := true, recurses := true, apart := false, narrowed := true }
def DigestFormatUptoSaid : Prop := digestFormatUptoRow.holds Try.pinned (OpenSpec.upto digestFormatSpec)

/-- 'cordwoodlaw02.DigestText', WHERE WHAT IT READS IS OF BULK AT MOST 1048576: true; the input reads as it did. -/
def digestTextUptoRow : OpenClaim := { program := "ytchjmkmcgpbndaa", sum := "dbdc68ad551966e05261851a55bf4c1cc53f3301d4ab1e68c2bd040c56bd00d3", func := "cordwood/cordwoodlaw02.DigestText", spec := "digestText", unfollowed := true, recurses := true, apart := false, narrowed := true }
def DigestTextUptoSaid : Prop := digestTextUptoRow.holds Try.pinned (OpenSpec.upto digestTextSpec)

/-- 'cordwoodlaw02.DigestVerify', WHERE WHAT IT READS IS OF BULK AT MOST 1048576: true; the input reads as it did. -/
def digestVerifyUptoRow : OpenClaim := { program := "ytchjmkmcgpbndaa", sum := "dbdc68ad551966e05261851a55bf4c1cc53f3301d4ab1e68c2bd040c56bd00d3", func := "cordwood/cordwoodlaw02.DigestVerify", spec := "digestVerify", unfollowed := true, recurses := true, apart := false, narrowed := true }
def DigestVerifyUptoSaid : Prop := digestVerifyUptoRow.holds Try.pinned (OpenSpec.upto digestVerifySpec)

/-- 'cordwoodlaw02.DigestTree', WHERE WHAT IT READS IS OF BULK AT MOST 1048576: true; the input reads as it did. -/
def digestTreeUptoRow : OpenClaim := { program := "ytchjmkmcgpbndaa", sum := "dbdc68ad551966e05261851a55bf4c1cc53f3301d4ab1e68c2bd040c56bd00d3", func := "cordwood/cordwoodlaw02.DigestTree", spec := "digestTree", unfollowed := true, recurses := true, apart := false, narrowed := true }
def DigestTreeUptoSaid : Prop := digestTreeUptoRow.holds Try.pinned (OpenSpec.upto digestTreeSpec)

/-- 'cordwoodlaw02.DigestOf', WHERE WHAT IT READS IS OF BULK AT MOST 1048576: true; the input reads as it did. -/
def digestOfUptoRow : OpenClaim := { program := "ytchjmkmcgpbndaa", sum := "dbdc68ad551966e05261851a55bf4c1cc53f3301d4ab1e68c2bd040c56bd00d3", func := "cordwood/cordwoodlaw02.DigestOf", spec := "digestOf", unfollowed := true, recurses := true, apart := false, narrowed := true }
def DigestOfUptoSaid : Prop := digestOfUptoRow.holds Try.pinned (OpenSpec.upto digestOfSpec)

/-- 'cordwoodlaw02.DigestOrder', WHERE WHAT IT READS IS OF BULK AT MOST 1048576: true; the input reads as it did. -/
def digestOrderUptoRow : OpenClaim := { program := "ytchjmkmcgpbndaa", sum := "dbdc68ad551966e05261851a55bf4c1cc53f3301d4ab1e68c2bd040c56bd00d3", func := "cordwood/cordwoodlaw02.DigestOrder", spec := "digestOrder", inPlace := ["internal/bytealg.abigen_runtime_cmpstring"], unfollowed := true, recurses := true, apart := false, narrowed := true }
def DigestOrderUptoSaid : Prop := digestOrderUptoRow.holds Try.pinned (OpenSpec.upto digestOrderSpec)

/-- 'cordwoodlaw02.DigestForged', WHERE WHAT IT READS IS OF BULK AT MOST 1048576: true; the input reads as it did. -/
def digestForgedUptoRow : OpenClaim := { program := "ytchjmkmcgpbndaa", sum := "dbdc68ad551966e05261851a55bf4c1cc53f3301d4ab1e68c2bd040c56bd00d3", func := "cordwood/cordwoodlaw02.DigestForged", spec := "digestForged", unfollowed := true, recurses := true, apart := false, narrowed := true }
def DigestForgedUptoSaid : Prop := digestForgedUptoRow.holds Try.pinned (OpenSpec.upto digestForgedSpec)

end Rows
end Go.Proofs.Ytchjmkmcgpbndaa
