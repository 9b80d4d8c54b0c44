/-
  No cell of these rows narrows 'for every input' (looked for: loops, veiled, ifaces, maps, wideKeys, modest, calm, conditions, laid).
  DERIVED. THE GIVEN ROWS OF THIS SEAT. 7 by the template 'for every input the law returns true; each argument reads behind the call as it read before'; 0 by the template 'total and deterministic' (their statements: YtcpnpcbaifagbaaTotals.lean).
  GIVEN WITH THE SEED: the statements are not yours to turn. If you find one false, say at which input.
  Laid BY PROGRAM, IN A SANDBOX (cutbox-rows.mjs): the forced cells as the released guide's own fill.sh prints them over the translation 84ab5ba77a183b5a… (all of the seat's roots in one cut). By AI agents, Wed Nov 11 2026. No macro, syntax, notation, axiom, sorry.
-/
import Derived.Test.YtcpnpcbaifagbaaChecked
import GoSem.Claim
import GoSem.ClaimJoined
import GoSem.ClaimMapViews
import Derived.JoinedTies
import Derived.KernelRfl
namespace Go.Proofs.Ytcpnpcbaifagbaa
/- THE CELL 'sum', in the pinned program and in every row, IS THE sha256 OF THE DUMP (.gsa) THAT YtcpnpcbaifagbaaProg.lean LOADS. Nothing in Lean hashes anything: it is a label: what it is worth is what the hold of that sum in a sandbox is worth. -/
noncomputable def Try.pinned : Pinned := { name := "ytcpnpcbaifagbaa", sum := "84ab5ba77a183b5abbfba92e6d07c41a9967cd456de1ee36c352c937861ae9a3", checked := Try.checked }
namespace Rows
def none {H : Type} : Left H := { results := [], args := [] }

/-- 'cordwoodlaw46.QuorumVote': WHATEVER THE INPUT: true; the input reads as it did. -/
def quorumVoteSpec : ChangeSpec := { name := "quorumVote", fn := fun _ => fun
  | [d1, d2, d3] => { results := [.lit (.bool true)], args := [d1, d2, d3] }
  | _ => none }
def quorumVoteRow : OpenClaim := { program := "ytcpnpcbaifagbaa", sum := "84ab5ba77a183b5abbfba92e6d07c41a9967cd456de1ee36c352c937861ae9a3", func := "cordwood/cordwoodlaw46.QuorumVote", spec := "quorumVote", inPlace := ["slices.overlaps[cordwood/api.Ballot]", "internal/bytealg.abigen_runtime_cmpstring", "slices.overlaps[cordwood/api.Vote]"], unfollowed := true, recurses := true, apart := false }
def QuorumVoteSaid : Prop := quorumVoteRow.holds Try.pinned (OpenSpec.ofChange quorumVoteSpec)

/-- ITS FALSE NEIGHBOUR: 'it returns false'. Refute it at one input. -/
def quorumVoteWrong : ChangeSpec := { name := "quorumVote", fn := fun _ => fun
  | [d1, d2, d3] => { results := [.lit (.bool false)], args := [d1, d2, d3] }
  | _ => none }
def QuorumVoteWrongFalsely : Prop := quorumVoteRow.holds Try.pinned (OpenSpec.ofChange quorumVoteWrong)

/-- 'cordwoodlaw46.QuorumOrder': WHATEVER THE INPUT: true; the input reads as it did. -/
def quorumOrderSpec : ChangeSpec := { name := "quorumOrder", fn := fun _ => fun
  | [d1, d2] => { results := [.lit (.bool true)], args := [d1, d2] }
  | _ => none }
def quorumOrderRow : OpenClaim := { program := "ytcpnpcbaifagbaa", sum := "84ab5ba77a183b5abbfba92e6d07c41a9967cd456de1ee36c352c937861ae9a3", func := "cordwood/cordwoodlaw46.QuorumOrder", spec := "quorumOrder", inPlace := ["slices.overlaps[cordwood/api.Ballot]", "internal/bytealg.abigen_runtime_cmpstring", "slices.overlaps[cordwood/api.Vote]"], unfollowed := true, recurses := true, apart := false }
def QuorumOrderSaid : Prop := quorumOrderRow.holds Try.pinned (OpenSpec.ofChange quorumOrderSpec)

/-- ITS FALSE NEIGHBOUR: 'it returns false'. Refute it at one input. -/
def quorumOrderWrong : ChangeSpec := { name := "quorumOrder", fn := fun _ => fun
  | [d1, d2] => { results := [.lit (.bool false)], args := [d1, d2] }
  | _ => none }
def QuorumOrderWrongFalsely : Prop := quorumOrderRow.holds Try.pinned (OpenSpec.ofChange quorumOrderWrong)

/-- 'cordwoodlaw46.QuorumLiars': WHATEVER THE INPUT: true; the input reads as it did. -/
def quorumLiarsSpec : ChangeSpec := { name := "quorumLiars", fn := fun _ => fun
  | [d1, d2, d3] => { results := [.lit (.bool true)], args := [d1, d2, d3] }
  | _ => none }
def quorumLiarsRow : OpenClaim := { program := "ytcpnpcbaifagbaa", sum := "84ab5ba77a183b5abbfba92e6d07c41a9967cd456de1ee36c352c937861ae9a3", func := "cordwood/cordwoodlaw46.QuorumLiars", spec := "quorumLiars", inPlace := ["slices.overlaps[cordwood/api.Ballot]", "internal/bytealg.abigen_runtime_cmpstring", "slices.overlaps[cordwood/api.Vote]"], unfollowed := true, recurses := true, apart := false }
def QuorumLiarsSaid : Prop := quorumLiarsRow.holds Try.pinned (OpenSpec.ofChange quorumLiarsSpec)

/-- ITS FALSE NEIGHBOUR: 'it returns false'. Refute it at one input. -/
def quorumLiarsWrong : ChangeSpec := { name := "quorumLiars", fn := fun _ => fun
  | [d1, d2, d3] => { results := [.lit (.bool false)], args := [d1, d2, d3] }
  | _ => none }
def QuorumLiarsWrongFalsely : Prop := quorumLiarsRow.holds Try.pinned (OpenSpec.ofChange quorumLiarsWrong)

/-- 'cordwoodlaw46.QuorumPatience': WHATEVER THE INPUT: true; the input reads as it did. -/
def quorumPatienceSpec : ChangeSpec := { name := "quorumPatience", fn := fun _ => fun
  | [d1, d2, d3] => { results := [.lit (.bool true)], args := [d1, d2, d3] }
  | _ => none }
def quorumPatienceRow : OpenClaim := { program := "ytcpnpcbaifagbaa", sum := "84ab5ba77a183b5abbfba92e6d07c41a9967cd456de1ee36c352c937861ae9a3", func := "cordwood/cordwoodlaw46.QuorumPatience", spec := "quorumPatience", inPlace := ["slices.overlaps[cordwood/api.Ballot]", "internal/bytealg.abigen_runtime_cmpstring", "slices.overlaps[cordwood/api.Vote]"], unfollowed := true, recurses := true, apart := false }
def QuorumPatienceSaid : Prop := quorumPatienceRow.holds Try.pinned (OpenSpec.ofChange quorumPatienceSpec)

/-- ITS FALSE NEIGHBOUR: 'it returns false'. Refute it at one input. -/
def quorumPatienceWrong : ChangeSpec := { name := "quorumPatience", fn := fun _ => fun
  | [d1, d2, d3] => { results := [.lit (.bool false)], args := [d1, d2, d3] }
  | _ => none }
def QuorumPatienceWrongFalsely : Prop := quorumPatienceRow.holds Try.pinned (OpenSpec.ofChange quorumPatienceWrong)

/-- 'cordwoodlaw46.QuorumOnce': WHATEVER THE INPUT: true; the input reads as it did. -/
def quorumOnceSpec : ChangeSpec := { name := "quorumOnce", fn := fun _ => fun
  | [d1, d2, d3] => { results := [.lit (.bool true)], args := [d1, d2, d3] }
  | _ => none }
def quorumOnceRow : OpenClaim := { program := "ytcpnpcbaifagbaa", sum := "84ab5ba77a183b5abbfba92e6d07c41a9967cd456de1ee36c352c937861ae9a3", func := "cordwood/cordwoodlaw46.QuorumOnce", spec := "quorumOnce", inPlace := ["slices.overlaps[cordwood/api.Ballot]", "internal/bytealg.abigen_runtime_cmpstring", "slices.overlaps[cordwood/api.Vote]"], unfollowed := true, recurses := true, apart := false }
def QuorumOnceSaid : Prop := quorumOnceRow.holds Try.pinned (OpenSpec.ofChange quorumOnceSpec)

/-- ITS FALSE NEIGHBOUR: 'it returns false'. Refute it at one input. -/
def quorumOnceWrong : ChangeSpec := { name := "quorumOnce", fn := fun _ => fun
  | [d1, d2, d3] => { results := [.lit (.bool false)], args := [d1, d2, d3] }
  | _ => none }
def QuorumOnceWrongFalsely : Prop := quorumOnceRow.holds Try.pinned (OpenSpec.ofChange quorumOnceWrong)

/-- 'cordwoodlaw46.QuorumDecide': WHATEVER THE INPUT: true; the input reads as it did. -/
def quorumDecideSpec : ChangeSpec := { name := "quorumDecide", fn := fun _ => fun
  | [d] => { results := [.lit (.bool true)], args := [d] }
  | _ => none }
def quorumDecideRow : OpenClaim := { program := "ytcpnpcbaifagbaa", sum := "84ab5ba77a183b5abbfba92e6d07c41a9967cd456de1ee36c352c937861ae9a3", func := "cordwood/cordwoodlaw46.QuorumDecide", spec := "quorumDecide", inPlace := ["slices.overlaps[cordwood/api.Ballot]", "internal/bytealg.abigen_runtime_cmpstring", "slices.overlaps[cordwood/api.Vote]"], unfollowed := true, recurses := true, apart := false }
def QuorumDecideSaid : Prop := quorumDecideRow.holds Try.pinned (OpenSpec.ofChange quorumDecideSpec)

/-- ITS FALSE NEIGHBOUR: 'it returns false'. Refute it at one input. -/
def quorumDecideWrong : ChangeSpec := { name := "quorumDecide", fn := fun _ => fun
  | [d] => { results := [.lit (.bool false)], args := [d] }
  | _ => none }
def QuorumDecideWrongFalsely : Prop := quorumDecideRow.holds Try.pinned (OpenSpec.ofChange quorumDecideWrong)

/-- 'cordwoodlaw46.QuorumForget': WHATEVER THE INPUT: true; the input reads as it did. -/
def quorumForgetSpec : ChangeSpec := { name := "quorumForget", fn := fun _ => fun
  | [d] => { results := [.lit (.bool true)], args := [d] }
  | _ => none }
def quorumForgetRow : OpenClaim := { program := "ytcpnpcbaifagbaa", sum := "84ab5ba77a183b5abbfba92e6d07c41a9967cd456de1ee36c352c937861ae9a3", func := "cordwood/cordwoodlaw46.QuorumForget", spec := "quorumForget", inPlace := ["slices.overlaps[cordwood/api.Ballot]", "internal/bytealg.abigen_runtime_cmpstring", "slices.overlaps[cordwood/api.Vote]"], unfollowed := true, recurses := true, apart := false }
def QuorumForgetSaid : Prop := quorumForgetRow.holds Try.pinned (OpenSpec.ofChange quorumForgetSpec)

/-- ITS FALSE NEIGHBOUR: 'it returns false'. Refute it at one input. -/
def quorumForgetWrong : ChangeSpec := { name := "quorumForget", fn := fun _ => fun
  | [d] => { results := [.lit (.bool false)], args := [d] }
  | _ => none }
def QuorumForgetWrongFalsely : Prop := quorumForgetRow.holds Try.pinned (OpenSpec.ofChange quorumForgetWrong)

/- THE SECOND FORM. 'bulk': how many values and letters a reading holds, each counted each time it is reached (what is shared counts as often as it is met; a slice's spare places count too). A statement '..UptoSaid' is the law's where the arguments, and the package variables that the reading takes, are together of bulk at most 1048576: NARROWER than '..Said'. Prove '..Said' where nothing that the law and all that it calls make is longer than what came in: it says more and counts as full. Else prove '..UptoSaid'. A law counts once. -/
mutual
def uptoBulk {H : Type} : DataW H → Nat
  | .lit (.string bytes) => bytes.length + 1
  | .lit _ => 1
  | .nil => 1
  | .ptr d => uptoBulk d + 1
  | .slice elems spare => uptoBulkAll elems + uptoBulkAll spare + 1
  | .agg parts => uptoBulkAll parts + 1
  | .iface _ d => uptoBulk d + 1
  | .map entries => uptoBulkEntries entries + 1
  | .held _ => 1
def uptoBulkAll {H : Type} : List (DataW H) → Nat
  | [] => 0
  | d :: r => uptoBulk d + uptoBulkAll r
def uptoBulkEntries {H : Type} : List (Lit × DataW H) → Nat
  | [] => 0
  | x :: r => uptoBulkEntry x + uptoBulkEntries r
def uptoBulkEntry {H : Type} : Lit × DataW H → Nat
  | (.string bytes, d) => bytes.length + uptoBulk d + 1
  | (_, d) => uptoBulk d + 1
 end
def uptoSmall : (H : Type) → List (DataW H) → Bool := fun _ ds => decide (uptoBulkAll ds ≤ 1048576)
def OpenSpec.upto (s : _root_.Go.ChangeSpec) : _root_.Go.OpenSpec := { _root_.Go.OpenSpec.ofChange s with cond := some uptoSmall }

/-- 'cordwoodlaw46.QuorumVote', WHERE WHAT IT READS IS OF BULK AT MOST 1048576: true; the input reads as it did. -/
def quorumVoteUptoRow : OpenClaim := { program := "ytcpnpcbaifagbaa", sum := "84ab5ba77a183b5abbfba92e6d07c41a9967cd456de1ee36c352c937861ae9a3", func := "cordwood/cordwoodlaw46.QuorumVote", spec := "quorumVote", inPlace := ["slices.overlaps[cordwood/api.Ballot]", "internal/bytealg.abigen_runtime_cmpstring", "slices.overlaps[cordwood/api.Vote]"], unfollowed := true, recurses := true, apart := false, narrowed := true }
def QuorumVoteUptoSaid : Prop := quorumVoteUptoRow.holds Try.pinned (OpenSpec.upto quorumVoteSpec)

/-- 'cordwoodlaw46.QuorumOrder', WHERE WHAT IT READS IS OF BULK AT MOST 1048576: true; the input reads as it did. -/
def quorumOrderUptoRow : OpenClaim := { program := "ytcpnpcbaifagbaa", sum := "84ab5ba77a183b5abbfba92e6d07c41a9967cd456de1ee36c352c937861ae9a3", func := "cordwood/cordwoodlaw46.QuorumOrder", spec := "quorumOrder", inPlace := ["slices.overlaps[cordwood/api.Ballot]", "internal/bytealg.abigen_runtime_cmpstring", "slices.overlaps[cordwood/api.Vote]"], unfollowed := true, recurses := true, apart := false, narrowed := true }
def QuorumOrderUptoSaid : Prop := quorumOrderUptoRow.holds Try.pinned (OpenSpec.upto quorumOrderSpec)

/-- 'cordwoodlaw46.QuorumLiars', WHERE WHAT IT READS IS OF BULK AT MOST 1048576: true; the input reads as it did. -/
def quorumLiarsUptoRow : OpenClaim := { program := "ytcpnpcbaifagbaa", sum := "84ab5ba77a183b5abbfba92e6d07c41a9967cd456de1ee36c352c937861ae9a3", func := "cordwood/cordwoodlaw46.QuorumLiars", spec := "quorumLiars", inPlace := ["slices.overlaps[cordwood/api.Ballot]", "internal/bytealg.abigen_runtime_cmpstring", "slices.overlaps[cordwood/api.Vote]"], unfollowed := true, recurses := true, apart := false, narrowed := true }
def QuorumLiarsUptoSaid : Prop := quorumLiarsUptoRow.holds Try.pinned (OpenSpec.upto quorumLiarsSpec)

/-- 'cordwoodlaw46.QuorumPatience', WHERE WHAT IT READS IS OF BULK AT MOST 1048576: true; the input reads as it did. -/
def quorumPatienceUptoRow : OpenClaim := { program := "ytcpnpcbaifagbaa", sum := "84ab5ba77a183b5abbfba92e6d07c41a9967cd456de1ee36c352c937861ae9a3", func := "cordwood/cordwoodlaw46.QuorumPatience", spec := "quorumPatience", inPlace := ["slices.overlaps[cordwood/api.Ballot]", "internal/bytealg.abigen_runtime_cmpstring", "slices.overlaps[cordwood/api.Vote]"], unfollowed := true, recurses := true, apart := false, narrowed := true }
def QuorumPatienceUptoSaid : Prop := quorumPatienceUptoRow.holds Try.pinned (OpenSpec.upto quorumPatienceSpec)

/-- 'cordwoodlaw46.QuorumOnce', WHERE WHAT IT READS IS OF BULK AT MOST 1048576: true; the input reads as it did. -/
def quorumOnceUptoRow : OpenClaim := { program := "ytcpnpcbaifagbaa", sum := "84ab5ba77a183b5abbfba92e6d07c41a9967cd456de1ee36c352c937861ae9a3", func := "cordwood/cordwoodlaw46.QuorumOnce", spec := "quorumOnce", inPlace := ["slices.overlaps[cordwood/api.Ballot]", "internal/bytealg.abigen_runtime_cmpstring", "slices.overlaps[cordwood/api.Vote]"], unfollowed := true, recurses := true, apart := false, narrowed := true }
def QuorumOnceUptoSaid : Prop := quorumOnceUptoRow.holds Try.pinned (OpenSpec.upto quorumOnceSpec)

/-- 'cordwoodlaw46.QuorumDecide', WHERE WHAT IT READS IS OF BULK AT MOST 1048576: true; the input reads as it did. -/
def quorumDecideUptoRow : OpenClaim := { program := "ytcpnpcbaifagbaa", sum := "84ab5ba77a183b5abbfba92e6d07c41a9967cd456de1ee36c352c937861ae9a3", func := "cordwood/cordwoodlaw46.QuorumDecide", spec := "quorumDecide", inPlace := ["slices.overlaps[cordwood/api.Ballot]", "internal/bytealg.abigen_runtime_cmpstring", "slices.overlaps[cordwood/api.Vote]"], unfollowed := true, recurses := true, apart := false, narrowed := true }
def QuorumDecideUptoSaid : Prop := quorumDecideUptoRow.holds Try.pinned (OpenSpec.upto quorumDecideSpec)

/-- 'cordwoodlaw46.QuorumForget', WHERE WHAT IT READS IS OF BULK AT MOST 1048576: true; the input reads as it did. -/
def quorumForgetUptoRow : OpenClaim := { program := "ytcpnpcbaifagbaa", sum := "84ab5ba77a183b5abbfba92e6d07c41a9967cd456de1ee36c352c937861ae9a3", func := "cordwood/cordwoodlaw46.QuorumForget", spec := "quorumForget", inPlace := ["slices.overlaps[cordwood/api.Ballot]", "internal/bytealg.abigen_runtime_cmpstring", "slices.overlaps[cordwood/api.Vote]"], unfollowed := true, recurses := true, apart := false, narrowed := true }
def QuorumForgetUptoSaid : Prop := quorumForgetUptoRow.holds Try.pinned (OpenSpec.upto quorumForgetSpec)

end Rows
end Go.Proofs.Ytcpnpcbaifagbaa
