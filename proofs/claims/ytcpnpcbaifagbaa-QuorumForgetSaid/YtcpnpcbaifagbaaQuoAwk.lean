/-
  Ballots: the chapter's example, in plain functions.
-/
import Derived.Test.YtcpnpcbaifagbaaQuoStr
namespace Go.Proofs.Ytcpnpcbaifagbaa
open Go.RowKit
def K12 : Dg := (1, 2)
def sCid : ByteArray := ⟨#[99, 105, 100]⟩
def sBob : ByteArray := ⟨#[98, 111, 98]⟩
def sAnn : ByteArray := ⟨#[97, 110, 110]⟩
def sX : ByteArray := ⟨#[120]⟩
def sY : ByteArray := ⟨#[121]⟩
def bb1 : List Bal := [(K12, [(sCid, sX)])]
def bb2 : List Bal := [(K12, [(sBob, sY), (sCid, sX)])]
def bb3 : List Bal := [(K12, [(sAnn, sX), (sBob, sY), (sCid, sX)])]
theorem aw1 : voteE [] K12 sCid sX = 0 := by decide +kernel
theorem aw2 : voteL [] K12 sCid sX = bb1 := by decide +kernel
theorem aw3 : voteE bb1 K12 sBob sY = 0 := by decide +kernel
theorem aw4 : voteL bb1 K12 sBob sY = bb2 := by decide +kernel
theorem aw5 : voteE bb2 K12 sAnn sX = 0 := by decide +kernel
theorem aw6 : voteL bb2 K12 sAnn sX = bb3 := by decide +kernel
theorem aw7 : decB (aboutB bb3 K12) 2 = (sX, true) := by decide +kernel
theorem aw8 : decB (aboutB bb3 K12) 3 = noneR := by decide +kernel
theorem aw9 : missB (aboutB bb3 K12) 3 = 1 := by decide +kernel
theorem aw10 : againstB (aboutB bb3 K12) sX = [sBob] := by decide +kernel
theorem aw11 : checkB bb3 = 0 := by decide +kernel
end Go.Proofs.Ytcpnpcbaifagbaa
