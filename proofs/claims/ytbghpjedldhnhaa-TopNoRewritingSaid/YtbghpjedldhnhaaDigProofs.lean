/-
  digest.Proof and the reference's Proof: the error and the digests of the proof.
-/
import Derived.Test.YtbghpjedldhnhaaDigProof
import Derived.Test.YtbghpjedldhnhaaDigRootOf
import Derived.Test.YtbghpjedldhnhaaDigRefRoot
namespace Go.Proofs.Ytbghpjedldhnhaa
open Go.RowKit

/-- The proof of a place, or an error. -/
def proofE (l : List Dg) (i : Int) : List Dg × Int := if i < 0 ∨ (l.length : Int) ≤ i then ([], 2) else (proofD l i.toNat, 0)

set_option maxHeartbeats 400000 in
theorem Proof_any (l : List Dg) (n : Nat) (ao : Option Addr) (cap : Nat) (i : Int) (w : World) (hn : l.length = n) (hcap : n ≤ cap) (hl : n ≤ 1000000) (hs : DSl w ao l) :
    Calls Try.prog 32 #[.slice ao n cap, .int .i64 i] w fun e w' => ∃ v, e = .returned (.tuple #[v, .int .i64 (proofE l i).2]) ∧ w'.ownsRow w.heap.size 32 2 v (proofE l i).1.length (dcells (proofE l i).1) ∧ Below w.heap.size w w' := by
  by_cases hi0 : i < 0
  · have HE : Hid (proofE l i = ([], 2)) := by show _ = _; unfold proofE; rw [if_pos (.inl hi0)]
    clear hn
    go_enter Try.func32, Try.ntmps32
    go_wp2_with fail
    go_ret2
    exact ⟨_, by rw [HE.out]; rfl, by rw [HE.out]; exact World.ownsRow_nil _ _ _ _, Below.refl _ _⟩
  by_cases hi1 : (n : Int) ≤ i
  · have HE : Hid (proofE l i = ([], 2)) := by show _ = _; unfold proofE; rw [if_pos (.inr (by omega))]
    clear hn
    go_enter Try.func32, Try.ntmps32
    go_wp2_with fail
    go_ret2
    exact ⟨_, by rw [HE.out]; rfl, by rw [HE.out]; exact World.ownsRow_nil _ _ _ _, Below.refl _ _⟩
  · have HE : Hid (proofE l i = (proofD l i.toNat, 0)) := by show _ = _; unfold proofE; rw [if_neg (by omega)]
    have HN := lid hn
    obtain ⟨b, off, rfl, hb, hc⟩ := hs.resolve_left (by omega)
    clear hn hs
    go_enter Try.func32, Try.ntmps32
    go_wp2_with fail
    (with_reducible refine (proof_any n l n b off cap i w HN.out (by omega) (by omega) (by omega) (by omega) hb hc (by omega) (by omega)).mono ?_); rintro e w1 ⟨v1, rfl, hown1, hb1⟩
    go_wp2_with fail
    go_ret2
    exact ⟨v1, by rw [HE.out]; rfl, by rw [HE.out]; exact hown1, hb1⟩

end Go.Proofs.Ytbghpjedldhnhaa
