/-
  ledger.Head and ledger.Prove; the reference's Digests, Head and Prove.
-/
import Derived.Test.YtbghpjedldhnhaaLedColl
import Derived.Test.YtbghpjedldhnhaaLedCheck
import Derived.Test.YtbghpjedldhnhaaDgProof
namespace Go.Proofs.Ytbghpjedldhnhaa
open Go.RowKit

def headD (l : List Rec) : Dg := if checkL l = 0 then rootD (l.map recD) else (0, 0)
def proveE (l : List Rec) (i : Int) : List Dg × Int := if checkL l = 0 then proofE (l.map recD) i else ([], checkL l)
theorem check_len {l : List Rec} (h : checkL l = 0) : l.length ≤ 10000 := by
  unfold checkL at h
  split at h
  · assumption
  · cases h

theorem root_sl {ds : List Dg} {n cap : Nat} {ao : Option Addr} (w : World) (hn : ds.length = n) (hc : n ≤ cap) (hn' : n ≤ 1099511627776) (hs : DSl w ao ds) :
    Calls Try.prog 19 #[.slice ao n cap] w fun e w' => e = .returned (dv (rootD ds)) ∧ Below w.heap.size w w' := by
  rcases hs with h0 | ⟨b, off, rfl, hb, hd⟩
  · obtain rfl := List.eq_nil_of_length_eq_zero h0
    obtain rfl : n = 0 := hn.symm
    exact root_nil_any ao cap w
  · by_cases h0 : n = 0
    · subst h0
      obtain rfl := List.eq_nil_of_length_eq_zero hn
      exact root_nil_any _ cap w
    · exact root_any n ds n b off cap w hn (Nat.le_refl _) (by omega) hc hn' hb hd
/-- A ledger that came in or was made. -/
structure LedA (w : World) (ao : Option Addr) (n cap : Nat) (l : List Rec) : Prop where
  len : l.length = n
  sl : Sl w 4 ao n (rcells l)
  sizes : ∀ r ∈ l, RecS r
  max : n ≤ maxLen
theorem LedA.below {w w' : World} {ao : Option Addr} {n cap : Nat} {l : List Rec} (h : LedA w ao n cap l) (hb : Below w.heap.size w w') : LedA w' ao n cap l := ⟨h.len, h.sl.below hb, h.sizes, h.max⟩

end Go.Proofs.Ytbghpjedldhnhaa
