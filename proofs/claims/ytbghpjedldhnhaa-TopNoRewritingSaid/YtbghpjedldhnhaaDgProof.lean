/-
  Proofs as slices of digests.
-/
import Derived.Test.YtbghpjedldhnhaaDigProofs
import Derived.Test.YtbghpjedldhnhaaDigVerify
namespace Go.Proofs.Ytbghpjedldhnhaa
open Go.RowKit

theorem getElem_dcells (l : List Dg) (j : Nat) (h : j < l.length) : (dcells l)[j * 2]? = some (.int .u64 (l[j]).1.toNat) ∧ (dcells l)[j * 2 + 1]? = some (.int .u64 (l[j]).2.toNat) := by
  induction l generalizing j with
  | nil => simp at h
  | cons d l ih =>
    cases j with
    | zero => simp [dcells]
    | succ j =>
      have := ih j (by simpa using h)
      rw [show (j + 1) * 2 = j * 2 + 2 by omega]
      simpa [dcells] using this

theorem dsl_of_own {w : World} {base : Nat} {v : Value} {n : Nat} {l : List Dg} (h : w.ownsRow base 32 2 v n (dcells l)) : ∃ ao cap, v = .slice ao n cap ∧ l.length = n ∧ n ≤ cap ∧ DSl w ao l := by
  have hl : l.length = n := by
    have := h.1
    rw [dcells_length] at this
    omega
  rcases h.2 with ⟨rfl, rfl⟩ | ⟨g, cap, cur, rfl, hg, hc, hn, hm, hsz, htk⟩
  · exact ⟨none, 0, rfl, hl, Nat.le_refl _, .inl hl⟩
  · refine ⟨some ⟨g, 0, none⟩, cap, rfl, hl, hn, .inr ⟨g, 0, rfl, (h.lt g rfl).2, ?_⟩⟩
    intro j hj
    obtain ⟨h1, h2⟩ := getElem_dcells l j hj
    rw [Nat.zero_add]
    rw [h.cellAt (j * 2) (by omega), h.cellAt (j * 2 + 1) (by omega)]
    exact ⟨h1, h2⟩

theorem Proof_sl (l : List Dg) (n : Nat) (ao : Option Addr) (cap : Nat) (i : Int) (w : World) (hn : l.length = n) (hcap : n ≤ cap) (hl : n ≤ 1000000) (hs : DSl w ao l) :
    Calls Try.prog 32 #[.slice ao n cap, .int .i64 i] w fun e w' => ∃ ao' n' cap', e = .returned (.tuple #[.slice ao' n' cap', .int .i64 (proofE l i).2]) ∧ (proofE l i).1.length = n' ∧ n' ≤ cap' ∧ DSl w' ao' (proofE l i).1 ∧ Below w.heap.size w w' :=
  (Proof_any l n ao cap i w hn hcap hl hs).mono fun _ _ ⟨_, he, hown, hb⟩ => by
    obtain ⟨ao', cap', rfl, h1, h2, h3⟩ := dsl_of_own hown
    exact ⟨ao', _, cap', he, rfl, h2, h3, hb⟩
end Go.Proofs.Ytbghpjedldhnhaa
