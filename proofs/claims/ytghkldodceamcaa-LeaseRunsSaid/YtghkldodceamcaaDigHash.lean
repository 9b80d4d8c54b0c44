/-
  Plain functions: hash trees of digests: their root, the proof of a place, and what a proof results in.
-/
import Derived.Test.YtghkldodceamcaaDigSpec
namespace Go.Proofs.Ytghkldodceamcaa
open Go.RowKit

/-- A digest: two numbers of 64 bits. -/
abbrev Dg := UInt64 × UInt64
/-- A digest as a value. -/
@[simp, reducible] def dv (d : Dg) : Value := .agg #[.int .u64 d.1.toNat, .int .u64 d.2.toNat]

/-- The greatest power of two below n. -/
def halfN (n : Nat) : Nat := 2 ^ Nat.log2 (n - 1)
theorem halfN_lt {n : Nat} (h : 2 ≤ n) : halfN n < n := by
  unfold halfN
  have := Nat.log2_self_le (n := n - 1) (by omega)
  omega
theorem halfN_pos (n : Nat) : 0 < halfN n := Nat.two_pow_pos _
theorem halfN_ge {n : Nat} (h : 2 ≤ n) : n ≤ 2 * halfN n := by
  unfold halfN
  have := Nat.lt_log2_self (n := n - 1)
  rw [Nat.pow_succ] at this
  omega
theorem halfN_eq {n k j : Nat} (hk : k = 2 ^ j) (h1 : k < n) (h2 : n ≤ 2 * k) : k = halfN n := by
  unfold halfN
  subst hk
  congr 1
  have hp := Nat.two_pow_pos j
  exact ((Nat.log2_eq_iff (by omega)).2 ⟨by omega, by rw [Nat.pow_succ]; omega⟩).symm

def leafD (d : Dg) : Dg := ofU (0 :: bytesU d.1 d.2)
def pairD (a b : Dg) : Dg := ofU (1 :: (bytesU a.1 a.2 ++ bytesU b.1 b.2))

/-- The root of the hash tree of a list. -/
def rootD (l : List Dg) : Dg :=
  if _h : 2 ≤ l.length then pairD (rootD (l.take (halfN l.length))) (rootD (l.drop (halfN l.length)))
  else match l with
    | [] => ofU []
    | d :: _ => leafD d
termination_by l.length
decreasing_by
  · have := halfN_lt _h; simp; omega
  · have := halfN_pos l.length; simp; omega

theorem rootD_nil : rootD [] = ofU [] := by rw [rootD]; simp
theorem rootD_one (d : Dg) : rootD [d] = leafD d := by rw [rootD]; simp
theorem rootD_more {l : List Dg} (h : 2 ≤ l.length) : rootD l = pairD (rootD (l.take (halfN l.length))) (rootD (l.drop (halfN l.length))) := by rw [rootD, dif_pos h]

/-- The proof of the place i. -/
def proofD (l : List Dg) (i : Nat) : List Dg :=
  if _h : 2 ≤ l.length then
    if i < halfN l.length then proofD (l.take (halfN l.length)) i ++ [rootD (l.drop (halfN l.length))]
    else proofD (l.drop (halfN l.length)) (i - halfN l.length) ++ [rootD (l.take (halfN l.length))]
  else []
termination_by l.length
decreasing_by
  · have := halfN_lt _h; simp; omega
  · have := halfN_pos l.length; simp; omega
theorem proofD_few {l : List Dg} (h : l.length < 2) (i : Nat) : proofD l i = [] := by rw [proofD, dif_neg (by omega)]
theorem proofD_lo {l : List Dg} {i : Nat} (h : 2 ≤ l.length) (hi : i < halfN l.length) : proofD l i = proofD (l.take (halfN l.length)) i ++ [rootD (l.drop (halfN l.length))] := by
  rw [proofD, dif_pos h, if_pos hi]
theorem proofD_hi {l : List Dg} {i : Nat} (h : 2 ≤ l.length) (hi : ¬ i < halfN l.length) : proofD l i = proofD (l.drop (halfN l.length)) (i - halfN l.length) ++ [rootD (l.take (halfN l.length))] := by
  rw [proofD, dif_pos h, if_neg hi]

theorem proofD_length (m : Nat) : ∀ (l : List Dg) (i : Nat), l.length ≤ m → (proofD l i).length ≤ l.length := by
  induction m with
  | zero => intro l i h; rw [proofD_few (by omega)]; simp
  | succ m ih =>
    intro l i h
    by_cases h2 : 2 ≤ l.length
    · have h0 := halfN_pos l.length
      have h1 := halfN_lt h2
      by_cases hi : i < halfN l.length
      · rw [proofD_lo h2 hi]
        have := ih (l.take (halfN l.length)) i (by simp; omega)
        simp at this ⊢; omega
      · rw [proofD_hi h2 hi]
        have := ih (l.drop (halfN l.length)) (i - halfN l.length) (by simp; omega)
        simp at this ⊢; omega
    · rw [proofD_few (by omega)]; simp

/-- The root that results from a digest and a proof; and whether the proof has the right length. -/
def resultD (n i : Nat) (d : Dg) (p : List Dg) : Dg × Bool :=
  if n = 1 then (leafD d, decide (p.length = 0))
  else if _h : p.length = 0 then ((0, 0), false)
  else if i < halfN n then (pairD (resultD (halfN n) i d p.dropLast).1 (p.getLastD (0, 0)), (resultD (halfN n) i d p.dropLast).2)
  else (pairD (p.getLastD (0, 0)) (resultD (n - halfN n) (i - halfN n) d p.dropLast).1, (resultD (n - halfN n) (i - halfN n) d p.dropLast).2)
termination_by p.length
decreasing_by all_goals (simp; omega)

theorem resultD_one (i : Nat) (d : Dg) (p : List Dg) : resultD 1 i d p = (leafD d, decide (p.length = 0)) := by rw [resultD]; simp
theorem resultD_nil {n : Nat} (h : n ≠ 1) (i : Nat) (d : Dg) : resultD n i d [] = ((0, 0), false) := by rw [resultD]; simp [h]
theorem resultD_lo {n i : Nat} (h : n ≠ 1) (hi : i < halfN n) (d : Dg) (q : List Dg) (e : Dg) : resultD n i d (q ++ [e]) = (pairD (resultD (halfN n) i d q).1 e, (resultD (halfN n) i d q).2) := by
  rw [resultD]
  simp only [h, if_false, List.length_append, List.length_cons, List.length_nil, hi, if_true, List.dropLast_concat]
  rw [dif_neg (by omega)]
  simp
theorem resultD_hi {n i : Nat} (h : n ≠ 1) (hi : ¬ i < halfN n) (d : Dg) (q : List Dg) (e : Dg) : resultD n i d (q ++ [e]) = (pairD e (resultD (n - halfN n) (i - halfN n) d q).1, (resultD (n - halfN n) (i - halfN n) d q).2) := by
  rw [resultD]
  simp only [h, if_false, List.length_append, List.length_cons, List.length_nil, hi, List.dropLast_concat]
  rw [dif_neg (by omega)]
  simp

/-- Two cells an element. -/
def dcells (l : List Dg) : List Value := l.flatMap fun d => [.int .u64 d.1.toNat, .int .u64 d.2.toNat]
theorem dcells_append (l m : List Dg) : dcells (l ++ m) = dcells l ++ dcells m := by simp [dcells]
theorem dcells_length (l : List Dg) : (dcells l).length = l.length * 2 := by
  induction l with
  | nil => rfl
  | cons d l ih => simp [dcells] at ih ⊢; omega

/-- In world w the cells from off on in block b hold the digests. -/
def DCells (w : World) (b off : Nat) (l : List Dg) : Prop :=
  ∀ j (h : j < l.length), w.cell? ⟨b, off + j * 2, none⟩ = some (.int .u64 (l[j]).1.toNat) ∧ w.cell? ⟨b, off + j * 2 + 1, none⟩ = some (.int .u64 (l[j]).2.toNat)
theorem DCells.take {w : World} {b off : Nat} {l : List Dg} (h : DCells w b off l) (k : Nat) : DCells w b off (l.take k) := fun j hj => by
  have : j < l.length := by simp at hj; omega
  simpa using h j this
theorem DCells.drop {w : World} {b off : Nat} {l : List Dg} (h : DCells w b off l) (k : Nat) : DCells w b (off + k * 2) (l.drop k) := fun j hj => by
  have hj' : k + j < l.length := by simp at hj; omega
  have := h (k + j) hj'
  rw [show off + k * 2 + j * 2 = off + (k + j) * 2 by omega]
  simpa using this
theorem DCells.below {w w' : World} {b off B : Nat} {l : List Dg} (h : DCells w b off l) (hb : Below B w w') (hB : b < B) : DCells w' b off l := fun j hj => by
  rw [hb.cell (p := ⟨b, _, none⟩) hB, hb.cell (p := ⟨b, _, none⟩) hB]
  exact h j hj
theorem DCells.at {w : World} {b off : Nat} {l : List Dg} (h : DCells w b off l) {j : Nat} (hj : j < l.length) : w.cell? ⟨b, off + j * 2, none⟩ = some (.int .u64 (l[j]).1.toNat) ∧ w.cell? ⟨b, off + j * 2 + 1, none⟩ = some (.int .u64 (l[j]).2.toNat) := h j hj
end Go.Proofs.Ytghkldodceamcaa
