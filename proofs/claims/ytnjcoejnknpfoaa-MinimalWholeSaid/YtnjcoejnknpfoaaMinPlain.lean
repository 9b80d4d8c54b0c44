/-
  The search as plain functions: the questions, answered by what is known.
-/
import Derived.Test.YtnjcoejnknpfoaaMinShort
namespace Go.Proofs.Ytnjcoejnknpfoaa
/-- The known answer to a set. -/
def lookL (kn : List Kn) (s : List Int) : Option Bool := (kn.find? fun k => decide (k.1 = s)).map (·.2)
theorem lookL_snoc (kn : List Kn) (s t : List Int) (b : Bool) : lookL (kn ++ [(s, b)]) t = match lookL kn t with | some c => some c | none => if s = t then some b else none := by
  unfold lookL
  rw [List.find?_append]
  cases h : kn.find? fun k => decide (k.1 = t) with
  | some c => rfl
  | none =>
    by_cases e : s = t
    · simp [e]
    · simp [e]
/-- A question, u answers used: the answer, and how many are used behind it. -/
def ask1 (kn : List Kn) (u : Nat) (s : List Int) : Option (Bool × Nat) :=
  match lookL (kn.take u) s with
  | some b => some (b, u)
  | none => match kn[u]? with
    | some k => if k.1 = s then some (k.2, u + 1) else none
    | none => none
theorem ask1_old {kn : List Kn} {u : Nat} {s : List Int} {b : Bool} (h : lookL (kn.take u) s = some b) : ask1 kn u s = some (b, u) := by
  unfold ask1
  rw [h]
theorem ask1_new {kn : List Kn} {u : Nat} {s : List Int} {b : Bool} (h : lookL (kn.take u) s = none) (hk : kn[u]? = some (s, b)) : ask1 kn u s = some (b, u + 1) := by
  unfold ask1
  rw [h, hk]
  simp
theorem ask1_stop {kn : List Kn} {u : Nat} {s : List Int} (h : lookL (kn.take u) s = none) (hk : ∀ b, kn[u]? ≠ some (s, b)) : ask1 kn u s = none := by
  unfold ask1
  rw [h]
  cases hu : kn[u]? with
  | none => rfl
  | some k =>
    obtain ⟨t, b⟩ := k
    by_cases e : t = s
    · subst e
      exact absurd hu (hk b)
    · simp [e]
theorem ask1_le {kn : List Kn} {u u' : Nat} {s : List Int} {b : Bool} (h : ask1 kn u s = some (b, u')) (hu : u ≤ kn.length) : u ≤ u' ∧ u' ≤ kn.length := by
  unfold ask1 at h
  split at h
  · cases h; exact ⟨Nat.le_refl _, hu⟩
  · split at h
    · rename_i k hk
      split at h
      · cases h
        exact ⟨by omega, (List.getElem?_eq_some_iff.1 hk).1⟩
      · cases h
    · cases h
/-- How far the answers lead: the set that is asked next, or the result. -/
structure St where
  set : List Int
  done : Bool
  used : Nat
deriving DecidableEq
/-- All sets in order. -/
def runF (kn : List Kn) (n : Nat) : List (List Int) → Nat → St
  | [], u => ⟨upto n, true, u⟩
  | s :: r, u => match ask1 kn u s with
    | none => ⟨s, false, u⟩
    | some (true, u') => ⟨s, true, u'⟩
    | some (false, u') => runF kn n r u'
/-- The sets of fewer than n elements, from the k-th size on. -/
def fromK (n k : Nat) : List (List Int) := (List.range' k (n - k)).flatMap fun j => setsL n j 0
theorem fromK_step {n k : Nat} (h : k < n) : fromK n k = setsL n k 0 ++ fromK n (k + 1) := by
  unfold fromK
  rw [show n - k = (n - (k + 1)) + 1 by omega, List.range'_succ, List.flatMap_cons]
theorem fromK_none {n k : Nat} (h : n ≤ k) : fromK n k = [] := by
  unfold fromK
  rw [show n - k = 0 by omega]
  rfl
/-- One element after the other is left out: what is left; whether this pass has changed anything; the rest of the pass; answers used; where it leads. -/
inductive OutR (kn : List Kn) : List Int → Bool → List Int → Nat → St → Prop
  | stop {now ch x r u} : ask1 kn u (lessI now x) = none → OutR kn now ch (x :: r) u ⟨lessI now x, false, u⟩
  | bad {now ch x r u u' st} : ask1 kn u (lessI now x) = some (true, u') → OutR kn (lessI now x) true r u' st → OutR kn now ch (x :: r) u st
  | good {now ch x r u u' st} : ask1 kn u (lessI now x) = some (false, u') → OutR kn now ch r u' st → OutR kn now ch (x :: r) u st
  | again {now u st} : OutR kn now false now u st → OutR kn now true [] u st
  | fin {now u} : OutR kn now false [] u ⟨now, true, u⟩
theorem OutR.det {kn : List Kn} {now r : List Int} {ch : Bool} {u : Nat} {st : St} (h : OutR kn now ch r u st) : ∀ {st' : St}, OutR kn now ch r u st' → st = st' := by
  induction h with
  | stop h => intro st' k; cases k <;> simp_all
  | bad h _ ih =>
    intro st' k
    cases k with
    | stop k => rw [h] at k; cases k
    | bad k k2 => rw [h] at k; cases k; exact ih k2
    | good k k2 => rw [h] at k; cases k
  | good h _ ih =>
    intro st' k
    cases k with
    | stop k => rw [h] at k; cases k
    | bad k k2 => rw [h] at k; cases k
    | good k k2 => rw [h] at k; cases k; exact ih k2
  | again _ ih => intro st' k; cases k with | again k => exact ih k
  | fin => intro st' k; cases k; rfl
/-- Where the answers of a search lead. -/
def Leads (kn : List Kn) (n : Nat) (st : St) : Prop := if n ≤ 5 then st = runF kn n (fromK n 0) 0 else OutR kn (upto n) true [] 0 st
theorem Leads.det {kn : List Kn} {n : Nat} {st st' : St} (h : Leads kn n st) (h' : Leads kn n st') : st = st' := by
  unfold Leads at h h'
  split at h
  · rename_i h5
    rw [if_pos h5] at h'
    rw [h, h']
  · rename_i h5
    rw [if_neg h5] at h'
    exact h.det h'
/-- Numbers that a byte holds. -/
def InR (s : List Int) : Prop := ∀ x ∈ s, 0 ≤ x ∧ x < 64
theorem byteI_inj {x y : Int} (hx : 0 ≤ x ∧ x < 64) (hy : 0 ≤ y ∧ y < 64) (h : byteI x = byteI y) : x = y := by
  have h1 := byteI_val x
  have h2 := byteI_val y
  rw [h] at h1
  omega
theorem bytesI_inj : ∀ {s t : List Int}, InR s → InR t → bytesI s = bytesI t → s = t
  | [], [], _, _, _ => rfl
  | [], _ :: _, _, _, h => by cases h
  | _ :: _, [], _, _, h => by cases h
  | x :: s, y :: t, hs, ht, h => by
    simp only [bytesI, List.map_cons, List.cons.injEq] at h
    rw [byteI_inj (hs x (by simp)) (ht y (by simp)) h.1, bytesI_inj (fun z hz => hs z (by simp [hz])) (fun z hz => ht z (by simp [hz])) h.2]
end Go.Proofs.Ytnjcoejnknpfoaa
