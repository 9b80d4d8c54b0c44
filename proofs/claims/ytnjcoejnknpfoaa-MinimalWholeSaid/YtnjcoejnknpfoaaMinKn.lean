/-
  A search as it lies: its known answers.
-/
import Derived.Test.YtnjcoejnknpfoaaMinSubs
namespace Go.Proofs.Ytnjcoejnknpfoaa
open Go.RowKit
/-- A known answer as it lies. -/
structure Kw where
  vs : List Int
  bad : Bool
  ao : Option Addr
  cap : Nat
/-- What it says. -/
abbrev Kn := List Int × Bool
def Kw.kn (r : Kw) : Kn := (r.vs, r.bad)
abbrev kwe (r : Kw) : List Value := [.slice r.ao r.vs.length r.cap, .bool r.bad]
def kcells (l : List Kw) : List Value := l.flatMap kwe
theorem kwe_length (r : Kw) : (kwe r).length = 2 := rfl
theorem kcells_length (l : List Kw) : (kcells l).length = l.length * 2 := flat_length kwe_length l
theorem kcells_at {l : List Kw} {k : Nat} (h : k < l.length) : (kcells l)[k * 2 + 0]? = some (.slice (l[k]).ao (l[k]).vs.length (l[k]).cap) ∧ (kcells l)[k * 2 + 1]? = some (.bool (l[k]).bad) :=
  ⟨flat_at kwe_length h (by omega), flat_at kwe_length h (by omega)⟩
theorem kcells_append (l m : List Kw) : kcells (l ++ m) = kcells l ++ kcells m := by simp [kcells]
theorem kcells_one (l : List Kw) : ∀ u ∈ kcells l, u.oneCell' = true := by
  intro u hu
  simp only [kcells, List.mem_flatMap] at hu
  obtain ⟨r, _, hu⟩ := hu
  simp only [List.mem_cons, List.not_mem_nil, or_false] at hu
  rcases hu with rfl | rfl <;> rfl
/-- A slice value reads as known answers. -/
structure KA (w : World) (ao : Option Addr) (n cap : Nat) (l : List Kw) : Prop where
  len : l.length = n
  sl : Sl w 2 ao n (kcells l)
  le : n ≤ cap
  max : cap ≤ maxLen
  z : ao = none → cap = 0
  ok : ∀ r ∈ l, IA w r.ao r.vs.length r.cap r.vs
theorem KA.below {w w' : World} {ao : Option Addr} {n cap : Nat} {l : List Kw} (h : KA w ao n cap l) (hb : Below w.heap.size w w') : KA w' ao n cap l := ⟨h.len, h.sl.below hb, h.le, h.max, h.z, fun r hr => (h.ok r hr).below hb⟩
end Go.Proofs.Ytnjcoejnknpfoaa
