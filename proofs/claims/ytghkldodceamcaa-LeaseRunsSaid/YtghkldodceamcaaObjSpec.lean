/-
  Objects. No program in sight.
-/
import Derived.Test.YtghkldodceamcaaObjName
import Derived.Test.YtghkldodceamcaaDigHash
import Derived.Test.YtghkldodceamcaaDigRootOf
import Derived.Test.YtghkldodceamcaaCodPut
namespace Go.Proofs.Ytghkldodceamcaa
open Go.RowKit

/-- An entry: name, dir, digest. -/
abbrev Ent := ByteArray × Bool × Dg
structure Ob where
  kind : Int
  data : ByteArray
  ents : List Ent
  tree : Dg
  pars : List Dg
  auth : ByteArray
  time : Int
  msg : ByteArray
def ecells (l : List Ent) : List Value := l.flatMap fun e => [.string e.1, .bool e.2.1, .int .u64 e.2.2.1.toNat, .int .u64 e.2.2.2.toNat]
theorem ecells_length (l : List Ent) : (ecells l).length = l.length * 4 := by
  induction l with
  | nil => rfl
  | cons r l ih => simp [ecells] at ih ⊢; omega
theorem ecells_at {l : List Ent} {j : Nat} (h : j < l.length) : (ecells l)[j * 4 + 0]? = some (.string (l[j]).1) ∧ (ecells l)[j * 4 + 1]? = some (.bool (l[j]).2.1) ∧ (ecells l)[j * 4 + 2]? = some (.int .u64 (l[j]).2.2.1.toNat) ∧ (ecells l)[j * 4 + 3]? = some (.int .u64 (l[j]).2.2.2.toNat) := by
  induction l generalizing j with
  | nil => simp at h
  | cons d l ih =>
    cases j with
    | zero => simp [ecells]
    | succ j =>
      have := ih (j := j) (by simpa using h)
      rw [show (j + 1) * 4 + 0 = j * 4 + 0 + 4 by omega, show (j + 1) * 4 + 1 = j * 4 + 1 + 4 by omega, show (j + 1) * 4 + 2 = j * 4 + 2 + 4 by omega, show (j + 1) * 4 + 3 = j * 4 + 3 + 4 by omega]
      simpa [ecells] using this
/-- Is a name not behind another one? -/
def leB (a b : ByteArray) : Bool := Op.bytesLess a.toList b.toList || a.toList == b.toList
/-- Is a digest zero? -/
def zeroB (d : Dg) : Bool := decide (d = (0, 0))
/-- Why entries are not valid, apart from their number. -/
def entsGo : Option ByteArray → List Ent → Int
  | _, [] => 0
  | p, e :: l => if nameB e.1 = true then (if (match p with | some q => leB e.1 q | none => false) = true then 10 else if zeroB e.2.2 = true then 1 else entsGo (some e.1) l) else 6
def entsE (l : List Ent) : Int := if l.length ≤ 200 then entsGo none l else 4
theorem ents_name {p : Option ByteArray} {e : Ent} {l : List Ent} (h : nameB e.1 = false) : entsGo p (e :: l) = 6 := by simp [entsGo, h]
theorem ents_order {q : ByteArray} {e : Ent} {l : List Ent} (h : nameB e.1 = true) (ho : leB e.1 q = true) : entsGo (some q) (e :: l) = 10 := by simp [entsGo, h, ho]
theorem ents_zero {p : Option ByteArray} {e : Ent} {l : List Ent} (h : nameB e.1 = true) (ho : ∀ q, p = some q → leB e.1 q = false) (hz : zeroB e.2.2 = true) : entsGo p (e :: l) = 1 := by
  cases p with
  | none => simp [entsGo, h, hz]
  | some q => simp [entsGo, h, ho q rfl, hz]
theorem ents_next {p : Option ByteArray} {e : Ent} {l : List Ent} (h : nameB e.1 = true) (ho : ∀ q, p = some q → leB e.1 q = false) (hz : zeroB e.2.2 = false) : entsGo p (e :: l) = entsGo (some e.1) l := by
  cases p with
  | none => simp [entsGo, h, hz]
  | some q => simp [entsGo, h, ho q rfl, hz]
/-- The order of bytes is total. -/
theorem less_total : ∀ (a b : List UInt8), (!Op.bytesLess a b) = (Op.bytesLess b a || b == a)
  | [], [] => rfl
  | [], _ :: _ => rfl
  | _ :: _, [] => rfl
  | x :: a, y :: b => by
    have ih := less_total a b
    unfold Op.bytesLess
    by_cases h1 : x < y
    · have h2 : ¬ y < x := by intro h; exact absurd (UInt8.lt_trans h1 h) (UInt8.lt_irrefl x)
      have h3 : ¬ y = x := by intro h; subst h; exact UInt8.lt_irrefl _ h1
      simp [h1, h2, h3]
    · by_cases h2 : y < x
      · have h3 : ¬ x = y := by intro h; subst h; exact UInt8.lt_irrefl _ h2
        simp [h1, h2, h3]
      · have h3 : x = y := UInt8.le_antisymm (UInt8.not_lt.1 h2) (UInt8.not_lt.1 h1)
        subst h3
        have hx : ¬ x < x := UInt8.lt_irrefl x
        simp only [hx, decide_false, Bool.false_or, beq_self_eq_true, Bool.true_and]
        rw [ih]
        simp
theorem ge_le (a b : ByteArray) : (!Op.bytesLess a.toList b.toList) = leB b a := less_total _ _
end Go.Proofs.Ytghkldodceamcaa
