/-
  Ledgers. No program in sight.
-/
import Derived.Test.YtphjillihapbfaaGreatDoorGrpE
import Derived.Test.YtphjillihapbfaaGreatDoorGrpB
namespace Go.Proofs.YtphjillihapbfaaGreatDoor
open Go.RowKit

/-- A record: time, who, what, data. -/
abbrev Rec := Int × ByteArray × ByteArray × ByteArray
def wordP (n : Int) : Prop := (97 ≤ n ∧ n ≤ 122) ∨ (65 ≤ n ∧ n ≤ 90) ∨ (48 ≤ n ∧ n ≤ 57) ∨ n = 46 ∨ n = 45 ∨ n = 95
instance (n : Int) : Decidable (wordP n) := by unfold wordP; infer_instance
def wordC (c : UInt8) : Bool := decide (wordP c.toNat)
/-- May this be Who or What? -/
def wordB (l : List UInt8) : Bool := decide (1 ≤ l.length ∧ l.length ≤ 24) && l.all wordC
theorem wordB_len {l : List UInt8} (h : ¬ (1 ≤ l.length ∧ l.length ≤ 24)) : wordB l = false := by unfold wordB; rw [decide_eq_false h]; rfl
theorem wordB_bad {l : List UInt8} {k : Nat} (h : k < l.length) (hc : ¬ wordP (l[k]).toNat) : wordB l = false := by
  unfold wordB
  rw [Bool.and_eq_false_iff]
  right
  rw [List.all_eq_false]
  exact ⟨l[k], List.getElem_mem h, by simpa [wordC] using hc⟩
theorem wordB_good {l : List UInt8} (h : 1 ≤ l.length ∧ l.length ≤ 24) (ha : l.all wordC = true) : wordB l = true := by unfold wordB; rw [decide_eq_true h, ha]; rfl
theorem all_succ {l : List UInt8} {k : Nat} (h : k < l.length) (ha : (l.take k).all wordC = true) (hc : wordP (l[k]).toNat) : (l.take (k + 1)).all wordC = true := by
  rw [List.take_succ_eq_append_getElem h, List.all_append, ha]
  simpa [wordC] using hc
/-- Is the record valid? -/
def recB (r : Rec) : Bool := decide (0 ≤ r.1 ∧ r.1 ≤ 1099511627776) && (wordB r.2.1.data.toList && (wordB r.2.2.1.data.toList && decide (r.2.2.2.size ≤ 65536)))
/-- A record's text. -/
def recL (r : Rec) : List UInt8 := putI r.1 ++ putX r.2.1.data.toList ++ putX r.2.2.1.data.toList ++ putX r.2.2.2.data.toList
/-- A record's digest. -/
def recD (r : Rec) : Dg := ofU (recL r)
/-- Why a ledger is not valid. -/
def chkGo : Option Int → List Rec → Int
  | _, [] => 0
  | none, r :: l => if recB r then chkGo (some r.1) l else 1
  | some p, r :: l => if recB r then (if r.1 < p then 10 else chkGo (some r.1) l) else 1
def checkL (l : List Rec) : Int := if l.length ≤ 10000 then chkGo none l else 19
/-- A record as a value. -/
abbrev rv (r : Rec) : Value := .agg #[.int .i64 r.1, .string r.2.1, .string r.2.2.1, .string r.2.2.2]
def rcells (l : List Rec) : List Value := l.flatMap fun r => [.int .i64 r.1, .string r.2.1, .string r.2.2.1, .string r.2.2.2]
theorem rcells_append (a b : List Rec) : rcells (a ++ b) = rcells a ++ rcells b := by simp [rcells]
theorem rcells_length (l : List Rec) : (rcells l).length = l.length * 4 := by
  induction l with
  | nil => rfl
  | cons r l ih => simp [rcells] at ih ⊢; omega
theorem rcells_at {l : List Rec} {j : Nat} (h : j < l.length) : (rcells l)[j * 4 + 0]? = some (.int .i64 (l[j]).1) ∧ (rcells l)[j * 4 + 1]? = some (.string (l[j]).2.1) ∧ (rcells l)[j * 4 + 2]? = some (.string (l[j]).2.2.1) ∧ (rcells l)[j * 4 + 3]? = some (.string (l[j]).2.2.2) := by
  induction l generalizing j with
  | nil => simp at h
  | cons d l ih =>
    cases j with
    | zero => simp [rcells]
    | succ j =>
      have := ih (j := j) (by simpa using h)
      rw [show (j + 1) * 4 + 0 = j * 4 + 0 + 4 by omega, show (j + 1) * 4 + 1 = j * 4 + 1 + 4 by omega, show (j + 1) * 4 + 2 = j * 4 + 2 + 4 by omega, show (j + 1) * 4 + 3 = j * 4 + 3 + 4 by omega]
      simpa [rcells] using this
theorem rcells_take (l : List Rec) (k : Nat) : (rcells l).take (k * 4) = rcells (l.take k) := by
  induction l generalizing k with
  | nil => simp [rcells]
  | cons d l ih =>
    cases k with
    | zero => simp [rcells]
    | succ k =>
      have := ih k
      rw [show (k + 1) * 4 = k * 4 + 4 by omega]
      simpa [rcells] using this
end Go.Proofs.YtphjillihapbfaaGreatDoor
