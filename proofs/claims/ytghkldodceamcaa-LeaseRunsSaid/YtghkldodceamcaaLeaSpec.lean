/-
  Leases. No program in sight.
-/
import Derived.Test.YtghkldodceamcaaObjName
import Derived.Test.YtghkldodceamcaaDigHash
import Derived.Test.YtghkldodceamcaaDigRootOf
namespace Go.Proofs.Ytghkldodceamcaa
open Go.RowKit

/-- A lease: job, worker, until, epoch. -/
abbrev Lz := Dg × ByteArray × Int × Int
structure Ls where
  clock : Int
  epoch : Int
  l : List Lz
def lzcells (l : List Lz) : List Value := l.flatMap fun x => [.int .u64 x.1.1.toNat, .int .u64 x.1.2.toNat, .string x.2.1, .int .i64 x.2.2.1, .int .i64 x.2.2.2]
theorem lzcells_length (l : List Lz) : (lzcells l).length = l.length * 5 := by
  induction l with
  | nil => rfl
  | cons r l ih => simp [lzcells] at ih ⊢; omega
theorem lzcells_snoc (l : List Lz) (x : Lz) : lzcells (l ++ [x]) = lzcells l ++ [.int .u64 x.1.1.toNat, .int .u64 x.1.2.toNat, .string x.2.1, .int .i64 x.2.2.1, .int .i64 x.2.2.2] := by simp [lzcells]
theorem lzcells_at {l : List Lz} {j : Nat} (h : j < l.length) : (lzcells l)[j * 5 + 0]? = some (.int .u64 (l[j]).1.1.toNat) ∧ (lzcells l)[j * 5 + 1]? = some (.int .u64 (l[j]).1.2.toNat) ∧ (lzcells l)[j * 5 + 2]? = some (.string (l[j]).2.1) ∧ (lzcells l)[j * 5 + 3]? = some (.int .i64 (l[j]).2.2.1) ∧ (lzcells l)[j * 5 + 4]? = some (.int .i64 (l[j]).2.2.2) := by
  induction l generalizing j with
  | nil => simp at h
  | cons d l ih =>
    cases j with
    | zero => simp [lzcells]
    | succ j =>
      have := ih (j := j) (by simpa using h)
      rw [show (j + 1) * 5 + 0 = j * 5 + 0 + 5 by omega, show (j + 1) * 5 + 1 = j * 5 + 1 + 5 by omega, show (j + 1) * 5 + 2 = j * 5 + 2 + 5 by omega, show (j + 1) * 5 + 3 = j * 5 + 3 + 5 by omega, show (j + 1) * 5 + 4 = j * 5 + 4 + 5 by omega]
      simpa [lzcells] using this
/-- Is there a lease of a job for a worker? -/
def hasB (l : List Lz) (job : Dg) (wk : ByteArray) : Bool := l.any fun x => decide (x.1 = job) && decide (x.2.1 = wk)
/-- Is a lease among others? -/
def memB (l : List Lz) (x : Lz) : Bool := l.any fun y => decide (y = x)
def rangeB (n : Int) : Bool := decide (0 ≤ n ∧ n ≤ 1099511627776)
def badB (c e : Int) (x : Lz) : Bool := decide (x.2.2.1 ≤ c ∨ 1099511627776 < x.2.2.1 ∨ x.2.2.2 < 1 ∨ e < x.2.2.2)
def lastE : List Lz → Int
  | [] => 0
  | [x] => x.2.2.2
  | _ :: l => lastE l
/-- Why leases are not valid, behind pre. -/
def lzGo (c e : Int) : List Lz → List Lz → Int
  | _, [] => 0
  | pre, x :: l => if nameB x.2.1 = false then 6 else if badB c e x = true then 2 else if pre ≠ [] ∧ x.2.2.2 ≤ lastE pre then 10 else if hasB pre x.1 x.2.1 = true then 7 else lzGo c e (pre ++ [x]) l
def checkLs (t : Ls) : Int := if rangeB t.clock = false ∨ rangeB t.epoch = false then 2 else if 256 < t.l.length then 4 else lzGo t.clock t.epoch [] t.l
def fitB (c n : Int) : Bool := decide (1 ≤ n ∧ n ≤ 1099511627776 - c)
def ls0 : Ls := ⟨0, 0, []⟩
def lz0 : Lz := ((0, 0), ⟨#[]⟩, 0, 0)
def withL (t : Ls) (l : List Lz) (job : Dg) (wk : ByteArray) (n : Int) : Ls := ⟨t.clock, t.epoch + 1, l ++ [(job, wk, t.clock + n, t.epoch + 1)]⟩
def withX (t : Ls) (job : Dg) (wk : ByteArray) (n : Int) : Lz := (job, wk, t.clock + n, t.epoch + 1)
def grantE (t : Ls) (job : Dg) (wk : ByteArray) (n : Int) : Int :=
  if checkLs t ≠ 0 then 1 else if nameB wk = false then 6 else if fitB t.clock n = false then 2 else if hasB t.l job wk = true then 7 else if 256 ≤ t.l.length then 19 else if t.epoch = 1099511627776 then 4 else 0
def grantL (t : Ls) (job : Dg) (wk : ByteArray) (n : Int) : Ls := if grantE t job wk n = 0 then withL t t.l job wk n else ls0
def grantX (t : Ls) (job : Dg) (wk : ByteArray) (n : Int) : Lz := if grantE t job wk n = 0 then withX t job wk n else lz0
def lessL (l : List Lz) (x : Lz) : List Lz := l.filter fun y => !decide (y = x)
def renewE (t : Ls) (x : Lz) (n : Int) : Int :=
  if checkLs t ≠ 0 then 1 else if memB t.l x = false then 28 else if fitB t.clock n = false then 2 else if t.epoch = 1099511627776 then 4 else 0
def renewL (t : Ls) (x : Lz) (n : Int) : Ls := if renewE t x n = 0 then withL t (lessL t.l x) x.1 x.2.1 n else ls0
def renewX (t : Ls) (x : Lz) (n : Int) : Lz := if renewE t x n = 0 then withX t x.1 x.2.1 n else lz0
def releaseE (t : Ls) (x : Lz) : Int := if checkLs t ≠ 0 then 1 else if memB t.l x = false then 28 else 0
def releaseL (t : Ls) (x : Lz) : Ls := if releaseE t x = 0 then ⟨t.clock, t.epoch, lessL t.l x⟩ else ls0
def advE (t : Ls) (c : Int) : Int := if checkLs t ≠ 0 then 1 else if c < t.clock ∨ 1099511627776 < c then 2 else 0
def advL (t : Ls) (c : Int) : Ls := if advE t c = 0 then ⟨c, t.epoch, t.l.filter fun x => !decide (x.2.2.1 ≤ c)⟩ else ls0
def advG (t : Ls) (c : Int) : List Lz := if advE t c = 0 then t.l.filter fun x => decide (x.2.2.1 ≤ c) else []
def holdsB (t : Ls) (x : Lz) : Bool := decide (checkLs t = 0) && memB t.l x
end Go.Proofs.Ytghkldodceamcaa
