/-
  Ballots: what votes and ballots read as; the plain functions. No program in sight.
-/
import Derived.WalkKit
import Derived.Test.YtcpnpcbaifagbaaSl
import Derived.Test.YtcpnpcbaifagbaaDelRow
namespace Go.Proofs.Ytcpnpcbaifagbaa
open Go.RowKit

/-- A digest: two numbers. -/
abbrev Dg := UInt64 × UInt64
@[simp, reducible] def dv (d : Dg) : Value := .agg #[.int .u64 d.1.toNat, .int .u64 d.2.toNat]
/-- A vote: worker, output. -/
abbrev Vt := ByteArray × ByteArray
abbrev vte (v : Vt) : List Value := [.string v.1, .string v.2]
abbrev vtc (v : Vt) : Array Value := #[.string v.1, .string v.2]
def vcells (l : List Vt) : List Value := l.flatMap vte
/-- A ballot: key, votes. -/
abbrev Bal := Dg × List Vt
/-- A ballot as it lies in memory: its key, its votes, where they lie, and how many have room there. -/
structure Rw where
  key : Dg
  vs : List Vt
  ao : Option Addr
  cap : Nat
def Rw.bal (r : Rw) : Bal := (r.key, r.vs)
abbrev rwe (r : Rw) : List Value := [.int .u64 r.key.1.toNat, .int .u64 r.key.2.toNat, .slice r.ao r.vs.length r.cap]
abbrev rwc (r : Rw) : Array Value := #[.int .u64 r.key.1.toNat, .int .u64 r.key.2.toNat, .slice r.ao r.vs.length r.cap]
def rcells (l : List Rw) : List Value := l.flatMap rwe
theorem vte_length (v : Vt) : (vte v).length = 2 := rfl
theorem rwe_length (r : Rw) : (rwe r).length = 3 := rfl
theorem vcells_length (l : List Vt) : (vcells l).length = l.length * 2 := flat_length vte_length l
theorem rcells_length (l : List Rw) : (rcells l).length = l.length * 3 := flat_length rwe_length l
theorem vcells_at {l : List Vt} {k : Nat} (h : k < l.length) : (vcells l)[k * 2 + 0]? = some (.string (l[k]).1) ∧ (vcells l)[k * 2 + 1]? = some (.string (l[k]).2) :=
  ⟨flat_at vte_length h (by omega), flat_at vte_length h (by omega)⟩
theorem rcells_at {l : List Rw} {k : Nat} (h : k < l.length) : (rcells l)[k * 3 + 0]? = some (.int .u64 (l[k]).key.1.toNat) ∧ (rcells l)[k * 3 + 1]? = some (.int .u64 (l[k]).key.2.toNat) ∧ (rcells l)[k * 3 + 2]? = some (.slice (l[k]).ao (l[k]).vs.length (l[k]).cap) :=
  ⟨flat_at rwe_length h (by omega), flat_at rwe_length h (by omega), flat_at rwe_length h (by omega)⟩
theorem vcells_append (l m : List Vt) : vcells (l ++ m) = vcells l ++ vcells m := by simp [vcells]
theorem rcells_append (l m : List Rw) : rcells (l ++ m) = rcells l ++ rcells m := by simp [rcells]
theorem vcells_one (l : List Vt) : ∀ u ∈ vcells l, u.oneCell' = true := by
  intro u hu
  simp only [vcells, List.mem_flatMap] at hu
  obtain ⟨x, _, hx⟩ := hu
  simp only [List.mem_cons, List.not_mem_nil, or_false] at hx
  rcases hx with rfl | rfl <;> rfl
theorem rcells_one (l : List Rw) : ∀ u ∈ rcells l, u.oneCell' = true := by
  intro u hu
  simp only [rcells, List.mem_flatMap] at hu
  obtain ⟨x, _, hx⟩ := hu
  simp only [List.mem_cons, List.not_mem_nil, or_false] at hx
  rcases hx with rfl | rfl | rfl <;> rfl

/-- A slice value reads as votes. -/
structure VA (w : World) (ao : Option Addr) (n cap : Nat) (l : List Vt) : Prop where
  len : l.length = n
  sl : Sl w 2 ao n (vcells l)
  le : n ≤ cap
  max : cap ≤ maxLen
  z : ao = none → cap = 0
  sz : ∀ v ∈ l, v.1.size ≤ maxLen ∧ v.2.size ≤ maxLen
theorem VA.below {w w' : World} {ao : Option Addr} {n cap : Nat} {l : List Vt} (h : VA w ao n cap l) (hb : Below w.heap.size w w') : VA w' ao n cap l := ⟨h.len, h.sl.below hb, h.le, h.max, h.z, h.sz⟩
theorem VA.nil {w : World} : VA w none 0 0 [] := ⟨rfl, Sl.nil, Nat.le_refl _, by simp [maxLen], fun _ => rfl, fun v h => by cases h⟩
/-- A slice value reads as ballots. -/
structure BA (w : World) (ao : Option Addr) (n cap : Nat) (l : List Rw) : Prop where
  len : l.length = n
  sl : Sl w 3 ao n (rcells l)
  le : n ≤ cap
  max : cap ≤ maxLen
  z : ao = none → cap = 0
  ok : ∀ r ∈ l, VA w r.ao r.vs.length r.cap r.vs
theorem BA.below {w w' : World} {ao : Option Addr} {n cap : Nat} {l : List Rw} (h : BA w ao n cap l) (hb : Below w.heap.size w w') : BA w' ao n cap l := ⟨h.len, h.sl.below hb, h.le, h.max, h.z, fun r hr => (h.ok r hr).below hb⟩
theorem BA.nil {w : World} : BA w none 0 0 [] := ⟨rfl, Sl.nil, Nat.le_refl _, by simp [maxLen], fun _ => rfl, fun v h => by cases h⟩
theorem VA.of_own {w : World} {base : Nat} {e : TypeId} {v : Value} {n : Nat} {l : List Vt} (h : w.ownsRow base e 2 v n (vcells l)) (hs : ∀ v ∈ l, v.1.size ≤ maxLen ∧ v.2.size ≤ maxLen) : ∃ ao cap, v = .slice ao n cap ∧ VA w ao n cap l := by
  have hl := h.1
  rw [vcells_length] at hl
  obtain ⟨ao, cap, rfl, h1, h2, h3⟩ := Sl.of_own h
  refine ⟨ao, cap, rfl, by omega, h3, h1, h2, fun e => ?_, hs⟩
  subst e
  rcases h.2 with ⟨hv, _⟩ | ⟨g, cap', cur, hv, _⟩
  · cases hv; rfl
  · cases hv
theorem BA.of_own {w : World} {base : Nat} {e : TypeId} {v : Value} {n : Nat} {l : List Rw} (h : w.ownsRow base e 3 v n (rcells l)) (hs : ∀ r ∈ l, VA w r.ao r.vs.length r.cap r.vs) : ∃ ao cap, v = .slice ao n cap ∧ BA w ao n cap l := by
  have hl := h.1
  rw [rcells_length] at hl
  obtain ⟨ao, cap, rfl, h1, h2, h3⟩ := Sl.of_own h
  refine ⟨ao, cap, rfl, by omega, h3, h1, h2, fun e => ?_, hs⟩
  subst e
  rcases h.2 with ⟨hv, _⟩ | ⟨g, cap', cur, hv, _⟩
  · cases hv; rfl
  · cases hv

/-! The order of strings and of keys. -/
def leB (a b : ByteArray) : Bool := Op.bytesLess a.toList b.toList || a.toList == b.toList
def ltB (a b : ByteArray) : Bool := Op.bytesLess a.toList b.toList
theorem less_total : ∀ (a b : List UInt8), (!Op.bytesLess a b) = (Op.bytesLess b a || b == a)
  | [], [] => rfl
  | [], _ :: _ => rfl
  | _ :: _, [] => rfl
  | x :: a, y :: b => by
    have ih := less_total a b
    unfold Op.bytesLess
    by_cases h1 : x < y
    · have h2 : ¬ y < x := by intro h; exact absurd (UInt8.lt_trans h1 h) (UInt8.lt_irrefl x)
      have h3 : ¬ y = x := by intro h; subst h; exact UInt8.lt_irrefl _ h1
      simp [h1, h2, h3]
    · by_cases h2 : y < x
      · have h3 : ¬ x = y := by intro h; subst h; exact UInt8.lt_irrefl _ h2
        simp [h1, h2, h3]
      · have h3 : x = y := UInt8.le_antisymm (UInt8.not_lt.1 h2) (UInt8.not_lt.1 h1)
        subst h3
        have hx : ¬ x < x := UInt8.lt_irrefl x
        simp only [hx, decide_false, Bool.false_or, beq_self_eq_true, Bool.true_and]
        rw [ih]
        simp
theorem less_trans : ∀ {a b c : List UInt8}, Op.bytesLess a b = true → Op.bytesLess b c = true → Op.bytesLess a c = true
  | [], [], _, h, _ => by cases h
  | [], _ :: _, [], _, h => by cases h
  | [], _ :: _, _ :: _, _, _ => rfl
  | _ :: _, [], _, h, _ => by cases h
  | _ :: _, _ :: _, [], _, h => by cases h
  | x :: a, y :: b, z :: c, h1, h2 => by
    unfold Op.bytesLess at *
    rw [Bool.or_eq_true] at *
    rcases h1 with h1 | h1
    · have h1' := of_decide_eq_true h1
      rcases h2 with h2 | h2
      · exact .inl (decide_eq_true (UInt8.lt_trans h1' (of_decide_eq_true h2)))
      · rw [Bool.and_eq_true] at h2
        have e : y = z := by simpa using h2.1
        subst e
        exact .inl h1
    · rw [Bool.and_eq_true] at h1
      have e : x = y := by simpa using h1.1
      subst e
      rcases h2 with h2 | h2
      · exact .inl h2
      · rw [Bool.and_eq_true] at h2
        refine .inr ?_
        rw [Bool.and_eq_true]
        exact ⟨h2.1, less_trans h1.2 h2.2⟩
theorem less_irrefl : ∀ (a : List UInt8), Op.bytesLess a a = false
  | [] => rfl
  | x :: a => by
    unfold Op.bytesLess
    simp [less_irrefl a]
theorem ba_ext {a b : ByteArray} (h : a.toList = b.toList) : a = b := by
  have := str_beq a b
  rw [h] at this
  simpa using this.symm
theorem ltB_irrefl (a : ByteArray) : ltB a a = false := less_irrefl _
theorem ltB_trans {a b c : ByteArray} (h1 : ltB a b = true) (h2 : ltB b c = true) : ltB a c = true := less_trans h1 h2
theorem ltB_not (a b : ByteArray) : (!ltB a b) = leB b a := less_total _ _
theorem leB_iff {a b : ByteArray} : leB a b = true ↔ ltB a b = true ∨ a = b := by
  unfold leB ltB
  rw [Bool.or_eq_true, str_beq]
  simp
theorem ltB_total (a b : ByteArray) : ltB a b = true ∨ a = b ∨ ltB b a = true := by
  by_cases h : ltB a b = true
  · exact .inl h
  · have h1 := ltB_not a b
    simp only [Bool.not_eq_true] at h
    rw [h] at h1
    rcases leB_iff.1 h1.symm with h | h
    · exact .inr (.inr h)
    · exact .inr (.inl h.symm)
theorem ltB_asymm {a b : ByteArray} (h : ltB a b = true) : ltB b a = false := by
  cases hb : ltB b a with
  | false => rfl
  | true => rw [← ltB_irrefl a]; exact (ltB_trans h hb).symm
theorem ltB_ne {a b : ByteArray} (h : ltB a b = true) : a ≠ b := by
  rintro rfl
  rw [ltB_irrefl] at h
  cases h

/-- Is a key less than another one? -/
def ltD (a b : Dg) : Bool := decide (a.1.toNat < b.1.toNat) || (decide (a.1.toNat = b.1.toNat) && decide (a.2.toNat < b.2.toNat))
theorem ltD_iff {a b : Dg} : ltD a b = true ↔ a.1.toNat < b.1.toNat ∨ (a.1.toNat = b.1.toNat ∧ a.2.toNat < b.2.toNat) := by simp [ltD]
theorem dg_ext {a b : Dg} (h1 : a.1.toNat = b.1.toNat) (h2 : a.2.toNat = b.2.toNat) : a = b := Prod.ext (UInt64.toNat_inj.1 h1) (UInt64.toNat_inj.1 h2)
theorem ltD_irrefl (a : Dg) : ltD a a = false := by simp [ltD]
theorem ltD_trans {a b c : Dg} (h1 : ltD a b = true) (h2 : ltD b c = true) : ltD a c = true := by
  rw [ltD_iff] at *
  omega
theorem ltD_total (a b : Dg) : ltD a b = true ∨ a = b ∨ ltD b a = true := by
  rw [ltD_iff, ltD_iff]
  by_cases h1 : a.1.toNat = b.1.toNat
  · by_cases h2 : a.2.toNat = b.2.toNat
    · exact .inr (.inl (dg_ext h1 h2))
    · omega
  · omega
theorem ltD_asymm {a b : Dg} (h : ltD a b = true) : ltD b a = false := by
  cases hb : ltD b a with
  | false => rfl
  | true => rw [← ltD_irrefl a]; exact (ltD_trans h hb).symm
theorem ltD_ne {a b : Dg} (h : ltD a b = true) : a ≠ b := by
  rintro rfl
  rw [ltD_irrefl] at h
  cases h

/-! What the functions give. -/
def workerB (s : ByteArray) : Bool := decide (1 ≤ s.size ∧ s.size ≤ 24)
/-- Why votes behind a worker are not valid. -/
def votesGo : Option ByteArray → List Vt → Int
  | _, [] => 0
  | p, v :: l => if workerB v.1 = false then 6 else if (match p with | some q => leB v.1 q | none => false) = true then 10 else if 65536 < v.2.size then 4 else votesGo (some v.1) l
def votesE (l : List Vt) : Int := if l = [] then 1 else votesGo none l
/-- Why ballots behind a key are not valid. -/
def balGo : Option Dg → List Bal → Int
  | _, [] => 0
  | p, b :: l => if (match p with | some q => !ltD q b.1 | none => false) = true then 10 else if votesE b.2 ≠ 0 then votesE b.2 else balGo (some b.1) l
def checkB (l : List Bal) : Int := balGo none l
/-- The votes about a key. -/
def aboutB (l : List Bal) (k : Dg) : List Vt :=
  match l.find? fun b => decide (b.1 = k) with
  | some b => b.2
  | none => []
def hasV (l : List Vt) (w : ByteArray) : Bool := l.any fun v => decide (v.1 = w)
/-- Votes with one more. -/
def insV (l : List Vt) (v : Vt) : List Vt := (l.takeWhile fun x => ltB x.1 v.1) ++ v :: (l.dropWhile fun x => ltB x.1 v.1)
def voteE (b : List Bal) (k : Dg) (wk o : ByteArray) : Int := if checkB b ≠ 0 then 1 else if workerB wk = false then 6 else if 65536 < o.size then 4 else if hasV (aboutB b k) wk = true then 7 else 0
/-- Ballots without the first one, if it has this key. -/
def lessB (l : List Bal) (k : Dg) : List Bal :=
  match l with
  | [] => []
  | x :: r => if x.1 = k then r else x :: r
def putB (b : List Bal) (k : Dg) (l : List Vt) : List Bal := (b.takeWhile fun x => ltD x.1 k) ++ (k, l) :: lessB (b.dropWhile fun x => ltD x.1 k) k
def voteL (b : List Bal) (k : Dg) (wk o : ByteArray) : List Bal := if voteE b k wk o = 0 then putB b k (insV (aboutB b k) (wk, o)) else []
/-- How many votes have an output. -/
def cntV (l : List Vt) (o : ByteArray) : Nat := (l.filter fun v => decide (v.2 = o)).length
/-- The output of enough votes: the reference's loop, behind some of them. -/
def decGo (l : List Vt) (n : Int) : List Vt → ByteArray × Bool → ByteArray × Bool
  | [], r => r
  | v :: m, r => decGo l n m (if 1 ≤ n ∧ n ≤ cntV l v.2 ∧ (r.2 = false ∨ ltB v.2 r.1 = true) then (v.2, true) else r)
def noneR : ByteArray × Bool := (⟨#[]⟩, false)
def decB (l : List Vt) (n : Int) : ByteArray × Bool := decGo l n l noneR
def mostGo (l : List Vt) : List Vt → Nat → Nat
  | [], k => k
  | v :: m, k => mostGo l m (max k (cntV l v.2))
def mostB (l : List Vt) : Nat := mostGo l l 0
def missB (l : List Vt) (n : Int) : Int := if n ≤ mostB l then 0 else n - mostB l
def againstB (l : List Vt) (o : ByteArray) : List ByteArray := (l.filter fun v => !decide (v.2 = o)).map Prod.fst
def forgetV (l : List Vt) (wk : ByteArray) : List Vt := l.filter fun v => !decide (v.1 = wk)
def forgetB (b : List Bal) (wk : ByteArray) : List Bal := (b.map fun x => (x.1, forgetV x.2 wk)).filter fun x => !x.2.isEmpty
end Go.Proofs.Ytcpnpcbaifagbaa
