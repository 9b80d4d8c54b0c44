/-
  Changes of files as they lie; the map of tree.Diff.
-/
import Derived.Test.YtphjillihapbfaaGreatDoorGrpS
import Derived.Test.YtphjillihapbfaaGreatDoorGrpM
import Derived.Test.YtphjillihapbfaaGreatDoorGrpQ
import Derived.Test.YtphjillihapbfaaGreatDoorTreeLd2
namespace Go.Proofs.YtphjillihapbfaaGreatDoor
open Go.RowKit

abbrev cca (x : Ch) : Array Value := #[.string x.1, .bool x.2.1.isSome, .bool x.2.2.isSome, .string (x.2.1.getD ⟨#[]⟩), .string (x.2.2.getD ⟨#[]⟩)]
abbrev cce (x : Ch) : List Value := [.string x.1, .bool x.2.1.isSome, .bool x.2.2.isSome, .string (x.2.1.getD ⟨#[]⟩), .string (x.2.2.getD ⟨#[]⟩)]
def ccells (l : List Ch) : List Value := l.flatMap cce
theorem cce_length (x : Ch) : (cce x).length = 5 := rfl
theorem ccells_length (l : List Ch) : (ccells l).length = l.length * 5 := flat_length cce_length l
theorem ccells_at {l : List Ch} {k : Nat} (h : k < l.length) : (ccells l)[k * 5 + 0]? = some (.string l[k].1) ∧ (ccells l)[k * 5 + 1]? = some (.bool l[k].2.1.isSome) ∧ (ccells l)[k * 5 + 2]? = some (.bool l[k].2.2.isSome) ∧ (ccells l)[k * 5 + 3]? = some (.string (l[k].2.1.getD ⟨#[]⟩)) ∧ (ccells l)[k * 5 + 4]? = some (.string (l[k].2.2.getD ⟨#[]⟩)) :=
  ⟨flat_at cce_length h (by omega), flat_at cce_length h (by omega), flat_at cce_length h (by omega), flat_at cce_length h (by omega), flat_at cce_length h (by omega)⟩
theorem ccells_append (l m : List Ch) : ccells (l ++ m) = ccells l ++ ccells m := by simp [ccells]
/-- A slice that reads as changes. -/
structure CA (w : World) (ao : Option Addr) (n cap : Nat) (l : List Ch) : Prop where
  len : l.length = n
  sl : Sl w 5 ao n (ccells l)
  le : n ≤ cap
  max : cap ≤ maxLen
  z : ao = none → cap = 0
theorem CA.below {w w' : World} {ao : Option Addr} {n cap : Nat} {l : List Ch} (h : CA w ao n cap l) (hb : Below w.heap.size w w') : CA w' ao n cap l := ⟨h.len, h.sl.below hb, h.le, h.max, h.z⟩
theorem CA.of_own {w : World} {base n : Nat} {v : Value} {l : List Ch} (h : w.ownsRow base 50 5 v n (ccells l)) (hn : l.length = n) : ∃ a c, v = .slice a n c ∧ CA w a n c l := by
  obtain ⟨a, c, rfl, h1, h2, h3⟩ := Sl.of_own h
  refine ⟨a, c, rfl, hn, h3, h1, h2, fun e => ?_⟩
  subst e
  rcases h.2 with ⟨e, _⟩ | ⟨g, cap, cur, e, _⟩
  · injection e
  · injection e with e3 _ _
    cases e3
/-- Where what came back lies: in no block of the world that the call met. -/
abbrev Nw (w w' : World) (a : Option Addr) : Prop := ∀ x, a = some x → w.heap.size ≤ x.block ∧ x.block < w'.heap.size
theorem own_blk {w : World} {base n size : Nat} {e : TypeId} {a : Option Addr} {c : Nat} {xs : List Value} (h : w.ownsRow base e size (.slice a n c) n xs) : ∀ x, a = some x → base ≤ x.block ∧ x.block < w.heap.size := by
  intro x hx
  rcases h.2 with ⟨e, _⟩ | ⟨g, cap, cur, e, hg, hb, _⟩
  · injection e with e1
    rw [hx] at e1
    cases e1
  · injection e with e1
    rw [hx] at e1
    cases e1
    exact ⟨hg, (Array.getElem?_eq_some_iff.1 hb).1⟩
theorem findF_snoc (l : List Fl) (f : Fl) (p : ByteArray) : findF (l ++ [f]) p = (findF l p).or (if f.1 = p then some f.2 else none) := by
  unfold findF
  rw [List.find?_append]
  cases List.find? (fun g : Fl => decide (g.1 = p)) l with
  | some g => rfl
  | none => by_cases h : f.1 = p <;> simp [h]
theorem findF_not {l : List Fl} {p : ByteArray} (h : ∀ g ∈ l, g.1 ≠ p) : findF l p = none := by
  cases hf : findF l p with
  | none => rfl
  | some d =>
    unfold findF at hf
    rw [Option.map_eq_some_iff] at hf
    obtain ⟨g, hg, _⟩ := hf
    have := List.find?_some hg
    rw [decide_eq_true_eq] at this
    exact absurd this (h g (List.mem_of_find?_eq_some hg))
/-- The map of changes. -/
def mapC (A B : List Fl) : MF := fun p => if (findF A p).isSome || (findF B p).isSome then some (.agg (cca (p, findF A p, findF B p))) else none
theorem mapC_nil : mapC [] [] = fun _ => none := rfl
theorem mapC_old {A : List Fl} {f : Fl} (h : ∀ g ∈ A, g.1 ≠ f.1) : mapC (A ++ [f]) [] = putF (mapC A []) f.1 (.agg (cca (f.1, some f.2, none))) := by
  funext p
  unfold mapC putF
  rw [findF_snoc]
  by_cases e : p = f.1
  · subst e
    rw [findF_not h]
    simp
    exact ⟨rfl, rfl⟩
  · have e' : ¬ f.1 = p := fun h => e h.symm
    simp [e, e']
theorem mapC_new {A B : List Fl} {f : Fl} (h : ∀ g ∈ B, g.1 ≠ f.1) : mapC A (B ++ [f]) = putF (mapC A B) f.1 (.agg (cca (f.1, findF A f.1, some f.2))) := by
  funext p
  unfold mapC putF
  rw [findF_snoc]
  by_cases e : p = f.1
  · subst e
    rw [findF_not h]
    simp
  · have e' : ¬ f.1 = p := fun h => e h.symm
    simp [e, e']
theorem mapC_some {A B : List Fl} {p : ByteArray} : (mapC A B p).isSome = true ↔ (findF A p).isSome = true ∨ (findF B p).isSome = true := by
  unfold mapC
  cases h1 : (findF A p).isSome <;> cases h2 : (findF B p).isSome <;> simp
theorem asc_nd {l : List Fl} (h : AscF l) : l.Pairwise fun f g => f.1 ≠ g.1 := List.Pairwise.imp (fun {a b} hab e => by rw [e, ltB_irrefl] at hab; cases hab) h
theorem take_ne2 {l : List Fl} (h : AscF l) {j : Nat} (hj : j < l.length) : ∀ g ∈ l.take j, g.1 ≠ (l[j]).1 := fun g hg => by
  obtain ⟨i, hi, e⟩ := List.getElem_of_mem hg
  rw [List.length_take] at hi
  rw [List.getElem_take] at e
  have := List.pairwise_iff_getElem.1 (asc_nd h) i j (by omega) hj (by omega)
  rw [← e]
  exact this
theorem zero_ch (w : World) : (zeroValue 50).run Tryz.prog w = .ok (.agg #[.string ⟨#[]⟩, .bool false, .bool false, .string ⟨#[]⟩, .string ⟨#[]⟩]) w := by kernel_rfl
theorem info_fc : (Tryz.prog.info? 50).map (fun i => (i.zero, i.size, i.bytes)) = some (some (.agg #[.string ⟨#[]⟩, .bool false, .bool false, .string ⟨#[]⟩, .string ⟨#[]⟩]), 5, 56) := by kernel_rfl
/-- tree.Load where the files are known. -/
theorem load_files (p : List It) (n cap : Nat) (ao : Option Addr) (d : Dg) (k : Nat) (L A : List Fl) (w : World) (hG : GoodP p) (hn : n ≤ 90000) (hP : PA w ao n cap p) (hLo : Lo w ao) (hL : loadP p k d [] = some L) (hA : L.Perm A) (hasc : AscF A) (h10 : A.length ≤ 10) (hsz : ∀ f ∈ A, f.1.size ≤ maxLen ∧ f.2.size ≤ maxLen) :
    Calls Tryz.prog 11 #[.slice ao n cap, dv d] w fun e w' => Below w.heap.size w w' ∧ ∃ (a : Option Addr) (n' c : Nat), e = .returned (.tuple #[.slice a n' c, .int .i64 0]) ∧ FA w' a n' c A := by
  refine (load_any p n cap ao d k L w hG hn hP hLo hL (by rw [hA.length_eq]; omega) ((hA.pairwise_iff (fun h => Ne.symm h)).2 (asc_nd hasc)) (fun f hf => hsz f (hA.mem_iff.1 hf))).mono ?_
  rintro e w' ⟨hb, a, n', c, M, rfl, hf, hp, hm⟩
  have : M = A := ascF_unique hm hasc fun x => (hp.trans hA).mem_iff
  subst this
  exact ⟨hb, a, n', c, rfl, hf⟩
end Go.Proofs.YtphjillihapbfaaGreatDoor
