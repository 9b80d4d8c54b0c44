/-
  Groups and rules as they lie: slices of slices. c says in which blocks what is read may lie.
-/
import Derived.Test.YtefehgdckmajiaaGreatDoorGrpK
import Derived.Test.YtefehgdckmajiaaGreatDoorGrpA
namespace Go.Proofs.YtefehgdckmajiaaGreatDoor
open Go.RowKit

/-- A rule: its prefix, its groups. -/
abbrev Rl := ByteArray × List (List ByteArray)
/-- A slice value's three parts. -/
abbrev SV := Option Addr × Nat × Nat
abbrev slv (v : SV) : Value := .slice v.1 v.2.1 v.2.2
/-- The blocks of c are kept. -/
structure KeepC (c : Nat → Prop) (w w' : World) : Prop where
  size : w.heap.size ≤ w'.heap.size
  kept : ∀ k, k < w.heap.size → c k → w'.heap[k]? = w.heap[k]?
theorem KeepC.refl (c : Nat → Prop) (w : World) : KeepC c w w := ⟨Nat.le_refl _, fun _ _ _ => rfl⟩
theorem KeepC.trans {c : Nat → Prop} {x y z : World} (h : KeepC c x y) (k : KeepC c y z) : KeepC c x z := ⟨Nat.le_trans h.size k.size, fun i hi hc => (k.kept i (Nat.lt_of_lt_of_le hi h.size) hc).trans (h.kept i hi hc)⟩
theorem KeepC.below {c : Nat → Prop} {w w' : World} (h : Below w.heap.size w w') : KeepC c w w' := ⟨h.size, fun k hk _ => h.block k hk⟩
theorem KeepC.grown {c : Nat → Prop} {w w' : World} {row : Option Nat} (h : w.grownBy w' row) (hr : ∀ r, row = some r → ¬ c r) : KeepC c w w' := ⟨h.size, fun k hk hc => h.block k hk (fun e => hr k e.symm hc)⟩
theorem KeepC.setCell {c : Nat → Prop} (w : World) (p : Addr) (v : Value) (h : ¬ c p.block) : KeepC c w (w.setCell p v) :=
  ⟨by show w.heap.size ≤ (w.heap.modify _ _).size; rw [Array.size_modify]; exact Nat.le_refl _, fun k _ hc => Below.heap_setCell w p v k (fun e => by subst e; exact h hc)⟩
/-- What a slice value reads as, in blocks of c. -/
structure SlC (c : Nat → Prop) (w : World) (size : Nat) (v : SV) (xs : List Value) : Prop where
  sl : Sl w size v.1 v.2.1 xs
  le : v.2.1 ≤ v.2.2
  max : v.2.2 ≤ maxLen
  z : v.1 = none → v.2.2 = 0
  cold : ∀ a, v.1 = some a → c a.block
theorem SlC.keep {c : Nat → Prop} {w w' : World} {size : Nat} {v : SV} {xs : List Value} (h : SlC c w size v xs) (hk : KeepC c w w') : SlC c w' size v xs :=
  ⟨⟨h.sl.1, h.sl.2.imp id fun ⟨b, o, e, hlt, hc⟩ => ⟨b, o, e, Nat.lt_of_lt_of_le hlt hk.size, fun j u hu => (World.cell?_of_block (w := w) (a := ⟨b, o + j, none⟩) (hk.kept b hlt (h.cold _ e))).trans (hc j u hu)⟩⟩, h.le, h.max, h.z, h.cold⟩
theorem SlC.mono {c c' : Nat → Prop} {w : World} {size : Nat} {v : SV} {xs : List Value} (h : SlC c w size v xs) (hc : ∀ k, c k → c' k) : SlC c' w size v xs := ⟨h.sl, h.le, h.max, h.z, fun a e => hc _ (h.cold a e)⟩
theorem SlC.nil (c : Nat → Prop) (w : World) (size : Nat) : SlC c w size (none, 0, 0) [] := ⟨Sl.nil, Nat.le_refl _, Nat.zero_le _, fun _ => rfl, fun _ e => by cases e⟩
/-- A group. -/
structure GC (c : Nat → Prop) (w : World) (v : SV) (g : List ByteArray) : Prop where
  r : SlC c w 1 v (svals g)
  len : g.length = v.2.1
  sz : ∀ s ∈ g, s.size ≤ maxLen
theorem GC.keep {c : Nat → Prop} {w w' : World} {v : SV} {g : List ByteArray} (h : GC c w v g) (hk : KeepC c w w') : GC c w' v g := ⟨h.r.keep hk, h.len, h.sz⟩
theorem GC.mono {c c' : Nat → Prop} {w : World} {v : SV} {g : List ByteArray} (h : GC c w v g) (hc : ∀ k, c k → c' k) : GC c' w v g := ⟨h.r.mono hc, h.len, h.sz⟩
theorem GC.nil (c : Nat → Prop) (w : World) : GC c w (none, 0, 0) [] := ⟨SlC.nil _ _ _, rfl, fun _ h => by cases h⟩
/-- Groups one by one. -/
def GLs (c : Nat → Prop) (w : World) (vs : List SV) (gs : List (List ByteArray)) : Prop := vs.length = gs.length ∧ ∀ (i : Nat) v g, vs[i]? = some v → gs[i]? = some g → GC c w v g
theorem GLs.keep {c : Nat → Prop} {w w' : World} {vs : List SV} {gs : List (List ByteArray)} (h : GLs c w vs gs) (hk : KeepC c w w') : GLs c w' vs gs := ⟨h.1, fun i v g hv hg => (h.2 i v g hv hg).keep hk⟩
theorem GLs.mono {c c' : Nat → Prop} {w : World} {vs : List SV} {gs : List (List ByteArray)} (h : GLs c w vs gs) (hc : ∀ k, c k → c' k) : GLs c' w vs gs := ⟨h.1, fun i v g hv hg => (h.2 i v g hv hg).mono hc⟩
theorem GLs.nil (c : Nat → Prop) (w : World) : GLs c w [] [] := ⟨rfl, fun i v g hv _ => by simp at hv⟩
theorem GLs.snoc {c : Nat → Prop} {w : World} {vs : List SV} {gs : List (List ByteArray)} {v : SV} {g : List ByteArray} (h : GLs c w vs gs) (hg : GC c w v g) : GLs c w (vs ++ [v]) (gs ++ [g]) := by
  refine ⟨by simp [h.1], fun i v' g' hv hg' => ?_⟩
  rcases Nat.lt_or_ge i vs.length with hi | hi
  · rw [List.getElem?_append_left hi] at hv
    rw [List.getElem?_append_left (by rw [← h.1]; exact hi)] at hg'
    exact h.2 i v' g' hv hg'
  · rw [List.getElem?_append_right hi] at hv
    rw [List.getElem?_append_right (by rw [← h.1]; exact hi)] at hg'
    have e : i - vs.length = 0 := by
      rcases Nat.eq_zero_or_pos (i - vs.length) with h0 | h0
      · exact h0
      · rw [List.getElem?_eq_none (by show 1 ≤ _; omega)] at hv; cases hv
    rw [e] at hv
    rw [← h.1, e] at hg'
    cases hv; cases hg'
    exact hg
/-- Groups: a slice of slices. -/
structure GS (c : Nat → Prop) (w : World) (v : SV) (gs : List (List ByteArray)) : Prop where
  r : ∃ vs : List SV, SlC c w 1 v (vs.map slv) ∧ GLs c w vs gs
  len : gs.length = v.2.1
theorem GS.keep {c : Nat → Prop} {w w' : World} {v : SV} {gs : List (List ByteArray)} (h : GS c w v gs) (hk : KeepC c w w') : GS c w' v gs := ⟨let ⟨vs, p, q⟩ := h.r; ⟨vs, p.keep hk, q.keep hk⟩, h.len⟩
theorem GS.mono {c c' : Nat → Prop} {w : World} {v : SV} {gs : List (List ByteArray)} (h : GS c w v gs) (hc : ∀ k, c k → c' k) : GS c' w v gs := ⟨let ⟨vs, p, q⟩ := h.r; ⟨vs, p.mono hc, q.mono hc⟩, h.len⟩
theorem GS.nil (c : Nat → Prop) (w : World) : GS c w (none, 0, 0) [] := ⟨⟨[], SlC.nil _ _ _, GLs.nil _ _⟩, rfl⟩
/-- Rules one by one: each prefix with the value of its groups. -/
abbrev PV := ByteArray × SV
abbrev pce (p : PV) : List Value := [.string p.1, slv p.2]
theorem pce_length (p : PV) : (pce p).length = 2 := rfl
def pcells (l : List PV) : List Value := l.flatMap pce
theorem pcells_length (l : List PV) : (pcells l).length = l.length * 2 := flat_length pce_length l
theorem pcells_at {l : List PV} {k : Nat} (h : k < l.length) : (pcells l)[k * 2 + 0]? = some (.string l[k].1) ∧ (pcells l)[k * 2 + 1]? = some (slv l[k].2) := ⟨flat_at pce_length h (by omega), flat_at pce_length h (by omega)⟩
theorem pcells_append (l m : List PV) : pcells (l ++ m) = pcells l ++ pcells m := by simp [pcells]
def RLs (c : Nat → Prop) (w : World) (ps : List PV) (l : List Rl) : Prop := ps.length = l.length ∧ ∀ (i : Nat) p r, ps[i]? = some p → l[i]? = some r → p.1 = r.1 ∧ r.1.size ≤ maxLen ∧ GS c w p.2 r.2
theorem RLs.keep {c : Nat → Prop} {w w' : World} {ps : List PV} {l : List Rl} (h : RLs c w ps l) (hk : KeepC c w w') : RLs c w' ps l := ⟨h.1, fun i p r hp hr => let ⟨a, b, d⟩ := h.2 i p r hp hr; ⟨a, b, d.keep hk⟩⟩
theorem RLs.mono {c c' : Nat → Prop} {w : World} {ps : List PV} {l : List Rl} (h : RLs c w ps l) (hc : ∀ k, c k → c' k) : RLs c' w ps l := ⟨h.1, fun i p r hp hr => let ⟨a, b, d⟩ := h.2 i p r hp hr; ⟨a, b, d.mono hc⟩⟩
theorem RLs.nil (c : Nat → Prop) (w : World) : RLs c w [] [] := ⟨rfl, fun i p r hp _ => by simp at hp⟩
theorem RLs.snoc {c : Nat → Prop} {w : World} {ps : List PV} {l : List Rl} {p : PV} {r : Rl} (h : RLs c w ps l) (h1 : p.1 = r.1) (h2 : r.1.size ≤ maxLen) (hg : GS c w p.2 r.2) : RLs c w (ps ++ [p]) (l ++ [r]) := by
  refine ⟨by simp [h.1], fun i p' r' hp hr => ?_⟩
  rcases Nat.lt_or_ge i ps.length with hi | hi
  · rw [List.getElem?_append_left hi] at hp
    rw [List.getElem?_append_left (by rw [← h.1]; exact hi)] at hr
    exact h.2 i p' r' hp hr
  · rw [List.getElem?_append_right hi] at hp
    rw [List.getElem?_append_right (by rw [← h.1]; exact hi)] at hr
    have e : i - ps.length = 0 := by
      rcases Nat.eq_zero_or_pos (i - ps.length) with h0 | h0
      · exact h0
      · rw [List.getElem?_eq_none (by show 1 ≤ _; omega)] at hp; cases hp
    rw [e] at hp
    rw [← h.1, e] at hr
    cases hp; cases hr
    exact ⟨h1, h2, hg⟩
/-- Rules: a slice of them. -/
structure RS (c : Nat → Prop) (w : World) (v : SV) (l : List Rl) : Prop where
  r : ∃ ps : List PV, SlC c w 2 v (pcells ps) ∧ RLs c w ps l
  len : l.length = v.2.1
theorem RS.keep {c : Nat → Prop} {w w' : World} {v : SV} {l : List Rl} (h : RS c w v l) (hk : KeepC c w w') : RS c w' v l := ⟨let ⟨vs, p, q⟩ := h.r; ⟨vs, p.keep hk, q.keep hk⟩, h.len⟩
theorem RS.mono {c c' : Nat → Prop} {w : World} {v : SV} {l : List Rl} (h : RS c w v l) (hc : ∀ k, c k → c' k) : RS c' w v l := ⟨let ⟨vs, p, q⟩ := h.r; ⟨vs, p.mono hc, q.mono hc⟩, h.len⟩
theorem RS.nil (c : Nat → Prop) (w : World) : RS c w (none, 0, 0) [] := ⟨⟨[], SlC.nil _ _ _, RLs.nil _ _⟩, rfl⟩
end Go.Proofs.YtefehgdckmajiaaGreatDoor
