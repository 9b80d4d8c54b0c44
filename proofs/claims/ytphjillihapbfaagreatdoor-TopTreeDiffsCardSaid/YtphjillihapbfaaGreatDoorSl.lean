/-
  A slice that reads as a list of cells, nil let in.
-/
import Derived.Test.YtphjillihapbfaaGreatDoorGrpA
namespace Go.Proofs.YtphjillihapbfaaGreatDoor
open Go.RowKit

/-- The slice value '.slice ao n _', of elements of so many cells, reads as xs. -/
def Sl (w : World) (size : Nat) (ao : Option Addr) (n : Nat) (xs : List Value) : Prop :=
  xs.length = n * size ∧ (n = 0 ∨ ∃ b o, ao = some ⟨b, o, none⟩ ∧ b < w.heap.size ∧ ∀ j u, xs[j]? = some u → w.cell? ⟨b, o + j, none⟩ = some u)

section
variable {w w' : World} {size n : Nat} {ao : Option Addr} {xs : List Value}
theorem Sl.nil : Sl w size ao 0 [] := ⟨by simp, .inl rfl⟩
theorem Sl.at_ {k : Nat} (h : Sl w size ao n xs) (hk : k < n) : ∃ b o, ao = some ⟨b, o, none⟩ ∧ b < w.heap.size ∧ ∀ j u, xs[j]? = some u → w.cell? ⟨b, o + j, none⟩ = some u := h.2.resolve_left (by omega)
theorem Sl.len (h : Sl w size ao n xs) : xs.length = n * size := h.1
theorem Sl.below (h : Sl w size ao n xs) (hb : Below w.heap.size w w') : Sl w' size ao n xs :=
  ⟨h.1, h.2.imp id fun ⟨b, o, e, hlt, hc⟩ => ⟨b, o, e, Nat.lt_of_lt_of_le hlt hb.size, fun j u hu => (hb.cell (p := ⟨b, o + j, none⟩) hlt).trans (hc j u hu)⟩⟩
theorem Sl.drew (h : Sl w size ao n xs) : Sl w.drew size ao n xs := h
theorem Sl.alloc (h : Sl w size ao n xs) (ob : Obj) : Sl (w.alloc ob) size ao n xs := h.below ((Below.refl _ _).alloc (Nat.le_refl _) _)
theorem Sl.of_own {base : Nat} {e : TypeId} {v : Value} (h : w.ownsRow base e size v n xs) : ∃ ao cap, v = .slice ao n cap ∧ n ≤ cap ∧ cap ≤ maxLen ∧ Sl w size ao n xs := by
  have h1 := h.1
  rcases h.2 with ⟨rfl, rfl⟩ | ⟨g, cap, cur, rfl, hg, hc, hn, hm, hsz, htk⟩
  · exact ⟨none, 0, rfl, Nat.le_refl _, by simp [maxLen], h1, .inl rfl⟩
  · exact ⟨some ⟨g, 0, none⟩, cap, rfl, hn, hm, h1, .inr ⟨g, 0, rfl, (h.lt g rfl).2, fun j u hu => by
      have hj : j < xs.length := by
        rcases Nat.lt_or_ge j xs.length with h' | h'
        · exact h'
        · rw [List.getElem?_eq_none h'] at hu; cases hu
      rw [Nat.zero_add]
      exact (h.cellAt j (by omega)).trans hu⟩⟩
theorem Sl.take (h : Sl w size ao n xs) {k : Nat} (hk : k ≤ n) : Sl w size ao k (xs.take (k * size)) := by
  refine ⟨?_, ?_⟩
  · rw [List.length_take, h.1]
    have := Nat.mul_le_mul_right size hk
    omega
  · rcases Nat.eq_zero_or_pos k with rfl | hp
    · exact .inl rfl
    · obtain ⟨b, o, e, hlt, hc⟩ := h.at_ (k := 0) (by omega)
      refine .inr ⟨b, o, e, hlt, fun j u hu => hc j u ?_⟩
      rw [List.getElem?_take] at hu
      split at hu
      · exact hu
      · cases hu
theorem Sl.drop (h : Sl w size ao n xs) {k c : Nat} (hk : k ≤ n) (hc : n ≤ c) : Sl w size (if c = k then ao else ao.map (·.add (k * size))) (n - k) (xs.drop (k * size)) := by
  refine ⟨by rw [List.length_drop, h.1, Nat.sub_mul], ?_⟩
  rcases Nat.eq_zero_or_pos (n - k) with h0 | hp
  · exact .inl h0
  · obtain ⟨b, o, rfl, hlt, hx⟩ := h.at_ (k := 0) (by omega)
    rw [if_neg (by omega)]
    refine .inr ⟨b, o + k * size, ?_, hlt, fun j u hu => ?_⟩
    · simp only [Option.map_some, Addr.add_lit]
    · rw [Nat.add_assoc]
      exact hx _ u (by rw [← hu, List.getElem?_drop])
end

theorem ret_bool {a b : Bool} (h : a = b) : Ending.returned (.bool a) = .returned (.bool b) := by rw [h]

theorem str_beq (a b : ByteArray) : (a.toList == b.toList) = decide (a = b) := by
  rw [ByteArray.toList_eq, ByteArray.toList_eq]
  by_cases h : a = b
  · subst h; simp
  · rw [decide_eq_false h, beq_eq_false_iff_ne]
    intro e
    apply h
    cases a; cases b
    congr 1
    exact Array.toList_inj.1 e
theorem str_eq {a b : ByteArray} (h : a = b) : (a.toList == b.toList) = true := by rw [str_beq]; simpa using h
theorem str_ne {a b : ByteArray} (h : ¬ a = b) : (a.toList == b.toList) = false := by rw [str_beq]; simpa using h
/-- Strings. -/
def svals (l : List ByteArray) : List Value := l.map Value.string
theorem svals_at {l : List ByteArray} {k : Nat} (h : k < l.length) : (svals l)[k]? = some (.string l[k]) := by simp [svals, h]
theorem svals_length (l : List ByteArray) : (svals l).length = l.length := by simp [svals]
/-- Ints. -/
def ivals (l : List Int) : List Value := l.map fun x => Value.int .i64 x
theorem ivals_at {l : List Int} {k : Nat} (h : k < l.length) : (ivals l)[k]? = some (.int .i64 l[k]) := by simp [ivals, h]
theorem ivals_length (l : List Int) : (ivals l).length = l.length := by simp [ivals]
end Go.Proofs.YtphjillihapbfaaGreatDoor
