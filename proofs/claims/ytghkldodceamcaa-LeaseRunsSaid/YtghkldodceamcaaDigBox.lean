/-
  Boxes of digests.
-/
import Derived.Test.YtghkldodceamcaaDigRootOf
import Derived.Test.YtghkldodceamcaaMix
namespace Go.Proofs.Ytghkldodceamcaa
open Go.RowKit

/-- A digest in a box. -/
def DBox (w : World) (k : Nat) (d : Dg) : Prop := k < w.heap.size ∧ w.cell? ⟨k, 0, none⟩ = some (.int .u64 d.1.toNat) ∧ w.cell? ⟨k, 1, none⟩ = some (.int .u64 d.2.toNat)
theorem DBox.below {w w' : World} {k B : Nat} {d : Dg} (h : DBox w k d) (hb : Below B w w') (hk : k < B) : DBox w' k d :=
  ⟨Nat.lt_of_lt_of_le h.1 hb.size, (bc hb hk 0).trans h.2.1, (bc hb hk 1).trans h.2.2⟩
theorem DBox.new (w : World) (d : Dg) (t : TypeId) : DBox (w.alloc (.cells #[.int .u64 d.1.toNat, .int .u64 d.2.toNat] t)) w.heap.size d := by
  refine ⟨by simp, ?_, ?_⟩ <;> rw [cell_of_row _ _ _ _ t _ (heap_alloc_new w _)] <;> rfl
/-- A box of two cells. -/
def Two (w : World) (k : Nat) : Prop := ∃ c0 c1 t, w.heap[k]? = some (.cells #[c0, c1] t (0, 0))
theorem Two.lt {w : World} {k : Nat} (h : Two w k) : k < w.heap.size := by
  obtain ⟨c0, c1, t, h⟩ := h
  exact (Array.getElem?_eq_some_iff.1 h).1
theorem Two.below {w w' : World} {k B : Nat} (h : Two w k) (hb : Below B w w') (hk : k < B) : Two w' k := by
  obtain ⟨c0, c1, t, h⟩ := h
  exact ⟨c0, c1, t, (hb.block k hk).trans h⟩
theorem Two.new (w : World) (c0 c1 : Value) (t : TypeId) : Two (w.alloc (.cells #[c0, c1] t)) w.heap.size := ⟨c0, c1, t, heap_alloc_new w _⟩
theorem Two.cells {w : World} {k : Nat} (h : Two w k) : ∃ c0 c1, w.cell? ⟨k, 0, none⟩ = some c0 ∧ w.cell? ⟨k, 1, none⟩ = some c1 ∧ w.frozen? ⟨k, 0, none⟩ = false ∧ w.frozen? ⟨k, 1, none⟩ = false := by
  obtain ⟨c0, c1, t, h⟩ := h
  exact ⟨c0, c1, by rw [cell_of_row w k 0 _ t _ h]; rfl, by rw [cell_of_row w k 1 _ t _ h]; rfl, frozen_of_row w k 0 _ t h, frozen_of_row w k 1 _ t h⟩
theorem Two.other {w : World} {k : Nat} (h : Two w k) (a : Addr) (x : Value) (hne : k ≠ a.block) : Two (w.setCell a x) k := by
  obtain ⟨c0, c1, t, h⟩ := h
  exact ⟨c0, c1, t, (Below.heap_setCell _ _ _ _ hne).trans h⟩
theorem Two.set {w : World} {k : Nat} (h : Two w k) (d : Dg) : DBox ((w.setCell ⟨k, 0, none⟩ (.int .u64 d.1.toNat)).setCell ⟨k, 1, none⟩ (.int .u64 d.2.toNat)) k d := by
  obtain ⟨c0, c1, t, h⟩ := h
  have h1 := heap_setCell_same w k 0 #[c0, c1] t (.int .u64 d.1.toNat) h
  have h2 := heap_setCell_same _ k 1 _ t (.int .u64 d.2.toNat) h1
  refine ⟨(Array.getElem?_eq_some_iff.1 h2).1, ?_, ?_⟩ <;> rw [cell_of_row _ k _ _ t _ h2] <;> rfl
theorem DBox.other {w : World} {k : Nat} {d : Dg} (h : DBox w k d) (a : Addr) (x : Value) (hne : k ≠ a.block) : DBox (w.setCell a x) k d := by
  refine ⟨by rw [World.size_setCell]; exact h.1, ?_, ?_⟩
  · exact (World.cell?_setCell_other _ _ _ _ (by intro e; exact hne (congrArg Addr.block e.symm))).trans h.2.1
  · exact (World.cell?_setCell_other _ _ _ _ (by intro e; exact hne (congrArg Addr.block e.symm))).trans h.2.2
end Go.Proofs.Ytghkldodceamcaa
