/-
  Cells behind allocs.
-/
import Derived.Test.YtnjcoejnknpfoaaRegion
namespace Go.Proofs.Ytnjcoejnknpfoaa
open Go.RowKit
theorem cell_new_at {w : World} {n : Nat} (h : w.heap.size = n) (cs : Array Value) (t : TypeId) (o : Nat) : (w.alloc (.cells cs t)).cell? ⟨n, o, none⟩ = cs[o]? := by
  subst h
  exact cell_of_row _ _ _ cs t (0, 0) (heap_alloc_new w _)
theorem cell_old_at {w : World} {b : Nat} (h : b < w.heap.size) (ob : Obj) (o : Nat) : (w.alloc ob).cell? ⟨b, o, none⟩ = w.cell? ⟨b, o, none⟩ := bc (ba w ob) h o
end Go.Proofs.Ytnjcoejnknpfoaa
