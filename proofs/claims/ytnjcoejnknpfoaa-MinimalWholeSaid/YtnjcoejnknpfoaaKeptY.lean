/-
  Two neighbouring blocks left out of a class of worlds.
-/
import Derived.Test.YtnjcoejnknpfoaaRegion
namespace Go.Proofs.Ytnjcoejnknpfoaa
open Go.RowKit

/-- The blocks below number B are as in W, all but blocks X and X + 1. -/
def KeptY (B X : Nat) (W w' : World) : Prop := ∀ k, k < B → k ≠ X → k ≠ X + 1 → w'.heap[k]? = W.heap[k]?
theorem KeptY.refl (B X : Nat) (W : World) : KeptY B X W W := fun _ _ _ _ => rfl
theorem KeptY.drew {B X : Nat} {W w' : World} (h : KeptY B X W w') : KeptY B X W w'.drew := h
theorem KeptY.below {B X : Nat} {W w1 w2 : World} (h : KeptY B X W w1) (hb : Below B w1 w2) : KeptY B X W w2 := fun k hk hx hy => (hb.block k hk).trans (h k hk hx hy)
theorem KeptY.setCell {B X : Nat} {W w' : World} (h : KeptY B X W w') {p : Addr} (hp : p.block = X ∨ p.block = X + 1) (u : Value) : KeptY B X W (w'.setCell p u) := fun k hk hx hy =>
  (Below.heap_setCell _ _ _ _ (by omega)).trans (h k hk hx hy)
def SinceY (B X : Nat) (W : World) : Type := { w' : World // KeptY B X W w' }
instance {B X : Nat} {W : World} : Nonempty (SinceY B X W) := ⟨⟨W, KeptY.refl _ _ _⟩⟩
def SinceY.world {B X : Nat} {W : World} (x : SinceY B X W) : World := x.1
theorem SinceY.cell {B X : Nat} {W : World} {b o : Nat} (h : b < B) (hx : b ≠ X) (hy : b ≠ X + 1) {v : Option Value} (hv : W.cell? ⟨b, o, none⟩ = v) : ∀ x : SinceY B X W, x.world.cell? ⟨b, o, none⟩ = v := fun x => by
  rw [← hv]
  exact World.cell?_of_block (w := W) (a := ⟨b, o, none⟩) (x.2 b h hx hy)
theorem sincey {B X : Nat} {W w' : World} (h : KeptY B X W w') : ∃ x : SinceY B X W, w' = x.world := ⟨⟨w', h⟩, rfl⟩
/-- A block's cells. -/
theorem row_cell {w : World} {k : Nat} {cs : Array Value} {ty : TypeId} (h : w.heap[k]? = some (.cells cs ty (0, 0))) (j : Nat) : w.cell? ⟨k, j, none⟩ = cs[j]? := cell_of_row _ _ _ cs ty (0, 0) h
theorem row_fz {w : World} {k : Nat} {cs : Array Value} {ty : TypeId} (h : w.heap[k]? = some (.cells cs ty (0, 0))) (j : Nat) : w.frozen? ⟨k, j, none⟩ = false := by simp [World.frozen?, h]
theorem row_set {w : World} {k : Nat} {cs : Array Value} {ty : TypeId} (h : w.heap[k]? = some (.cells cs ty (0, 0))) (j : Nat) (v : Value) : (w.setCell ⟨k, j, none⟩ v).heap[k]? = some (.cells (cs.setIfInBounds j v) ty (0, 0)) := heap_setCell_same w k j cs ty v h
theorem row_other {w : World} {k b j : Nat} {v : Value} {x : Option Obj} (h : w.heap[k]? = x) (hk : k ≠ b) : (w.setCell ⟨b, j, none⟩ v).heap[k]? = x := (Below.heap_setCell _ _ _ _ hk).trans h
theorem row_lt {w : World} {k : Nat} {x : Obj} (h : w.heap[k]? = some x) : k < w.heap.size := (Array.getElem?_eq_some_iff.1 h).1
end Go.Proofs.Ytnjcoejnknpfoaa
