/-
  A class of worlds: only one block is kept.
-/
import Derived.Test.YtghkldodceamcaaRegion
namespace Go.Proofs.Ytghkldodceamcaa
open Go.RowKit

/-- One block is as in W. -/
def KeepK (k : Nat) (W w' : World) : Prop := w'.heap[k]? = W.heap[k]?
theorem KeepK.refl (k : Nat) (W : World) : KeepK k W W := rfl
theorem KeepK.drew {k : Nat} {W w' : World} (h : KeepK k W w') : KeepK k W w'.drew := h
theorem KeepK.below {k B : Nat} {W w1 w2 : World} (h : KeepK k W w1) (hb : Below B w1 w2) (hk : k < B) : KeepK k W w2 := (hb.block k hk).trans h
theorem KeepK.setCell {k : Nat} {W w' : World} (h : KeepK k W w') {p : Addr} (hp : k ≠ p.block) (u : Value) : KeepK k W (w'.setCell p u) := (Below.heap_setCell _ _ _ _ hp).trans h
theorem KeepK.grown {k : Nat} {W w1 w2 : World} {row : Option Nat} (h : KeepK k W w1) (hg : w1.grownBy w2 row) (hk : k < w1.heap.size) (hne : some k ≠ row) : KeepK k W w2 := (hg.block k hk hne).trans h
def SinceK (k : Nat) (W : World) : Type := { w' : World // KeepK k W w' }
instance {k : Nat} {W : World} : Nonempty (SinceK k W) := ⟨⟨W, rfl⟩⟩
def SinceK.world {k : Nat} {W : World} (x : SinceK k W) : World := x.1
theorem SinceK.cell {k : Nat} {W : World} {o : Nat} {v : Option Value} (hv : W.cell? ⟨k, o, none⟩ = v) : ∀ x : SinceK k W, x.world.cell? ⟨k, o, none⟩ = v := fun x => by
  rw [← hv]
  exact World.cell?_of_block (w := W) (a := ⟨k, o, none⟩) x.2
theorem sincek {k : Nat} {W w' : World} (h : KeepK k W w') : ∃ x : SinceK k W, w' = x.world := ⟨⟨w', h⟩, rfl⟩
end Go.Proofs.Ytghkldodceamcaa
