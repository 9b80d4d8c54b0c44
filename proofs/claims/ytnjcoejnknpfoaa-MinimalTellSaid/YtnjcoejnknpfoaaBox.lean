/-
  A slice variable in a box, its row above.
-/
import Derived.RangeFuncBox
import Derived.Maps.AppendAt
import Derived.Test.YtnjcoejnknpfoaaCells
import Derived.Test.YtnjcoejnknpfoaaKit
namespace Go.Proofs.Ytnjcoejnknpfoaa
open Go.RowKit
/-- 'out = append(out, ..)' where out lies in a box below the row's base. -/
theorem appended_x {W w1 : World} {n₀ B : Nat} {t e : TypeId} {size : Nat} {v v' : Value} {k m : Nat} {xs ys : List Value} {tmp : Obj} (hv : Boxed W B t v) (hrow : W.ownsRow n₀ e size v k xs) (hn₀ : n₀ ≤ W.heap.size) (hB : B < n₀)
    (hown' : w1.ownsRow n₀ e size v' m ys) (hgrow : (W.alloc tmp).grownBy w1 v.ownBlock) :
    Boxed w1 B t v ∧ Boxed (w1.setCell ⟨B, 0, none⟩ v') B t v' ∧ (w1.setCell ⟨B, 0, none⟩ v').ownsRow n₀ e size v' m ys ∧ KeepsOthers W (w1.setCell ⟨B, 0, none⟩ v') ∧ Below B W (w1.setCell ⟨B, 0, none⟩ v') ∧ KeptX n₀ B W (w1.setCell ⟨B, 0, none⟩ v') := by
  have hb : Below n₀ W w1 := ((Below.refl n₀ W).alloc hn₀ tmp).grown hgrow (by simp; omega) (fun k hk => ownsRow_row hrow k hk)
  have hv1 : Boxed w1 B t v := (hb.block B hB).trans hv
  refine ⟨hv1, hv1.set v', hown'.kept (grownBy_setCell' w1 B v') (.inr fun e => by have := ownsRow_row hown' B e; omega), ?_, (hb.mono (show B ≤ n₀ by omega)).setCell (p := ⟨B, 0, none⟩) (Nat.le_refl _) _, ((KeptX.refl _ _ _).below hb).setCell (p := ⟨B, 0, none⟩) (.inl rfl) _⟩
  refine ((KeepsOthers.alloc W tmp).trans (KeepsOthers.of_grownBy hgrow fun j o ej hj => ?_)).trans (KeepsOthers.setCell _ _ _)
  rcases (hrow.alloc tmp).2 with ⟨rfl, _⟩ | ⟨g, cap, cur, rfl, _, hgb, _⟩
  · simp [Value.ownBlock] at ej
  · obtain rfl : g = j := by simpa [Value.ownBlock] using ej
    rw [hgb] at hj; cases hj; rfl
theorem Boxed.below {w w' : World} {B X : Nat} {t : TypeId} {v : Value} (h : Boxed w X t v) (hb : Below B w w') (hX : X < B) : Boxed w' X t v := (hb.block X hX).trans h
theorem Boxed.keptx {w w' : World} {B X Y : Nat} {t : TypeId} {v : Value} (h : Boxed w X t v) (hb : KeptX B Y w w') (hX : X < B) (hne : X ≠ Y) : Boxed w' X t v := (hb X hX hne).trans h
end Go.Proofs.Ytnjcoejnknpfoaa
