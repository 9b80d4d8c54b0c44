/-
  A block of numbers that the call made: read, written, kept.
-/
import Derived.Test.YtmlkegopbdfiaaaCells
import Derived.Deep.OwnRows
namespace Go.Proofs.Ytmlkegopbdfiaaa
open Go.RowKit

/-- Block b, of elements of type T, begins with the numbers v 0 .. v (n - 1). -/
def Nums (w : World) (T : TypeId) (b n : Nat) (v : Nat → Nat) : Prop :=
  ∃ cur : Array Value, w.heap[b]? = some (.cells cur T (0, 0)) ∧ ∀ q, q < n → cur[q]? = some (.int .i64 (v q : Nat))
section
variable {w w' : World} {T : TypeId} {b n : Nat} {v v' : Nat → Nat}
theorem Nums.lt (h : Nums w T b n v) : b < w.heap.size := by
  obtain ⟨cur, h1, _⟩ := h
  exact (Array.getElem?_eq_some_iff.1 h1).1
theorem Nums.cell (h : Nums w T b n v) {q : Nat} (hq : q < n) : w.cell? ⟨b, q, none⟩ = some (.int .i64 (v q : Nat)) := by
  obtain ⟨cur, h1, h2⟩ := h
  rw [cell_of_row w b q cur T _ h1]
  exact h2 q hq
theorem Nums.free (h : Nums w T b n v) (q : Nat) : w.frozen? ⟨b, q, none⟩ = false := by
  obtain ⟨cur, h1, h2⟩ := h
  exact frozen_of_row w b q cur T h1
theorem Nums.block (h : Nums w T b n v) (hb : w'.heap[b]? = w.heap[b]?) : Nums w' T b n v := by
  obtain ⟨cur, h1, h2⟩ := h
  exact ⟨cur, hb.trans h1, h2⟩
theorem Nums.below (h : Nums w T b n v) {B : Nat} (hb : Below B w w') (hB : b < B) : Nums w' T b n v := h.block (hb.block b hB)
theorem Nums.drew (h : Nums w T b n v) : Nums w.drew T b n v := h
theorem Nums.other (h : Nums w T b n v) (a : Addr) (x : Value) (hne : b ≠ a.block) : Nums (w.setCell a x) T b n v := h.block (Below.heap_setCell _ _ _ _ hne)
theorem Nums.congr (h : Nums w T b n v) {n' : Nat} (hn : n' ≤ n) (he : ∀ q, q < n' → v' q = v q) : Nums w T b n' v' := by
  obtain ⟨cur, h1, h2⟩ := h
  exact ⟨cur, h1, fun q hq => by rw [he q hq]; exact h2 q (by omega)⟩
theorem Nums.set (h : Nums w T b n v) {p : Nat} (hp : p < n) (x : Int) (hx : x = (v' p : Nat)) (ho : ∀ q, q ≠ p → v' q = v q) : Nums (w.setCell ⟨b, p, none⟩ (.int .i64 x)) T b n v' := by
  obtain ⟨cur, h1, h2⟩ := h
  refine ⟨_, heap_setCell_same w b p cur T _ h1, fun q hq => ?_⟩
  rw [Array.getElem?_setIfInBounds]
  by_cases e : p = q
  · subst e
    rw [if_pos rfl, if_pos (Array.getElem?_eq_some_iff.1 (h2 p hp)).1, hx]
  · rw [if_neg e, h2 q hq, ho q (Ne.symm e)]
/-- A row of another type is not this block. -/
theorem Nums.not_row (h : Nums w T b n v) {e : TypeId} (hte : T ≠ e) {base size k : Nat} {u : Value} {xs : List Value} (hr : w.ownsRow base e size u k xs) : u.ownBlock ≠ some b := by
  obtain ⟨cur0, h1, h2⟩ := h
  rcases hr.2 with ⟨rfl, _⟩ | ⟨g, cap, cur, rfl, _, hgb, _⟩
  · simp [Value.ownBlock]
  · intro hh
    have : g = b := by simpa [Value.ownBlock] using hh
    subst this
    rw [h1] at hgb
    cases hgb
    exact hte rfl
theorem Nums.grown (h : Nums w T b n v) {e : TypeId} (hte : T ≠ e) {base size k : Nat} {u : Value} {xs : List Value} (hr : w.ownsRow base e size u k xs) {ob : Obj} (hg : (w.alloc ob).grownBy w' u.ownBlock) : Nums w' T b n v := by
  have hlt := h.lt
  refine h.block ((hg.block b (by simp; omega) (Ne.symm (h.not_row hte hr))).trans (Below.heap_alloc _ _ _ hlt))
theorem Nums.alloc (h : Nums w T b n v) (ob : Obj) : Nums (w.alloc ob) T b n v := h.block (Below.heap_alloc _ _ _ h.lt)
/-- A store into the block keeps a row of another type. -/
theorem Nums.row_kept (h : Nums w T b n v) {e : TypeId} (hte : T ≠ e) {base size k : Nat} {u : Value} {xs : List Value} (hr : w.ownsRow base e size u k xs) (p : Nat) (x : Value) : (w.setCell ⟨b, p, none⟩ x).ownsRow base e size u k xs :=
  hr.kept (row := some b) ⟨rfl, rfl, rfl, by rw [World.size_setCell]; exact Nat.le_refl _, fun k _ hk => Below.heap_setCell _ _ _ k (fun e => hk (by rw [e]))⟩ (.inr (h.not_row hte hr))
theorem Nums.made (w : World) (T : TypeId) (n : Nat) : Nums (w.alloc (.cells (madeCells #[.int .i64 0] n) T)) T w.heap.size n (fun _ => 0) := by
  refine ⟨_, heap_alloc_new w _, fun q hq => ?_⟩
  simp [madeCells, hq, Nat.mod_one]
end
end Go.Proofs.Ytmlkegopbdfiaaa
