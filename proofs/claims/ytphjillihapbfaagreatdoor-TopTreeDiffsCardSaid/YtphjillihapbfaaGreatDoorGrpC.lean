/-
  KeptY DelRow.
-/
import Derived.Test.YtphjillihapbfaaGreatDoorGrpB
import Derived.Laws.IdiomCopy
import Derived.Laws.AppendOwn
namespace Go.Proofs.YtphjillihapbfaaGreatDoor
open Go.RowKit

/-- The blocks below number B are as in W, all but blocks X and X + 1. -/
def KeptY (B X : Nat) (W w' : World) : Prop := ∀ k, k < B → k ≠ X → k ≠ X + 1 → w'.heap[k]? = W.heap[k]?
theorem KeptY.refl (B X : Nat) (W : World) : KeptY B X W W := fun _ _ _ _ => rfl
theorem KeptY.drew {B X : Nat} {W w' : World} (h : KeptY B X W w') : KeptY B X W w'.drew := h
theorem KeptY.below {B X : Nat} {W w1 w2 : World} (h : KeptY B X W w1) (hb : Below B w1 w2) : KeptY B X W w2 := fun k hk hx hy => (hb.block k hk).trans (h k hk hx hy)
theorem KeptY.setCell {B X : Nat} {W w' : World} (h : KeptY B X W w') {p : Addr} (hp : p.block = X ∨ p.block = X + 1) (u : Value) : KeptY B X W (w'.setCell p u) := fun k hk hx hy =>
  (Below.heap_setCell _ _ _ _ (by omega)).trans (h k hk hx hy)
def SinceY (B X : Nat) (W : World) : Type := { w' : World // KeptY B X W w' }
instance {B X : Nat} {W : World} : Nonempty (SinceY B X W) := ⟨⟨W, KeptY.refl _ _ _⟩⟩
def SinceY.world {B X : Nat} {W : World} (x : SinceY B X W) : World := x.1
theorem SinceY.cell {B X : Nat} {W : World} {b o : Nat} (h : b < B) (hx : b ≠ X) (hy : b ≠ X + 1) {v : Option Value} (hv : W.cell? ⟨b, o, none⟩ = v) : ∀ x : SinceY B X W, x.world.cell? ⟨b, o, none⟩ = v := fun x => by
  rw [← hv]
  exact World.cell?_of_block (w := W) (a := ⟨b, o, none⟩) (x.2 b h hx hy)
theorem sincey {B X : Nat} {W w' : World} (h : KeptY B X W w') : ∃ x : SinceY B X W, w' = x.world := ⟨⟨w', h⟩, rfl⟩
/-- A block's cells. -/
theorem row_cell {w : World} {k : Nat} {cs : Array Value} {ty : TypeId} (h : w.heap[k]? = some (.cells cs ty (0, 0))) (j : Nat) : w.cell? ⟨k, j, none⟩ = cs[j]? := cell_of_row _ _ _ cs ty (0, 0) h
theorem row_fz {w : World} {k : Nat} {cs : Array Value} {ty : TypeId} (h : w.heap[k]? = some (.cells cs ty (0, 0))) (j : Nat) : w.frozen? ⟨k, j, none⟩ = false := by simp [World.frozen?, h]
theorem row_set {w : World} {k : Nat} {cs : Array Value} {ty : TypeId} (h : w.heap[k]? = some (.cells cs ty (0, 0))) (j : Nat) (v : Value) : (w.setCell ⟨k, j, none⟩ v).heap[k]? = some (.cells (cs.setIfInBounds j v) ty (0, 0)) := heap_setCell_same w k j cs ty v h
theorem row_other {w : World} {k b j : Nat} {v : Value} {x : Option Obj} (h : w.heap[k]? = x) (hk : k ≠ b) : (w.setCell ⟨b, j, none⟩ v).heap[k]? = x := (Below.heap_setCell _ _ _ _ hk).trans h
theorem row_lt {w : World} {k : Nat} {x : Obj} (h : w.heap[k]? = some x) : k < w.heap.size := (Array.getElem?_eq_some_iff.1 h).1
end Go.Proofs.YtphjillihapbfaaGreatDoor

namespace Go.Proofs.YtphjillihapbfaaGreatDoor
open Go.RowKit

/-- Values laid into an array from a place on. -/
def layAt : Array Value → Nat → List Value → Array Value
  | d, _, [] => d
  | d, k, x :: r => layAt (d.setIfInBounds k x) (k + 1) r
theorem layAt_size : ∀ (xs : List Value) (d : Array Value) (k : Nat), (layAt d k xs).size = d.size
  | [], _, _ => rfl
  | x :: r, d, k => by rw [layAt, layAt_size r]; simp
theorem layAt_get? : ∀ (xs : List Value) (d : Array Value) (k j : Nat), k + xs.length ≤ d.size → (layAt d k xs)[j]? = if k ≤ j ∧ j < k + xs.length then xs[j - k]? else d[j]?
  | [], d, k, j, _ => by rw [layAt, if_neg (by simp only [List.length_nil]; omega)]
  | x :: r, d, k, j, h => by
    have hl : k + (r.length + 1) ≤ d.size := by simpa using h
    rw [layAt, layAt_get? r _ (k + 1) j (by simp; omega)]
    simp only [List.length_cons]
    by_cases h1 : j = k
    · subst h1
      rw [if_neg (by omega), if_pos (by omega), Nat.sub_self, Array.getElem?_setIfInBounds]
      simp
      omega
    · by_cases h2 : k + 1 ≤ j ∧ j < k + 1 + r.length
      · rw [if_pos h2, if_pos (by omega), show j - k = (j - (k + 1)) + 1 by omega, List.getElem?_cons_succ]
      · rw [if_neg h2, if_neg (by omega), Array.getElem?_setIfInBounds, if_neg (by omega)]
theorem row_setCells {g : Nat} {ty : TypeId} : ∀ (vs : List Value) (o : Nat) (w : World) (cur : Array Value), w.heap[g]? = some (.cells cur ty (0, 0)) → (w.setCells g o vs).heap[g]? = some (.cells (layAt cur o vs) ty (0, 0))
  | [], _, _, _, h => h
  | v :: r, o, w, cur, h => by rw [World.setCells, layAt]; exact row_setCells r (o + 1) _ _ (row_set h o v)
theorem below_cells {B b : Nat} {a : World} (hb : B ≤ b) : ∀ (vs : List Value) (o : Nat) (w : World), Below B a w → Below B a (w.setCells b o vs)
  | [], _, _, h => h
  | v :: r, o, _, h => below_cells hb r (o + 1) _ (h.setCell (p := ⟨b, o, none⟩) hb v)
theorem layAt_take {cur : Array Value} {vs : List Value} {o : Nat} (h : o + vs.length ≤ cur.size) : (layAt cur o vs).toList.take o = cur.toList.take o := by
  apply List.ext_getElem?
  intro t
  rw [List.getElem?_take, List.getElem?_take]
  by_cases ht : t < o
  · rw [if_pos ht, if_pos ht]
    have := layAt_get? vs cur o t h
    rw [if_neg (by omega)] at this
    simpa using this
  · rw [if_neg ht, if_neg ht]
theorem layAt_more {cur : Array Value} {vs : List Value} {o : Nat} (h : o + vs.length ≤ cur.size) : (layAt cur o vs).toList.take (o + vs.length) = cur.toList.take o ++ vs := by
  apply List.ext_getElem?
  intro t
  rw [List.getElem?_take]
  have hl : (cur.toList.take o).length = o := by simp; omega
  by_cases ht : t < o + vs.length
  · rw [if_pos ht]
    have := layAt_get? vs cur o t h
    rw [Array.getElem?_toList, this]
    by_cases h2 : t < o
    · rw [if_neg (by omega), List.getElem?_append_left (by omega), List.getElem?_take, if_pos h2]
      simp
    · rw [if_pos (by omega), List.getElem?_append_right (by omega), hl]
  · rw [if_neg ht, List.getElem?_eq_none]
    rw [List.length_append, hl]
    omega

section
variable {α : Type} {sz : Nat} {enc : α → List Value}
theorem flat_length (he : ∀ x, (enc x).length = sz) (l : List α) : (l.flatMap enc).length = l.length * sz := by
  induction l with
  | nil => simp
  | cons a l ih => simp [he, ih, Nat.add_mul]; omega
theorem flat_take (he : ∀ x, (enc x).length = sz) : ∀ (l : List α) (k : Nat), (l.flatMap enc).take (k * sz) = (l.take k).flatMap enc
  | [], k => by simp
  | a :: l, 0 => by simp
  | a :: l, k + 1 => by
    rw [List.flatMap_cons, List.take_succ_cons, List.flatMap_cons, Nat.add_mul, Nat.one_mul, Nat.add_comm (k * sz), ← flat_take he l k, ← he a, List.take_append, List.take_of_length_le (by omega)]
    simp
theorem flat_at (he : ∀ x, (enc x).length = sz) {l : List α} {k : Nat} (hk : k < l.length) {t : Nat} (ht : t < sz) : (l.flatMap enc)[k * sz + t]? = (enc l[k])[t]? := by
  induction l generalizing k with
  | nil => simp at hk
  | cons a l ih =>
    cases k with
    | zero => simp [List.getElem?_append_left (show t < (enc a).length by rw [he]; exact ht)]
    | succ k =>
      rw [List.flatMap_cons, Nat.add_mul, Nat.one_mul, List.getElem?_append_right (by rw [he]; omega), he, show k * sz + sz + t - sz = k * sz + t by omega]
      simpa using ih (k := k) (by simpa using hk)
/-- The second loop of slices.DeleteFunc: j elements have been looked at, i of them are kept and lie at the row's head. -/
structure DelInv (enc : α → List Value) (sz : Nat) (l : List α) (p : α → Bool) (i j : Nat) (cur : Array Value) : Prop where
  room : l.length * sz ≤ cur.size
  len : ((l.take j).filter fun x => !p x).length = i
  lt : i < j
  low : cur.toList.take (i * sz) = ((l.take j).filter fun x => !p x).flatMap enc
  high : ∀ t, j * sz ≤ t → t < l.length * sz → cur[t]? = (l.flatMap enc)[t]?
theorem DelInv.start (he : ∀ x, (enc x).length = sz) {l : List α} {p : α → Bool} {k : Nat} {cur : Array Value} (hk : k < l.length) (hn : (l.take k).any p = false) (hp : p l[k] = true) (hr : l.length * sz ≤ cur.size) (hc : cur.toList.take (l.length * sz) = l.flatMap enc) : DelInv enc sz l p k (k + 1) cur := by
  have hf : (l.take (k + 1)).filter (fun x => !p x) = l.take k := by
    rw [List.take_succ_eq_append_getElem hk, List.filter_append, List.filter_eq_self.2 (fun y hy => by have := List.any_eq_false.1 hn y hy; simpa using this)]
    simp [hp]
  refine ⟨hr, ?_, Nat.lt_succ_self _, ?_, ?_⟩
  · rw [hf, List.length_take]; omega
  · rw [hf, ← flat_take he, ← hc, List.take_take, Nat.min_eq_left (Nat.mul_le_mul_right _ (by omega))]
  · intro t _ ht
    rw [← hc, List.getElem?_take, if_pos ht]
    simp
theorem DelInv.skip {l : List α} {p : α → Bool} {i j : Nat} {cur : Array Value} (h : DelInv enc sz l p i j cur) (hj : j < l.length) (hp : p l[j] = true) : DelInv enc sz l p i (j + 1) cur := by
  have hf : (l.take (j + 1)).filter (fun x => !p x) = (l.take j).filter (fun x => !p x) := by
    rw [List.take_succ_eq_append_getElem hj, List.filter_append]
    simp [hp]
  refine ⟨h.room, by rw [hf]; exact h.len, by have := h.lt; omega, by rw [hf]; exact h.low, fun t h1 h2 => h.high t ?_ h2⟩
  rw [Nat.add_mul] at h1
  omega
theorem DelInv.fits {l : List α} {p : α → Bool} {i j : Nat} {cur : Array Value} (h : DelInv enc sz l p i j cur) (hj : j < l.length) : i * sz + sz ≤ j * sz ∧ j * sz + sz ≤ l.length * sz := by
  have a := Nat.mul_le_mul_right sz (show i + 1 ≤ j from h.lt)
  have b := Nat.mul_le_mul_right sz (show j + 1 ≤ l.length from hj)
  rw [Nat.add_mul, Nat.one_mul] at a b
  exact ⟨a, b⟩
theorem DelInv.keep (he : ∀ x, (enc x).length = sz) {l : List α} {p : α → Bool} {i j : Nat} {cur : Array Value} (h : DelInv enc sz l p i j cur) (hj : j < l.length) (hp : p l[j] = false) : DelInv enc sz l p (i + 1) (j + 1) (layAt cur (i * sz) (enc l[j])) := by
  have hf : (l.take (j + 1)).filter (fun x => !p x) = (l.take j).filter (fun x => !p x) ++ [l[j]] := by
    rw [List.take_succ_eq_append_getElem hj, List.filter_append]
    simp [hp]
  obtain ⟨a, b⟩ := h.fits hj
  have hr := h.room
  have hl : i * sz + (enc l[j]).length ≤ cur.size := by rw [he]; omega
  refine ⟨by rw [layAt_size]; exact hr, by rw [hf, List.length_append, h.len]; rfl, by have := h.lt; omega, ?_, ?_⟩
  · rw [hf, List.flatMap_append, Nat.add_mul, Nat.one_mul, ← h.low]
    have := layAt_more (vs := enc l[j]) hl
    rw [he] at this
    rw [this]
    simp
  · intro t h1 h2
    rw [Nat.add_mul, Nat.one_mul] at h1
    rw [layAt_get? _ _ _ _ hl, if_neg (by rw [he]; omega)]
    exact h.high t (by omega) h2
theorem DelInv.cells (he : ∀ x, (enc x).length = sz) {l : List α} {p : α → Bool} {i j : Nat} {cur : Array Value} (h : DelInv enc sz l p i j cur) (hj : j < l.length) {t : Nat} (ht : t < sz) : cur[j * sz + t]? = (enc l[j])[t]? := by
  obtain ⟨a, b⟩ := h.fits hj
  rw [h.high _ (by omega) (by omega), flat_at he hj ht]
/-- The end, behind clear. -/
theorem DelInv.done {l : List α} {p : α → Bool} {i : Nat} {cur : Array Value} (h : DelInv enc sz l p i l.length cur) (vs : List Value) (hv : i * sz + vs.length ≤ cur.size) : (l.filter fun x => !p x).length = i ∧ (layAt cur (i * sz) vs).toList.take (i * sz) = (l.filter fun x => !p x).flatMap enc := by
  have e : l.take l.length = l := List.take_of_length_le (Nat.le_refl _)
  have h1 := h.len
  have h2 := h.low
  rw [e] at h1 h2
  exact ⟨h1, by rw [layAt_take hv]; exact h2⟩
end

theorem zeroCells_all {zs : Array Value} {n : Nat} {q : Value → Prop} (hz : ∀ (k : Nat) (h : k < zs.size), q zs[k]) : ∀ v ∈ (Builtin.zeroCells zs n).toList, q v := by
  intro v hv
  simp only [Builtin.zeroCells, Array.toList_map, List.mem_map, Array.mem_toList_iff, Array.mem_range] at hv
  obtain ⟨k, hk, rfl⟩ := hv
  have hp : 0 < zs.size := by
    rcases Nat.eq_zero_or_pos zs.size with h0 | h0
    · rw [h0, Nat.mul_zero] at hk; omega
    · exact h0
  have hm := Nat.mod_lt k hp
  rw [getElem!_pos zs (k % zs.size) hm]
  exact hz _ hm
theorem zeroCells_length (zs : Array Value) (n : Nat) : (Builtin.zeroCells zs n).toList.length = n * zs.size := by simp [Builtin.zeroCells]
/-- 'clear(s)', s a slice of n > 0 elements. -/
theorem run_clear_cells {P : Program} (w : World) (t e ty : TypeId) (z : Value) (ht : P.underlying t = some (.slice e)) (hv : ∀ w, (zeroValue e).run P w = .ok z w) (h1 : ∀ (k : Nat) (h : k < z.cells.size), (z.cells[k]).oneCell' = true) (b o n c : Nat) (hn : 0 < n)
    (hc : ∀ j, j < n * z.cells.size → (w.cell? ⟨b, o + j, none⟩).isSome = true) (hf : ∀ j, j < n * z.cells.size → w.frozen? ⟨b, o + j, none⟩ = false) :
    (Builtin.clear_ #[t] ty #[.slice (some ⟨b, o, none⟩) n c]).run P w = .ok (.tuple #[]) (w.setCells b o (Builtin.zeroCells z.cells n).toList) := by
  have hl := zeroCells_length z.cells n
  have hst := run_storeCells_cells (P := P) b o (Builtin.zeroCells z.cells n).toList 0 w (by rw [hl]; simpa using hc) (by rw [hl]; simpa using hf) (zeroCells_all h1)
  simp only [Nat.add_zero] at hst
  obtain ⟨m, rfl⟩ : ∃ m, n = m + 1 := ⟨n - 1, by omega⟩
  simp [Builtin.clear_, run_underlying ht, hv, hst]
end Go.Proofs.YtphjillihapbfaaGreatDoor
