/-
  Rows that are written in place: slices.Insert. No program in sight.
-/
import Derived.Test.YtnjcoejnknpfoaaDelRow
import Derived.Test.YtnjcoejnknpfoaaSl
import Derived.Lib.AppendZerosOnto
import Derived.Lib.SlBuf
import Derived.Lib.Overlaps
namespace Go.Proofs.Ytnjcoejnknpfoaa
open Go.RowKit

/-- 'copy(d, s)': elements of so many cells, into a row. -/
theorem run_copy_rows {P : Program} (w : World) (dT sT ty elem : TypeId) (size g o dLen dCap : Nat) (a : Addr) (sLen sCap : Nat) (cs : List Value) (cur : Array Value) (rt : TypeId)
    (hu : P.underlying dT = some (.slice elem)) (hs : (P.info? elem).map (·.size) = some size) (m : Nat) (hm : Nat.min sLen dLen = m) (hn : cs.length = m * size)
    (hsrc : ∀ j v, cs[j]? = some v → w.cell? (a.add j) = some v) (hg : w.heap[g]? = some (.cells cur rt (0, 0))) (hroom : o + cs.length ≤ cur.size) (h1 : ∀ v ∈ cs, v.oneCell' = true) :
    (Builtin.copy_ #[dT, sT] ty #[.slice (some ⟨g, o, none⟩) dLen dCap, .slice (some a) sLen sCap]).run P w = .ok (goInt m) (w.setCells g o cs) := by
  have hl := run_loadCells_list (P := P) w a cs hsrc
  have hst := run_storeCells_cells (P := P) g o cs 0 w (fun j hj => by rw [row_cell hg, Array.getElem?_eq_getElem (by omega)]; rfl) (fun j _ => row_fz hg _) h1
  rw [hn] at hl
  simp only [Nat.add_zero] at hst
  cases hq : P.info? elem with
  | none => simp [hq] at hs
  | some i =>
    have hi : i.size = size := by simpa [hq] using hs
    simp [Builtin.copy_, run_underlying hu, Builtin.lenOf, Builtin.firstCells, sizeOf, typeInfo, hq, hi, hm, hl, hst]

theorem flat_drop {α : Type} {sz : Nat} {enc : α → List Value} (he : ∀ x, (enc x).length = sz) : ∀ (l : List α) (k : Nat), (l.flatMap enc).drop (k * sz) = (l.drop k).flatMap enc
  | [], k => by simp
  | a :: l, 0 => by simp
  | a :: l, k + 1 => by
    rw [List.flatMap_cons, List.drop_succ_cons, Nat.add_mul, Nat.one_mul, Nat.add_comm (k * sz), ← flat_drop he l k, ← he a, List.drop_append]
    simp

theorem ins_row {cur : Array Value} {A us : List Value} {p : Nat} (hp : p ≤ A.length) (hA : cur.toList.take A.length = A) (hroom : A.length + us.length ≤ cur.size) :
    (layAt (layAt cur (p + us.length) (A.drop p)) p us).toList.take (A.length + us.length) = A.take p ++ us ++ A.drop p := by
  have hd : (A.drop p).length = A.length - p := by simp
  have h1 : p + us.length + (A.drop p).length ≤ cur.size := by omega
  have h2 : p + us.length ≤ (layAt cur (p + us.length) (A.drop p)).size := by rw [layAt_size]; omega
  have hl : (A.take p).length = p := by simp; omega
  apply List.ext_getElem?
  intro t
  rw [List.getElem?_take, Array.getElem?_toList, layAt_get? _ _ _ _ h2, layAt_get? _ _ _ _ h1, hd]
  have hc : ∀ j, j < A.length → cur[j]? = A[j]? := fun j hj => by
    have := congrArg (fun z => z[j]?) hA
    simp only [List.getElem?_take, hj, if_pos] at this
    simpa using this
  by_cases ht : t < A.length + us.length
  · rw [if_pos ht]
    by_cases h3 : t < p
    · rw [if_neg (by omega), if_neg (by omega), List.append_assoc, List.getElem?_append_left (by omega), List.getElem?_take, if_pos h3, hc _ (by omega)]
    · by_cases h4 : t < p + us.length
      · rw [if_pos (by omega), List.append_assoc, List.getElem?_append_right (by omega), hl, List.getElem?_append_left (by omega)]
      · rw [if_neg (by omega), if_pos (by omega), List.append_assoc, List.getElem?_append_right (by omega), hl, List.getElem?_append_right (by omega)]
        congr 1
        omega
  · rw [if_neg ht, List.getElem?_eq_none]
    rw [List.length_append, List.length_append, hl, hd]
    omega

theorem ins_row2 {R : Array Value} {A us : List Value} {p : Nat} (hp : p ≤ A.length) (hA : R.toList.take p = A.take p) (hroom : A.length + us.length ≤ R.size) :
    (layAt (layAt R p us) (p + us.length) (A.drop p)).toList.take (A.length + us.length) = A.take p ++ us ++ A.drop p := by
  have hd : (A.drop p).length = A.length - p := by simp
  have h1 : p + us.length ≤ R.size := by omega
  have h2 : p + us.length + (A.drop p).length ≤ (layAt R p us).size := by rw [layAt_size]; omega
  have hl : (A.take p).length = p := by simp; omega
  apply List.ext_getElem?
  intro t
  rw [List.getElem?_take, Array.getElem?_toList, layAt_get? _ _ _ _ h2, layAt_get? _ _ _ _ h1, hd]
  by_cases ht : t < A.length + us.length
  · rw [if_pos ht]
    by_cases h3 : t < p
    · rw [if_neg (by omega), if_neg (by omega), List.append_assoc, List.getElem?_append_left (by omega), ← hA, List.getElem?_take, if_pos h3]
      simp
    · by_cases h4 : t < p + us.length
      · rw [if_neg (by omega), if_pos (by omega), List.append_assoc, List.getElem?_append_right (by omega), hl, List.getElem?_append_left (by omega)]
      · rw [if_pos (by omega), List.append_assoc, List.getElem?_append_right (by omega), hl, List.getElem?_append_right (by omega)]
        congr 1
        omega
  · rw [if_neg ht, List.getElem?_eq_none]
    rw [List.length_append, List.length_append, hl, hd]
    omega
end Go.Proofs.Ytnjcoejnknpfoaa
