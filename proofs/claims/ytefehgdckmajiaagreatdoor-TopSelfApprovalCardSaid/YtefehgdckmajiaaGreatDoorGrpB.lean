/-
  OwnStr DelRow RangeBox AppG Bld.
-/
import Derived.Test.YtefehgdckmajiaaGreatDoorChecked
import Derived.Test.YtefehgdckmajiaaGreatDoorGrpA
import Derived.Lib.Bytealg
import Derived.Lib.Slices
import Derived.Lib.Strings
import Derived.Lib.Walk
import Derived.Laws.IdiomCopy
import Derived.Laws.AppendOwn
import Derived.RangeFuncNested
import Derived.RangeFuncBound
import Derived.RangeFuncCalls
import Derived.RangeFuncLeaves
import Derived.Test.YtefehgdckmajiaaGreatDoorRows
import Derived.Shelf.Strings.Builder1
import Derived.Lib.OthersKept
namespace Go.Proofs.YtefehgdckmajiaaGreatDoor
open Go.RowKit


set_option maxHeartbeats 1000000 in
set_option maxRecDepth 100000 in
theorem stringslite_IndexByte (s : ByteArray) (c : Int) (w : World) :
    Calls Tryz.prog 98 #[.string s, .int .u8 c] w fun e w' => e = .returned (.int .i64 (Lib.indexByte s.data.toList c.toNat.toUInt8)) ∧ w' = w := by
  go_enter Tryz.func98, Tryz.ntmps98
  go_wp2
  rw [run_callFunc_extern Tryz.func103 (by kernel_rfl) (by kernel_rfl) (by kernel_rfl) (e := Extern.BytealgIndexByte.indexByte) (by kernel_rfl), Lib.run_indexByteString]
  simp only [Result.andThen]
  rw [Oper.upon_value]
  go_wp2
  go_ret
  exact ⟨rfl, rfl⟩



set_option maxHeartbeats 2000000 in
set_option maxRecDepth 100000 in
theorem stringslite_Index_one (s : ByteArray) (c : UInt8) (w : World) :
    Calls Tryz.prog 96 #[.string s, .string ⟨#[c]⟩] w fun e w' => e = .returned (.int .i64 (Lib.indexByte s.data.toList c)) ∧ w' = w := by
  go_enter Tryz.func96, Tryz.ntmps96
  go_wp2_with (go_at_call 98; refine (stringslite_IndexByte _ _ _).mono ?_; rintro e w' ⟨rfl, rfl⟩)
  · have h : ([c] == s.toList) = true := by assumption
    go_ret
    refine ⟨?_, rfl⟩
    have e : s.data.toList = [c] := by rw [← Lib.toList_data]; exact (beq_iff_eq.1 h).symm
    rw [e]
    simp [Lib.indexByte]
  · go_ret
    exact ⟨rfl, rfl⟩



set_option maxHeartbeats 1000000 in
theorem strings_Index_one (s : ByteArray) (c : UInt8) (w : World) :
    Calls Tryz.prog 89 #[.string s, .string ⟨#[c]⟩] w fun e w' => e = .returned (.int .i64 (Lib.indexByte s.data.toList c)) ∧ w' = w := by
  go_enter Tryz.func89, Tryz.ntmps89
  go_wp2_with (go_at_call 96; refine (stringslite_Index_one _ _ _).mono ?_; rintro e w' ⟨rfl, rfl⟩)
  go_ret
  exact ⟨rfl, rfl⟩



set_option maxHeartbeats 1000000 in
theorem strings_HasSuffix (s p : ByteArray) (w : World) (hs : s.size ≤ 9223372036854775807) :
    Calls Tryz.prog 41 #[.string s, .string p] w fun e w' => e = .returned (.bool (Lib.hasSuffix s.data.toList p.data.toList)) ∧ w' = w := by
  rw [← Lib.hasSuffix_raw]
  have hlo : p.size ≤ s.size → ((s.size : Int) - (p.size : Int) + 9223372036854775808) % 18446744073709551616 - 9223372036854775808 = ((s.size - p.size : Nat) : Int) := fun _ => by omega
  go_enter Tryz.func41, Tryz.ntmps41
  go_wp2
  · have h : p.size ≤ s.size := by assumption
    go_ret
    refine ⟨?_, rfl⟩
    show Ending.returned (Value.bool ((s.extract (s.size - p.size) s.size).toList == p.toList)) = _
    simp [h]
  · have h : ¬ p.size ≤ s.size := by assumption
    go_ret
    refine ⟨?_, rfl⟩
    show Ending.returned (Value.bool false) = _
    simp [h]



set_option maxHeartbeats 1000000 in
theorem strings_HasPrefix (s p : ByteArray) (w : World) :
    Calls Tryz.prog 44 #[.string s, .string p] w fun e w' => e = .returned (.bool (Lib.hasPrefix s.data.toList p.data.toList)) ∧ w' = w := by
  rw [← Lib.hasPrefix_of_take, ← Lib.size_eq, ← Lib.size_eq]
  go_enter Tryz.func44, Tryz.ntmps44
  go_wp2
  · rename_i h
    go_ret
    refine ⟨?_, rfl⟩
    show Ending.returned (Value.bool ((s.extract 0 p.size).toList == p.toList)) = _
    rw [Lib.extract_toList, Lib.toList_data]
    simp [h]
  · rename_i h
    go_ret
    refine ⟨?_, rfl⟩
    show Ending.returned (Value.bool false) = _
    simp [h]

end Go.Proofs.YtefehgdckmajiaaGreatDoor

namespace Go.Proofs.YtefehgdckmajiaaGreatDoor
open Go.RowKit

/-- Values laid into an array from a place on. -/
def layAt : Array Value → Nat → List Value → Array Value
  | d, _, [] => d
  | d, k, x :: r => layAt (d.setIfInBounds k x) (k + 1) r
theorem layAt_size : ∀ (xs : List Value) (d : Array Value) (k : Nat), (layAt d k xs).size = d.size
  | [], _, _ => rfl
  | x :: r, d, k => by rw [layAt, layAt_size r]; simp
theorem layAt_get? : ∀ (xs : List Value) (d : Array Value) (k j : Nat), k + xs.length ≤ d.size → (layAt d k xs)[j]? = if k ≤ j ∧ j < k + xs.length then xs[j - k]? else d[j]?
  | [], d, k, j, _ => by rw [layAt, if_neg (by simp only [List.length_nil]; omega)]
  | x :: r, d, k, j, h => by
    have hl : k + (r.length + 1) ≤ d.size := by simpa using h
    rw [layAt, layAt_get? r _ (k + 1) j (by simp; omega)]
    simp only [List.length_cons]
    by_cases h1 : j = k
    · subst h1
      rw [if_neg (by omega), if_pos (by omega), Nat.sub_self, Array.getElem?_setIfInBounds]
      simp
      omega
    · by_cases h2 : k + 1 ≤ j ∧ j < k + 1 + r.length
      · rw [if_pos h2, if_pos (by omega), show j - k = (j - (k + 1)) + 1 by omega, List.getElem?_cons_succ]
      · rw [if_neg h2, if_neg (by omega), Array.getElem?_setIfInBounds, if_neg (by omega)]
theorem row_setCells {g : Nat} {ty : TypeId} : ∀ (vs : List Value) (o : Nat) (w : World) (cur : Array Value), w.heap[g]? = some (.cells cur ty (0, 0)) → (w.setCells g o vs).heap[g]? = some (.cells (layAt cur o vs) ty (0, 0))
  | [], _, _, _, h => h
  | v :: r, o, w, cur, h => by rw [World.setCells, layAt]; exact row_setCells r (o + 1) _ _ (row_set h o v)
theorem below_cells {B b : Nat} {a : World} (hb : B ≤ b) : ∀ (vs : List Value) (o : Nat) (w : World), Below B a w → Below B a (w.setCells b o vs)
  | [], _, _, h => h
  | v :: r, o, _, h => below_cells hb r (o + 1) _ (h.setCell (p := ⟨b, o, none⟩) hb v)
theorem layAt_take {cur : Array Value} {vs : List Value} {o : Nat} (h : o + vs.length ≤ cur.size) : (layAt cur o vs).toList.take o = cur.toList.take o := by
  apply List.ext_getElem?
  intro t
  rw [List.getElem?_take, List.getElem?_take]
  by_cases ht : t < o
  · rw [if_pos ht, if_pos ht]
    have := layAt_get? vs cur o t h
    rw [if_neg (by omega)] at this
    simpa using this
  · rw [if_neg ht, if_neg ht]
theorem layAt_more {cur : Array Value} {vs : List Value} {o : Nat} (h : o + vs.length ≤ cur.size) : (layAt cur o vs).toList.take (o + vs.length) = cur.toList.take o ++ vs := by
  apply List.ext_getElem?
  intro t
  rw [List.getElem?_take]
  have hl : (cur.toList.take o).length = o := by simp; omega
  by_cases ht : t < o + vs.length
  · rw [if_pos ht]
    have := layAt_get? vs cur o t h
    rw [Array.getElem?_toList, this]
    by_cases h2 : t < o
    · rw [if_neg (by omega), List.getElem?_append_left (by omega), List.getElem?_take, if_pos h2]
      simp
    · rw [if_pos (by omega), List.getElem?_append_right (by omega), hl]
  · rw [if_neg ht, List.getElem?_eq_none]
    rw [List.length_append, hl]
    omega

section
variable {α : Type} {sz : Nat} {enc : α → List Value}
theorem flat_length (he : ∀ x, (enc x).length = sz) (l : List α) : (l.flatMap enc).length = l.length * sz := by
  induction l with
  | nil => simp
  | cons a l ih => simp [he, ih, Nat.add_mul]; omega
theorem flat_take (he : ∀ x, (enc x).length = sz) : ∀ (l : List α) (k : Nat), (l.flatMap enc).take (k * sz) = (l.take k).flatMap enc
  | [], k => by simp
  | a :: l, 0 => by simp
  | a :: l, k + 1 => by
    rw [List.flatMap_cons, List.take_succ_cons, List.flatMap_cons, Nat.add_mul, Nat.one_mul, Nat.add_comm (k * sz), ← flat_take he l k, ← he a, List.take_append, List.take_of_length_le (by omega)]
    simp
theorem flat_at (he : ∀ x, (enc x).length = sz) {l : List α} {k : Nat} (hk : k < l.length) {t : Nat} (ht : t < sz) : (l.flatMap enc)[k * sz + t]? = (enc l[k])[t]? := by
  induction l generalizing k with
  | nil => simp at hk
  | cons a l ih =>
    cases k with
    | zero => simp [List.getElem?_append_left (show t < (enc a).length by rw [he]; exact ht)]
    | succ k =>
      rw [List.flatMap_cons, Nat.add_mul, Nat.one_mul, List.getElem?_append_right (by rw [he]; omega), he, show k * sz + sz + t - sz = k * sz + t by omega]
      simpa using ih (k := k) (by simpa using hk)
/-- The second loop of slices.DeleteFunc: j elements have been looked at, i of them are kept and lie at the row's head. -/
structure DelInv (enc : α → List Value) (sz : Nat) (l : List α) (p : α → Bool) (i j : Nat) (cur : Array Value) : Prop where
  room : l.length * sz ≤ cur.size
  len : ((l.take j).filter fun x => !p x).length = i
  lt : i < j
  low : cur.toList.take (i * sz) = ((l.take j).filter fun x => !p x).flatMap enc
  high : ∀ t, j * sz ≤ t → t < l.length * sz → cur[t]? = (l.flatMap enc)[t]?
theorem DelInv.start (he : ∀ x, (enc x).length = sz) {l : List α} {p : α → Bool} {k : Nat} {cur : Array Value} (hk : k < l.length) (hn : (l.take k).any p = false) (hp : p l[k] = true) (hr : l.length * sz ≤ cur.size) (hc : cur.toList.take (l.length * sz) = l.flatMap enc) : DelInv enc sz l p k (k + 1) cur := by
  have hf : (l.take (k + 1)).filter (fun x => !p x) = l.take k := by
    rw [List.take_succ_eq_append_getElem hk, List.filter_append, List.filter_eq_self.2 (fun y hy => by have := List.any_eq_false.1 hn y hy; simpa using this)]
    simp [hp]
  refine ⟨hr, ?_, Nat.lt_succ_self _, ?_, ?_⟩
  · rw [hf, List.length_take]; omega
  · rw [hf, ← flat_take he, ← hc, List.take_take, Nat.min_eq_left (Nat.mul_le_mul_right _ (by omega))]
  · intro t _ ht
    rw [← hc, List.getElem?_take, if_pos ht]
    simp
theorem DelInv.skip {l : List α} {p : α → Bool} {i j : Nat} {cur : Array Value} (h : DelInv enc sz l p i j cur) (hj : j < l.length) (hp : p l[j] = true) : DelInv enc sz l p i (j + 1) cur := by
  have hf : (l.take (j + 1)).filter (fun x => !p x) = (l.take j).filter (fun x => !p x) := by
    rw [List.take_succ_eq_append_getElem hj, List.filter_append]
    simp [hp]
  refine ⟨h.room, by rw [hf]; exact h.len, by have := h.lt; omega, by rw [hf]; exact h.low, fun t h1 h2 => h.high t ?_ h2⟩
  rw [Nat.add_mul] at h1
  omega
theorem DelInv.fits {l : List α} {p : α → Bool} {i j : Nat} {cur : Array Value} (h : DelInv enc sz l p i j cur) (hj : j < l.length) : i * sz + sz ≤ j * sz ∧ j * sz + sz ≤ l.length * sz := by
  have a := Nat.mul_le_mul_right sz (show i + 1 ≤ j from h.lt)
  have b := Nat.mul_le_mul_right sz (show j + 1 ≤ l.length from hj)
  rw [Nat.add_mul, Nat.one_mul] at a b
  exact ⟨a, b⟩
theorem DelInv.keep (he : ∀ x, (enc x).length = sz) {l : List α} {p : α → Bool} {i j : Nat} {cur : Array Value} (h : DelInv enc sz l p i j cur) (hj : j < l.length) (hp : p l[j] = false) : DelInv enc sz l p (i + 1) (j + 1) (layAt cur (i * sz) (enc l[j])) := by
  have hf : (l.take (j + 1)).filter (fun x => !p x) = (l.take j).filter (fun x => !p x) ++ [l[j]] := by
    rw [List.take_succ_eq_append_getElem hj, List.filter_append]
    simp [hp]
  obtain ⟨a, b⟩ := h.fits hj
  have hr := h.room
  have hl : i * sz + (enc l[j]).length ≤ cur.size := by rw [he]; omega
  refine ⟨by rw [layAt_size]; exact hr, by rw [hf, List.length_append, h.len]; rfl, by have := h.lt; omega, ?_, ?_⟩
  · rw [hf, List.flatMap_append, Nat.add_mul, Nat.one_mul, ← h.low]
    have := layAt_more (vs := enc l[j]) hl
    rw [he] at this
    rw [this]
    simp
  · intro t h1 h2
    rw [Nat.add_mul, Nat.one_mul] at h1
    rw [layAt_get? _ _ _ _ hl, if_neg (by rw [he]; omega)]
    exact h.high t (by omega) h2
theorem DelInv.cells (he : ∀ x, (enc x).length = sz) {l : List α} {p : α → Bool} {i j : Nat} {cur : Array Value} (h : DelInv enc sz l p i j cur) (hj : j < l.length) {t : Nat} (ht : t < sz) : cur[j * sz + t]? = (enc l[j])[t]? := by
  obtain ⟨a, b⟩ := h.fits hj
  rw [h.high _ (by omega) (by omega), flat_at he hj ht]
/-- The end, behind clear. -/
theorem DelInv.done {l : List α} {p : α → Bool} {i : Nat} {cur : Array Value} (h : DelInv enc sz l p i l.length cur) (vs : List Value) (hv : i * sz + vs.length ≤ cur.size) : (l.filter fun x => !p x).length = i ∧ (layAt cur (i * sz) vs).toList.take (i * sz) = (l.filter fun x => !p x).flatMap enc := by
  have e : l.take l.length = l := List.take_of_length_le (Nat.le_refl _)
  have h1 := h.len
  have h2 := h.low
  rw [e] at h1 h2
  exact ⟨h1, by rw [layAt_take hv]; exact h2⟩
end

theorem zeroCells_all {zs : Array Value} {n : Nat} {q : Value → Prop} (hz : ∀ (k : Nat) (h : k < zs.size), q zs[k]) : ∀ v ∈ (Builtin.zeroCells zs n).toList, q v := by
  intro v hv
  simp only [Builtin.zeroCells, Array.toList_map, List.mem_map, Array.mem_toList_iff, Array.mem_range] at hv
  obtain ⟨k, hk, rfl⟩ := hv
  have hp : 0 < zs.size := by
    rcases Nat.eq_zero_or_pos zs.size with h0 | h0
    · rw [h0, Nat.mul_zero] at hk; omega
    · exact h0
  have hm := Nat.mod_lt k hp
  rw [getElem!_pos zs (k % zs.size) hm]
  exact hz _ hm
theorem zeroCells_length (zs : Array Value) (n : Nat) : (Builtin.zeroCells zs n).toList.length = n * zs.size := by simp [Builtin.zeroCells]
/-- 'clear(s)', s a slice of n > 0 elements. -/
theorem run_clear_cells {P : Program} (w : World) (t e ty : TypeId) (z : Value) (ht : P.underlying t = some (.slice e)) (hv : ∀ w, (zeroValue e).run P w = .ok z w) (h1 : ∀ (k : Nat) (h : k < z.cells.size), (z.cells[k]).oneCell' = true) (b o n c : Nat) (hn : 0 < n)
    (hc : ∀ j, j < n * z.cells.size → (w.cell? ⟨b, o + j, none⟩).isSome = true) (hf : ∀ j, j < n * z.cells.size → w.frozen? ⟨b, o + j, none⟩ = false) :
    (Builtin.clear_ #[t] ty #[.slice (some ⟨b, o, none⟩) n c]).run P w = .ok (.tuple #[]) (w.setCells b o (Builtin.zeroCells z.cells n).toList) := by
  have hl := zeroCells_length z.cells n
  have hst := run_storeCells_cells (P := P) b o (Builtin.zeroCells z.cells n).toList 0 w (by rw [hl]; simpa using hc) (by rw [hl]; simpa using hf) (zeroCells_all h1)
  simp only [Nat.add_zero] at hst
  obtain ⟨m, rfl⟩ : ∃ m, n = m + 1 := ⟨n - 1, by omega⟩
  simp [Builtin.clear_, run_underlying ht, hv, hst]
end Go.Proofs.YtefehgdckmajiaaGreatDoor

namespace Go.Proofs.YtefehgdckmajiaaGreatDoor
open Go.RowKit

/-- The iterator gives a list of S, whatever the rounds do that leave its own block bn as it was. -/
def SeqBox {α : Type} (F : Fence) (n : Nat) (P : Program) (gf : Nat) (lb : Array Value) (encs : α → Array Value) (bn : Nat) (S : List α → Prop) (N : Nat) (w : World) : Prop :=
  ∀ (l : Nat) (J : List α → World → Prop) (W : World), Below w.heap.size w W → (∀ s W v, J s W → J s (W.setCell ⟨bn, 0, none⟩ v)) →
    (∀ pre x W1, J pre W1 → pre.length < N → YieldAt F (n - 1) P l (encs x) W1 fun e W' => e = .returned (.bool true) ∧ J (pre ++ [x]) W' ∧ W'.heap[bn]? = W1.heap[bn]?) →
    J [] W → CallsIn F n P gf (#[.func (.yield l) #[] #[]] ++ lb) W fun e W' => (∃ v, e = .returned v) ∧ ∃ xs, S xs ∧ J xs W'

theorem setCell_keeps {W : World} {a : Addr} {v : Value} {k : Nat} {o : Obj} (h : W.heap[k]? = some o) (ho : o.isCells = false) : (W.setCell a v).heap[k]? = some o := (KeepsOthers.setCell W a v).same k o h ho

theorem wpIn_rangeFunc_box {α : Type} {F : Fence} {n : Nat} {P : Program} {g : Operand} {ps : Array Tmp} {assign body : Code} {Q : Exit → Act → World → Prop} {a : Act} {w : World}
    (hro : F.round = none) (h1 : 1 ≤ n) {gf : Nat} {lb : Array Value} (hg : a.eval g = .func (.func gf) #[] lb) (hFg : F.fn gf) (eg : ∀ args w, (callFunc gf args).run P w = .ok (.enter gf args) w)
    {encs : α → Array Value} {bn : Nat} {S : List α → Prop} {N : Nat} (hseq : SeqBox F (n - 1) P gf lb encs bn S N w) (hbn : bn < w.heap.size) (hps : ∀ x, (encs x).size = ps.size)
    (I : List α → World → Prop) (hI : OwnFrom w.heap.size I) (hIs : ∀ s W v, I s W → I s (W.setCell ⟨bn, 0, none⟩ v)) (h0 : I [] w) (a₁ : α → Act)
    (hassign : ∀ (l : Nat) (x : α) (W : World) (K : Act → World → Prop), K (a₁ x) W →
      assign.wpIn (F.inRound l) (n - 1 - 1) P (Exit.then K (fun _ _ _ => False)) { tmps := (ps.zip (encs x)).foldl (fun t (p, v) => t.setIfInBounds p v) a.tmps, defers := [] } W)
    (hbody : ∀ (l : Nat) (pre : List α) (x : α) (W : World), I pre W → pre.length < N → body.wpIn (F.inRound l) (n - 1 - 1) P (fun e _ W' => e = .normal ∧ KeepsFrom w.heap.size W W' ∧ W'.heap[bn]? = W.heap[bn]? ∧ I (pre ++ [x]) W') (a₁ x) W)
    (hdone : ∀ (D : Nat) (xs : List α) (W : World), w.heap.size ≤ D → S xs → I xs W → W.heap[D]? = some (.deferred (some [])) → Q .normal { a with defers := { target := .collected D, args := #[] } :: a.defers } W) :
    (Code.rangeFunc g ps assign body).wpIn F n P Q a w := by
  refine wpIn_rangeFunc fun fn hfn => ?_
  rw [hro]
  let rec0 : LoopState → Loop := fun st => { state := st, pending := none, fn, tmps := a.tmps, params := ps, assign, body, defers := w.heap.size }
  let D := w.heap.size
  let L := w.heap.size + 1
  obtain ⟨W1, hW1⟩ : ∃ W1, (w.alloc (.deferred (some []))).alloc (.loop (rec0 .ready)) = W1 := ⟨_, rfl⟩
  have hL1 : W1.heap[L]? = some (.loop (rec0 .ready)) := by
    rw [← hW1]
    have := World.alloc_heap_new (w.alloc (.deferred (some []))) (.loop (rec0 .ready))
    rwa [World.size_alloc] at this
  have hD1 : W1.heap[D]? = some (.deferred (some [])) := by
    rw [← hW1]
    exact (Below.heap_alloc _ _ _ (by simp [D])).trans (World.alloc_heap_new w _)
  have hI1 : I [] W1 := by rw [← hW1]; exact hI.alloc _ (hI.alloc _ h0)
  have hb1 : Below w.heap.size w W1 := by rw [← hW1]; exact ((Below.refl _ w).alloc (Nat.le_refl _) _).alloc (by simp) _
  refine ⟨L, [{ target := .collected D, args := #[] }], W1, { target := .fn (.func gf) lb, args := #[.func (.yield L) #[] #[]] }, W1, gf, #[.func (.yield L) #[] #[]] ++ lb, W1, ?_, ?_, ?_, ?_, fun _ => h1, ?_⟩
  · rw [← hW1]
    exact run_enterLoop_outer _ _ _ _ _
  · simp only [resolve, hg]
    simp [go_sem]
  · intro f' hf'
    simp [Target.leads] at hf'
    subst hf'
    exact hFg
  · simp [invoke, go_sem, eg]
  · refine (hseq L (fun pre W => I pre W ∧ W.heap[L]? = some (.loop (rec0 .ready)) ∧ W.heap[D]? = some (.deferred (some []))) W1 hb1
      (fun s W v h => ⟨hIs s W v h.1, setCell_keeps h.2.1 rfl, setCell_keeps h.2.2 rfl⟩) ?_ ⟨hI1, hL1, hD1⟩).mono ?_
    · rintro pre x W ⟨hi, hl, hd⟩ hlen
      have hlt : L < W.heap.size := (Array.getElem?_eq_some_iff.1 hl).1
      have hy := run_yield (P := P) (args := encs x) hl (hps x)
      refine ⟨fn, _, assign, body, hy, roundIn_of_wpIn hfn (hassign _ x W _ ⟨_, run_beginRound hl rfl, ?_⟩)⟩
      have hl2 : (W.putObj L (.loop (rec0 .busy))).heap[L]? = some (.loop (rec0 .busy)) := World.putObj_heap_same hlt
      have hd2 : (W.putObj L (.loop (rec0 .busy))).heap[D]? = some (.deferred (some [])) := (World.putObj_heap_other (by simp only [D, L]; omega)).trans hd
      have hn2 : (W.putObj L (.loop (rec0 .busy))).heap[bn]? = W.heap[bn]? := World.putObj_heap_other (by simp only [L]; omega)
      refine wpIn_mono (hbody _ pre x _ (hI.putObj _ hi (by simp only [L]; omega) hl rfl) hlen) ?_
      rintro e a3 W3 ⟨rfl, hk3, hn3, hi3⟩
      have hl3 := hk3.same L _ (by simp only [L]; omega) hl2 rfl
      have hd3 := hk3.same D _ (Nat.le_refl _) hd2 rfl
      refine ⟨_, _, run_endRound (P := P) none hl3, rfl, ⟨hI.putObj _ hi3 (by simp only [L]; omega) hl3 rfl, World.putObj_heap_same (Array.getElem?_eq_some_iff.1 hl3).1, (World.putObj_heap_other (by simp only [D, L]; omega)).trans hd3⟩, ?_⟩
      exact ((World.putObj_heap_other (by simp only [L]; omega)).trans hn3).trans hn2
    · rintro e W2 ⟨⟨v, rfl⟩, xs, hS, hi, hl, hd⟩
      exact ⟨none, _, run_endLoop (P := P) hl (by simp [rec0]), hdone _ xs _ (Nat.le_refl _) hS (hI.putObj _ hi (by simp only [L]; omega) hl rfl) ((World.putObj_heap_other (by simp only [D, L]; omega)).trans hd)⟩
end Go.Proofs.YtefehgdckmajiaaGreatDoor

namespace Go.Proofs.YtefehgdckmajiaaGreatDoor
open Go.RowKit
theorem wpList_append_newG {P : Program} {ops : Array Oper} {rest : List Oper} {o : Oper} {a : Act} {Q : Exit → Act → World → Prop} {w : World} (us : Array Value) (hgd : o.guard = none) (s x : Operand) (t : TypeId)
    (ho : o.op = .call { callee := .builtin .append, args := #[s, x], argTypes := #[t, t] })
    (base : Nat) (e : TypeId) (z : Value) (size bytes : Nat) (hinfo : (P.info? e).map (fun i => (i.zero, i.size, i.bytes)) = some (some z, size, bytes)) (ht : P.underlying t = some (.slice e)) (hzs : z.cells.size = size) (hsz : 0 < size)
    (v : Value) (n : Nat) (xs : List Value) (hown : w.ownsRow base e size v n xs) (hs : a.eval s = v)
    (hx : a.eval x = .slice (some ⟨w.heap.size, 0, none⟩) 1 1) (hl : us.size = size) (h1 : ∀ u ∈ us.toList, u.oneCell' = true)
    (h63 : n + 1 ≤ maxLen) (hbytes : (n + 1) * bytes ≤ 140737488355328) (hbase : base ≤ w.heap.size)
    (h : ∀ v' w', w'.ownsRow base e size v' (n + 1) (xs ++ us.toList) → (w.alloc (.cells us e)).grownBy w' v.ownBlock → wpList P ops Q rest (a.put o.dst v') w') : wpList P ops Q (o :: rest) a (w.alloc (.cells us e)) := by
  obtain ⟨i, hi, hz0, hz1, hz2⟩ := info_parts hinfo
  refine wpList_append_own _ hgd s x t ho base e i z size bytes ht hi hz0 hz1 hz2 hzs hsz v n xs hs (hown.alloc _) ⟨w.heap.size, 0, none⟩ 1 1 us.toList hx (by simp [hl]) ?_ h1 h63 hbytes (by simp; omega) ?_
  · intro j u hu
    rw [Addr.add_lit]
    simp only [World.cell?, Nat.zero_add]
    rw [heap_alloc_new]
    simpa using hu
  · intro v' w' hown' hg hn
    exact h v' w' hown' hg
theorem alloc_drew (w : World) (o : Obj) : (w.alloc o).drew = w.drew.alloc o := rfl
end Go.Proofs.YtefehgdckmajiaaGreatDoor

namespace Go.Proofs.YtefehgdckmajiaaGreatDoor
open Go.RowKit Go.Shelf

/-- A builder. -/
abbrev Bldr (B b : Nat) (bs : List Value) (w : World) : Prop := Lib.IsBuilder 102 5 B b bs w
abbrev BldU (B b : Nat) (bs : List Value) (w : World) : Prop := Lib.BuilderAt 102 5 B b (.pointer (some ⟨b, 0, none⟩)) bs w

theorem info_bld : (Tryz.prog.info? 102).map (fun i => i.size) = some 2 := by kernel_rfl
theorem lies_bld : liesAt Tryz.prog Tryz.prog.depth 102 (2 / Tryz.prog.cellsOf 102) 0 102 1 = true := by kernel_rfl
theorem info_byte : (Tryz.prog.info? 5).map (fun i => (i.zero, i.size, i.bytes)) = some (some (.int .u8 0), 1, 1) := by kernel_rfl

set_option maxRecDepth 100000 in
set_option maxHeartbeats 1000000 in
theorem copyCheck_used (b : Nat) (w : World) (h0 : w.cell? ⟨b, 0, none⟩ = some (.pointer (some ⟨b, 0, none⟩))) :
    Calls Tryz.prog 65 #[.pointer (some ⟨b, 0, none⟩)] w fun e w' => e = .returned (.tuple #[]) ∧ w' = w := by
  obtain ⟨j, hj, _⟩ := Option.map_eq_some_iff.1 info_bld
  go_enter Tryz.func65, Tryz.ntmps65
  go_wp2
  rw [Lib.run_neq_ptr_same w _ Tryz.underlying100 hj]
  go_wp2
  go_end0
  exact ⟨rfl, rfl⟩

set_option maxRecDepth 100000 in
set_option maxHeartbeats 1000000 in
theorem copyCheck_fresh (b : Nat) (w : World) (h0 : w.cell? ⟨b, 0, none⟩ = some (.pointer none)) (hsh : w.shape? b = some (102, 2)) (hfz : w.frozen? ⟨b, 0, none⟩ = false) :
    Calls Tryz.prog 65 #[.pointer (some ⟨b, 0, none⟩)] w fun e w' => e = .returned (.tuple #[]) ∧ w' = w.setCell ⟨b, 0, none⟩ (.pointer (some ⟨b, 0, none⟩)) := by
  obtain ⟨j, hj, hjs⟩ := Option.map_eq_some_iff.1 info_bld
  go_enter Tryz.func65, Tryz.ntmps65
  go_wp2
  rw [Lib.run_to_unsafe w ⟨b, 0, none⟩ Tryz.underlying100 Tryz.underlying145 hj (by rw [hjs]; decide) hsh (Nat.zero_lt_succ 1)]
  simp only [Result.andThen]
  rw [Oper.upon_value]
  go_wp2
  rw [run_callFunc_extern Tryz.func84 (by kernel_rfl) (by kernel_rfl) (by kernel_rfl) (e := Extern.AbiNoEscape.same) (by kernel_rfl)]
  rw [Lib.run_noEscape]
  simp only [Result.andThen]
  rw [Oper.upon_value]
  go_wp2
  rw [Lib.run_from_unsafe w ⟨b, 0, none⟩ Tryz.underlying145 Tryz.underlying100 hj hsh lies_bld]
  simp only [Result.andThen]
  rw [Oper.upon_value]
  go_wp2
  go_end0
  exact ⟨rfl, rfl⟩

theorem copyCheck_any (B b : Nat) (bs : List Value) (w : World) (h : Bldr B b bs w) :
    Calls Tryz.prog 65 #[.pointer (some ⟨b, 0, none⟩)] w fun e w' => e = .returned (.tuple #[]) ∧ BldU B b bs w' ∧ Below B w w' ∧ Lib.OthersKept 5 (some b) w w' := by
  rcases h with h | h
  · refine (copyCheck_fresh b w h.cell0 h.shape h.frozen0).mono ?_
    rintro e w' ⟨rfl, rfl⟩
    exact ⟨rfl, h.used _, (Below.refl B w).setCell (p := ⟨b, 0, none⟩) h.1 _, (Lib.OthersKept.refl _ _ _).setCell ⟨b, 0, none⟩ rfl _⟩
  · refine (copyCheck_used b w h.cell0).mono ?_
    rintro e w' ⟨rfl, rfl⟩
    exact ⟨rfl, h, Below.refl B _, Lib.OthersKept.refl _ _ _⟩

theorem own_kind {w : World} {B : Nat} {e : TypeId} {v : Value} {n : Nat} {xs : List Value} (h : w.ownsRow B e 1 v n xs) : ∀ g, v.ownBlock = some g → ∃ c fz, w.heap[g]? = some (.cells c e fz) := by
  intro g hg
  rcases h.2 with ⟨rfl, _⟩ | ⟨g', cap, cur, rfl, _, hgg, _⟩
  · simp [Value.ownBlock] at hg
  · simp [Value.ownBlock] at hg
    subst hg
    exact ⟨cur, _, hgg⟩

set_option maxRecDepth 100000 in
set_option maxHeartbeats 1000000 in
theorem WriteByte_any (B b : Nat) (bs : List Value) (c : Int) (w : World) (h : Bldr B b bs w) (hlen : bs.length + 1 ≤ 140737488355328) (hBw : B ≤ w.heap.size) :
    Calls Tryz.prog 70 #[.pointer (some ⟨b, 0, none⟩), .int .u8 c] w fun e w' => e = .returned .nilIface ∧ BldU B b (bs ++ [.int .u8 c]) w' ∧ Below B w w' ∧ Lib.OthersKept 5 (some b) w w' := by
  go_enter Tryz.func70, Tryz.ntmps70
  go_wp2_with fail
  (with_reducible refine (copyCheck_any B b bs _ h).mono ?_); rintro e w1 ⟨rfl, h1, hb1, hk1⟩
  obtain ⟨hB, v, hbk, hown, hne⟩ := h1
  have c0 : w1.cell? ⟨b, 0, none⟩ = some (.pointer (some ⟨b, 0, none⟩)) := by rw [Lib.cell_of_heap hbk]; rfl
  have c1 : w1.cell? ⟨b, 1, none⟩ = some v := by rw [Lib.cell_of_heap hbk]; rfl
  have hsz := hb1.size
  have HBK := lid hbk
  have HL := lid hlen
  clear hbk h hlen
  go_wp2_with (at_builtin; go_must (refine wpList_append_newG #[.int .u8 c] rfl _ _ 76 rfl B 5 (.int .u8 0) 1 1 info_byte Tryz.underlying76 rfl (by decide) _ _ _ hown rfl rfl rfl (by simp [Value.oneCell']) (by have := HL.out; unfold maxLen; omega) (by have := HL.out; omega) (by omega) ?_))
  intro v' w2 hown' hgrow
  have hlt : b < w1.heap.size := (Array.getElem?_eq_some_iff.1 HBK.out).1
  have hb2 : w2.heap[b]? = some (.cells #[.pointer (some ⟨b, 0, none⟩), v] 102 (0, 0)) := by
    rw [hgrow.block b (by simp; omega) (fun e => hne e.symm), Below.heap_alloc _ _ _ hlt]
    exact HBK.out
  have d0 : w2.cell? ⟨b, 0, none⟩ = some (.pointer (some ⟨b, 0, none⟩)) := by rw [Lib.cell_of_heap hb2]; rfl
  have d1 : w2.cell? ⟨b, 1, none⟩ = some v := by rw [Lib.cell_of_heap hb2]; rfl
  have f1 : w2.frozen? ⟨b, 1, none⟩ = false := Lib.frozen_of_heap hb2 1
  obtain ⟨g, cap, rfl⟩ : ∃ g cap, v' = .slice (some ⟨g, 0, none⟩) (bs.length + 1) cap := by
    rcases hown'.2 with ⟨_, h0⟩ | ⟨g, cap, cur, hv, _⟩
    · omega
    · exact ⟨g, cap, hv⟩
  have HB2 := lid hb2
  have HO' := lid hown'
  clear hb2 hown' c0 c1
  go_wp2_with fail
  go_ret
  refine ⟨rfl, Lib.BuilderAt.put hB HB2.out (bs' := bs ++ [.int .u8 c]) (by simpa using HO'.out) (by decide), ?_, ((hk1.alloc _).grown hgrow (own_kind (hown.alloc _))).setCell ⟨b, 1, none⟩ rfl _⟩
  exact (((hb1.alloc (by omega) _).grown hgrow (by simp; omega) (fun k hk => ownsRow_row hown k hk)).setCell (p := ⟨b, 1, none⟩) hB _)

set_option maxRecDepth 100000 in
set_option maxHeartbeats 1000000 in
theorem WriteString_any (B b : Nat) (bs : List Value) (s : ByteArray) (w : World) (h : Bldr B b bs w) (hlen : bs.length + s.size ≤ 140737488355328) (hBw : B ≤ w.heap.size) :
    Calls Tryz.prog 46 #[.pointer (some ⟨b, 0, none⟩), .string s] w fun e w' => e = .returned (.tuple #[.int .i64 s.size, .nilIface]) ∧ BldU B b (bs ++ Lib.strCells s) w' ∧ Below B w w' ∧ Lib.OthersKept 5 (some b) w w' := by
  obtain ⟨i0, hi, hz0, hz1, hz2⟩ := info_parts info_byte
  go_enter Tryz.func46, Tryz.ntmps46
  go_wp2_with fail
  (with_reducible refine (copyCheck_any B b bs _ h).mono ?_); rintro e w1 ⟨rfl, h1, hb1, hk1⟩
  obtain ⟨hB, v, hbk, hown, hne⟩ := h1
  have c0 : w1.cell? ⟨b, 0, none⟩ = some (.pointer (some ⟨b, 0, none⟩)) := by rw [Lib.cell_of_heap hbk]; rfl
  have c1 : w1.cell? ⟨b, 1, none⟩ = some v := by rw [Lib.cell_of_heap hbk]; rfl
  have hsz := hb1.size
  have HBK := lid hbk
  have HL := lid hlen
  clear hbk h hlen
  go_wp2_with (at_builtin; go_must (refine Lib.wpList_append_own_string _ rfl _ _ 76 9 rfl B 5 i0 Tryz.underlying76 Tryz.underlying9 hi hz0 hz1 hz2 _ _ _ rfl hown s rfl (by have := HL.out; unfold maxLen; omega) (by have := HL.out; omega) (by omega) ?_))
  intro v' w2 hown' hgrow _
  have hlt : b < w1.heap.size := (Array.getElem?_eq_some_iff.1 HBK.out).1
  have hb2 : w2.heap[b]? = some (.cells #[.pointer (some ⟨b, 0, none⟩), v] 102 (0, 0)) := by
    rw [hgrow.block b hlt (fun e => hne e.symm)]
    exact HBK.out
  have d0 : w2.cell? ⟨b, 0, none⟩ = some (.pointer (some ⟨b, 0, none⟩)) := by rw [Lib.cell_of_heap hb2]; rfl
  have d1 : w2.cell? ⟨b, 1, none⟩ = some v := by rw [Lib.cell_of_heap hb2]; rfl
  have f1 : w2.frozen? ⟨b, 1, none⟩ = false := Lib.frozen_of_heap hb2 1
  obtain ⟨ao, n', cap, rfl⟩ : ∃ ao n' cap, v' = .slice ao n' cap := by
    rcases hown'.2 with ⟨hv, _⟩ | ⟨g, cap, cur, hv, _⟩
    · exact ⟨_, _, _, hv⟩
    · exact ⟨_, _, _, hv⟩
  have HB2 := lid hb2
  have HO' := lid hown'
  have hs9 : s.size ≤ 9223372036854775807 := by have := HL.out; omega
  clear hb2 hown' c0 c1
  go_wp2_with fail
  go_ret2
  refine ⟨rfl, Lib.BuilderAt.put hB HB2.out (bs' := bs ++ Lib.strCells s) (by simpa [Lib.strCells] using HO'.out) (by decide), ?_, (hk1.grown hgrow (own_kind hown)).setCell ⟨b, 1, none⟩ rfl _⟩
  exact ((hb1.grown hgrow (by omega) (fun k hk => ownsRow_row hown k hk)).setCell (p := ⟨b, 1, none⟩) hB _)

/-- String: the shelf's contract at this program. -/
def bldS_ren : Go.Shelf.Ren := ⟨fun | 169 => 47 | n => n, fun | 70 => 100 | 9 => 9 | 0 => 0 | 72 => 102 | 37 => 76 | 127 => 128 | 3 => 3 | 5 => 5 | n => n, fun | n => n⟩
theorem bldS : Go.Proofs.Lays.n169 Tryz.prog bldS_ren := {
  mixed := by kernel_rfl
  f169 := Tryz.func47.trans (congrArg some (by kernel_rfl))
  t0 := Tryz.underlying0
  a0 := Tryz.isAgg0
  z0 := Tryz.sizeOf0
  v0 := Tryz.zeroValue0
  t3 := Tryz.underlying3
  a3 := Tryz.isAgg3
  z3 := Tryz.sizeOf3
  v3 := Tryz.zeroValue3
  t9 := Tryz.underlying9
  a9 := Tryz.isAgg9
  z9 := Tryz.sizeOf9
  v9 := Tryz.zeroValue9
  t37 := Tryz.underlying76
  a37 := Tryz.isAgg76
  z37 := Tryz.sizeOf76
  v37 := Tryz.zeroValue76
  t70 := Tryz.underlying100
  a70 := Tryz.isAgg100
  z70 := Tryz.sizeOf100
  v70 := Tryz.zeroValue100
  t72 := Tryz.underlying102
  a72 := Tryz.isAgg102
  z72 := Tryz.sizeOf102
  v72 := Tryz.zeroValue102
  t127 := Tryz.underlying128
  a127 := Tryz.isAgg128
  z127 := Tryz.sizeOf128
  v127 := Tryz.zeroValue128 }
theorem bldS_extra : Builder.Extra Tryz.prog bldS_ren := {
  sizeBuilder := by kernel_rfl
  liesBuilder := by kernel_rfl
  t5 := Tryz.underlying5
  a5 := Tryz.isAgg5
  z5 := Tryz.sizeOf5
  v5 := Tryz.zeroValue5
  infoByte := by kernel_rfl
  cellsByte := by kernel_rfl
  sizeByte := by kernel_rfl
  neB5 := by decide }
theorem String_any (B b : Nat) (l : List UInt8) (w : World) (h : Bldr B b (Lib.byteCells l) w) (hBw : B ≤ w.heap.size) :
    Calls Tryz.prog 47 #[.pointer (some ⟨b, 0, none⟩)] w fun e w' => e = .returned (.string ⟨l.toArray⟩) ∧ Below B w w' := Any.Builder_String_any bldS bldS_extra B b l w h hBw
end Go.Proofs.YtefehgdckmajiaaGreatDoor
