/-
  Leases: DeleteFunc, without, Grant, Renew, Release, Advance, Holds.
-/
import Derived.Test.YtghkldodceamcaaLeaMa
import Derived.Laws.IdiomCopy
import Derived.Laws.AppendOwn
import Derived.RangeFuncNested
import Derived.RangeFuncBound
import Derived.RangeFuncCalls
import Derived.RangeFuncLeaves
import Derived.Shelf.Abstract
import Derived.WalkKit
import Derived.OwnWalkIn
import Derived.TacticsInMore
import Derived.LoopNIn
import Derived.LoopIn
import Derived.Maps.AppendAt
import Derived.Test.YtghkldodceamcaaBox
namespace Go.Proofs.Ytghkldodceamcaa
open Go.RowKit

/-- Values laid into an array from a place on. -/
def layAt : Array Value → Nat → List Value → Array Value
  | d, _, [] => d
  | d, k, x :: r => layAt (d.setIfInBounds k x) (k + 1) r
theorem layAt_size : ∀ (xs : List Value) (d : Array Value) (k : Nat), (layAt d k xs).size = d.size
  | [], _, _ => rfl
  | x :: r, d, k => by rw [layAt, layAt_size r]; simp
theorem layAt_get? : ∀ (xs : List Value) (d : Array Value) (k j : Nat), k + xs.length ≤ d.size → (layAt d k xs)[j]? = if k ≤ j ∧ j < k + xs.length then xs[j - k]? else d[j]?
  | [], d, k, j, _ => by rw [layAt, if_neg (by simp only [List.length_nil]; omega)]
  | x :: r, d, k, j, h => by
    have hl : k + (r.length + 1) ≤ d.size := by simpa using h
    rw [layAt, layAt_get? r _ (k + 1) j (by simp; omega)]
    simp only [List.length_cons]
    by_cases h1 : j = k
    · subst h1
      rw [if_neg (by omega), if_pos (by omega), Nat.sub_self, Array.getElem?_setIfInBounds]
      simp
      omega
    · by_cases h2 : k + 1 ≤ j ∧ j < k + 1 + r.length
      · rw [if_pos h2, if_pos (by omega), show j - k = (j - (k + 1)) + 1 by omega, List.getElem?_cons_succ]
      · rw [if_neg h2, if_neg (by omega), Array.getElem?_setIfInBounds, if_neg (by omega)]
theorem row_setCells {g : Nat} {ty : TypeId} : ∀ (vs : List Value) (o : Nat) (w : World) (cur : Array Value), w.heap[g]? = some (.cells cur ty (0, 0)) → (w.setCells g o vs).heap[g]? = some (.cells (layAt cur o vs) ty (0, 0))
  | [], _, _, _, h => h
  | v :: r, o, w, cur, h => by rw [World.setCells, layAt]; exact row_setCells r (o + 1) _ _ (row_set h o v)
theorem below_cells {B b : Nat} {a : World} (hb : B ≤ b) : ∀ (vs : List Value) (o : Nat) (w : World), Below B a w → Below B a (w.setCells b o vs)
  | [], _, _, h => h
  | v :: r, o, _, h => below_cells hb r (o + 1) _ (h.setCell (p := ⟨b, o, none⟩) hb v)
theorem layAt_take {cur : Array Value} {vs : List Value} {o : Nat} (h : o + vs.length ≤ cur.size) : (layAt cur o vs).toList.take o = cur.toList.take o := by
  apply List.ext_getElem?
  intro t
  rw [List.getElem?_take, List.getElem?_take]
  by_cases ht : t < o
  · rw [if_pos ht, if_pos ht]
    have := layAt_get? vs cur o t h
    rw [if_neg (by omega)] at this
    simpa using this
  · rw [if_neg ht, if_neg ht]
theorem layAt_more {cur : Array Value} {vs : List Value} {o : Nat} (h : o + vs.length ≤ cur.size) : (layAt cur o vs).toList.take (o + vs.length) = cur.toList.take o ++ vs := by
  apply List.ext_getElem?
  intro t
  rw [List.getElem?_take]
  have hl : (cur.toList.take o).length = o := by simp; omega
  by_cases ht : t < o + vs.length
  · rw [if_pos ht]
    have := layAt_get? vs cur o t h
    rw [Array.getElem?_toList, this]
    by_cases h2 : t < o
    · rw [if_neg (by omega), List.getElem?_append_left (by omega), List.getElem?_take, if_pos h2]
      simp
    · rw [if_pos (by omega), List.getElem?_append_right (by omega), hl]
  · rw [if_neg ht, List.getElem?_eq_none]
    rw [List.length_append, hl]
    omega

section
variable {α : Type} {sz : Nat} {enc : α → List Value}
theorem flat_length (he : ∀ x, (enc x).length = sz) (l : List α) : (l.flatMap enc).length = l.length * sz := by
  induction l with
  | nil => simp
  | cons a l ih => simp [he, ih, Nat.add_mul]; omega
theorem flat_take (he : ∀ x, (enc x).length = sz) : ∀ (l : List α) (k : Nat), (l.flatMap enc).take (k * sz) = (l.take k).flatMap enc
  | [], k => by simp
  | a :: l, 0 => by simp
  | a :: l, k + 1 => by
    rw [List.flatMap_cons, List.take_succ_cons, List.flatMap_cons, Nat.add_mul, Nat.one_mul, Nat.add_comm (k * sz), ← flat_take he l k, ← he a, List.take_append, List.take_of_length_le (by omega)]
    simp
theorem flat_at (he : ∀ x, (enc x).length = sz) {l : List α} {k : Nat} (hk : k < l.length) {t : Nat} (ht : t < sz) : (l.flatMap enc)[k * sz + t]? = (enc l[k])[t]? := by
  induction l generalizing k with
  | nil => simp at hk
  | cons a l ih =>
    cases k with
    | zero => simp [List.getElem?_append_left (show t < (enc a).length by rw [he]; exact ht)]
    | succ k =>
      rw [List.flatMap_cons, Nat.add_mul, Nat.one_mul, List.getElem?_append_right (by rw [he]; omega), he, show k * sz + sz + t - sz = k * sz + t by omega]
      simpa using ih (k := k) (by simpa using hk)
/-- The second loop of slices.DeleteFunc: j elements have been looked at, i of them are kept and lie at the row's head. -/
structure DelInv (enc : α → List Value) (sz : Nat) (l : List α) (p : α → Bool) (i j : Nat) (cur : Array Value) : Prop where
  room : l.length * sz ≤ cur.size
  len : ((l.take j).filter fun x => !p x).length = i
  lt : i < j
  low : cur.toList.take (i * sz) = ((l.take j).filter fun x => !p x).flatMap enc
  high : ∀ t, j * sz ≤ t → t < l.length * sz → cur[t]? = (l.flatMap enc)[t]?
theorem DelInv.start (he : ∀ x, (enc x).length = sz) {l : List α} {p : α → Bool} {k : Nat} {cur : Array Value} (hk : k < l.length) (hn : (l.take k).any p = false) (hp : p l[k] = true) (hr : l.length * sz ≤ cur.size) (hc : cur.toList.take (l.length * sz) = l.flatMap enc) : DelInv enc sz l p k (k + 1) cur := by
  have hf : (l.take (k + 1)).filter (fun x => !p x) = l.take k := by
    rw [List.take_succ_eq_append_getElem hk, List.filter_append, List.filter_eq_self.2 (fun y hy => by have := List.any_eq_false.1 hn y hy; simpa using this)]
    simp [hp]
  refine ⟨hr, ?_, Nat.lt_succ_self _, ?_, ?_⟩
  · rw [hf, List.length_take]; omega
  · rw [hf, ← flat_take he, ← hc, List.take_take, Nat.min_eq_left (Nat.mul_le_mul_right _ (by omega))]
  · intro t _ ht
    rw [← hc, List.getElem?_take, if_pos ht]
    simp
theorem DelInv.skip {l : List α} {p : α → Bool} {i j : Nat} {cur : Array Value} (h : DelInv enc sz l p i j cur) (hj : j < l.length) (hp : p l[j] = true) : DelInv enc sz l p i (j + 1) cur := by
  have hf : (l.take (j + 1)).filter (fun x => !p x) = (l.take j).filter (fun x => !p x) := by
    rw [List.take_succ_eq_append_getElem hj, List.filter_append]
    simp [hp]
  refine ⟨h.room, by rw [hf]; exact h.len, by have := h.lt; omega, by rw [hf]; exact h.low, fun t h1 h2 => h.high t ?_ h2⟩
  rw [Nat.add_mul] at h1
  omega
theorem DelInv.fits {l : List α} {p : α → Bool} {i j : Nat} {cur : Array Value} (h : DelInv enc sz l p i j cur) (hj : j < l.length) : i * sz + sz ≤ j * sz ∧ j * sz + sz ≤ l.length * sz := by
  have a := Nat.mul_le_mul_right sz (show i + 1 ≤ j from h.lt)
  have b := Nat.mul_le_mul_right sz (show j + 1 ≤ l.length from hj)
  rw [Nat.add_mul, Nat.one_mul] at a b
  exact ⟨a, b⟩
theorem DelInv.keep (he : ∀ x, (enc x).length = sz) {l : List α} {p : α → Bool} {i j : Nat} {cur : Array Value} (h : DelInv enc sz l p i j cur) (hj : j < l.length) (hp : p l[j] = false) : DelInv enc sz l p (i + 1) (j + 1) (layAt cur (i * sz) (enc l[j])) := by
  have hf : (l.take (j + 1)).filter (fun x => !p x) = (l.take j).filter (fun x => !p x) ++ [l[j]] := by
    rw [List.take_succ_eq_append_getElem hj, List.filter_append]
    simp [hp]
  obtain ⟨a, b⟩ := h.fits hj
  have hr := h.room
  have hl : i * sz + (enc l[j]).length ≤ cur.size := by rw [he]; omega
  refine ⟨by rw [layAt_size]; exact hr, by rw [hf, List.length_append, h.len]; rfl, by have := h.lt; omega, ?_, ?_⟩
  · rw [hf, List.flatMap_append, Nat.add_mul, Nat.one_mul, ← h.low]
    have := layAt_more (vs := enc l[j]) hl
    rw [he] at this
    rw [this]
    simp
  · intro t h1 h2
    rw [Nat.add_mul, Nat.one_mul] at h1
    rw [layAt_get? _ _ _ _ hl, if_neg (by rw [he]; omega)]
    exact h.high t (by omega) h2
theorem DelInv.cells (he : ∀ x, (enc x).length = sz) {l : List α} {p : α → Bool} {i j : Nat} {cur : Array Value} (h : DelInv enc sz l p i j cur) (hj : j < l.length) {t : Nat} (ht : t < sz) : cur[j * sz + t]? = (enc l[j])[t]? := by
  obtain ⟨a, b⟩ := h.fits hj
  rw [h.high _ (by omega) (by omega), flat_at he hj ht]
/-- The end, behind clear. -/
theorem DelInv.done {l : List α} {p : α → Bool} {i : Nat} {cur : Array Value} (h : DelInv enc sz l p i l.length cur) (vs : List Value) (hv : i * sz + vs.length ≤ cur.size) : (l.filter fun x => !p x).length = i ∧ (layAt cur (i * sz) vs).toList.take (i * sz) = (l.filter fun x => !p x).flatMap enc := by
  have e : l.take l.length = l := List.take_of_length_le (Nat.le_refl _)
  have h1 := h.len
  have h2 := h.low
  rw [e] at h1 h2
  exact ⟨h1, by rw [layAt_take hv]; exact h2⟩
end

theorem zeroCells_all {zs : Array Value} {n : Nat} {q : Value → Prop} (hz : ∀ (k : Nat) (h : k < zs.size), q zs[k]) : ∀ v ∈ (Builtin.zeroCells zs n).toList, q v := by
  intro v hv
  simp only [Builtin.zeroCells, Array.toList_map, List.mem_map, Array.mem_toList_iff, Array.mem_range] at hv
  obtain ⟨k, hk, rfl⟩ := hv
  have hp : 0 < zs.size := by
    rcases Nat.eq_zero_or_pos zs.size with h0 | h0
    · rw [h0, Nat.mul_zero] at hk; omega
    · exact h0
  have hm := Nat.mod_lt k hp
  rw [getElem!_pos zs (k % zs.size) hm]
  exact hz _ hm
theorem zeroCells_length (zs : Array Value) (n : Nat) : (Builtin.zeroCells zs n).toList.length = n * zs.size := by simp [Builtin.zeroCells]
/-- 'clear(s)', s a slice of n > 0 elements. -/
theorem run_clear_cells {P : Program} (w : World) (t e ty : TypeId) (z : Value) (ht : P.underlying t = some (.slice e)) (hv : ∀ w, (zeroValue e).run P w = .ok z w) (h1 : ∀ (k : Nat) (h : k < z.cells.size), (z.cells[k]).oneCell' = true) (b o n c : Nat) (hn : 0 < n)
    (hc : ∀ j, j < n * z.cells.size → (w.cell? ⟨b, o + j, none⟩).isSome = true) (hf : ∀ j, j < n * z.cells.size → w.frozen? ⟨b, o + j, none⟩ = false) :
    (Builtin.clear_ #[t] ty #[.slice (some ⟨b, o, none⟩) n c]).run P w = .ok (.tuple #[]) (w.setCells b o (Builtin.zeroCells z.cells n).toList) := by
  have hl := zeroCells_length z.cells n
  have hst := run_storeCells_cells (P := P) b o (Builtin.zeroCells z.cells n).toList 0 w (by rw [hl]; simpa using hc) (by rw [hl]; simpa using hf) (zeroCells_all h1)
  simp only [Nat.add_zero] at hst
  obtain ⟨m, rfl⟩ : ∃ m, n = m + 1 := ⟨n - 1, by omega⟩
  simp [Builtin.clear_, run_underlying ht, hv, hst]
end Go.Proofs.Ytghkldodceamcaa

namespace Go.Proofs.Ytghkldodceamcaa
open Go.RowKit

theorem zero_lz : ∀ w, (zeroValue 31).run Try.prog w = .ok (.agg #[.int .u64 0, .int .u64 0, .string ⟨#[]⟩, .int .i64 0, .int .i64 0]) w := Try.zeroValue31
abbrev lze (x : Lz) : List Value := [.int .u64 x.1.1.toNat, .int .u64 x.1.2.toNat, .string x.2.1, .int .i64 x.2.2.1, .int .i64 x.2.2.2]
theorem lze_length (x : Lz) : (lze x).length = 5 := rfl
theorem lzcells_flat (l : List Lz) : lzcells l = l.flatMap lze := rfl
theorem idxP_some {P : Lz → Bool} {l : List Lz} (h : l.any P = true) : ∃ k, ∃ (hk : k < l.length), idxP P l = (k : Int) ∧ (l.take k).any P = false ∧ P l[k] = true := by
  have hk : l.findIdx P < l.length := List.findIdx_lt_length_of_exists (by simpa using h)
  refine ⟨l.findIdx P, hk, by unfold idxP; rw [if_pos h], ?_, List.findIdx_getElem⟩
  rw [List.any_eq_false]
  intro y hy
  rw [List.mem_take_iff_getElem] at hy
  obtain ⟨i, hi, rfl⟩ := hy
  have := List.not_of_lt_findIdx (show i < l.findIdx P by omega)
  simpa using this

set_option maxRecDepth 100000 in
set_option maxHeartbeats 8000000 in
theorem DeleteFunc_renew (l : List Lz) (v : Value) (n : Nat) (c1 : Nat) (P : Lz → Bool) (base : Nat) (w : World) (hn : l.length = n) (hm : n ≤ 1000000) (hs : w.ownsRow base 31 5 v n (lzcells l)) (hbase : base ≤ w.heap.size) (hc : ∀ w', Below base w w' → Asks 40 #[.pointer (some ⟨c1, 0, none⟩)] P w') :
    Calls Try.prog 51 #[v, .func (.func 40) #[] #[.pointer (some ⟨c1, 0, none⟩)]] w fun e w' => ∃ v', e = .returned v' ∧ w'.ownsRow base 31 5 v' (l.filter fun x => !P x).length (lzcells (l.filter fun x => !P x)) ∧ Below base w w' := by
  obtain ⟨ao, cap, rfl⟩ := own_slice hs
  have CI := lid (IndexFunc_renew l n cap ao c1 P w hn hm (own_sl hs) (hc w (Below.refl _ _)))
  cases hany : l.any P with
  | false =>
    have HI := lid (idxP_none hany)
    have HF : Hid (l.filter (fun x => !P x) = l) := lid (List.filter_eq_self.2 (fun y hy => by have := List.any_eq_false.1 hany y hy; simpa using this))
    rw [HI.out] at CI
    have HS := lid hs
    have HN := lid hn
    clear hs hn hc hany
    go_enter Try.func51, Try.ntmps51
    go_wp2_with fail
    (with_reducible refine (CI.out).mono ?_); rintro e w2 ⟨rfl, hb2⟩
    go_wp2_with fail
    go_ret
    refine ⟨_, rfl, ?_, hb2.mono hbase⟩
    rw [HF.out, HN.out]
    exact ownsRow_below HS.out hb2
  | true =>
    obtain ⟨k0, hk0, e0, hno, hyes⟩ := idxP_some hany
    rw [e0] at CI
    rcases hs.2 with ⟨hv, h0⟩ | ⟨g, cap', cur, hv, hg, hcur, hncap, hmax, hsz, htk⟩
    · subst h0
      rw [List.eq_nil_of_length_eq_zero hn] at hk0
      simp at hk0
    cases hv
    have hglt := row_lt hcur
    have HI : Hid (DelInv lze 5 l P k0 (k0 + 1) cur) := lid (DelInv.start lze_length hk0 hno hyes (by rw [hsz, hn]; exact Nat.mul_le_mul_right _ hncap) (by rw [hn]; exact htk))
    have hk0n : k0 < n := by omega
    have HN := lid hn
    have HC := lid hc
    have HR := lid hcur
    have HZ := lid hsz
    have hcap' : n ≤ cap := hncap
    have hmx : cap ≤ 9223372036854775807 := hmax
    clear hs hn hc hany e0 hno hyes hk0 hcur hsz htk hmax
    go_enter Try.func51, Try.ntmps51
    go_wp2_with fail
    (with_reducible refine (CI.out).mono ?_); rintro e w2 ⟨rfl, hb2⟩
    have hbw2 : Below base w w2 := hb2.mono hbase
    have HR2 : Hid (w2.heap[g]? = some (.cells cur 31 (0, 0))) := lid ((hb2.block g hglt).trans HR.out)
    have hg2 : g < w2.heap.size := row_lt HR2.out
    clear hb2 HR CI
    have e1 : ((k0 : Int) == -1) = false := beq_eq_false_iff_ne.2 (by omega)
    go_wp2_with fail
    go_loopw [5, 6, 7] (fun i j _ wr => ∃ (a b : Nat) (cur : Array Value), i = .int .i64 a ∧ j = .int .i64 b ∧ b ≤ n ∧ a < b ∧ Hid (DelInv lze 5 l P a b cur) ∧ Hid (wr.heap[g]? = some (.cells cur 31 (0, 0))) ∧ Hid (cur.size = cap * 5) ∧ Below base w wr) (fun _ j _ _ => n - (intOf j).toNat)
    case atStart => exact ⟨k0, k0 + 1, cur, rfl, by go_num, by omega, by omega, HI, HR2, HZ, hbw2⟩
    case round =>
      clear HI HR2 HZ hbw2 hg2 e1 hglt
      obtain ⟨a, b, cur, rfl, rfl, hbn, hab, HI, HR, HZ, hb⟩ := hrel
      by_cases hlt : b < n
      · have hbl : b < l.length := by rw [HN.out]; exact hlt
        have x0 := (row_cell HR.out (b * 5 + 0)).trans (HI.out.cells lze_length hbl (t := 0) (by omega))
        have x1 := (row_cell HR.out (b * 5 + 1)).trans (HI.out.cells lze_length hbl (t := 1) (by omega))
        have x2 := (row_cell HR.out (b * 5 + 2)).trans (HI.out.cells lze_length hbl (t := 2) (by omega))
        have x3 := (row_cell HR.out (b * 5 + 3)).trans (HI.out.cells lze_length hbl (t := 3) (by omega))
        have x4 := (row_cell HR.out (b * 5 + 4)).trans (HI.out.cells lze_length hbl (t := 4) (by omega))
        rw [Nat.add_zero] at x0
        have HSK := lid (fun h => HI.out.skip hbl h)
        have HKP := lid (fun h => HI.out.keep lze_length hbl h)
        obtain ⟨f1, f2⟩ := HI.out.fits hbl
        have hrm := HI.out.room
        obtain ⟨x, hx⟩ : ∃ x, l[b] = x := ⟨_, rfl⟩
        rw [hx] at x0 x1 x2 x3 x4 HSK HKP
        obtain ⟨o0, q0⟩ : ∃ o, cur[a * 5]? = some o := ⟨_, Array.getElem?_eq_getElem (by omega)⟩
        obtain ⟨o1, q1⟩ : ∃ o, cur[a * 5 + 1]? = some o := ⟨_, Array.getElem?_eq_getElem (by omega)⟩
        obtain ⟨o2, q2⟩ : ∃ o, cur[a * 5 + 2]? = some o := ⟨_, Array.getElem?_eq_getElem (by omega)⟩
        obtain ⟨o3, q3⟩ : ∃ o, cur[a * 5 + 3]? = some o := ⟨_, Array.getElem?_eq_getElem (by omega)⟩
        obtain ⟨o4, q4⟩ : ∃ o, cur[a * 5 + 4]? = some o := ⟨_, Array.getElem?_eq_getElem (by omega)⟩
        have db : decide ((b : Int) < (n : Int)) = true := by simp; omega
        have hgl := row_lt HR.out
        obtain ⟨w1, hw1⟩ : ∃ y, wr.alloc (.cells (lzc x) 31) = y := ⟨_, rfl⟩
        have hb1 : Below wr.heap.size wr w1 := by rw [← hw1]; exact ba _ _
        have HX1 := lid (show XBox w1 wr.heap.size x by rw [← hw1]; exact XBox.new _ _ _)
        have hbw1 : Below base w w1 := hb.trans (hb1.mono (by have := hb.size; omega))
        have HR1 : Hid (w1.heap[g]? = some (.cells cur 31 (0, 0))) := lid ((hb1.block g hgl).trans HR.out)
        have HW1 := lid hw1
        have CX : Hid (Calls Try.prog 40 #[.agg (lzc x), .pointer (some ⟨c1, 0, none⟩)] w1 fun e w'' => e = .returned (.bool (P x)) ∧ Below w1.heap.size w1 w'') := lid (HC.out w1 hbw1 x w1 (Below.refl _ _))
        clear hw1 hx
        go_wp2_with fail
        rw [HW1.out]
        clear HW1
        obtain ⟨m0, y0, y1, y2, y3, y4⟩ := HX1.out
        go_wp2_with fail
        (with_reducible refine (CX.out).mono ?_); rintro e w3 ⟨rfl, hb3⟩
        have hbw3 : Below base w w3 := hbw1.trans (hb3.mono (by have := hbw1.size; omega))
        have HR3 : Hid (w3.heap[g]? = some (.cells cur 31 (0, 0))) := lid ((hb3.block g (Nat.lt_of_lt_of_le hgl hb1.size)).trans HR1.out)
        have HX3 := lid (HX1.out.below hb3)
        clear HX1 HR1 CX hb3 hbw1 m0 y0 y1 y2 y3 y4
        cases hp : P x with
        | true =>
          have HV := lid (HSK.out hp)
          clear hp HSK HKP
          go_wp2_with fail
          go_roundw
          case rel => exact ⟨a, b + 1, cur, rfl, by go_num, by omega, by omega, HV, HR3, HZ, hbw3⟩
          case measure => simp [intOf]; omega
        | false =>
          have HV := lid (HKP.out hp)
          clear hp HSK HKP
          have p0 := (row_cell HR3.out (a * 5)).trans q0
          have p1 := (row_cell HR3.out (a * 5 + 1)).trans q1
          have p2 := (row_cell HR3.out (a * 5 + 2)).trans q2
          have p3 := (row_cell HR3.out (a * 5 + 3)).trans q3
          have p4 := (row_cell HR3.out (a * 5 + 4)).trans q4
          have z0 := row_fz HR3.out (a * 5)
          have z1 := row_fz HR3.out (a * 5 + 1)
          have z2 := row_fz HR3.out (a * 5 + 2)
          have z3 := row_fz HR3.out (a * 5 + 3)
          have z4 := row_fz HR3.out (a * 5 + 4)
          obtain ⟨m0, y0, y1, y2, y3, y4⟩ := HX3.out
          have han : decide (a < n) = true := by simp; omega
          have hrow : Hid ((w3.setCells g (a * 5) (lze x)).heap[g]? = some (.cells (layAt cur (a * 5) (lze x)) 31 (0, 0))) := lid (row_setCells (lze x) (a * 5) w3 cur HR3.out)
          have hbw4 : Hid (Below base w (w3.setCells g (a * 5) (lze x))) := lid (below_cells hg _ _ _ hbw3)
          clear q0 q1 q2 q3 q4
          go_wp2_with fail
          go_roundw
          case rel => exact ⟨a + 1, b + 1, layAt cur (a * 5) (lze x), by go_num, by go_num, by omega, by omega, HV, hrow, lid (by rw [layAt_size]; exact HZ.out), hbw4.out⟩
          case measure => simp [intOf]; omega
      · obtain rfl : b = n := by omega
        have db : decide ((b : Int) < (b : Int)) = false := by simp
        have HI' : DelInv lze 5 l P a l.length cur := by rw [HN.out]; exact HI.out
        have hrm := HI.out.room
        rw [HN.out] at hrm
        have hab5 : a * 5 + (b - a) * 5 = b * 5 := by omega
        have HDN := lid (HI'.done (Builtin.zeroCells (Value.agg #[.int .u64 0, .int .u64 0, .string ⟨#[]⟩, .int .i64 0, .int .i64 0]).cells (b - a)).toList (by rw [zeroCells_length]; show a * 5 + (b - a) * 5 ≤ _; omega))
        have hcl : ∀ ty c, (Builtin.clear_ #[22] ty #[.slice (some ⟨g, a * 5, none⟩) (b - a) c]).run Try.prog wr = .ok (.tuple #[]) (wr.setCells g (a * 5) (Builtin.zeroCells (Value.agg #[.int .u64 0, .int .u64 0, .string ⟨#[]⟩, .int .i64 0, .int .i64 0]).cells (b - a)).toList) :=
          fun ty c => run_clear_cells wr _ _ ty _ Try.underlying22 zero_lz (by intro k hk; have : k < 5 := hk; match k, this with | 0, _ => rfl | 1, _ => rfl | 2, _ => rfl | 3, _ => rfl | 4, _ => rfl) g (a * 5) (b - a) c (by omega)
            (fun t ht => by rw [row_cell HR.out, Array.getElem?_eq_getElem (show a * 5 + t < cur.size by have : t < (b - a) * 5 := ht; omega)]; rfl) (fun t _ => row_fz HR.out _)
        clear HI'
        have hrow : Hid ((wr.setCells g (a * 5) (Builtin.zeroCells (Value.agg #[.int .u64 0, .int .u64 0, .string ⟨#[]⟩, .int .i64 0, .int .i64 0]).cells (b - a)).toList).heap[g]? = _) := lid (row_setCells _ (a * 5) wr cur HR.out)
        go_wp2_with fail
        go_ret
        refine ⟨_, rfl, ?_, below_cells hg _ _ _ hb⟩
        rw [HDN.out.1]
        have ef : (lzcells (l.filter fun x => !P x)).length = a * 5 := by rw [lzcells_length, HDN.out.1]
        exact ⟨ef, .inr ⟨g, cap, _, rfl, hg, hrow.out, by omega, hmx, by rw [layAt_size]; exact HZ.out, HDN.out.2⟩⟩
set_option maxRecDepth 100000 in
set_option maxHeartbeats 8000000 in
theorem DeleteFunc_release (l : List Lz) (v : Value) (n : Nat) (c1 : Nat) (P : Lz → Bool) (base : Nat) (w : World) (hn : l.length = n) (hm : n ≤ 1000000) (hs : w.ownsRow base 31 5 v n (lzcells l)) (hbase : base ≤ w.heap.size) (hc : ∀ w', Below base w w' → Asks 42 #[.pointer (some ⟨c1, 0, none⟩)] P w') :
    Calls Try.prog 51 #[v, .func (.func 42) #[] #[.pointer (some ⟨c1, 0, none⟩)]] w fun e w' => ∃ v', e = .returned v' ∧ w'.ownsRow base 31 5 v' (l.filter fun x => !P x).length (lzcells (l.filter fun x => !P x)) ∧ Below base w w' := by
  obtain ⟨ao, cap, rfl⟩ := own_slice hs
  have CI := lid (IndexFunc_release l n cap ao c1 P w hn hm (own_sl hs) (hc w (Below.refl _ _)))
  cases hany : l.any P with
  | false =>
    have HI := lid (idxP_none hany)
    have HF : Hid (l.filter (fun x => !P x) = l) := lid (List.filter_eq_self.2 (fun y hy => by have := List.any_eq_false.1 hany y hy; simpa using this))
    rw [HI.out] at CI
    have HS := lid hs
    have HN := lid hn
    clear hs hn hc hany
    go_enter Try.func51, Try.ntmps51
    go_wp2_with fail
    (with_reducible refine (CI.out).mono ?_); rintro e w2 ⟨rfl, hb2⟩
    go_wp2_with fail
    go_ret
    refine ⟨_, rfl, ?_, hb2.mono hbase⟩
    rw [HF.out, HN.out]
    exact ownsRow_below HS.out hb2
  | true =>
    obtain ⟨k0, hk0, e0, hno, hyes⟩ := idxP_some hany
    rw [e0] at CI
    rcases hs.2 with ⟨hv, h0⟩ | ⟨g, cap', cur, hv, hg, hcur, hncap, hmax, hsz, htk⟩
    · subst h0
      rw [List.eq_nil_of_length_eq_zero hn] at hk0
      simp at hk0
    cases hv
    have hglt := row_lt hcur
    have HI : Hid (DelInv lze 5 l P k0 (k0 + 1) cur) := lid (DelInv.start lze_length hk0 hno hyes (by rw [hsz, hn]; exact Nat.mul_le_mul_right _ hncap) (by rw [hn]; exact htk))
    have hk0n : k0 < n := by omega
    have HN := lid hn
    have HC := lid hc
    have HR := lid hcur
    have HZ := lid hsz
    have hcap' : n ≤ cap := hncap
    have hmx : cap ≤ 9223372036854775807 := hmax
    clear hs hn hc hany e0 hno hyes hk0 hcur hsz htk hmax
    go_enter Try.func51, Try.ntmps51
    go_wp2_with fail
    (with_reducible refine (CI.out).mono ?_); rintro e w2 ⟨rfl, hb2⟩
    have hbw2 : Below base w w2 := hb2.mono hbase
    have HR2 : Hid (w2.heap[g]? = some (.cells cur 31 (0, 0))) := lid ((hb2.block g hglt).trans HR.out)
    have hg2 : g < w2.heap.size := row_lt HR2.out
    clear hb2 HR CI
    have e1 : ((k0 : Int) == -1) = false := beq_eq_false_iff_ne.2 (by omega)
    go_wp2_with fail
    go_loopw [5, 6, 7] (fun i j _ wr => ∃ (a b : Nat) (cur : Array Value), i = .int .i64 a ∧ j = .int .i64 b ∧ b ≤ n ∧ a < b ∧ Hid (DelInv lze 5 l P a b cur) ∧ Hid (wr.heap[g]? = some (.cells cur 31 (0, 0))) ∧ Hid (cur.size = cap * 5) ∧ Below base w wr) (fun _ j _ _ => n - (intOf j).toNat)
    case atStart => exact ⟨k0, k0 + 1, cur, rfl, by go_num, by omega, by omega, HI, HR2, HZ, hbw2⟩
    case round =>
      clear HI HR2 HZ hbw2 hg2 e1 hglt
      obtain ⟨a, b, cur, rfl, rfl, hbn, hab, HI, HR, HZ, hb⟩ := hrel
      by_cases hlt : b < n
      · have hbl : b < l.length := by rw [HN.out]; exact hlt
        have x0 := (row_cell HR.out (b * 5 + 0)).trans (HI.out.cells lze_length hbl (t := 0) (by omega))
        have x1 := (row_cell HR.out (b * 5 + 1)).trans (HI.out.cells lze_length hbl (t := 1) (by omega))
        have x2 := (row_cell HR.out (b * 5 + 2)).trans (HI.out.cells lze_length hbl (t := 2) (by omega))
        have x3 := (row_cell HR.out (b * 5 + 3)).trans (HI.out.cells lze_length hbl (t := 3) (by omega))
        have x4 := (row_cell HR.out (b * 5 + 4)).trans (HI.out.cells lze_length hbl (t := 4) (by omega))
        rw [Nat.add_zero] at x0
        have HSK := lid (fun h => HI.out.skip hbl h)
        have HKP := lid (fun h => HI.out.keep lze_length hbl h)
        obtain ⟨f1, f2⟩ := HI.out.fits hbl
        have hrm := HI.out.room
        obtain ⟨x, hx⟩ : ∃ x, l[b] = x := ⟨_, rfl⟩
        rw [hx] at x0 x1 x2 x3 x4 HSK HKP
        obtain ⟨o0, q0⟩ : ∃ o, cur[a * 5]? = some o := ⟨_, Array.getElem?_eq_getElem (by omega)⟩
        obtain ⟨o1, q1⟩ : ∃ o, cur[a * 5 + 1]? = some o := ⟨_, Array.getElem?_eq_getElem (by omega)⟩
        obtain ⟨o2, q2⟩ : ∃ o, cur[a * 5 + 2]? = some o := ⟨_, Array.getElem?_eq_getElem (by omega)⟩
        obtain ⟨o3, q3⟩ : ∃ o, cur[a * 5 + 3]? = some o := ⟨_, Array.getElem?_eq_getElem (by omega)⟩
        obtain ⟨o4, q4⟩ : ∃ o, cur[a * 5 + 4]? = some o := ⟨_, Array.getElem?_eq_getElem (by omega)⟩
        have db : decide ((b : Int) < (n : Int)) = true := by simp; omega
        have hgl := row_lt HR.out
        obtain ⟨w1, hw1⟩ : ∃ y, wr.alloc (.cells (lzc x) 31) = y := ⟨_, rfl⟩
        have hb1 : Below wr.heap.size wr w1 := by rw [← hw1]; exact ba _ _
        have HX1 := lid (show XBox w1 wr.heap.size x by rw [← hw1]; exact XBox.new _ _ _)
        have hbw1 : Below base w w1 := hb.trans (hb1.mono (by have := hb.size; omega))
        have HR1 : Hid (w1.heap[g]? = some (.cells cur 31 (0, 0))) := lid ((hb1.block g hgl).trans HR.out)
        have HW1 := lid hw1
        have CX : Hid (Calls Try.prog 42 #[.agg (lzc x), .pointer (some ⟨c1, 0, none⟩)] w1 fun e w'' => e = .returned (.bool (P x)) ∧ Below w1.heap.size w1 w'') := lid (HC.out w1 hbw1 x w1 (Below.refl _ _))
        clear hw1 hx
        go_wp2_with fail
        rw [HW1.out]
        clear HW1
        obtain ⟨m0, y0, y1, y2, y3, y4⟩ := HX1.out
        go_wp2_with fail
        (with_reducible refine (CX.out).mono ?_); rintro e w3 ⟨rfl, hb3⟩
        have hbw3 : Below base w w3 := hbw1.trans (hb3.mono (by have := hbw1.size; omega))
        have HR3 : Hid (w3.heap[g]? = some (.cells cur 31 (0, 0))) := lid ((hb3.block g (Nat.lt_of_lt_of_le hgl hb1.size)).trans HR1.out)
        have HX3 := lid (HX1.out.below hb3)
        clear HX1 HR1 CX hb3 hbw1 m0 y0 y1 y2 y3 y4
        cases hp : P x with
        | true =>
          have HV := lid (HSK.out hp)
          clear hp HSK HKP
          go_wp2_with fail
          go_roundw
          case rel => exact ⟨a, b + 1, cur, rfl, by go_num, by omega, by omega, HV, HR3, HZ, hbw3⟩
          case measure => simp [intOf]; omega
        | false =>
          have HV := lid (HKP.out hp)
          clear hp HSK HKP
          have p0 := (row_cell HR3.out (a * 5)).trans q0
          have p1 := (row_cell HR3.out (a * 5 + 1)).trans q1
          have p2 := (row_cell HR3.out (a * 5 + 2)).trans q2
          have p3 := (row_cell HR3.out (a * 5 + 3)).trans q3
          have p4 := (row_cell HR3.out (a * 5 + 4)).trans q4
          have z0 := row_fz HR3.out (a * 5)
          have z1 := row_fz HR3.out (a * 5 + 1)
          have z2 := row_fz HR3.out (a * 5 + 2)
          have z3 := row_fz HR3.out (a * 5 + 3)
          have z4 := row_fz HR3.out (a * 5 + 4)
          obtain ⟨m0, y0, y1, y2, y3, y4⟩ := HX3.out
          have han : decide (a < n) = true := by simp; omega
          have hrow : Hid ((w3.setCells g (a * 5) (lze x)).heap[g]? = some (.cells (layAt cur (a * 5) (lze x)) 31 (0, 0))) := lid (row_setCells (lze x) (a * 5) w3 cur HR3.out)
          have hbw4 : Hid (Below base w (w3.setCells g (a * 5) (lze x))) := lid (below_cells hg _ _ _ hbw3)
          clear q0 q1 q2 q3 q4
          go_wp2_with fail
          go_roundw
          case rel => exact ⟨a + 1, b + 1, layAt cur (a * 5) (lze x), by go_num, by go_num, by omega, by omega, HV, hrow, lid (by rw [layAt_size]; exact HZ.out), hbw4.out⟩
          case measure => simp [intOf]; omega
      · obtain rfl : b = n := by omega
        have db : decide ((b : Int) < (b : Int)) = false := by simp
        have HI' : DelInv lze 5 l P a l.length cur := by rw [HN.out]; exact HI.out
        have hrm := HI.out.room
        rw [HN.out] at hrm
        have hab5 : a * 5 + (b - a) * 5 = b * 5 := by omega
        have HDN := lid (HI'.done (Builtin.zeroCells (Value.agg #[.int .u64 0, .int .u64 0, .string ⟨#[]⟩, .int .i64 0, .int .i64 0]).cells (b - a)).toList (by rw [zeroCells_length]; show a * 5 + (b - a) * 5 ≤ _; omega))
        have hcl : ∀ ty c, (Builtin.clear_ #[22] ty #[.slice (some ⟨g, a * 5, none⟩) (b - a) c]).run Try.prog wr = .ok (.tuple #[]) (wr.setCells g (a * 5) (Builtin.zeroCells (Value.agg #[.int .u64 0, .int .u64 0, .string ⟨#[]⟩, .int .i64 0, .int .i64 0]).cells (b - a)).toList) :=
          fun ty c => run_clear_cells wr _ _ ty _ Try.underlying22 zero_lz (by intro k hk; have : k < 5 := hk; match k, this with | 0, _ => rfl | 1, _ => rfl | 2, _ => rfl | 3, _ => rfl | 4, _ => rfl) g (a * 5) (b - a) c (by omega)
            (fun t ht => by rw [row_cell HR.out, Array.getElem?_eq_getElem (show a * 5 + t < cur.size by have : t < (b - a) * 5 := ht; omega)]; rfl) (fun t _ => row_fz HR.out _)
        clear HI'
        have hrow : Hid ((wr.setCells g (a * 5) (Builtin.zeroCells (Value.agg #[.int .u64 0, .int .u64 0, .string ⟨#[]⟩, .int .i64 0, .int .i64 0]).cells (b - a)).toList).heap[g]? = _) := lid (row_setCells _ (a * 5) wr cur HR.out)
        go_wp2_with fail
        go_ret
        refine ⟨_, rfl, ?_, below_cells hg _ _ _ hb⟩
        rw [HDN.out.1]
        have ef : (lzcells (l.filter fun x => !P x)).length = a * 5 := by rw [lzcells_length, HDN.out.1]
        exact ⟨ef, .inr ⟨g, cap, _, rfl, hg, hrow.out, by omega, hmx, by rw [layAt_size]; exact HZ.out, HDN.out.2⟩⟩
set_option maxRecDepth 100000 in
set_option maxHeartbeats 8000000 in
theorem DeleteFunc_adv (l : List Lz) (v : Value) (n : Nat) (c1 : Nat) (P : Lz → Bool) (base : Nat) (w : World) (hn : l.length = n) (hm : n ≤ 1000000) (hs : w.ownsRow base 31 5 v n (lzcells l)) (hbase : base ≤ w.heap.size) (hc : ∀ w', Below base w w' → Asks 39 #[.pointer (some ⟨c1, 0, none⟩)] P w') :
    Calls Try.prog 51 #[v, .func (.func 39) #[] #[.pointer (some ⟨c1, 0, none⟩)]] w fun e w' => ∃ v', e = .returned v' ∧ w'.ownsRow base 31 5 v' (l.filter fun x => !P x).length (lzcells (l.filter fun x => !P x)) ∧ Below base w w' := by
  obtain ⟨ao, cap, rfl⟩ := own_slice hs
  have CI := lid (IndexFunc_adv l n cap ao c1 P w hn hm (own_sl hs) (hc w (Below.refl _ _)))
  cases hany : l.any P with
  | false =>
    have HI := lid (idxP_none hany)
    have HF : Hid (l.filter (fun x => !P x) = l) := lid (List.filter_eq_self.2 (fun y hy => by have := List.any_eq_false.1 hany y hy; simpa using this))
    rw [HI.out] at CI
    have HS := lid hs
    have HN := lid hn
    clear hs hn hc hany
    go_enter Try.func51, Try.ntmps51
    go_wp2_with fail
    (with_reducible refine (CI.out).mono ?_); rintro e w2 ⟨rfl, hb2⟩
    go_wp2_with fail
    go_ret
    refine ⟨_, rfl, ?_, hb2.mono hbase⟩
    rw [HF.out, HN.out]
    exact ownsRow_below HS.out hb2
  | true =>
    obtain ⟨k0, hk0, e0, hno, hyes⟩ := idxP_some hany
    rw [e0] at CI
    rcases hs.2 with ⟨hv, h0⟩ | ⟨g, cap', cur, hv, hg, hcur, hncap, hmax, hsz, htk⟩
    · subst h0
      rw [List.eq_nil_of_length_eq_zero hn] at hk0
      simp at hk0
    cases hv
    have hglt := row_lt hcur
    have HI : Hid (DelInv lze 5 l P k0 (k0 + 1) cur) := lid (DelInv.start lze_length hk0 hno hyes (by rw [hsz, hn]; exact Nat.mul_le_mul_right _ hncap) (by rw [hn]; exact htk))
    have hk0n : k0 < n := by omega
    have HN := lid hn
    have HC := lid hc
    have HR := lid hcur
    have HZ := lid hsz
    have hcap' : n ≤ cap := hncap
    have hmx : cap ≤ 9223372036854775807 := hmax
    clear hs hn hc hany e0 hno hyes hk0 hcur hsz htk hmax
    go_enter Try.func51, Try.ntmps51
    go_wp2_with fail
    (with_reducible refine (CI.out).mono ?_); rintro e w2 ⟨rfl, hb2⟩
    have hbw2 : Below base w w2 := hb2.mono hbase
    have HR2 : Hid (w2.heap[g]? = some (.cells cur 31 (0, 0))) := lid ((hb2.block g hglt).trans HR.out)
    have hg2 : g < w2.heap.size := row_lt HR2.out
    clear hb2 HR CI
    have e1 : ((k0 : Int) == -1) = false := beq_eq_false_iff_ne.2 (by omega)
    go_wp2_with fail
    go_loopw [5, 6, 7] (fun i j _ wr => ∃ (a b : Nat) (cur : Array Value), i = .int .i64 a ∧ j = .int .i64 b ∧ b ≤ n ∧ a < b ∧ Hid (DelInv lze 5 l P a b cur) ∧ Hid (wr.heap[g]? = some (.cells cur 31 (0, 0))) ∧ Hid (cur.size = cap * 5) ∧ Below base w wr) (fun _ j _ _ => n - (intOf j).toNat)
    case atStart => exact ⟨k0, k0 + 1, cur, rfl, by go_num, by omega, by omega, HI, HR2, HZ, hbw2⟩
    case round =>
      clear HI HR2 HZ hbw2 hg2 e1 hglt
      obtain ⟨a, b, cur, rfl, rfl, hbn, hab, HI, HR, HZ, hb⟩ := hrel
      by_cases hlt : b < n
      · have hbl : b < l.length := by rw [HN.out]; exact hlt
        have x0 := (row_cell HR.out (b * 5 + 0)).trans (HI.out.cells lze_length hbl (t := 0) (by omega))
        have x1 := (row_cell HR.out (b * 5 + 1)).trans (HI.out.cells lze_length hbl (t := 1) (by omega))
        have x2 := (row_cell HR.out (b * 5 + 2)).trans (HI.out.cells lze_length hbl (t := 2) (by omega))
        have x3 := (row_cell HR.out (b * 5 + 3)).trans (HI.out.cells lze_length hbl (t := 3) (by omega))
        have x4 := (row_cell HR.out (b * 5 + 4)).trans (HI.out.cells lze_length hbl (t := 4) (by omega))
        rw [Nat.add_zero] at x0
        have HSK := lid (fun h => HI.out.skip hbl h)
        have HKP := lid (fun h => HI.out.keep lze_length hbl h)
        obtain ⟨f1, f2⟩ := HI.out.fits hbl
        have hrm := HI.out.room
        obtain ⟨x, hx⟩ : ∃ x, l[b] = x := ⟨_, rfl⟩
        rw [hx] at x0 x1 x2 x3 x4 HSK HKP
        obtain ⟨o0, q0⟩ : ∃ o, cur[a * 5]? = some o := ⟨_, Array.getElem?_eq_getElem (by omega)⟩
        obtain ⟨o1, q1⟩ : ∃ o, cur[a * 5 + 1]? = some o := ⟨_, Array.getElem?_eq_getElem (by omega)⟩
        obtain ⟨o2, q2⟩ : ∃ o, cur[a * 5 + 2]? = some o := ⟨_, Array.getElem?_eq_getElem (by omega)⟩
        obtain ⟨o3, q3⟩ : ∃ o, cur[a * 5 + 3]? = some o := ⟨_, Array.getElem?_eq_getElem (by omega)⟩
        obtain ⟨o4, q4⟩ : ∃ o, cur[a * 5 + 4]? = some o := ⟨_, Array.getElem?_eq_getElem (by omega)⟩
        have db : decide ((b : Int) < (n : Int)) = true := by simp; omega
        have hgl := row_lt HR.out
        obtain ⟨w1, hw1⟩ : ∃ y, wr.alloc (.cells (lzc x) 31) = y := ⟨_, rfl⟩
        have hb1 : Below wr.heap.size wr w1 := by rw [← hw1]; exact ba _ _
        have HX1 := lid (show XBox w1 wr.heap.size x by rw [← hw1]; exact XBox.new _ _ _)
        have hbw1 : Below base w w1 := hb.trans (hb1.mono (by have := hb.size; omega))
        have HR1 : Hid (w1.heap[g]? = some (.cells cur 31 (0, 0))) := lid ((hb1.block g hgl).trans HR.out)
        have HW1 := lid hw1
        have CX : Hid (Calls Try.prog 39 #[.agg (lzc x), .pointer (some ⟨c1, 0, none⟩)] w1 fun e w'' => e = .returned (.bool (P x)) ∧ Below w1.heap.size w1 w'') := lid (HC.out w1 hbw1 x w1 (Below.refl _ _))
        clear hw1 hx
        go_wp2_with fail
        rw [HW1.out]
        clear HW1
        obtain ⟨m0, y0, y1, y2, y3, y4⟩ := HX1.out
        go_wp2_with fail
        (with_reducible refine (CX.out).mono ?_); rintro e w3 ⟨rfl, hb3⟩
        have hbw3 : Below base w w3 := hbw1.trans (hb3.mono (by have := hbw1.size; omega))
        have HR3 : Hid (w3.heap[g]? = some (.cells cur 31 (0, 0))) := lid ((hb3.block g (Nat.lt_of_lt_of_le hgl hb1.size)).trans HR1.out)
        have HX3 := lid (HX1.out.below hb3)
        clear HX1 HR1 CX hb3 hbw1 m0 y0 y1 y2 y3 y4
        cases hp : P x with
        | true =>
          have HV := lid (HSK.out hp)
          clear hp HSK HKP
          go_wp2_with fail
          go_roundw
          case rel => exact ⟨a, b + 1, cur, rfl, by go_num, by omega, by omega, HV, HR3, HZ, hbw3⟩
          case measure => simp [intOf]; omega
        | false =>
          have HV := lid (HKP.out hp)
          clear hp HSK HKP
          have p0 := (row_cell HR3.out (a * 5)).trans q0
          have p1 := (row_cell HR3.out (a * 5 + 1)).trans q1
          have p2 := (row_cell HR3.out (a * 5 + 2)).trans q2
          have p3 := (row_cell HR3.out (a * 5 + 3)).trans q3
          have p4 := (row_cell HR3.out (a * 5 + 4)).trans q4
          have z0 := row_fz HR3.out (a * 5)
          have z1 := row_fz HR3.out (a * 5 + 1)
          have z2 := row_fz HR3.out (a * 5 + 2)
          have z3 := row_fz HR3.out (a * 5 + 3)
          have z4 := row_fz HR3.out (a * 5 + 4)
          obtain ⟨m0, y0, y1, y2, y3, y4⟩ := HX3.out
          have han : decide (a < n) = true := by simp; omega
          have hrow : Hid ((w3.setCells g (a * 5) (lze x)).heap[g]? = some (.cells (layAt cur (a * 5) (lze x)) 31 (0, 0))) := lid (row_setCells (lze x) (a * 5) w3 cur HR3.out)
          have hbw4 : Hid (Below base w (w3.setCells g (a * 5) (lze x))) := lid (below_cells hg _ _ _ hbw3)
          clear q0 q1 q2 q3 q4
          go_wp2_with fail
          go_roundw
          case rel => exact ⟨a + 1, b + 1, layAt cur (a * 5) (lze x), by go_num, by go_num, by omega, by omega, HV, hrow, lid (by rw [layAt_size]; exact HZ.out), hbw4.out⟩
          case measure => simp [intOf]; omega
      · obtain rfl : b = n := by omega
        have db : decide ((b : Int) < (b : Int)) = false := by simp
        have HI' : DelInv lze 5 l P a l.length cur := by rw [HN.out]; exact HI.out
        have hrm := HI.out.room
        rw [HN.out] at hrm
        have hab5 : a * 5 + (b - a) * 5 = b * 5 := by omega
        have HDN := lid (HI'.done (Builtin.zeroCells (Value.agg #[.int .u64 0, .int .u64 0, .string ⟨#[]⟩, .int .i64 0, .int .i64 0]).cells (b - a)).toList (by rw [zeroCells_length]; show a * 5 + (b - a) * 5 ≤ _; omega))
        have hcl : ∀ ty c, (Builtin.clear_ #[22] ty #[.slice (some ⟨g, a * 5, none⟩) (b - a) c]).run Try.prog wr = .ok (.tuple #[]) (wr.setCells g (a * 5) (Builtin.zeroCells (Value.agg #[.int .u64 0, .int .u64 0, .string ⟨#[]⟩, .int .i64 0, .int .i64 0]).cells (b - a)).toList) :=
          fun ty c => run_clear_cells wr _ _ ty _ Try.underlying22 zero_lz (by intro k hk; have : k < 5 := hk; match k, this with | 0, _ => rfl | 1, _ => rfl | 2, _ => rfl | 3, _ => rfl | 4, _ => rfl) g (a * 5) (b - a) c (by omega)
            (fun t ht => by rw [row_cell HR.out, Array.getElem?_eq_getElem (show a * 5 + t < cur.size by have : t < (b - a) * 5 := ht; omega)]; rfl) (fun t _ => row_fz HR.out _)
        clear HI'
        have hrow : Hid ((wr.setCells g (a * 5) (Builtin.zeroCells (Value.agg #[.int .u64 0, .int .u64 0, .string ⟨#[]⟩, .int .i64 0, .int .i64 0]).cells (b - a)).toList).heap[g]? = _) := lid (row_setCells _ (a * 5) wr cur HR.out)
        go_wp2_with fail
        go_ret
        refine ⟨_, rfl, ?_, below_cells hg _ _ _ hb⟩
        rw [HDN.out.1]
        have ef : (lzcells (l.filter fun x => !P x)).length = a * 5 := by rw [lzcells_length, HDN.out.1]
        exact ⟨ef, .inr ⟨g, cap, _, rfl, hg, hrow.out, by omega, hmx, by rw [layAt_size]; exact HZ.out, HDN.out.2⟩⟩
end Go.Proofs.Ytghkldodceamcaa

namespace Go.Proofs.Ytghkldodceamcaa
open Go.RowKit

set_option maxRecDepth 100000 in
set_option maxHeartbeats 4000000 in
theorem without_any (t : Ls) (ao : Option Addr) (n cap : Nat) (V : Value) (P : Lz → Bool) (w : World) (h : LsA w ao n t) (hz : ao = none → cap = 0) (hn : n ≤ 10000)
    (hD : ∀ v w', w'.ownsRow (w.heap.size + 2) 31 5 v n (lzcells t.l) → w.heap.size + 2 ≤ w'.heap.size → Below w.heap.size w w' → Calls Try.prog 51 #[v, V] w' fun e w'' => ∃ v', e = .returned v' ∧ w''.ownsRow (w.heap.size + 2) 31 5 v' (t.l.filter fun x => !P x).length (lzcells (t.l.filter fun x => !P x)) ∧ Below (w.heap.size + 2) w' w'') :
    Calls Try.prog 38 #[.agg (tcells t ao n cap), V] w fun e w' => ∃ v', e = .returned (.agg #[.int .i64 t.clock, .int .i64 t.epoch, v']) ∧ w'.ownsRow w.heap.size 31 5 v' (t.l.filter fun x => !P x).length (lzcells (t.l.filter fun x => !P x)) ∧ Below w.heap.size w w' := by
  obtain ⟨W, hW⟩ : ∃ y, (w.alloc (.cells (tcells t ao n cap) 24)).alloc (.cells tz 24) = y := ⟨_, rfl⟩
  have hbW : Below w.heap.size w W := by rw [← hW]; exact ((Below.refl _ _).alloc (Nat.le_refl _) _).alloc (by simp) _
  have zW : W.heap.size = w.heap.size + 2 := by rw [← hW]; simp only [World.size_alloc]
  have HT : W.heap[w.heap.size]? = some (.cells (tcells t ao n cap) 24 (0, 0)) := by
    rw [← hW]
    rw [Below.heap_alloc _ _ _ (by simp)]
    exact heap_alloc_new _ _
  have HP : W.heap[w.heap.size + 1]? = some (.cells tz 24 (0, 0)) := by
    rw [← hW]
    have := heap_alloc_new (w.alloc (.cells (tcells t ao n cap) 24)) (.cells tz 24)
    simp only [World.size_alloc] at this
    exact this
  have CL := lid (lzClone_any t.l n cap ao W h.len (h.below hbW).sl hz hn)
  have HW := lid hW
  have HD := lid hD
  have Hb := lid hbW
  have HTW := lid HT
  have HPW := lid HP
  have l0 : w.heap.size < W.heap.size := row_lt HT
  have ZW := lid zW
  have c2 := row_cell HT 2
  rw [← HW.out] at c2
  clear h hz hW hbW HT HP zW hD
  go_enter Try.func38, Try.ntmps38
  go_wp2_with fail
  rw [HW.out]
  clear HW c2
  (with_reducible refine (CL.out).mono ?_); rintro e w1 ⟨v1, rfl, hown, hb1⟩
  have HO1 := lid hown
  have hw1 : Below w.heap.size w w1 := Hb.out.trans (hb1.mono Hb.out.size)
  have CD := lid (HD.out v1 w1 (by rw [← ZW.out]; exact hown) (by rw [← ZW.out]; exact hb1.size) hw1)
  obtain ⟨ao1, cap1, rfl⟩ := own_slice hown
  have HT1 : Hid (w1.heap[w.heap.size]? = some (.cells (tcells t ao n cap) 24 (0, 0))) := lid ((hb1.block w.heap.size l0).trans HTW.out)
  have HP1 : Hid (w1.heap[w.heap.size + 1]? = some (.cells tz 24 (0, 0))) := lid ((hb1.block (w.heap.size + 1) (by rw [ZW.out]; exact Nat.lt_succ_self _)).trans HPW.out)
  clear hown hb1 HD CL HTW HPW l0
  go_wp2_with fail
  (with_reducible refine (CD.out).mono ?_); rintro e w2 ⟨v2, rfl, hown, hb2⟩
  have HO2 := lid hown
  have hw2 : Below w.heap.size w w2 := hw1.trans (hb2.mono (by omega))
  obtain ⟨ao2, cap2, rfl⟩ := own_slice hown
  have HT2 : w2.heap[w.heap.size]? = some (.cells (tcells t ao n cap) 24 (0, 0)) := (hb2.block w.heap.size (by omega)).trans HT1.out
  have HP2 : w2.heap[w.heap.size + 1]? = some (.cells tz 24 (0, 0)) := (hb2.block (w.heap.size + 1) (by omega)).trans HP1.out
  obtain ⟨q, hq⟩ : ∃ q, (t.l.filter fun x => !P x).length = q := ⟨_, rfl⟩
  rw [hq] at HO2 ⊢
  have HQ := lid hq
  clear hown hb2 CD HT1 HP1 hq
  have c0 := row_cell HT2 0
  have c1 := row_cell HT2 1
  have c2 := row_cell HT2 2
  have z2 := row_fz HT2 2
  have p0 := row_cell HP2 0
  have p1 := row_cell HP2 1
  have p2 := row_cell HP2 2
  have y0 := row_fz HP2 0
  have y1 := row_fz HP2 1
  have y2 := row_fz HP2 2
  go_wp2_with fail
  clear c0 c1 c2 z2 p0 p1 p2 y0 y1 y2
  obtain ⟨w3, hw3⟩ : ∃ y, (((w2.setCell ⟨w.heap.size, 2, none⟩ (.slice ao2 q cap2)).setCell ⟨w.heap.size + 1, 0, none⟩ (.int .i64 t.clock)).setCell ⟨w.heap.size + 1, 1, none⟩ (.int .i64 t.epoch)).setCell ⟨w.heap.size + 1, 2, none⟩ (.slice ao2 q cap2) = y := ⟨_, rfl⟩
  rw [hw3]
  have HP3 : w3.heap[w.heap.size + 1]? = some (.cells #[.int .i64 t.clock, .int .i64 t.epoch, .slice ao2 q cap2] 24 (0, 0)) := by
    rw [← hw3]; exact row_set (row_set (row_set (row_other HP2 (by omega)) 0 _) 1 _) 2 _
  have HO3 : w3.ownsRow (w.heap.size + 2) 31 5 (.slice ao2 q cap2) q (lzcells (t.l.filter fun x => !P x)) := by
    rw [← hw3]
    iterate 4 refine own_set ?_ (by omega)
    exact HO2.out
  have hb3 : Below w.heap.size w w3 := by
    rw [← hw3]; exact (((hw2.setCell (p := ⟨w.heap.size, 2, none⟩) (Nat.le_refl _) _).setCell (p := ⟨w.heap.size + 1, 0, none⟩) (Nat.le_succ _) _).setCell (p := ⟨w.heap.size + 1, 1, none⟩) (Nat.le_succ _) _).setCell (p := ⟨w.heap.size + 1, 2, none⟩) (Nat.le_succ _) _
  have p0 := row_cell HP3 0
  have p1 := row_cell HP3 1
  have p2 := row_cell HP3 2
  have hOF : w3.ownsRow w.heap.size 31 5 (.slice ao2 q cap2) q (lzcells (t.l.filter fun x => !P x)) := ownsRow_base HO3 (by omega)
  exact bodyPost_ret (v := .agg #[.int .i64 t.clock, .int .i64 t.epoch, .slice ao2 q cap2]) (by simp [results, Try.results38, go_sem, p0, p1, p2]) rfl ⟨_, rfl, by rw [HQ.out]; exact hOF, hb3⟩
end Go.Proofs.Ytghkldodceamcaa

namespace Go.Proofs.Ytghkldodceamcaa
open Go.RowKit

theorem Sl.set {w : World} {size n X o : Nat} {ao : Option Addr} {xs : List Value} {u : Value} (h : Sl w size ao n xs) (hX : ∀ a, ao = some a → X ≠ a.block) : Sl (w.setCell ⟨X, o, none⟩ u) size ao n xs := by
  refine ⟨h.1, h.2.imp id ?_⟩
  rintro ⟨b, o', e, hlt, hc⟩
  refine ⟨b, o', e, by rw [World.size_setCell]; exact hlt, fun j v hv => ?_⟩
  rw [World.cell?_setCell_other _ _ _ _ (by intro e2; have := congrArg Addr.block e2; exact hX _ e this)]
  exact hc j v hv
/-- Leases in memory, in a block from number b on. -/
structure LsB (w : World) (b : Nat) (ao : Option Addr) (n cap : Nat) (T : Ls) : Prop where
  A : LsA w ao n T
  le : n ≤ cap
  z : ao = none → cap = 0
  lo : ∀ a, ao = some a → b ≤ a.block
theorem LsB.below {w w' : World} {b n cap : Nat} {ao : Option Addr} {T : Ls} (h : LsB w b ao n cap T) (hb : Below w.heap.size w w') : LsB w' b ao n cap T := ⟨h.A.below hb, h.le, h.z, h.lo⟩
theorem LsB.set {w : World} {b n cap X o : Nat} {ao : Option Addr} {T : Ls} {u : Value} (h : LsB w b ao n cap T) (hX : X < b) : LsB (w.setCell ⟨X, o, none⟩ u) b ao n cap T :=
  ⟨⟨h.A.len, h.A.sl.set (fun a ha => by have := h.lo a ha; omega), h.A.max, h.A.sz⟩, h.le, h.z, h.lo⟩
/-- Leases that come back. -/
def LsV (T : Ls) (b : Nat) (w' : World) (v : Value) : Prop := ∃ ao n cap, v = .agg (tcells T ao n cap) ∧ LsB w' b ao n cap T
theorem LsV.zero (b : Nat) (w' : World) : LsV ls0 b w' (.agg tz) := ⟨none, 0, 0, rfl, ⟨⟨rfl, Sl.nil, by simp [maxLen], by intro x hx; cases hx⟩, Nat.le_refl _, fun _ => rfl, fun a h => by cases h⟩⟩
theorem LsV.own {w' : World} {base b q : Nat} {v : Value} {T : Ls} (h : w'.ownsRow base 31 5 v q (lzcells T.l)) (hb : b ≤ base) (hq : T.l.length = q) (hm : q ≤ maxLen) (hs : ∀ x ∈ T.l, x.2.1.size ≤ maxLen) : LsV T b w' (.agg #[.int .i64 T.clock, .int .i64 T.epoch, v]) := by
  rcases h.2 with ⟨rfl, rfl⟩ | ⟨g, cap, cur, rfl, hg, _, hn, _, _⟩
  · exact ⟨none, 0, 0, rfl, ⟨⟨hq, own_sl h, hm, hs⟩, Nat.le_refl _, (fun _ => rfl), (fun a h => by cases h)⟩⟩
  · exact ⟨some ⟨g, 0, none⟩, q, cap, rfl, ⟨⟨hq, own_sl h, hm, hs⟩, hn, (fun e => by cases e), (fun a h => by cases h; exact Nat.le_trans hb hg)⟩⟩
/-- Leases, a lease and an errno that come back. -/
def GrR (T : Ls) (X : Lz) (E : Int) (w : World) (e : Ending) (w' : World) : Prop := ∃ v, e = .returned (.tuple #[v, .agg (lzc X), .int .i64 E]) ∧ LsV T w.heap.size w' v ∧ Below w.heap.size w w'
theorem checkLs_ok {t : Ls} (h : checkLs t = 0) : 0 ≤ t.clock ∧ t.clock ≤ 1099511627776 ∧ 0 ≤ t.epoch ∧ t.epoch ≤ 1099511627776 ∧ t.l.length ≤ 256 := by
  unfold checkLs rangeB at h
  split at h
  · cases h
  · rename_i h1
    split at h
    · cases h
    · rename_i h2
      simp only [decide_eq_false_iff_not, not_or, Decidable.not_not] at h1
      omega
theorem fitB_ok {c n : Int} (h : fitB c n = true) : 1 ≤ n ∧ n ≤ 1099511627776 - c := by simpa [fitB] using h
theorem grant_1 {t : Ls} (h : checkLs t ≠ 0) (job : Dg) (wk : ByteArray) (m : Int) : grantE t job wk m = 1 := by unfold grantE; rw [if_pos h]
theorem grant_2 {t : Ls} {wk : ByteArray} (h : checkLs t = 0) (h2 : nameB wk = false) (job : Dg) (m : Int) : grantE t job wk m = 6 := by unfold grantE; rw [if_neg (by simp [h]), if_pos h2]
theorem grant_3 {t : Ls} {wk : ByteArray} {m : Int} (h : checkLs t = 0) (h2 : nameB wk = true) (h3 : fitB t.clock m = false) (job : Dg) : grantE t job wk m = 2 := by unfold grantE; rw [if_neg (by simp [h]), if_neg (by simp [h2]), if_pos h3]
theorem grant_4 {t : Ls} {wk : ByteArray} {m : Int} {job : Dg} (h : checkLs t = 0) (h2 : nameB wk = true) (h3 : fitB t.clock m = true) (h4 : hasB t.l job wk = true) : grantE t job wk m = 7 := by unfold grantE; rw [if_neg (by simp [h]), if_neg (by simp [h2]), if_neg (by simp [h3]), if_pos h4]
theorem grant_5 {t : Ls} {wk : ByteArray} {m : Int} {job : Dg} (h : checkLs t = 0) (h2 : nameB wk = true) (h3 : fitB t.clock m = true) (h4 : hasB t.l job wk = false) (h5 : 256 ≤ t.l.length) : grantE t job wk m = 19 := by unfold grantE; rw [if_neg (by simp [h]), if_neg (by simp [h2]), if_neg (by simp [h3]), if_neg (by simp [h4]), if_pos h5]
theorem grant_6 {t : Ls} {wk : ByteArray} {m : Int} {job : Dg} (h : checkLs t = 0) (h2 : nameB wk = true) (h3 : fitB t.clock m = true) (h4 : hasB t.l job wk = false) (h5 : ¬ 256 ≤ t.l.length) (h6 : t.epoch = 1099511627776) : grantE t job wk m = 4 := by unfold grantE; rw [if_neg (by simp [h]), if_neg (by simp [h2]), if_neg (by simp [h3]), if_neg (by simp [h4]), if_neg h5, if_pos h6]
theorem grant_7 {t : Ls} {wk : ByteArray} {m : Int} {job : Dg} (h : checkLs t = 0) (h2 : nameB wk = true) (h3 : fitB t.clock m = true) (h4 : hasB t.l job wk = false) (h5 : ¬ 256 ≤ t.l.length) (h6 : t.epoch ≠ 1099511627776) : grantE t job wk m = 0 := by unfold grantE; rw [if_neg (by simp [h]), if_neg (by simp [h2]), if_neg (by simp [h3]), if_neg (by simp [h4]), if_neg h5, if_neg h6]
theorem grant_bad {t : Ls} {wk : ByteArray} {m : Int} {job : Dg} {c : Int} (h : grantE t job wk m = c) (hc : c ≠ 0) : grantL t job wk m = ls0 ∧ grantX t job wk m = lz0 := by unfold grantL grantX; rw [h, if_neg hc, if_neg hc]; exact ⟨rfl, rfl⟩
theorem grant_good {t : Ls} {wk : ByteArray} {m : Int} {job : Dg} (h : grantE t job wk m = 0) : grantL t job wk m = withL t t.l job wk m ∧ grantX t job wk m = withX t job wk m ∧ grantE t job wk m = 0 := by unfold grantL grantX; rw [if_pos h, if_pos h]; exact ⟨rfl, rfl, h⟩
theorem with_fits {t : Ls} {l : List Lz} {n : Nat} {job : Dg} {wk : ByteArray} {m : Int} (h : l.length = n) (hs : ∀ x ∈ l, x.2.1.size ≤ maxLen) (hw : wk.size ≤ maxLen) : (withL t l job wk m).l.length = n + 1 ∧ ∀ x ∈ (withL t l job wk m).l, x.2.1.size ≤ maxLen := by
  refine ⟨by simp [withL, h], fun x hx => ?_⟩
  rcases List.mem_append.1 hx with hx | hx
  · exact hs x hx
  · rw [List.mem_singleton.1 hx]; exact hw
theorem renew_1 {t : Ls} (h : checkLs t ≠ 0) (x : Lz) (m : Int) : renewE t x m = 1 := by unfold renewE; rw [if_pos h]
theorem renew_2 {t : Ls} {x : Lz} (h : checkLs t = 0) (h2 : memB t.l x = false) (m : Int) : renewE t x m = 28 := by unfold renewE; rw [if_neg (by simp [h]), if_pos h2]
theorem renew_3 {t : Ls} {x : Lz} {m : Int} (h : checkLs t = 0) (h2 : memB t.l x = true) (h3 : fitB t.clock m = false) : renewE t x m = 2 := by unfold renewE; rw [if_neg (by simp [h]), if_neg (by simp [h2]), if_pos h3]
theorem renew_4 {t : Ls} {x : Lz} {m : Int} (h : checkLs t = 0) (h2 : memB t.l x = true) (h3 : fitB t.clock m = true) (h4 : t.epoch = 1099511627776) : renewE t x m = 4 := by unfold renewE; rw [if_neg (by simp [h]), if_neg (by simp [h2]), if_neg (by simp [h3]), if_pos h4]
theorem renew_5 {t : Ls} {x : Lz} {m : Int} (h : checkLs t = 0) (h2 : memB t.l x = true) (h3 : fitB t.clock m = true) (h4 : t.epoch ≠ 1099511627776) : renewE t x m = 0 := by unfold renewE; rw [if_neg (by simp [h]), if_neg (by simp [h2]), if_neg (by simp [h3]), if_neg h4]
theorem renew_bad {t : Ls} {x : Lz} {m : Int} {c : Int} (h : renewE t x m = c) (hc : c ≠ 0) : renewL t x m = ls0 ∧ renewX t x m = lz0 := by unfold renewL renewX; rw [h, if_neg hc, if_neg hc]; exact ⟨rfl, rfl⟩
theorem renew_good {t : Ls} {x : Lz} {m : Int} (h : renewE t x m = 0) : renewL t x m = withL t (lessL t.l x) x.1 x.2.1 m ∧ renewX t x m = withX t x.1 x.2.1 m ∧ renewE t x m = 0 := by unfold renewL renewX; rw [if_pos h, if_pos h]; exact ⟨rfl, rfl, h⟩
theorem own_zero {w : World} {base : Nat} {e : TypeId} {size : Nat} {ao : Option Addr} {cap n : Nat} {xs : List Value} (h : w.ownsRow base e size (.slice ao n cap) n xs) : ao = none → cap = 0 := by
  rcases h.2 with ⟨hv, h0⟩ | ⟨g, c, cur, hv, hg, hc, hn, hm, _⟩
  · cases hv; exact fun _ => rfl
  · cases hv; exact fun h => by cases h
/-- The world behind the store of zero values into the result cells. -/
def wipe (k : Nat) (w : World) : World := (((((((w.setCell ⟨k + 1 + 1, 0, none⟩ (.int .i64 0)).setCell ⟨k + 1 + 1, 1, none⟩ (.int .i64 0)).setCell ⟨k + 1 + 1, 2, none⟩ (.slice none 0 0)).setCell ⟨k + 1 + 1 + 1, 0, none⟩ (.int .u64 0)).setCell ⟨k + 1 + 1 + 1, 1, none⟩ (.int .u64 0)).setCell ⟨k + 1 + 1 + 1, 2, none⟩ (.string ⟨#[]⟩)).setCell ⟨k + 1 + 1 + 1, 3, none⟩ (.int .i64 0)).setCell ⟨k + 1 + 1 + 1, 4, none⟩ (.int .i64 0)
abbrev tzRow (k : Nat) (w : World) : Prop := w.heap[k]? = some (.cells tz 24 (0, 0))
abbrev lzRow (k : Nat) (w : World) : Prop := w.heap[k]? = some (.cells lzz 31 (0, 0))
set_option maxHeartbeats 2000000 in
theorem wipe_rows {k : Nat} {w0 w : World} (HP : tzRow (k + 1 + 1) w) (HQ : lzRow (k + 1 + 1 + 1) w) (hb : Below k w0 w) : tzRow (k + 1 + 1) (wipe k w) ∧ lzRow (k + 1 + 1 + 1) (wipe k w) ∧ Below k w0 (wipe k w) := by
  unfold wipe
  have h1 := row_set (row_set (row_set HP 0 (.int .i64 0)) 1 (.int .i64 0)) 2 (.slice none 0 0)
  have n1 : k + 1 + 1 ≠ k + 1 + 1 + 1 := by omega
  have n2 : k + 1 + 1 + 1 ≠ k + 1 + 1 := by omega
  refine ⟨?_, ?_, ?_⟩
  · exact row_other (row_other (row_other (row_other (row_other h1 n1) n1) n1) n1) n1
  · exact row_set (row_set (row_set (row_set (row_set (row_other (row_other (row_other HQ n2) n2) n2) 0 (.int .u64 0)) 1 (.int .u64 0)) 2 (.string ⟨#[]⟩)) 3 (.int .i64 0)) 4 (.int .i64 0)
  · refine (((((((hb.setCell (p := ⟨k + 1 + 1, 0, none⟩) ?_ _).setCell (p := ⟨k + 1 + 1, 1, none⟩) ?_ _).setCell (p := ⟨k + 1 + 1, 2, none⟩) ?_ _).setCell (p := ⟨k + 1 + 1 + 1, 0, none⟩) ?_ _).setCell (p := ⟨k + 1 + 1 + 1, 1, none⟩) ?_ _).setCell (p := ⟨k + 1 + 1 + 1, 2, none⟩) ?_ _).setCell (p := ⟨k + 1 + 1 + 1, 3, none⟩) ?_ _).setCell (p := ⟨k + 1 + 1 + 1, 4, none⟩) ?_ _ <;> (simp only; omega)

set_option maxRecDepth 100000 in
set_option maxHeartbeats 16000000 in
theorem grant_any (t : Ls) (ao : Option Addr) (n cap : Nat) (job : Dg) (wk : ByteArray) (m : Int) (w : World) (h : LsA w ao n t) (hcap : n ≤ cap) (hz : ao = none → cap = 0) (hwk : wk.size ≤ maxLen) :
    Calls Try.prog 12 #[.agg (tcells t ao n cap), dv job, .string wk, .int .i64 m] w fun e w' => GrR (grantL t job wk m) (grantX t job wk m) (grantE t job wk m) w e w' := by
  obtain ⟨W, hW⟩ : ∃ y, (((w.alloc (.cells #[.int .i64 t.clock, .int .i64 t.epoch, .slice ao n cap] 24)).alloc (.cells #[.int .u64 job.1.toNat, .int .u64 job.2.toNat] 27)).alloc (.cells tz 24)).alloc (.cells lzz 31) = y := ⟨_, rfl⟩
  have hb : Below w.heap.size w W := by
    rw [← hW]
    exact ((((Below.refl _ _).alloc (Nat.le_refl _) _).alloc (by simp) _).alloc (by simp; omega) _).alloc (by simp; omega) _
  have HT : Hid (W.heap[w.heap.size]? = some (.cells (tcells t ao n cap) 24 (0, 0))) := lid (by
    rw [← hW]
    iterate 3 rw [Below.heap_alloc _ _ _ (by simp only [World.size_alloc]; omega)]
    exact heap_alloc_new _ _)
  have HJ : Hid (W.heap[w.heap.size + 1]? = some (.cells #[.int .u64 job.1.toNat, .int .u64 job.2.toNat] 27 (0, 0))) := lid (by
    rw [← hW]
    iterate 2 rw [Below.heap_alloc _ _ _ (by simp only [World.size_alloc]; omega)]
    have := heap_alloc_new (w.alloc (.cells #[.int .i64 t.clock, .int .i64 t.epoch, .slice ao n cap] 24)) (.cells #[.int .u64 job.1.toNat, .int .u64 job.2.toNat] 27)
    simp only [World.size_alloc] at this
    exact this)
  have HP : Hid (tzRow (w.heap.size + 1 + 1) W) := lid (by
    rw [← hW]; unfold tzRow
    iterate 1 rw [Below.heap_alloc _ _ _ (by simp only [World.size_alloc]; omega)]
    have := heap_alloc_new ((w.alloc (.cells #[.int .i64 t.clock, .int .i64 t.epoch, .slice ao n cap] 24)).alloc (.cells #[.int .u64 job.1.toNat, .int .u64 job.2.toNat] 27)) (.cells tz 24)
    simp only [World.size_alloc] at this
    exact this)
  have HQ : Hid (lzRow (w.heap.size + 1 + 1 + 1) W) := lid (by
    rw [← hW]; unfold lzRow
    have := heap_alloc_new (((w.alloc (.cells #[.int .i64 t.clock, .int .i64 t.epoch, .slice ao n cap] 24)).alloc (.cells #[.int .u64 job.1.toNat, .int .u64 job.2.toNat] 27)).alloc (.cells tz 24)) (.cells lzz 31)
    simp only [World.size_alloc] at this
    exact this)
  have HW := lid hW
  have HA := lid (h.below hb)
  have HZ := lid hz
  have HL := lid h.len
  clear h hz hW
  go_enter Try.func12, Try.ntmps12
  have c0 := row_cell HT.out 0
  have c1 := row_cell HT.out 1
  have c2 := row_cell HT.out 2
  rw [← HW.out] at c0 c1 c2
  go_wp2_with fail
  rw [HW.out]
  clear HW c0 c1 c2
  have CK := lid (leaCheck_any t ao n cap W HA.out hcap)
  obtain ⟨c, hc⟩ : ∃ c, checkLs t = c := ⟨_, rfl⟩
  rw [hc] at CK
  have HC := lid hc
  clear hc
  (with_reducible refine (CK.out).mono ?_); rintro e w1 ⟨rfl, hb1⟩
  have hb' := hb
  replace hb : Below w.heap.size w w1 := hb.trans (hb1.mono hb.size)
  replace HP := lid ((hb1.block _ (row_lt HP.out)).trans HP.out)
  replace HQ := lid ((hb1.block _ (row_lt HQ.out)).trans HQ.out)
  replace HT := lid ((hb1.block _ (row_lt HT.out)).trans HT.out)
  replace HJ := lid ((hb1.block _ (row_lt HJ.out)).trans HJ.out)
  replace HA := lid (HA.out.below hb1)
  clear hb1 hb'
  clear CK
  by_cases hc0 : c = 0
  case neg =>
    have d0 : (c == 0) = false := by simpa using hc0
    have p0 := row_cell HP.out 0
    have p1 := row_cell HP.out 1
    have p2 := row_cell HP.out 2
    have y0 := row_fz HP.out 0
    have y1 := row_fz HP.out 1
    have y2 := row_fz HP.out 2
    have q0 := row_cell HQ.out 0
    have q1 := row_cell HQ.out 1
    have q2 := row_cell HQ.out 2
    have q3 := row_cell HQ.out 3
    have q4 := row_cell HQ.out 4
    have r0 := row_fz HQ.out 0
    have r1 := row_fz HQ.out 1
    have r2 := row_fz HQ.out 2
    have r3 := row_fz HQ.out 3
    have r4 := row_fz HQ.out 4
    have HV := lid (grant_1 (by rw [HC.out]; exact hc0) job wk m)
    go_wp2_with fail
    clear p0 p1 p2 y0 y1 y2 q0 q1 q2 q3 q4 r0 r1 r2 r3 r4
    obtain ⟨wf, hwf⟩ : ∃ y, wipe w.heap.size w1 = y := ⟨_, rfl⟩
    have hwr := wipe_rows HP.out HQ.out hb
    rw [hwf] at hwr
    unfold wipe at hwf
    rw [hwf]
    have p0 := row_cell hwr.1 0
    have p1 := row_cell hwr.1 1
    have p2 := row_cell hwr.1 2
    have q0 := row_cell hwr.2.1 0
    have q1 := row_cell hwr.2.1 1
    have q2 := row_cell hwr.2.1 2
    have q3 := row_cell hwr.2.1 3
    have q4 := row_cell hwr.2.1 4
    exact bodyPost_ret (v := .tuple #[.agg tz, .agg lzz, .int .i64 1]) (by simp [results, Try.results12, go_sem, p0, p1, p2, q0, q1, q2, q3, q4]) rfl ⟨.agg tz, by rw [(grant_bad HV.out (by decide)).2, HV.out]; rfl, by rw [(grant_bad HV.out (by decide)).1]; exact LsV.zero _ _, hwr.2.2⟩
  subst hc0
  have HOK := lid (checkLs_ok HC.out)
  go_wp2_with fail
  (with_reducible refine (isName_any wk w1 hwk).mono ?_); rintro e w2 ⟨rfl, hb2⟩
  have hb' := hb
  replace hb : Below w.heap.size w w2 := hb.trans (hb2.mono hb.size)
  replace HP := lid ((hb2.block _ (row_lt HP.out)).trans HP.out)
  replace HQ := lid ((hb2.block _ (row_lt HQ.out)).trans HQ.out)
  replace HT := lid ((hb2.block _ (row_lt HT.out)).trans HT.out)
  replace HJ := lid ((hb2.block _ (row_lt HJ.out)).trans HJ.out)
  replace HA := lid (HA.out.below hb2)
  clear hb2 hb'
  cases hnm : nameB wk with
  | false =>
    have HNM := lid hnm
    clear hnm
    have p0 := row_cell HP.out 0
    have p1 := row_cell HP.out 1
    have p2 := row_cell HP.out 2
    have y0 := row_fz HP.out 0
    have y1 := row_fz HP.out 1
    have y2 := row_fz HP.out 2
    have q0 := row_cell HQ.out 0
    have q1 := row_cell HQ.out 1
    have q2 := row_cell HQ.out 2
    have q3 := row_cell HQ.out 3
    have q4 := row_cell HQ.out 4
    have r0 := row_fz HQ.out 0
    have r1 := row_fz HQ.out 1
    have r2 := row_fz HQ.out 2
    have r3 := row_fz HQ.out 3
    have r4 := row_fz HQ.out 4
    have HV := lid (grant_2 HC.out HNM.out job m)
    go_wp2_with fail
    clear p0 p1 p2 y0 y1 y2 q0 q1 q2 q3 q4 r0 r1 r2 r3 r4
    obtain ⟨wf, hwf⟩ : ∃ y, wipe w.heap.size w2 = y := ⟨_, rfl⟩
    have hwr := wipe_rows HP.out HQ.out hb
    rw [hwf] at hwr
    unfold wipe at hwf
    rw [hwf]
    have p0 := row_cell hwr.1 0
    have p1 := row_cell hwr.1 1
    have p2 := row_cell hwr.1 2
    have q0 := row_cell hwr.2.1 0
    have q1 := row_cell hwr.2.1 1
    have q2 := row_cell hwr.2.1 2
    have q3 := row_cell hwr.2.1 3
    have q4 := row_cell hwr.2.1 4
    exact bodyPost_ret (v := .tuple #[.agg tz, .agg lzz, .int .i64 6]) (by simp [results, Try.results12, go_sem, p0, p1, p2, q0, q1, q2, q3, q4]) rfl ⟨.agg tz, by rw [(grant_bad HV.out (by decide)).2, HV.out]; rfl, by rw [(grant_bad HV.out (by decide)).1]; exact LsV.zero _ _, hwr.2.2⟩
  | true =>
  have HNM := lid hnm
  clear hnm
  have c0 := row_cell HT.out 0
  have c1 := row_cell HT.out 1
  have c2 := row_cell HT.out 2
  have j0 := row_cell HJ.out 0
  have j1 := row_cell HJ.out 1
  go_wp2_with fail
  clear c0 c1 c2 j0 j1
  (with_reducible refine (inRange_any' t ao n cap m w2 HOK.out.1 HOK.out.2.1).mono ?_); rintro e w3 ⟨rfl, hb3⟩
  have hb' := hb
  replace hb : Below w.heap.size w w3 := hb.trans (hb3.mono hb.size)
  replace HP := lid ((hb3.block _ (row_lt HP.out)).trans HP.out)
  replace HQ := lid ((hb3.block _ (row_lt HQ.out)).trans HQ.out)
  replace HT := lid ((hb3.block _ (row_lt HT.out)).trans HT.out)
  replace HJ := lid ((hb3.block _ (row_lt HJ.out)).trans HJ.out)
  replace HA := lid (HA.out.below hb3)
  clear hb3 hb'
  cases hft : fitB t.clock m with
  | false =>
    have HFT := lid hft
    clear hft
    have p0 := row_cell HP.out 0
    have p1 := row_cell HP.out 1
    have p2 := row_cell HP.out 2
    have y0 := row_fz HP.out 0
    have y1 := row_fz HP.out 1
    have y2 := row_fz HP.out 2
    have q0 := row_cell HQ.out 0
    have q1 := row_cell HQ.out 1
    have q2 := row_cell HQ.out 2
    have q3 := row_cell HQ.out 3
    have q4 := row_cell HQ.out 4
    have r0 := row_fz HQ.out 0
    have r1 := row_fz HQ.out 1
    have r2 := row_fz HQ.out 2
    have r3 := row_fz HQ.out 3
    have r4 := row_fz HQ.out 4
    have HV := lid (grant_3 HC.out HNM.out HFT.out job)
    go_wp2_with fail
    clear p0 p1 p2 y0 y1 y2 q0 q1 q2 q3 q4 r0 r1 r2 r3 r4
    obtain ⟨wf, hwf⟩ : ∃ y, wipe w.heap.size w3 = y := ⟨_, rfl⟩
    have hwr := wipe_rows HP.out HQ.out hb
    rw [hwf] at hwr
    unfold wipe at hwf
    rw [hwf]
    have p0 := row_cell hwr.1 0
    have p1 := row_cell hwr.1 1
    have p2 := row_cell hwr.1 2
    have q0 := row_cell hwr.2.1 0
    have q1 := row_cell hwr.2.1 1
    have q2 := row_cell hwr.2.1 2
    have q3 := row_cell hwr.2.1 3
    have q4 := row_cell hwr.2.1 4
    exact bodyPost_ret (v := .tuple #[.agg tz, .agg lzz, .int .i64 2]) (by simp [results, Try.results12, go_sem, p0, p1, p2, q0, q1, q2, q3, q4]) rfl ⟨.agg tz, by rw [(grant_bad HV.out (by decide)).2, HV.out]; rfl, by rw [(grant_bad HV.out (by decide)).1]; exact LsV.zero _ _, hwr.2.2⟩
  | true =>
  have HFT := lid hft
  clear hft
  have c0 := row_cell HT.out 0
  have c1 := row_cell HT.out 1
  have c2 := row_cell HT.out 2
  have j0 := row_cell HJ.out 0
  have j1 := row_cell HJ.out 1
  go_wp2_with fail
  clear c0 c1 c2 j0 j1
  have hn : n ≤ 1000000 := by have := HOK.out.2.2.2.2; rw [HL.out] at this; omega
  (with_reducible refine (has_any t.l n cap ao job wk w3 HL.out hn HA.out.sl).mono ?_); rintro e w4 ⟨rfl, hb4⟩
  have hb' := hb
  replace hb : Below w.heap.size w w4 := hb.trans (hb4.mono hb.size)
  replace HP := lid ((hb4.block _ (row_lt HP.out)).trans HP.out)
  replace HQ := lid ((hb4.block _ (row_lt HQ.out)).trans HQ.out)
  replace HT := lid ((hb4.block _ (row_lt HT.out)).trans HT.out)
  replace HJ := lid ((hb4.block _ (row_lt HJ.out)).trans HJ.out)
  replace HA := lid (HA.out.below hb4)
  clear hb4 hb'
  cases hhs : hasB t.l job wk with
  | true =>
    have HHS := lid hhs
    clear hhs
    have p0 := row_cell HP.out 0
    have p1 := row_cell HP.out 1
    have p2 := row_cell HP.out 2
    have y0 := row_fz HP.out 0
    have y1 := row_fz HP.out 1
    have y2 := row_fz HP.out 2
    have q0 := row_cell HQ.out 0
    have q1 := row_cell HQ.out 1
    have q2 := row_cell HQ.out 2
    have q3 := row_cell HQ.out 3
    have q4 := row_cell HQ.out 4
    have r0 := row_fz HQ.out 0
    have r1 := row_fz HQ.out 1
    have r2 := row_fz HQ.out 2
    have r3 := row_fz HQ.out 3
    have r4 := row_fz HQ.out 4
    have HV := lid (grant_4 HC.out HNM.out HFT.out HHS.out)
    go_wp2_with fail
    clear p0 p1 p2 y0 y1 y2 q0 q1 q2 q3 q4 r0 r1 r2 r3 r4
    obtain ⟨wf, hwf⟩ : ∃ y, wipe w.heap.size w4 = y := ⟨_, rfl⟩
    have hwr := wipe_rows HP.out HQ.out hb
    rw [hwf] at hwr
    unfold wipe at hwf
    rw [hwf]
    have p0 := row_cell hwr.1 0
    have p1 := row_cell hwr.1 1
    have p2 := row_cell hwr.1 2
    have q0 := row_cell hwr.2.1 0
    have q1 := row_cell hwr.2.1 1
    have q2 := row_cell hwr.2.1 2
    have q3 := row_cell hwr.2.1 3
    have q4 := row_cell hwr.2.1 4
    exact bodyPost_ret (v := .tuple #[.agg tz, .agg lzz, .int .i64 7]) (by simp [results, Try.results12, go_sem, p0, p1, p2, q0, q1, q2, q3, q4]) rfl ⟨.agg tz, by rw [(grant_bad HV.out (by decide)).2, HV.out]; rfl, by rw [(grant_bad HV.out (by decide)).1]; exact LsV.zero _ _, hwr.2.2⟩
  | false =>
  have HHS := lid hhs
  clear hhs
  have c0 := row_cell HT.out 0
  have c1 := row_cell HT.out 1
  have c2 := row_cell HT.out 2
  have j0 := row_cell HJ.out 0
  have j1 := row_cell HJ.out 1
  by_cases h256 : 256 ≤ n
  case pos =>
    have d1 : decide ((256 : Int) ≤ (n : Int)) = true := by simp; omega
    have p0 := row_cell HP.out 0
    have p1 := row_cell HP.out 1
    have p2 := row_cell HP.out 2
    have y0 := row_fz HP.out 0
    have y1 := row_fz HP.out 1
    have y2 := row_fz HP.out 2
    have q0 := row_cell HQ.out 0
    have q1 := row_cell HQ.out 1
    have q2 := row_cell HQ.out 2
    have q3 := row_cell HQ.out 3
    have q4 := row_cell HQ.out 4
    have r0 := row_fz HQ.out 0
    have r1 := row_fz HQ.out 1
    have r2 := row_fz HQ.out 2
    have r3 := row_fz HQ.out 3
    have r4 := row_fz HQ.out 4
    have HV := lid (grant_5 HC.out HNM.out HFT.out HHS.out (by rw [HL.out]; exact h256))
    go_wp2_with fail
    clear p0 p1 p2 y0 y1 y2 q0 q1 q2 q3 q4 r0 r1 r2 r3 r4
    obtain ⟨wf, hwf⟩ : ∃ y, wipe w.heap.size w4 = y := ⟨_, rfl⟩
    have hwr := wipe_rows HP.out HQ.out hb
    rw [hwf] at hwr
    unfold wipe at hwf
    rw [hwf]
    have p0 := row_cell hwr.1 0
    have p1 := row_cell hwr.1 1
    have p2 := row_cell hwr.1 2
    have q0 := row_cell hwr.2.1 0
    have q1 := row_cell hwr.2.1 1
    have q2 := row_cell hwr.2.1 2
    have q3 := row_cell hwr.2.1 3
    have q4 := row_cell hwr.2.1 4
    exact bodyPost_ret (v := .tuple #[.agg tz, .agg lzz, .int .i64 19]) (by simp [results, Try.results12, go_sem, p0, p1, p2, q0, q1, q2, q3, q4]) rfl ⟨.agg tz, by rw [(grant_bad HV.out (by decide)).2, HV.out]; rfl, by rw [(grant_bad HV.out (by decide)).1]; exact LsV.zero _ _, hwr.2.2⟩
  have d1 : decide ((256 : Int) ≤ (n : Int)) = false := by simp; omega
  by_cases hep : t.epoch = 1099511627776
  case pos =>
    have d2 : (t.epoch == 1099511627776) = true := by simpa using hep
    have HEP := lid hep
    clear hep
    have p0 := row_cell HP.out 0
    have p1 := row_cell HP.out 1
    have p2 := row_cell HP.out 2
    have y0 := row_fz HP.out 0
    have y1 := row_fz HP.out 1
    have y2 := row_fz HP.out 2
    have q0 := row_cell HQ.out 0
    have q1 := row_cell HQ.out 1
    have q2 := row_cell HQ.out 2
    have q3 := row_cell HQ.out 3
    have q4 := row_cell HQ.out 4
    have r0 := row_fz HQ.out 0
    have r1 := row_fz HQ.out 1
    have r2 := row_fz HQ.out 2
    have r3 := row_fz HQ.out 3
    have r4 := row_fz HQ.out 4
    have HV := lid (grant_6 HC.out HNM.out HFT.out HHS.out (by rw [HL.out]; exact h256) HEP.out)
    go_wp2_with fail
    clear p0 p1 p2 y0 y1 y2 q0 q1 q2 q3 q4 r0 r1 r2 r3 r4
    obtain ⟨wf, hwf⟩ : ∃ y, wipe w.heap.size w4 = y := ⟨_, rfl⟩
    have hwr := wipe_rows HP.out HQ.out hb
    rw [hwf] at hwr
    unfold wipe at hwf
    rw [hwf]
    have p0 := row_cell hwr.1 0
    have p1 := row_cell hwr.1 1
    have p2 := row_cell hwr.1 2
    have q0 := row_cell hwr.2.1 0
    have q1 := row_cell hwr.2.1 1
    have q2 := row_cell hwr.2.1 2
    have q3 := row_cell hwr.2.1 3
    have q4 := row_cell hwr.2.1 4
    exact bodyPost_ret (v := .tuple #[.agg tz, .agg lzz, .int .i64 4]) (by simp [results, Try.results12, go_sem, p0, p1, p2, q0, q1, q2, q3, q4]) rfl ⟨.agg tz, by rw [(grant_bad HV.out (by decide)).2, HV.out]; rfl, by rw [(grant_bad HV.out (by decide)).1]; exact LsV.zero _ _, hwr.2.2⟩
  have d2 : (t.epoch == 1099511627776) = false := by simpa using hep
  have HV := lid (grant_good (grant_7 HC.out HNM.out HFT.out HHS.out (by rw [HL.out]; exact h256) hep))
  have hn4 : n ≤ 10000 := by omega
  have hE : t.epoch < 1099511627776 := by have := HOK.out.2.2.2.1; omega
  go_wp2_with fail
  clear c0 c1 c2 j0 j1 d1 d2 hep
  have h4 : w.heap.size + 4 ≤ w4.heap.size := by have := row_lt HQ.out; omega
  have CW := lid (with_any t ao n cap job wk m w4 HA.out HZ.out hn4 HOK.out.1 HOK.out.2.2.1 hE (fitB_ok HFT.out).1 (fitB_ok HFT.out).2)
  obtain ⟨X, hX⟩ : ∃ X, withX t job wk m = X := ⟨_, rfl⟩
  rw [hX] at CW HV
  clear hX
  (with_reducible refine (CW.out).mono ?_); rintro e w5 ⟨v5, rfl, hown, hb5⟩
  have hb' := hb
  replace hb : Below w.heap.size w w5 := hb.trans (hb5.mono hb.size)
  replace HP := lid ((hb5.block _ (row_lt HP.out)).trans HP.out)
  replace HQ := lid ((hb5.block _ (row_lt HQ.out)).trans HQ.out)
  replace HT := lid ((hb5.block _ (row_lt HT.out)).trans HT.out)
  replace HJ := lid ((hb5.block _ (row_lt HJ.out)).trans HJ.out)
  replace HA := lid (HA.out.below hb5)
  clear hb5 hb'
  have HO5 := lid (ownsRow_base (base' := w.heap.size + 4) hown h4)
  obtain ⟨ao5, cap5, rfl⟩ := own_slice hown
  clear hown
  have HLT : Hid ((withL t t.l job wk m).l.length = n + 1 ∧ ∀ x ∈ (withL t t.l job wk m).l, x.2.1.size ≤ maxLen) := lid (with_fits HL.out HA.out.sz hwk)
  have c0 := row_cell HT.out 0
  have c1 := row_cell HT.out 1
  have c2 := row_cell HT.out 2
  have j0 := row_cell HJ.out 0
  have j1 := row_cell HJ.out 1
  have z0 := row_fz HT.out 0
  have z1 := row_fz HT.out 1
  have z2 := row_fz HT.out 2
  have lT := row_lt HT.out
  go_wp2_with fail
  have hX5 : w5.heap.size ≠ w.heap.size := by omega
  have l3 := row_lt HQ.out
  obtain ⟨W6, hW6⟩ : ∃ y, (((w5.setCell ⟨w.heap.size, 0, none⟩ (.int .i64 t.clock)).setCell ⟨w.heap.size, 1, none⟩ (.int .i64 (t.epoch + 1))).setCell ⟨w.heap.size, 2, none⟩ (.slice ao5 (n + 1) cap5)).alloc (.cells (lzc X) 31) = y := ⟨_, rfl⟩
  rw [hW6]
  have HT6 : W6.heap[w.heap.size]? = some (.cells #[.int .i64 t.clock, .int .i64 (t.epoch + 1), .slice ao5 (n + 1) cap5] 24 (0, 0)) := by
    rw [← hW6, Below.heap_alloc _ _ _ (by simp only [World.size_setCell]; omega)]
    exact row_set (row_set (row_set HT.out 0 _) 1 _) 2 _
  have HX6 : W6.heap[w5.heap.size]? = some (.cells (lzc X) 31 (0, 0)) := by
    rw [← hW6]
    have := heap_alloc_new (((w5.setCell ⟨w.heap.size, 0, none⟩ (.int .i64 t.clock)).setCell ⟨w.heap.size, 1, none⟩ (.int .i64 (t.epoch + 1))).setCell ⟨w.heap.size, 2, none⟩ (.slice ao5 (n + 1) cap5)) (.cells (lzc X) 31)
    simp only [World.size_setCell] at this
    exact this
  have HP6 : W6.heap[w.heap.size + 1 + 1]? = some (.cells tz 24 (0, 0)) := by
    rw [← hW6, Below.heap_alloc _ _ _ (by simp only [World.size_setCell]; omega)]
    exact row_other (row_other (row_other HP.out (by omega)) (by omega)) (by omega)
  have HQ6 : W6.heap[w.heap.size + 1 + 1 + 1]? = some (.cells lzz 31 (0, 0)) := by
    rw [← hW6, Below.heap_alloc _ _ _ (by simp only [World.size_setCell]; omega)]
    exact row_other (row_other (row_other HQ.out (by omega)) (by omega)) (by omega)
  have HO6 : Hid (W6.ownsRow (w.heap.size + 4) 31 5 (.slice ao5 (n + 1) cap5) (n + 1) (lzcells (withL t t.l job wk m).l)) := lid (by
    rw [← hW6]
    refine ownsRow_below ?_ (ba _ _)
    iterate 3 refine own_set ?_ (by omega)
    exact HO5.out)
  have hb6 : Below w.heap.size w W6 := by
    rw [← hW6]
    exact (((hb.setCell (p := ⟨w.heap.size, 0, none⟩) (Nat.le_refl _) _).setCell (p := ⟨w.heap.size, 1, none⟩) (Nat.le_refl _) _).setCell (p := ⟨w.heap.size, 2, none⟩) (Nat.le_refl _) _).alloc (by simp only [World.size_setCell]; omega) _
  have lW6 := row_lt HX6
  clear hW6 HO5 hb HT HP HQ HJ
  have a0 := SinceY.cell (B := W6.heap.size) (X := w.heap.size + 1 + 1) (by omega) (by omega) (by omega) (row_cell HT6 0)
  have a1 := SinceY.cell (B := W6.heap.size) (X := w.heap.size + 1 + 1) (by omega) (by omega) (by omega) (row_cell HT6 1)
  have a2 := SinceY.cell (B := W6.heap.size) (X := w.heap.size + 1 + 1) (by omega) (by omega) (by omega) (row_cell HT6 2)
  have b0 := SinceY.cell (B := W6.heap.size) (X := w.heap.size + 1 + 1) lW6 (by omega) (by omega) (row_cell HX6 0)
  have b1 := SinceY.cell (B := W6.heap.size) (X := w.heap.size + 1 + 1) lW6 (by omega) (by omega) (row_cell HX6 1)
  have b2 := SinceY.cell (B := W6.heap.size) (X := w.heap.size + 1 + 1) lW6 (by omega) (by omega) (row_cell HX6 2)
  have b3 := SinceY.cell (B := W6.heap.size) (X := w.heap.size + 1 + 1) lW6 (by omega) (by omega) (row_cell HX6 3)
  have b4 := SinceY.cell (B := W6.heap.size) (X := w.heap.size + 1 + 1) lW6 (by omega) (by omega) (row_cell HX6 4)
  refine wp_region_seq (fun w' => ∃ s : SinceY W6.heap.size (w.heap.size + 1 + 1) W6, w' = s.world) [(0, true), (1, true), (2, false), (3, false), (4, false)] (by kernel_rfl) (by kernel_rfl) (by intro c d v a w h; cases d <;> exact h) (sincey (KeptY.refl _ _ _).drew) ?_
  repeat (first | (refine seq_skip (by rfl) (by rfl) ?_; simp only [Act.put, List.setIfInBounds_toArray, List.set_cons_succ, List.set_cons_zero]) | (refine seq_float (by rfl) (by rfl) (by rfl) ?_; intro K hK; go_big_quiet_op; go_big_quiet_on))
  clear a0 a1 a2 b0 b1 b2 b3 b4
  have p0 := row_cell HP6 0
  have p1 := row_cell HP6 1
  have p2 := row_cell HP6 2
  have y0 := row_fz HP6 0
  have y1 := row_fz HP6 1
  have y2 := row_fz HP6 2
  refine seq_chain (by rfl) ?_
  intro K hK
  go_wp2_with fail
  clear p0 p1 p2 y0 y1 y2
  obtain ⟨W7, hW7⟩ : ∃ y, ((W6.setCell ⟨w.heap.size + 1 + 1, 0, none⟩ (.int .i64 t.clock)).setCell ⟨w.heap.size + 1 + 1, 1, none⟩ (.int .i64 (t.epoch + 1))).setCell ⟨w.heap.size + 1 + 1, 2, none⟩ (.slice ao5 (n + 1) cap5) = y := ⟨_, rfl⟩
  rw [hW7]
  have HP7 : W7.heap[w.heap.size + 1 + 1]? = some (.cells #[.int .i64 t.clock, .int .i64 (t.epoch + 1), .slice ao5 (n + 1) cap5] 24 (0, 0)) := by rw [← hW7]; exact row_set (row_set (row_set HP6 0 _) 1 _) 2 _
  have HQ7 : W7.heap[w.heap.size + 1 + 1 + 1]? = some (.cells lzz 31 (0, 0)) := by rw [← hW7]; exact row_other (row_other (row_other HQ6 (by omega)) (by omega)) (by omega)
  have HO7 : Hid (W7.ownsRow (w.heap.size + 4) 31 5 (.slice ao5 (n + 1) cap5) (n + 1) (lzcells (withL t t.l job wk m).l)) := lid (by
    rw [← hW7]; exact own_set (own_set (own_set HO6.out (by omega)) (by omega)) (by omega))
  have hb7 : Below w.heap.size w W7 := by
    rw [← hW7]; exact ((hb6.setCell (p := ⟨w.heap.size + 1 + 1, 0, none⟩) (by simp only; omega) _).setCell (p := ⟨w.heap.size + 1 + 1, 1, none⟩) (by simp only; omega) _).setCell (p := ⟨w.heap.size + 1 + 1, 2, none⟩) (by simp only; omega) _
  have hk7 : KeptY W6.heap.size (w.heap.size + 1 + 1) W6 W7.drew := by
    rw [← hW7]; exact ((((KeptY.refl W6.heap.size (w.heap.size + 1 + 1) W6).setCell (p := ⟨w.heap.size + 1 + 1, 0, none⟩) (.inl rfl) _).setCell (p := ⟨w.heap.size + 1 + 1, 1, none⟩) (.inl rfl) _).setCell (p := ⟨w.heap.size + 1 + 1, 2, none⟩) (.inl rfl) _).drew
  clear hW7 HO6 HP6 HQ6 hb6 HT6 HX6
  refine hK.out _ _ (sincey hk7) ?_
  clear hK K
  repeat (first | (refine seq_skip (by rfl) (by rfl) ?_; simp only [Act.put, List.setIfInBounds_toArray, List.set_cons_succ, List.set_cons_zero]) | (refine seq_float (by rfl) (by rfl) (by rfl) ?_; intro K hK; go_big_quiet_op; go_big_quiet_on))
  have p0 := row_cell HQ7 0
  have p1 := row_cell HQ7 1
  have p2 := row_cell HQ7 2
  have p3 := row_cell HQ7 3
  have p4 := row_cell HQ7 4
  have y0 := row_fz HQ7 0
  have y1 := row_fz HQ7 1
  have y2 := row_fz HQ7 2
  have y3 := row_fz HQ7 3
  have y4 := row_fz HQ7 4
  refine seq_chain (by rfl) ?_
  intro K hK
  go_wp2_with fail
  clear p0 p1 p2 p3 p4 y0 y1 y2 y3 y4
  obtain ⟨W8, hW8⟩ : ∃ y, ((((W7.setCell ⟨w.heap.size + 1 + 1 + 1, 0, none⟩ (.int .u64 X.1.1.toNat)).setCell ⟨w.heap.size + 1 + 1 + 1, 1, none⟩ (.int .u64 X.1.2.toNat)).setCell ⟨w.heap.size + 1 + 1 + 1, 2, none⟩ (.string X.2.1)).setCell ⟨w.heap.size + 1 + 1 + 1, 3, none⟩ (.int .i64 X.2.2.1)).setCell ⟨w.heap.size + 1 + 1 + 1, 4, none⟩ (.int .i64 X.2.2.2) = y := ⟨_, rfl⟩
  rw [hW8]
  have HP8 : W8.heap[w.heap.size + 1 + 1]? = some (.cells #[.int .i64 t.clock, .int .i64 (t.epoch + 1), .slice ao5 (n + 1) cap5] 24 (0, 0)) := by
    rw [← hW8]
    iterate 5 refine row_other ?_ (by omega)
    exact HP7
  have HQ8 : W8.heap[w.heap.size + 1 + 1 + 1]? = some (.cells (lzc X) 31 (0, 0)) := by rw [← hW8]; exact row_set (row_set (row_set (row_set (row_set HQ7 0 _) 1 _) 2 _) 3 _) 4 _
  have HO8 : Hid (W8.ownsRow (w.heap.size + 4) 31 5 (.slice ao5 (n + 1) cap5) (n + 1) (lzcells (withL t t.l job wk m).l)) := lid (by
    rw [← hW8]
    iterate 5 refine own_set ?_ (by omega)
    exact HO7.out)
  have hb8 : Below w.heap.size w W8 := by
    rw [← hW8]; exact ((((hb7.setCell (p := ⟨w.heap.size + 1 + 1 + 1, 0, none⟩) (by simp only; omega) _).setCell (p := ⟨w.heap.size + 1 + 1 + 1, 1, none⟩) (by simp only; omega) _).setCell (p := ⟨w.heap.size + 1 + 1 + 1, 2, none⟩) (by simp only; omega) _).setCell (p := ⟨w.heap.size + 1 + 1 + 1, 3, none⟩) (by simp only; omega) _).setCell (p := ⟨w.heap.size + 1 + 1 + 1, 4, none⟩) (by simp only; omega) _
  have hk8 : KeptY W6.heap.size (w.heap.size + 1 + 1) W6 W8.drew := by
    rw [← hW8]
    exact (((((hk7.setCell (p := ⟨w.heap.size + 1 + 1 + 1, 0, none⟩) (.inr rfl) _).setCell (p := ⟨w.heap.size + 1 + 1 + 1, 1, none⟩) (.inr rfl) _).setCell (p := ⟨w.heap.size + 1 + 1 + 1, 2, none⟩) (.inr rfl) _).setCell (p := ⟨w.heap.size + 1 + 1 + 1, 3, none⟩) (.inr rfl) _).setCell (p := ⟨w.heap.size + 1 + 1 + 1, 4, none⟩) (.inr rfl) _).drew
  clear hW8 HO7 HP7 HQ7 hb7 hk7
  refine hK.out _ _ (sincey hk8) ?_
  clear hK K
  refine seq_chain (by rfl) ?_
  intro K hK
  go_wp2_with fail
  refine hK.out _ _ (sincey hk8) ?_
  clear hK K hk8
  refine seq_nil ?_
  have p0 := row_cell HP8 0
  have p1 := row_cell HP8 1
  have p2 := row_cell HP8 2
  have q0 := row_cell HQ8 0
  have q1 := row_cell HQ8 1
  have q2 := row_cell HQ8 2
  have q3 := row_cell HQ8 3
  have q4 := row_cell HQ8 4
  go_wp2_with fail
  have hLV : LsV (withL t t.l job wk m) w.heap.size W8.drew (.agg #[.int .i64 t.clock, .int .i64 (t.epoch + 1), .slice ao5 (n + 1) cap5]) := LsV.own (T := withL t t.l job wk m) (show W8.drew.ownsRow _ _ _ _ _ _ from HO8.out) (by omega) HLT.out.1 (by simp only [maxLen]; omega) HLT.out.2
  exact bodyPost_ret (v := .tuple #[.agg #[.int .i64 t.clock, .int .i64 (t.epoch + 1), .slice ao5 (n + 1) cap5], .agg (lzc X), .int .i64 0]) (by simp [results, Try.results12, go_sem, p0, p1, p2, q0, q1, q2, q3, q4]) rfl ⟨_, by rw [HV.out.2.1, HV.out.2.2], by rw [HV.out.1]; exact hLV, hb8.drew⟩
set_option maxRecDepth 100000 in
set_option maxHeartbeats 16000000 in
theorem renew_any (t : Ls) (ao : Option Addr) (n cap : Nat) (x : Lz) (m : Int) (w : World) (h : LsA w ao n t) (hcap : n ≤ cap) (hz : ao = none → cap = 0) (hwk : x.2.1.size ≤ maxLen) :
    Calls Try.prog 19 #[.agg (tcells t ao n cap), .agg (lzc x), .int .i64 m] w fun e w' => GrR (renewL t x m) (renewX t x m) (renewE t x m) w e w' := by
  obtain ⟨W, hW⟩ : ∃ y, (((w.alloc (.cells #[.int .i64 t.clock, .int .i64 t.epoch, .slice ao n cap] 24)).alloc (.cells (lzc x) 31)).alloc (.cells tz 24)).alloc (.cells lzz 31) = y := ⟨_, rfl⟩
  have hb : Below w.heap.size w W := by
    rw [← hW]
    exact ((((Below.refl _ _).alloc (Nat.le_refl _) _).alloc (by simp) _).alloc (by simp; omega) _).alloc (by simp; omega) _
  have HT : Hid (W.heap[w.heap.size]? = some (.cells (tcells t ao n cap) 24 (0, 0))) := lid (by
    rw [← hW]
    iterate 3 rw [Below.heap_alloc _ _ _ (by simp only [World.size_alloc]; omega)]
    exact heap_alloc_new _ _)
  have HJ : Hid (W.heap[w.heap.size + 1]? = some (.cells (lzc x) 31 (0, 0))) := lid (by
    rw [← hW]
    iterate 2 rw [Below.heap_alloc _ _ _ (by simp only [World.size_alloc]; omega)]
    have := heap_alloc_new (w.alloc (.cells #[.int .i64 t.clock, .int .i64 t.epoch, .slice ao n cap] 24)) (.cells (lzc x) 31)
    simp only [World.size_alloc] at this
    exact this)
  have HP : Hid (tzRow (w.heap.size + 1 + 1) W) := lid (by
    rw [← hW]; unfold tzRow
    iterate 1 rw [Below.heap_alloc _ _ _ (by simp only [World.size_alloc]; omega)]
    have := heap_alloc_new ((w.alloc (.cells #[.int .i64 t.clock, .int .i64 t.epoch, .slice ao n cap] 24)).alloc (.cells (lzc x) 31)) (.cells tz 24)
    simp only [World.size_alloc] at this
    exact this)
  have HQ : Hid (lzRow (w.heap.size + 1 + 1 + 1) W) := lid (by
    rw [← hW]; unfold lzRow
    have := heap_alloc_new (((w.alloc (.cells #[.int .i64 t.clock, .int .i64 t.epoch, .slice ao n cap] 24)).alloc (.cells (lzc x) 31)).alloc (.cells tz 24)) (.cells lzz 31)
    simp only [World.size_alloc] at this
    exact this)
  have HW := lid hW
  have HA := lid (h.below hb)
  have HZ := lid hz
  have HL := lid h.len
  clear h hz hW
  go_enter Try.func19, Try.ntmps19
  have c0 := row_cell HT.out 0
  have c1 := row_cell HT.out 1
  have c2 := row_cell HT.out 2
  rw [← HW.out] at c0 c1 c2
  go_wp2_with fail
  rw [HW.out]
  clear HW c0 c1 c2
  have CK := lid (leaCheck_any t ao n cap W HA.out hcap)
  obtain ⟨c, hc⟩ : ∃ c, checkLs t = c := ⟨_, rfl⟩
  rw [hc] at CK
  have HC := lid hc
  clear hc
  (with_reducible refine (CK.out).mono ?_); rintro e w1 ⟨rfl, hb1⟩
  have hb' := hb
  replace hb : Below w.heap.size w w1 := hb.trans (hb1.mono hb.size)
  replace HP := lid ((hb1.block _ (row_lt HP.out)).trans HP.out)
  replace HQ := lid ((hb1.block _ (row_lt HQ.out)).trans HQ.out)
  replace HT := lid ((hb1.block _ (row_lt HT.out)).trans HT.out)
  replace HJ := lid ((hb1.block _ (row_lt HJ.out)).trans HJ.out)
  replace HA := lid (HA.out.below hb1)
  clear hb1 hb'
  clear CK
  by_cases hc0 : c = 0
  case neg =>
    have d0 : (c == 0) = false := by simpa using hc0
    have p0 := row_cell HP.out 0
    have p1 := row_cell HP.out 1
    have p2 := row_cell HP.out 2
    have y0 := row_fz HP.out 0
    have y1 := row_fz HP.out 1
    have y2 := row_fz HP.out 2
    have q0 := row_cell HQ.out 0
    have q1 := row_cell HQ.out 1
    have q2 := row_cell HQ.out 2
    have q3 := row_cell HQ.out 3
    have q4 := row_cell HQ.out 4
    have r0 := row_fz HQ.out 0
    have r1 := row_fz HQ.out 1
    have r2 := row_fz HQ.out 2
    have r3 := row_fz HQ.out 3
    have r4 := row_fz HQ.out 4
    have HV := lid (renew_1 (by rw [HC.out]; exact hc0) x m)
    go_wp2_with fail
    clear p0 p1 p2 y0 y1 y2 q0 q1 q2 q3 q4 r0 r1 r2 r3 r4
    obtain ⟨wf, hwf⟩ : ∃ y, wipe w.heap.size w1 = y := ⟨_, rfl⟩
    have hwr := wipe_rows HP.out HQ.out hb
    rw [hwf] at hwr
    unfold wipe at hwf
    rw [hwf]
    have p0 := row_cell hwr.1 0
    have p1 := row_cell hwr.1 1
    have p2 := row_cell hwr.1 2
    have q0 := row_cell hwr.2.1 0
    have q1 := row_cell hwr.2.1 1
    have q2 := row_cell hwr.2.1 2
    have q3 := row_cell hwr.2.1 3
    have q4 := row_cell hwr.2.1 4
    exact bodyPost_ret (v := .tuple #[.agg tz, .agg lzz, .int .i64 1]) (by simp [results, Try.results19, go_sem, p0, p1, p2, q0, q1, q2, q3, q4]) rfl ⟨.agg tz, by rw [(renew_bad HV.out (by decide)).2, HV.out]; rfl, by rw [(renew_bad HV.out (by decide)).1]; exact LsV.zero _ _, hwr.2.2⟩
  subst hc0
  have HOK := lid (checkLs_ok HC.out)
  have c0 := row_cell HT.out 0
  have c1 := row_cell HT.out 1
  have c2 := row_cell HT.out 2
  have j0 := row_cell HJ.out 0
  have j1 := row_cell HJ.out 1
  have j2 := row_cell HJ.out 2
  have j3 := row_cell HJ.out 3
  have j4 := row_cell HJ.out 4
  go_wp2_with fail
  clear c0 c1 c2 j0 j1 j2 j3 j4
  have hn : n ≤ 1000000 := by have := HOK.out.2.2.2.2; rw [HL.out] at this; omega
  (with_reducible refine (lzContains_any t.l n cap ao x w1 HL.out hn HA.out.sl).mono ?_); rintro e w2 ⟨rfl, hb2⟩
  have hb' := hb
  replace hb : Below w.heap.size w w2 := hb.trans (hb2.mono hb.size)
  replace HP := lid ((hb2.block _ (row_lt HP.out)).trans HP.out)
  replace HQ := lid ((hb2.block _ (row_lt HQ.out)).trans HQ.out)
  replace HT := lid ((hb2.block _ (row_lt HT.out)).trans HT.out)
  replace HJ := lid ((hb2.block _ (row_lt HJ.out)).trans HJ.out)
  replace HA := lid (HA.out.below hb2)
  clear hb2 hb'
  cases hmm : memB t.l x with
  | false =>
    have HMM := lid hmm
    clear hmm
    have p0 := row_cell HP.out 0
    have p1 := row_cell HP.out 1
    have p2 := row_cell HP.out 2
    have y0 := row_fz HP.out 0
    have y1 := row_fz HP.out 1
    have y2 := row_fz HP.out 2
    have q0 := row_cell HQ.out 0
    have q1 := row_cell HQ.out 1
    have q2 := row_cell HQ.out 2
    have q3 := row_cell HQ.out 3
    have q4 := row_cell HQ.out 4
    have r0 := row_fz HQ.out 0
    have r1 := row_fz HQ.out 1
    have r2 := row_fz HQ.out 2
    have r3 := row_fz HQ.out 3
    have r4 := row_fz HQ.out 4
    have HV := lid (renew_2 HC.out HMM.out m)
    go_wp2_with fail
    clear p0 p1 p2 y0 y1 y2 q0 q1 q2 q3 q4 r0 r1 r2 r3 r4
    obtain ⟨wf, hwf⟩ : ∃ y, wipe w.heap.size w2 = y := ⟨_, rfl⟩
    have hwr := wipe_rows HP.out HQ.out hb
    rw [hwf] at hwr
    unfold wipe at hwf
    rw [hwf]
    have p0 := row_cell hwr.1 0
    have p1 := row_cell hwr.1 1
    have p2 := row_cell hwr.1 2
    have q0 := row_cell hwr.2.1 0
    have q1 := row_cell hwr.2.1 1
    have q2 := row_cell hwr.2.1 2
    have q3 := row_cell hwr.2.1 3
    have q4 := row_cell hwr.2.1 4
    exact bodyPost_ret (v := .tuple #[.agg tz, .agg lzz, .int .i64 28]) (by simp [results, Try.results19, go_sem, p0, p1, p2, q0, q1, q2, q3, q4]) rfl ⟨.agg tz, by rw [(renew_bad HV.out (by decide)).2, HV.out]; rfl, by rw [(renew_bad HV.out (by decide)).1]; exact LsV.zero _ _, hwr.2.2⟩
  | true =>
  have HMM := lid hmm
  clear hmm
  have c0 := row_cell HT.out 0
  have c1 := row_cell HT.out 1
  have c2 := row_cell HT.out 2
  have j0 := row_cell HJ.out 0
  have j1 := row_cell HJ.out 1
  have j2 := row_cell HJ.out 2
  have j3 := row_cell HJ.out 3
  have j4 := row_cell HJ.out 4
  go_wp2_with fail
  clear c0 c1 c2 j0 j1 j2 j3 j4
  (with_reducible refine (inRange_any' t ao n cap m w2 HOK.out.1 HOK.out.2.1).mono ?_); rintro e w3 ⟨rfl, hb3⟩
  have hb' := hb
  replace hb : Below w.heap.size w w3 := hb.trans (hb3.mono hb.size)
  replace HP := lid ((hb3.block _ (row_lt HP.out)).trans HP.out)
  replace HQ := lid ((hb3.block _ (row_lt HQ.out)).trans HQ.out)
  replace HT := lid ((hb3.block _ (row_lt HT.out)).trans HT.out)
  replace HJ := lid ((hb3.block _ (row_lt HJ.out)).trans HJ.out)
  replace HA := lid (HA.out.below hb3)
  clear hb3 hb'
  cases hft : fitB t.clock m with
  | false =>
    have HFT := lid hft
    clear hft
    have p0 := row_cell HP.out 0
    have p1 := row_cell HP.out 1
    have p2 := row_cell HP.out 2
    have y0 := row_fz HP.out 0
    have y1 := row_fz HP.out 1
    have y2 := row_fz HP.out 2
    have q0 := row_cell HQ.out 0
    have q1 := row_cell HQ.out 1
    have q2 := row_cell HQ.out 2
    have q3 := row_cell HQ.out 3
    have q4 := row_cell HQ.out 4
    have r0 := row_fz HQ.out 0
    have r1 := row_fz HQ.out 1
    have r2 := row_fz HQ.out 2
    have r3 := row_fz HQ.out 3
    have r4 := row_fz HQ.out 4
    have HV := lid (renew_3 HC.out HMM.out HFT.out)
    go_wp2_with fail
    clear p0 p1 p2 y0 y1 y2 q0 q1 q2 q3 q4 r0 r1 r2 r3 r4
    obtain ⟨wf, hwf⟩ : ∃ y, wipe w.heap.size w3 = y := ⟨_, rfl⟩
    have hwr := wipe_rows HP.out HQ.out hb
    rw [hwf] at hwr
    unfold wipe at hwf
    rw [hwf]
    have p0 := row_cell hwr.1 0
    have p1 := row_cell hwr.1 1
    have p2 := row_cell hwr.1 2
    have q0 := row_cell hwr.2.1 0
    have q1 := row_cell hwr.2.1 1
    have q2 := row_cell hwr.2.1 2
    have q3 := row_cell hwr.2.1 3
    have q4 := row_cell hwr.2.1 4
    exact bodyPost_ret (v := .tuple #[.agg tz, .agg lzz, .int .i64 2]) (by simp [results, Try.results19, go_sem, p0, p1, p2, q0, q1, q2, q3, q4]) rfl ⟨.agg tz, by rw [(renew_bad HV.out (by decide)).2, HV.out]; rfl, by rw [(renew_bad HV.out (by decide)).1]; exact LsV.zero _ _, hwr.2.2⟩
  | true =>
  have HFT := lid hft
  clear hft
  have c0 := row_cell HT.out 0
  have c1 := row_cell HT.out 1
  have c2 := row_cell HT.out 2
  have j0 := row_cell HJ.out 0
  have j1 := row_cell HJ.out 1
  have j2 := row_cell HJ.out 2
  have j3 := row_cell HJ.out 3
  have j4 := row_cell HJ.out 4
  by_cases hep : t.epoch = 1099511627776
  case pos =>
    have d2 : (t.epoch == 1099511627776) = true := by simpa using hep
    have HEP := lid hep
    clear hep
    have p0 := row_cell HP.out 0
    have p1 := row_cell HP.out 1
    have p2 := row_cell HP.out 2
    have y0 := row_fz HP.out 0
    have y1 := row_fz HP.out 1
    have y2 := row_fz HP.out 2
    have q0 := row_cell HQ.out 0
    have q1 := row_cell HQ.out 1
    have q2 := row_cell HQ.out 2
    have q3 := row_cell HQ.out 3
    have q4 := row_cell HQ.out 4
    have r0 := row_fz HQ.out 0
    have r1 := row_fz HQ.out 1
    have r2 := row_fz HQ.out 2
    have r3 := row_fz HQ.out 3
    have r4 := row_fz HQ.out 4
    have HV := lid (renew_4 HC.out HMM.out HFT.out HEP.out)
    go_wp2_with fail
    clear p0 p1 p2 y0 y1 y2 q0 q1 q2 q3 q4 r0 r1 r2 r3 r4
    obtain ⟨wf, hwf⟩ : ∃ y, wipe w.heap.size w3 = y := ⟨_, rfl⟩
    have hwr := wipe_rows HP.out HQ.out hb
    rw [hwf] at hwr
    unfold wipe at hwf
    rw [hwf]
    have p0 := row_cell hwr.1 0
    have p1 := row_cell hwr.1 1
    have p2 := row_cell hwr.1 2
    have q0 := row_cell hwr.2.1 0
    have q1 := row_cell hwr.2.1 1
    have q2 := row_cell hwr.2.1 2
    have q3 := row_cell hwr.2.1 3
    have q4 := row_cell hwr.2.1 4
    exact bodyPost_ret (v := .tuple #[.agg tz, .agg lzz, .int .i64 4]) (by simp [results, Try.results19, go_sem, p0, p1, p2, q0, q1, q2, q3, q4]) rfl ⟨.agg tz, by rw [(renew_bad HV.out (by decide)).2, HV.out]; rfl, by rw [(renew_bad HV.out (by decide)).1]; exact LsV.zero _ _, hwr.2.2⟩
  have d2 : (t.epoch == 1099511627776) = false := by simpa using hep
  have HV := lid (renew_good (renew_5 HC.out HMM.out HFT.out hep))
  have hn4 : n ≤ 10000 := by have := HOK.out.2.2.2.2; rw [HL.out] at this; omega
  have hE : t.epoch < 1099511627776 := by have := HOK.out.2.2.2.1; omega
  have hl1 : w.heap.size + 1 < w3.heap.size := row_lt HJ.out
  have h4 : w.heap.size + 4 ≤ w3.heap.size := by have := row_lt HQ.out; omega
  have hXB : XBox w3 (w.heap.size + 1) x := ⟨hl1, (row_cell HJ.out 0).trans rfl, (row_cell HJ.out 1).trans rfl, (row_cell HJ.out 2).trans rfl, (row_cell HJ.out 3).trans rfl, (row_cell HJ.out 4).trans rfl⟩
  have CO := lid (without_any t ao n cap (.func (.func 40) #[] #[.pointer (some ⟨w.heap.size + 1, 0, none⟩)]) (fun y => decide (y = x)) w3 HA.out HZ.out hn4 (fun v w' hs hz' hb' => DeleteFunc_renew t.l v n (w.heap.size + 1) _ (w3.heap.size + 2) w' HL.out hn hs hz' (fun w'' hb'' => renew_asks (w.heap.size + 1) x w'' (hXB.below (hb'.trans (hb''.mono (by omega)))))))
  clear hXB
  go_wp2_with fail
  clear c0 c1 c2 j0 j1 j2 j3 j4 d2 hep
  (with_reducible refine (CO.out).mono ?_); rintro e w4 ⟨v4, rfl, hown, hb4⟩
  clear CO
  have hb' := hb
  replace hb : Below w.heap.size w w4 := hb.trans (hb4.mono hb.size)
  replace HP := lid ((hb4.block _ (row_lt HP.out)).trans HP.out)
  replace HQ := lid ((hb4.block _ (row_lt HQ.out)).trans HQ.out)
  replace HT := lid ((hb4.block _ (row_lt HT.out)).trans HT.out)
  replace HJ := lid ((hb4.block _ (row_lt HJ.out)).trans HJ.out)
  replace HA := lid (HA.out.below hb4)
  clear hb4 hb'
  have HLL : Hid (lessL t.l x = t.l.filter fun y => !decide (y = x)) := lid rfl
  rw [← HLL.out] at hown
  clear HLL
  have HLE := lid (lessL_le t.l x)
  have HSZ : Hid (∀ y ∈ lessL t.l x, y.2.1.size ≤ maxLen) := lid (fun y hy => HA.out.sz y (List.mem_filter.1 hy).1)
  obtain ⟨l', hl'⟩ : ∃ l', lessL t.l x = l' := ⟨_, rfl⟩
  rw [hl'] at hown HLE HSZ HV
  clear hl'
  obtain ⟨q, hq⟩ : ∃ q, l'.length = q := ⟨_, rfl⟩
  rw [hq] at hown HLE
  have HQL := lid hq
  have hqn : q ≤ n := by have := HLE.out; rw [HL.out] at this; exact this
  have HO4 := lid (ownsRow_base (base' := w.heap.size + 4) hown h4)
  obtain ⟨ao4, cap4, rfl⟩ := own_slice hown
  have HSL := own_cap hown
  have HZ4 : Hid (ao4 = none → cap4 = 0) := lid (own_zero hown)
  clear hown hq HLE
  have c0 := row_cell HT.out 0
  have c1 := row_cell HT.out 1
  have c2 := row_cell HT.out 2
  have j0 := row_cell HJ.out 0
  have j1 := row_cell HJ.out 1
  have j2 := row_cell HJ.out 2
  have j3 := row_cell HJ.out 3
  have j4 := row_cell HJ.out 4
  have z0 := row_fz HT.out 0
  have z1 := row_fz HT.out 1
  have z2 := row_fz HT.out 2
  go_wp2_with fail
  clear c0 c1 c2 j0 j1 j2 j3 j4 z0 z1 z2
  obtain ⟨wS, hwS⟩ : ∃ y, ((w4.setCell ⟨w.heap.size, 0, none⟩ (.int .i64 t.clock)).setCell ⟨w.heap.size, 1, none⟩ (.int .i64 t.epoch)).setCell ⟨w.heap.size, 2, none⟩ (.slice ao4 q cap4) = y := ⟨_, rfl⟩
  rw [hwS]
  replace HT : Hid (wS.heap[w.heap.size]? = some (.cells (tcells ⟨t.clock, t.epoch, l'⟩ ao4 q cap4) 24 (0, 0))) := lid (by rw [← hwS]; exact row_set (row_set (row_set HT.out 0 _) 1 _) 2 _)
  replace HP : Hid (tzRow (w.heap.size + 1 + 1) wS) := lid (by rw [← hwS]; exact row_other (row_other (row_other HP.out (by omega)) (by omega)) (by omega))
  replace HQ : Hid (lzRow (w.heap.size + 1 + 1 + 1) wS) := lid (by rw [← hwS]; exact row_other (row_other (row_other HQ.out (by omega)) (by omega)) (by omega))
  replace HJ : Hid (wS.heap[w.heap.size + 1]? = some (.cells (lzc x) 31 (0, 0))) := lid (by rw [← hwS]; exact row_other (row_other (row_other HJ.out (by omega)) (by omega)) (by omega))
  replace hb : Below w.heap.size w wS := by rw [← hwS]; exact ((hb.setCell (p := ⟨w.heap.size, 0, none⟩) (Nat.le_refl _) _).setCell (p := ⟨w.heap.size, 1, none⟩) (Nat.le_refl _) _).setCell (p := ⟨w.heap.size, 2, none⟩) (Nat.le_refl _) _
  replace HO4 : Hid (wS.ownsRow (w.heap.size + 4) 31 5 (.slice ao4 q cap4) q (lzcells l')) := lid (by
    rw [← hwS]
    iterate 3 refine own_set ?_ (by omega)
    exact HO4.out)
  clear hwS
  replace HA : Hid (LsA wS ao4 q ⟨t.clock, t.epoch, l'⟩) := lid ⟨HQL.out, own_sl HO4.out, by simp only [maxLen]; omega, HSZ.out⟩
  have hS4 : w.heap.size + 4 ≤ wS.heap.size := by have := row_lt HQ.out; omega
  have CW := lid (with_any ⟨t.clock, t.epoch, l'⟩ ao4 q cap4 x.1 x.2.1 m wS HA.out HZ4.out (by omega) HOK.out.1 HOK.out.2.2.1 hE (fitB_ok HFT.out).1 (fitB_ok HFT.out).2)
  have HXX : Hid (withX ⟨t.clock, t.epoch, l'⟩ x.1 x.2.1 m = withX t x.1 x.2.1 m) := lid rfl
  have HTT : Hid (withL ⟨t.clock, t.epoch, l'⟩ l' x.1 x.2.1 m = withL t l' x.1 x.2.1 m) := lid rfl
  obtain ⟨X, hX⟩ : ∃ X, withX t x.1 x.2.1 m = X := ⟨_, rfl⟩
  rw [HXX.out, HTT.out, hX] at CW
  rw [hX] at HV
  clear hX HXX HTT
  (with_reducible refine (CW.out).mono ?_); rintro e w5 ⟨v5, rfl, hown, hb5⟩
  have hb' := hb
  replace hb : Below w.heap.size w w5 := hb.trans (hb5.mono hb.size)
  replace HP := lid ((hb5.block _ (row_lt HP.out)).trans HP.out)
  replace HQ := lid ((hb5.block _ (row_lt HQ.out)).trans HQ.out)
  replace HT := lid ((hb5.block _ (row_lt HT.out)).trans HT.out)
  replace HJ := lid ((hb5.block _ (row_lt HJ.out)).trans HJ.out)
  replace HA := lid (HA.out.below hb5)
  clear hb5 hb'
  have HO5 := lid (ownsRow_base (base' := w.heap.size + 4) hown hS4)
  obtain ⟨ao5, cap5, rfl⟩ := own_slice hown
  clear hown CW HO4
  have HLT : Hid ((withL t l' x.1 x.2.1 m).l.length = q + 1 ∧ ∀ y ∈ (withL t l' x.1 x.2.1 m).l, y.2.1.size ≤ maxLen) := lid (with_fits HQL.out HSZ.out hwk)
  have c0 := row_cell HT.out 0
  have c1 := row_cell HT.out 1
  have c2 := row_cell HT.out 2
  have j0 := row_cell HJ.out 0
  have j1 := row_cell HJ.out 1
  have j2 := row_cell HJ.out 2
  have j3 := row_cell HJ.out 3
  have j4 := row_cell HJ.out 4
  have z0 := row_fz HT.out 0
  have z1 := row_fz HT.out 1
  have z2 := row_fz HT.out 2
  have lT := row_lt HT.out
  go_wp2_with fail
  clear c0 c1 c2 j0 j1 j2 j3 j4 z0 z1 z2
  have hX5 : w5.heap.size ≠ w.heap.size := by omega
  have l3 := row_lt HQ.out
  obtain ⟨W6, hW6⟩ : ∃ y, (((w5.setCell ⟨w.heap.size, 0, none⟩ (.int .i64 t.clock)).setCell ⟨w.heap.size, 1, none⟩ (.int .i64 (t.epoch + 1))).setCell ⟨w.heap.size, 2, none⟩ (.slice ao5 (q + 1) cap5)).alloc (.cells (lzc X) 31) = y := ⟨_, rfl⟩
  rw [hW6]
  have HT6 : W6.heap[w.heap.size]? = some (.cells #[.int .i64 t.clock, .int .i64 (t.epoch + 1), .slice ao5 (q + 1) cap5] 24 (0, 0)) := by
    rw [← hW6, Below.heap_alloc _ _ _ (by simp only [World.size_setCell]; omega)]
    exact row_set (row_set (row_set HT.out 0 _) 1 _) 2 _
  have HX6 : W6.heap[w5.heap.size]? = some (.cells (lzc X) 31 (0, 0)) := by
    rw [← hW6]
    have := heap_alloc_new (((w5.setCell ⟨w.heap.size, 0, none⟩ (.int .i64 t.clock)).setCell ⟨w.heap.size, 1, none⟩ (.int .i64 (t.epoch + 1))).setCell ⟨w.heap.size, 2, none⟩ (.slice ao5 (q + 1) cap5)) (.cells (lzc X) 31)
    simp only [World.size_setCell] at this
    exact this
  have HP6 : W6.heap[w.heap.size + 1 + 1]? = some (.cells tz 24 (0, 0)) := by
    rw [← hW6, Below.heap_alloc _ _ _ (by simp only [World.size_setCell]; omega)]
    exact row_other (row_other (row_other HP.out (by omega)) (by omega)) (by omega)
  have HQ6 : W6.heap[w.heap.size + 1 + 1 + 1]? = some (.cells lzz 31 (0, 0)) := by
    rw [← hW6, Below.heap_alloc _ _ _ (by simp only [World.size_setCell]; omega)]
    exact row_other (row_other (row_other HQ.out (by omega)) (by omega)) (by omega)
  have HO6 : Hid (W6.ownsRow (w.heap.size + 4) 31 5 (.slice ao5 (q + 1) cap5) (q + 1) (lzcells (withL t l' x.1 x.2.1 m).l)) := lid (by
    rw [← hW6]
    refine ownsRow_below ?_ (ba _ _)
    iterate 3 refine own_set ?_ (by omega)
    exact HO5.out)
  have hb6 : Below w.heap.size w W6 := by
    rw [← hW6]
    exact (((hb.setCell (p := ⟨w.heap.size, 0, none⟩) (Nat.le_refl _) _).setCell (p := ⟨w.heap.size, 1, none⟩) (Nat.le_refl _) _).setCell (p := ⟨w.heap.size, 2, none⟩) (Nat.le_refl _) _).alloc (by simp only [World.size_setCell]; omega) _
  have lW6 := row_lt HX6
  clear hW6 HO5 hb HT HP HQ HJ
  have a0 := SinceY.cell (B := W6.heap.size) (X := w.heap.size + 1 + 1) (by omega) (by omega) (by omega) (row_cell HT6 0)
  have a1 := SinceY.cell (B := W6.heap.size) (X := w.heap.size + 1 + 1) (by omega) (by omega) (by omega) (row_cell HT6 1)
  have a2 := SinceY.cell (B := W6.heap.size) (X := w.heap.size + 1 + 1) (by omega) (by omega) (by omega) (row_cell HT6 2)
  have b0 := SinceY.cell (B := W6.heap.size) (X := w.heap.size + 1 + 1) lW6 (by omega) (by omega) (row_cell HX6 0)
  have b1 := SinceY.cell (B := W6.heap.size) (X := w.heap.size + 1 + 1) lW6 (by omega) (by omega) (row_cell HX6 1)
  have b2 := SinceY.cell (B := W6.heap.size) (X := w.heap.size + 1 + 1) lW6 (by omega) (by omega) (row_cell HX6 2)
  have b3 := SinceY.cell (B := W6.heap.size) (X := w.heap.size + 1 + 1) lW6 (by omega) (by omega) (row_cell HX6 3)
  have b4 := SinceY.cell (B := W6.heap.size) (X := w.heap.size + 1 + 1) lW6 (by omega) (by omega) (row_cell HX6 4)
  refine wp_region_seq (fun w' => ∃ s : SinceY W6.heap.size (w.heap.size + 1 + 1) W6, w' = s.world) [(0, true), (1, true), (2, false), (3, false), (4, false)] (by kernel_rfl) (by kernel_rfl) (by intro c d v a w h; cases d <;> exact h) (sincey (KeptY.refl _ _ _).drew) ?_
  repeat (first | (refine seq_skip (by rfl) (by rfl) ?_; simp only [Act.put, List.setIfInBounds_toArray, List.set_cons_succ, List.set_cons_zero]) | (refine seq_float (by rfl) (by rfl) (by rfl) ?_; intro K hK; go_big_quiet_op; go_big_quiet_on))
  clear a0 a1 a2 b0 b1 b2 b3 b4
  have p0 := row_cell HP6 0
  have p1 := row_cell HP6 1
  have p2 := row_cell HP6 2
  have y0 := row_fz HP6 0
  have y1 := row_fz HP6 1
  have y2 := row_fz HP6 2
  refine seq_chain (by rfl) ?_
  intro K hK
  go_wp2_with fail
  clear p0 p1 p2 y0 y1 y2
  obtain ⟨W7, hW7⟩ : ∃ y, ((W6.setCell ⟨w.heap.size + 1 + 1, 0, none⟩ (.int .i64 t.clock)).setCell ⟨w.heap.size + 1 + 1, 1, none⟩ (.int .i64 (t.epoch + 1))).setCell ⟨w.heap.size + 1 + 1, 2, none⟩ (.slice ao5 (q + 1) cap5) = y := ⟨_, rfl⟩
  rw [hW7]
  have HP7 : W7.heap[w.heap.size + 1 + 1]? = some (.cells #[.int .i64 t.clock, .int .i64 (t.epoch + 1), .slice ao5 (q + 1) cap5] 24 (0, 0)) := by rw [← hW7]; exact row_set (row_set (row_set HP6 0 _) 1 _) 2 _
  have HQ7 : W7.heap[w.heap.size + 1 + 1 + 1]? = some (.cells lzz 31 (0, 0)) := by rw [← hW7]; exact row_other (row_other (row_other HQ6 (by omega)) (by omega)) (by omega)
  have HO7 : Hid (W7.ownsRow (w.heap.size + 4) 31 5 (.slice ao5 (q + 1) cap5) (q + 1) (lzcells (withL t l' x.1 x.2.1 m).l)) := lid (by
    rw [← hW7]; exact own_set (own_set (own_set HO6.out (by omega)) (by omega)) (by omega))
  have hb7 : Below w.heap.size w W7 := by
    rw [← hW7]; exact ((hb6.setCell (p := ⟨w.heap.size + 1 + 1, 0, none⟩) (by simp only; omega) _).setCell (p := ⟨w.heap.size + 1 + 1, 1, none⟩) (by simp only; omega) _).setCell (p := ⟨w.heap.size + 1 + 1, 2, none⟩) (by simp only; omega) _
  have hk7 : KeptY W6.heap.size (w.heap.size + 1 + 1) W6 W7.drew := by
    rw [← hW7]; exact ((((KeptY.refl W6.heap.size (w.heap.size + 1 + 1) W6).setCell (p := ⟨w.heap.size + 1 + 1, 0, none⟩) (.inl rfl) _).setCell (p := ⟨w.heap.size + 1 + 1, 1, none⟩) (.inl rfl) _).setCell (p := ⟨w.heap.size + 1 + 1, 2, none⟩) (.inl rfl) _).drew
  clear hW7 HO6 HP6 HQ6 hb6 HT6 HX6
  refine hK.out _ _ (sincey hk7) ?_
  clear hK K
  repeat (first | (refine seq_skip (by rfl) (by rfl) ?_; simp only [Act.put, List.setIfInBounds_toArray, List.set_cons_succ, List.set_cons_zero]) | (refine seq_float (by rfl) (by rfl) (by rfl) ?_; intro K hK; go_big_quiet_op; go_big_quiet_on))
  have p0 := row_cell HQ7 0
  have p1 := row_cell HQ7 1
  have p2 := row_cell HQ7 2
  have p3 := row_cell HQ7 3
  have p4 := row_cell HQ7 4
  have y0 := row_fz HQ7 0
  have y1 := row_fz HQ7 1
  have y2 := row_fz HQ7 2
  have y3 := row_fz HQ7 3
  have y4 := row_fz HQ7 4
  refine seq_chain (by rfl) ?_
  intro K hK
  go_wp2_with fail
  clear p0 p1 p2 p3 p4 y0 y1 y2 y3 y4
  obtain ⟨W8, hW8⟩ : ∃ y, ((((W7.setCell ⟨w.heap.size + 1 + 1 + 1, 0, none⟩ (.int .u64 X.1.1.toNat)).setCell ⟨w.heap.size + 1 + 1 + 1, 1, none⟩ (.int .u64 X.1.2.toNat)).setCell ⟨w.heap.size + 1 + 1 + 1, 2, none⟩ (.string X.2.1)).setCell ⟨w.heap.size + 1 + 1 + 1, 3, none⟩ (.int .i64 X.2.2.1)).setCell ⟨w.heap.size + 1 + 1 + 1, 4, none⟩ (.int .i64 X.2.2.2) = y := ⟨_, rfl⟩
  rw [hW8]
  have HP8 : W8.heap[w.heap.size + 1 + 1]? = some (.cells #[.int .i64 t.clock, .int .i64 (t.epoch + 1), .slice ao5 (q + 1) cap5] 24 (0, 0)) := by
    rw [← hW8]
    iterate 5 refine row_other ?_ (by omega)
    exact HP7
  have HQ8 : W8.heap[w.heap.size + 1 + 1 + 1]? = some (.cells (lzc X) 31 (0, 0)) := by rw [← hW8]; exact row_set (row_set (row_set (row_set (row_set HQ7 0 _) 1 _) 2 _) 3 _) 4 _
  have HO8 : Hid (W8.ownsRow (w.heap.size + 4) 31 5 (.slice ao5 (q + 1) cap5) (q + 1) (lzcells (withL t l' x.1 x.2.1 m).l)) := lid (by
    rw [← hW8]
    iterate 5 refine own_set ?_ (by omega)
    exact HO7.out)
  have hb8 : Below w.heap.size w W8 := by
    rw [← hW8]; exact ((((hb7.setCell (p := ⟨w.heap.size + 1 + 1 + 1, 0, none⟩) (by simp only; omega) _).setCell (p := ⟨w.heap.size + 1 + 1 + 1, 1, none⟩) (by simp only; omega) _).setCell (p := ⟨w.heap.size + 1 + 1 + 1, 2, none⟩) (by simp only; omega) _).setCell (p := ⟨w.heap.size + 1 + 1 + 1, 3, none⟩) (by simp only; omega) _).setCell (p := ⟨w.heap.size + 1 + 1 + 1, 4, none⟩) (by simp only; omega) _
  have hk8 : KeptY W6.heap.size (w.heap.size + 1 + 1) W6 W8.drew := by
    rw [← hW8]
    exact (((((hk7.setCell (p := ⟨w.heap.size + 1 + 1 + 1, 0, none⟩) (.inr rfl) _).setCell (p := ⟨w.heap.size + 1 + 1 + 1, 1, none⟩) (.inr rfl) _).setCell (p := ⟨w.heap.size + 1 + 1 + 1, 2, none⟩) (.inr rfl) _).setCell (p := ⟨w.heap.size + 1 + 1 + 1, 3, none⟩) (.inr rfl) _).setCell (p := ⟨w.heap.size + 1 + 1 + 1, 4, none⟩) (.inr rfl) _).drew
  clear hW8 HO7 HP7 HQ7 hb7 hk7
  refine hK.out _ _ (sincey hk8) ?_
  clear hK K
  refine seq_chain (by rfl) ?_
  intro K hK
  go_wp2_with fail
  refine hK.out _ _ (sincey hk8) ?_
  clear hK K hk8
  refine seq_nil ?_
  have p0 := row_cell HP8 0
  have p1 := row_cell HP8 1
  have p2 := row_cell HP8 2
  have q0 := row_cell HQ8 0
  have q1 := row_cell HQ8 1
  have q2 := row_cell HQ8 2
  have q3 := row_cell HQ8 3
  have q4 := row_cell HQ8 4
  go_wp2_with fail
  have hLV : LsV (withL t l' x.1 x.2.1 m) w.heap.size W8.drew (.agg #[.int .i64 t.clock, .int .i64 (t.epoch + 1), .slice ao5 (q + 1) cap5]) := LsV.own (T := withL t l' x.1 x.2.1 m) (show W8.drew.ownsRow _ _ _ _ _ _ from HO8.out) (by omega) HLT.out.1 (by simp only [maxLen]; omega) HLT.out.2
  exact bodyPost_ret (v := .tuple #[.agg #[.int .i64 t.clock, .int .i64 (t.epoch + 1), .slice ao5 (q + 1) cap5], .agg (lzc X), .int .i64 0]) (by simp [results, Try.results19, go_sem, p0, p1, p2, q0, q1, q2, q3, q4]) rfl ⟨_, by rw [HV.out.2.1, HV.out.2.2], by rw [HV.out.1]; exact hLV, hb8.drew⟩
end Go.Proofs.Ytghkldodceamcaa

namespace Go.Proofs.Ytghkldodceamcaa
open Go.RowKit Go.Shelf
attribute [local go_sem] Oper.semAt_some

theorem expired_fn (ao : Option Addr) (n cap : Nat) (c : Int) (w : World) :
    Calls Try.prog 37 #[.slice ao n cap, .int .i64 c] w fun e w' => e = .returned (.func (.func 50) #[] #[.pointer (some ⟨w.heap.size, 0, none⟩), .pointer (some ⟨w.heap.size + 1, 0, none⟩)]) ∧ w' = (w.alloc (.cells #[.slice ao n cap] 22)).alloc (.cells #[.int .i64 c] 3) := by
  go_enter Try.func37, Try.ntmps37
  go_wp2
  go_ret
  exact ⟨by simp, rfl⟩
theorem grown_of_below {w w' : World} (h : Below w.heap.size w w') (row : Option Nat) : w.grownBy w' row := ⟨h.os, h.tape, h.output, h.size, fun k hk _ => h.block k hk⟩
/-- The leases that expire. -/
def goneL (l : List Lz) (c : Int) : List Lz := l.filter fun x => decide (x.2.2.1 ≤ c)
theorem gone_yes {l : List Lz} {k : Nat} {c : Int} (h : k < l.length) (hc : decide ((l[k]).2.2.1 ≤ c) = true) : goneL (l.take (k + 1)) c = goneL (l.take k) c ++ [l[k]] := by
  unfold goneL
  rw [List.take_succ_eq_append_getElem h, List.filter_append]
  simp at hc
  simp [hc]
theorem gone_no {l : List Lz} {k : Nat} {c : Int} (h : k < l.length) (hc : decide ((l[k]).2.2.1 ≤ c) = false) : goneL (l.take (k + 1)) c = goneL (l.take k) c := by
  unfold goneL
  rw [List.take_succ_eq_append_getElem h, List.filter_append]
  simp at hc
  simp [Int.not_le.2 hc]
theorem gone_le (l : List Lz) (c : Int) (k : Nat) : (goneL (l.take k) c).length ≤ k := Nat.le_trans (List.length_filter_le _ _) (by rw [List.length_take]; omega)

set_option maxRecDepth 100000 in
set_option maxHeartbeats 8000000 in
theorem expired_stops (m : Nat) (hm1 : 1 ≤ m) (bl bk : Nat) (l : List Lz) (n cap : Nat) (ao : Option Addr) (c : Int) (w : World) (hbl : bl < w.heap.size) (hbk : bk < w.heap.size) (hc : w.cell? ⟨bl, 0, none⟩ = some (.slice ao n cap)) (hk : w.cell? ⟨bk, 0, none⟩ = some (.int .i64 c)) (hn : l.length = n) (hs : Sl w 5 ao n (lzcells l)) (hm : n ≤ maxLen) :
    SeqStopsK Fence.wide m Try.prog 50 #[.pointer (some ⟨bl, 0, none⟩), .pointer (some ⟨bk, 0, none⟩)] (fun (x : Lz) => #[.agg (lzc x)]) (Below w.heap.size) (fun ys => ys = goneL l c) (fun _ => True) n w := by
  intro l' J Jx W hW hJ hJx hY h0
  have HN := lid hn
  have HS := lid hs
  have HJ := lid hJ
  have hm' : n ≤ 9223372036854775807 := hm
  have hcW := (hW.cell (p := ⟨bl, 0, none⟩) hbl).trans hc
  have hkW := (hW.cell (p := ⟨bk, 0, none⟩) hbk).trans hk
  have hbkW := Nat.lt_of_lt_of_le hbk hW.size
  clear hn hs hm hJ hc
  refine callsIn_of_wp Try.func50 rfl trivial ?_ rfl
  simp only [Try.ntmps50, List.size_toArray, List.length_cons, List.length_nil, Nat.reduceAdd, Nat.reduceSub, Array.replicate_succ, Array.replicate_zero, List.push_toArray, List.append_toArray, List.nil_append, List.cons_append]
  gi_wp2
  gi_loopw [5, 8] (fun _ i wr => ∃ k : Nat, k ≤ n ∧ i = .int .i64 k ∧ Hid (J (goneL (l.take k) c) wr) ∧ Below w.heap.size W wr) (fun _ i _ => n - (intOf i).toNat)
  case atStart => exact ⟨0, Nat.zero_le _, rfl, lid (by simpa [goneL] using h0), Below.refl _ _⟩
  case round =>
    obtain ⟨k, hkn, rfl, HJ1, hb⟩ := hrel
    have hw := hW.trans hb
    by_cases hlt : k < n
    · have hkl : k < l.length := by rw [HN.out]; exact hlt
      obtain ⟨b1, o1, rfl, hlb, hcell⟩ := HS.out.at_ hlt
      have x0 := (bc hw hlb _).trans (hcell (k * 5 + 0) _ (lzcells_at hkl).1)
      have x1 := (bc hw hlb _).trans (hcell (k * 5 + 1) _ (lzcells_at hkl).2.1)
      have x2 := (bc hw hlb _).trans (hcell (k * 5 + 2) _ (lzcells_at hkl).2.2.1)
      have x3 := (bc hw hlb _).trans (hcell (k * 5 + 3) _ (lzcells_at hkl).2.2.2.1)
      have x4 := (bc hw hlb _).trans (hcell (k * 5 + 4) _ (lzcells_at hkl).2.2.2.2)
      rw [← Nat.add_assoc] at x1 x2 x3 x4
      rw [Nat.add_zero] at x0
      have HY1 := lid (fun h => gone_yes (c := c) hkl h)
      have HY2 := lid (fun h => gone_no (c := c) hkl h)
      have hlen : (goneL (l.take k) c).length < n := Nat.lt_of_le_of_lt (gone_le l c k) hlt
      have HLEN := lid hlen
      have kk := (hb.cell (p := ⟨bk, 0, none⟩) hbk).trans hkW
      have hbk1 := Nat.lt_of_lt_of_le hbk hw.size
      have h1 : Below wr.heap.size wr (wr.alloc (.cells (lzc l[k]) 31)) := ba _ _
      obtain ⟨x, hx⟩ : ∃ x, l[k] = x := ⟨_, rfl⟩
      rw [hx] at x0 x1 x2 x3 x4 HY1 HY2 h1
      obtain ⟨⟨d1, d2⟩, a, u, ep⟩ := x
      simp only at x0 x1 x2 x3 x4
      have HJ3 := lid (HJ.out _ _ _ none HJ1.out (grown_of_below h1 none) (fun r e => by cases e))
      have hw3 : Below w.heap.size W (wr.alloc (.cells (lzc ((d1, d2), a, u, ep)) 31)) := hb.trans (h1.mono hw.size)
      clear hx hcell hlen h1
      cases hu : decide (u ≤ c) with
      | false =>
        have HN1 := lid (HY2.out hu)
        gi_wp2_with fail
        refine ⟨(fun f hf => by cases hf), ?_⟩
        gi_wp2_with fail
        go_roundw
        case rel => exact ⟨k + 1, by omega, by go_num, lid (by rw [HN1.out]; exact HJ3.out), hw3⟩
        case measure => simp [intOf]; omega
      | true =>
        have HN1 := lid (HY1.out hu)
        obtain ⟨fn, tmps, assign, body, hy, hR⟩ := hY _ ((d1, d2), a, u, ep) _ HJ3.out HLEN.out
        gi_wp2_with fail
        refine hR.mono ?_
        rintro e W' (⟨rfl, hJ', hk'⟩ | ⟨rfl, hJx'⟩)
        · gi_wp2_with fail
          go_roundw
          case rel => exact ⟨k + 1, by omega, by go_num, lid (by rw [HN1.out]; exact hJ'), hw3.trans hk'⟩
          case measure => simp [intOf]; omega
        · gi_wp2_with fail
          exact bodyPost_ret (results_none rfl _ _ _) rfl ⟨⟨_, rfl⟩, .inr ⟨_, trivial, hJx'⟩⟩
    · obtain rfl : k = n := by omega
      have hfin := HJ1.out
      rw [List.take_of_length_le (by rw [HN.out]; exact Nat.le_refl _)] at hfin
      have HF := lid hfin
      clear hfin
      gi_wp2_with fail
      exact bodyPost_end (results_none rfl _ _ _) rfl ⟨⟨_, rfl⟩, .inl ⟨_, rfl, HF.out⟩⟩

theorem lzcells_append (l m : List Lz) : lzcells (l ++ m) = lzcells l ++ lzcells m := by simp [lzcells]
theorem cells_new (W : World) (us : Array Value) (t : TypeId) : ∀ j u, us.toList[j]? = some u → (W.alloc (.cells us t)).cell? ((⟨W.heap.size, 0, none⟩ : Addr).add j) = some u := by
  intro j u hu
  rw [Addr.add_lit]
  simp only [World.cell?, Nat.zero_add]
  rw [heap_alloc_new]
  simpa using hu
/-- A lease in its own block. -/
def LBlk (W : World) (k : Nat) (x : Lz) : Prop := W.heap[k]? = some (.cells (lzc x) 31 (0, 0))

set_option maxRecDepth 100000 in
set_option maxHeartbeats 8000000 in
theorem AppendSeq_lz (bl bk : Nat) (l : List Lz) (n cap : Nat) (ao : Option Addr) (c : Int) (w : World) (hbl : bl < w.heap.size) (hbk : bk < w.heap.size) (hc : w.cell? ⟨bl, 0, none⟩ = some (.slice ao n cap)) (hk : w.cell? ⟨bk, 0, none⟩ = some (.int .i64 c)) (hn : l.length = n) (hs : Sl w 5 ao n (lzcells l)) (hm : n ≤ 10000) :
    Calls Try.prog 49 #[.slice none 0 0, .func (.func 50) #[] #[.pointer (some ⟨bl, 0, none⟩), .pointer (some ⟨bk, 0, none⟩)]] w fun e w' => ∃ v', e = .returned v' ∧ w'.ownsRow w.heap.size 31 5 v' (goneL l c).length (lzcells (goneL l c)) ∧ Below w.heap.size w w' := by
  refine (callsIn_wide (n := 3)).1 ?_
  obtain ⟨i0, hi, hz0, hz1, hz2⟩ := info_parts info_lz
  refine callsIn_of_wp_marks Try.func49 rfl trivial ?_ rfl
  simp only [Try.ntmps49, List.size_toArray, List.length_cons, List.length_nil, Nat.reduceAdd, Nat.reduceSub, Array.replicate_succ, Array.replicate_zero, List.push_toArray, List.append_toArray, List.nil_append, List.cons_append]
  gi_wp2_with fail
  have bO := Boxed.new w 22 (.slice none 0 0)
  obtain ⟨W0, hW0⟩ : ∃ W0, w.alloc (Obj.cells #[Value.slice none 0 0] 22) = W0 := ⟨_, rfl⟩
  have hsz : W0.heap.size = w.heap.size + 1 := by rw [← hW0]; simp
  have hb0 : Below w.heap.size w W0 := by rw [← hW0]; exact ba _ _
  rw [hW0] at bO ⊢
  clear hW0
  refine wpIn_rangeFunc_ownH rfl (by omega) (gf := 50) (lb := #[.pointer (some ⟨bl, 0, none⟩), .pointer (some ⟨bk, 0, none⟩)]) rfl trivial (enters_of Try.func50 (by kernel_rfl) rfl)
    (expired_stops _ (by omega) bl bk l n cap ao c w hbl hbk hc hk hn hs (by unfold maxLen; omega)) belowK_t (belowK_b (by omega)) hb0 (fun _ => rfl)
    (fun pre W => (∃ v', Boxed W w.heap.size 22 v' ∧ W.ownsRow W0.heap.size 31 5 v' pre.length (lzcells pre) ∧ True) ∧ Below w.heap.size W0 W)
    (fun _ _ _ => False)
    (OwnFrom.and (Own.from (holdsRow_own W0.heap.size w.heap.size 22 31 5 (fun pre : List Lz => pre.length) (fun pre => lzcells pre) (fun _ _ => True)) _) (ownFrom_below (by omega) (by omega)))
    (fun _ _ _ _ _ hs _ _ => hs)
    ⟨⟨_, bO, World.ownsRow_nil _ _ _ _, trivial⟩, Below.refl _ _⟩
    (fun x a' W => ∃ Bx, LBlk W Bx x ∧ a' = { tmps := #[.slice none 0 0, .func (.func 50) #[] #[.pointer (some ⟨bl, 0, none⟩), .pointer (some ⟨bk, 0, none⟩)], .pointer (some ⟨w.heap.size, 0, none⟩), undef, .slice none 0 0, .pointer (some ⟨Bx, 0, none⟩), .func (.func 50) #[] #[.pointer (some ⟨bl, 0, none⟩), .pointer (some ⟨bk, 0, none⟩)], .agg (lzc x), undef, undef, undef, undef, undef], defers := [] }) ?hAx ?assign ?body ?done ?stop
  case hAx =>
    rintro x a' s W W' row ⟨Bx, hx, e⟩ hg hr
    refine ⟨Bx, ?_, e⟩
    refine (hg.block Bx (Array.getElem?_eq_some_iff.1 hx).1 (fun e' => ?_)).trans hx
    obtain ⟨o, ho, hco⟩ := (hr _ e'.symm).2
    rw [show W.heap[Bx]? = _ from hx] at ho
    cases ho
    cases hco
  case assign =>
    rintro l pre x W K ⟨⟨v', hv, hrow, -⟩, hB⟩ hK
    gi_wp2_with fail
    refine hK _ _ ((KeepsOthers.alloc _ _).from _) ((Below.refl _ W).alloc (by have := hB.size; omega) _) ⟨⟨v', hv.alloc _, hrow.alloc _, trivial⟩, hB.alloc (by have := hB.size; omega) _⟩ ⟨W.heap.size, heap_alloc_new _ _, rfl⟩
  case body =>
    rintro l' pre x a' W hl ⟨rr, hrr⟩ ⟨⟨v', hv, hrow, -⟩, hB⟩ ⟨Bx, hx, rfl⟩ hlt
    have hc1 := hv.cell
    have hx0 := row_cell hx 0
    have hx1 := row_cell hx 1
    have hx2 := row_cell hx 2
    have hx3 := row_cell hx 3
    have hx4 := row_cell hx 4
    have hrl := hB.size
    gi_wp2_with (gi_at_builtin; go_must (refine wpListIn_append_own _ rfl _ _ 22 rfl W0.heap.size 31 i0 (.agg #[.int .u64 0, .int .u64 0, .string ⟨#[]⟩, .int .i64 0, .int .i64 0]) 5 48 Try.underlying22 hi hz0 hz1 hz2 rfl (by decide) _ _ _ rfl (hrow.alloc _) ⟨W.heap.size, 0, none⟩ 1 1 (lzc x).toList rfl rfl (cells_new W (lzc x) _) (by simp [Value.oneCell']) (by unfold maxLen; omega) (by omega) (by simp; omega) ?_); intro v'' w2 hown' hgrow _; obtain ⟨g', cap', rfl⟩ := ownsRow_succ hown'; obtain ⟨hv1, hv2, hr2, hk2, hb2, hx2⟩ := appended_x hv hrow hrl (by omega) hown' hgrow; have hc1 := hv1.cell; have hf1 := hv1.frozen)
    exact ⟨hk2.from _, hb2, ⟨_, hv2, (by rw [lzcells_snoc, show (pre ++ [x]).length = pre.length + 1 by simp, ← hsz]; exact hr2)⟩, hB.trans hb2⟩
  case done =>
    rintro D ys W hD rfl ⟨⟨v', hv, hrow, -⟩, hB⟩ hK
    have hc1 := hv.cell
    gi_wp2_with fail
    refine ⟨by simp, .inl ⟨_, _, rfl, run_takeDeferred hK, ?_⟩⟩
    have hput : Below w.heap.size W0 (W.putObj D (.deferred none)) := hB.trans (belowK_b (w := W0) (by omega) W D _ _ hD hK rfl rfl)
    refine ⟨_, results_tmp rfl _ _ _, v', rfl, ?_, hb0.trans hput⟩
    exact ownsRow_putObj (ownsRow_base hrow (by omega)) _ hK rfl
  case stop =>
    rintro D c pre W _ _ h _
    exact h.elim

set_option maxRecDepth 100000 in
set_option maxHeartbeats 1000000 in
theorem Collect_lz (bl bk : Nat) (l : List Lz) (n cap : Nat) (ao : Option Addr) (c : Int) (w : World) (hbl : bl < w.heap.size) (hbk : bk < w.heap.size) (hc : w.cell? ⟨bl, 0, none⟩ = some (.slice ao n cap)) (hk : w.cell? ⟨bk, 0, none⟩ = some (.int .i64 c)) (hn : l.length = n) (hs : Sl w 5 ao n (lzcells l)) (hm : n ≤ 10000) :
    Calls Try.prog 36 #[.func (.func 50) #[] #[.pointer (some ⟨bl, 0, none⟩), .pointer (some ⟨bk, 0, none⟩)]] w fun e w' => ∃ v', e = .returned v' ∧ w'.ownsRow w.heap.size 31 5 v' (goneL l c).length (lzcells (goneL l c)) ∧ Below w.heap.size w w' := by
  have HA := lid (AppendSeq_lz bl bk l n cap ao c w hbl hbk hc hk hn hs hm)
  clear hc hk hn hs
  go_enter Try.func36, Try.ntmps36
  go_wp2_with fail
  (with_reducible refine (HA.out).mono ?_); rintro e w1 ⟨v', rfl, hown, hb⟩
  go_wp2_with fail
  go_ret
  exact ⟨v', rfl, hown, hb⟩
end Go.Proofs.Ytghkldodceamcaa

namespace Go.Proofs.Ytghkldodceamcaa
open Go.RowKit

/-- Leases and an errno that come back. -/
def RelR (T : Ls) (E : Int) (w : World) (e : Ending) (w' : World) : Prop := ∃ v, e = .returned (.tuple #[v, .int .i64 E]) ∧ LsV T w.heap.size w' v ∧ Below w.heap.size w w'
/-- A list of leases in memory, in a block from number b on. -/
structure LzB (w : World) (b : Nat) (ao : Option Addr) (n cap : Nat) (G : List Lz) : Prop where
  len : G.length = n
  sl : Sl w 5 ao n (lzcells G)
  le : n ≤ cap
  z : ao = none → cap = 0
  max : n ≤ maxLen
  lo : ∀ a, ao = some a → b ≤ a.block
theorem LzB.below {w w' : World} {b n cap : Nat} {ao : Option Addr} {G : List Lz} (h : LzB w b ao n cap G) (hb : Below w.heap.size w w') : LzB w' b ao n cap G := ⟨h.len, h.sl.below hb, h.le, h.z, h.max, h.lo⟩
theorem LzB.set {w : World} {b n cap X o : Nat} {ao : Option Addr} {G : List Lz} {u : Value} (h : LzB w b ao n cap G) (hX : X < b) : LzB (w.setCell ⟨X, o, none⟩ u) b ao n cap G :=
  ⟨h.len, h.sl.set (fun a ha => by have := h.lo a ha; omega), h.le, h.z, h.max, h.lo⟩
/-- A list of leases that comes back. -/
def LzV (G : List Lz) (b : Nat) (w' : World) (v : Value) : Prop := ∃ ao n cap, v = .slice ao n cap ∧ LzB w' b ao n cap G
theorem LzV.own {w' : World} {base b q : Nat} {v : Value} {G : List Lz} (h : w'.ownsRow base 31 5 v q (lzcells G)) (hb : b ≤ base) (hq : G.length = q) (hm : q ≤ maxLen) : LzV G b w' v := by
  rcases h.2 with ⟨rfl, rfl⟩ | ⟨g, cap, cur, rfl, hg, _, hn, _, _⟩
  · exact ⟨none, 0, 0, rfl, ⟨hq, own_sl h, Nat.le_refl _, (fun _ => rfl), hm, (fun a h => by cases h)⟩⟩
  · exact ⟨some ⟨g, 0, none⟩, q, cap, rfl, ⟨hq, own_sl h, hn, (fun e => by cases e), hm, (fun a h => by cases h; exact Nat.le_trans hb hg)⟩⟩
theorem LzV.nil (b : Nat) (w' : World) : LzV [] b w' (.slice none 0 0) := ⟨none, 0, 0, rfl, ⟨rfl, Sl.nil, Nat.le_refl _, (fun _ => rfl), by simp [maxLen], (fun a h => by cases h)⟩⟩
/-- Leases, a list of leases and an errno that come back. -/
def AdvR (T : Ls) (G : List Lz) (E : Int) (w : World) (e : Ending) (w' : World) : Prop := ∃ v g, e = .returned (.tuple #[v, g, .int .i64 E]) ∧ LsV T w.heap.size w' v ∧ LzV G w.heap.size w' g ∧ Below w.heap.size w w'
theorem rel_1 {t : Ls} (h : checkLs t ≠ 0) (x : Lz) : releaseE t x = 1 := by unfold releaseE; rw [if_pos h]
theorem rel_2 {t : Ls} {x : Lz} (h : checkLs t = 0) (h2 : memB t.l x = false) : releaseE t x = 28 := by unfold releaseE; rw [if_neg (by simp [h]), if_pos h2]
theorem rel_3 {t : Ls} {x : Lz} (h : checkLs t = 0) (h2 : memB t.l x = true) : releaseE t x = 0 := by unfold releaseE; rw [if_neg (by simp [h]), if_neg (by simp [h2])]
theorem rel_bad {t : Ls} {x : Lz} {c : Int} (h : releaseE t x = c) (hc : c ≠ 0) : releaseL t x = ls0 := by unfold releaseL; rw [h, if_neg hc]
theorem rel_good {t : Ls} {x : Lz} (h : releaseE t x = 0) : releaseL t x = ⟨t.clock, t.epoch, lessL t.l x⟩ ∧ releaseE t x = 0 := by unfold releaseL; rw [if_pos h]; exact ⟨rfl, h⟩
theorem adv_1 {t : Ls} (h : checkLs t ≠ 0) (c : Int) : advE t c = 1 := by unfold advE; rw [if_pos h]
theorem adv_2 {t : Ls} {c : Int} (h : checkLs t = 0) (h2 : c < t.clock ∨ 1099511627776 < c) : advE t c = 2 := by unfold advE; rw [if_neg (by simp [h]), if_pos h2]
theorem adv_3 {t : Ls} {c : Int} (h : checkLs t = 0) (h2 : ¬ (c < t.clock ∨ 1099511627776 < c)) : advE t c = 0 := by unfold advE; rw [if_neg (by simp [h]), if_neg h2]
theorem adv_bad {t : Ls} {c k : Int} (h : advE t c = k) (hc : k ≠ 0) : advL t c = ls0 ∧ advG t c = [] := by unfold advL advG; rw [h, if_neg hc, if_neg hc]; exact ⟨rfl, rfl⟩
theorem adv_good {t : Ls} {c : Int} (h : advE t c = 0) : advL t c = ⟨c, t.epoch, t.l.filter fun x => !decide (x.2.2.1 ≤ c)⟩ ∧ advG t c = goneL t.l c ∧ advE t c = 0 := by unfold advL advG; rw [if_pos h, if_pos h]; exact ⟨rfl, rfl, h⟩
/-- The world behind the store of zero values into the result's cells. -/
def wipe3 (k : Nat) (w : World) : World := ((w.setCell ⟨k + 1 + 1, 0, none⟩ (.int .i64 0)).setCell ⟨k + 1 + 1, 1, none⟩ (.int .i64 0)).setCell ⟨k + 1 + 1, 2, none⟩ (.slice none 0 0)
theorem wipe3_rows {k : Nat} {w0 w : World} (HP : tzRow (k + 1 + 1) w) (hb : Below k w0 w) : tzRow (k + 1 + 1) (wipe3 k w) ∧ Below k w0 (wipe3 k w) := by
  unfold wipe3
  refine ⟨row_set (row_set (row_set HP 0 (.int .i64 0)) 1 (.int .i64 0)) 2 (.slice none 0 0), ?_⟩
  refine ((hb.setCell (p := ⟨k + 1 + 1, 0, none⟩) ?_ _).setCell (p := ⟨k + 1 + 1, 1, none⟩) ?_ _).setCell (p := ⟨k + 1 + 1, 2, none⟩) ?_ _ <;> (simp only; omega)

set_option maxRecDepth 100000 in
set_option maxHeartbeats 16000000 in
theorem release_any (t : Ls) (ao : Option Addr) (n cap : Nat) (x : Lz) (w : World) (h : LsA w ao n t) (hcap : n ≤ cap) (hz : ao = none → cap = 0) :
    Calls Try.prog 21 #[.agg (tcells t ao n cap), .agg (lzc x)] w fun e w' => RelR (releaseL t x) (releaseE t x) w e w' := by
  obtain ⟨W, hW⟩ : ∃ y, ((w.alloc (.cells #[.int .i64 t.clock, .int .i64 t.epoch, .slice ao n cap] 24)).alloc (.cells (lzc x) 31)).alloc (.cells tz 24) = y := ⟨_, rfl⟩
  have hb : Below w.heap.size w W := by
    rw [← hW]
    exact (((Below.refl _ _).alloc (Nat.le_refl _) _).alloc (by simp) _).alloc (by simp; omega) _
  have HT : Hid (W.heap[w.heap.size]? = some (.cells (tcells t ao n cap) 24 (0, 0))) := lid (by
    rw [← hW]
    iterate 2 rw [Below.heap_alloc _ _ _ (by simp only [World.size_alloc]; omega)]
    exact heap_alloc_new _ _)
  have HJ : Hid (W.heap[w.heap.size + 1]? = some (.cells (lzc x) 31 (0, 0))) := lid (by
    rw [← hW]
    iterate 1 rw [Below.heap_alloc _ _ _ (by simp only [World.size_alloc]; omega)]
    have := heap_alloc_new (w.alloc (.cells #[.int .i64 t.clock, .int .i64 t.epoch, .slice ao n cap] 24)) (.cells (lzc x) 31)
    simp only [World.size_alloc] at this
    exact this)
  have HP : Hid (tzRow (w.heap.size + 1 + 1) W) := lid (by
    rw [← hW]; unfold tzRow
    have := heap_alloc_new ((w.alloc (.cells #[.int .i64 t.clock, .int .i64 t.epoch, .slice ao n cap] 24)).alloc (.cells (lzc x) 31)) (.cells tz 24)
    simp only [World.size_alloc] at this
    exact this)
  have HW := lid hW
  have HA := lid (h.below hb)
  have HZ := lid hz
  have HL := lid h.len
  clear h hz hW
  go_enter Try.func21, Try.ntmps21
  have c0 := row_cell HT.out 0
  have c1 := row_cell HT.out 1
  have c2 := row_cell HT.out 2
  rw [← HW.out] at c0 c1 c2
  go_wp2_with fail
  rw [HW.out]
  clear HW c0 c1 c2
  have CK := lid (leaCheck_any t ao n cap W HA.out hcap)
  obtain ⟨c, hc⟩ : ∃ c, checkLs t = c := ⟨_, rfl⟩
  rw [hc] at CK
  have HC := lid hc
  clear hc
  (with_reducible refine (CK.out).mono ?_); rintro e w1 ⟨rfl, hb1⟩
  have hb' := hb
  replace hb : Below w.heap.size w w1 := hb.trans (hb1.mono hb.size)
  replace HP := lid ((hb1.block _ (row_lt HP.out)).trans HP.out)
  replace HT := lid ((hb1.block _ (row_lt HT.out)).trans HT.out)
  replace HJ := lid ((hb1.block _ (row_lt HJ.out)).trans HJ.out)
  replace HA := lid (HA.out.below hb1)
  clear hb1 hb'
  clear CK
  by_cases hc0 : c = 0
  case neg =>
    have d0 : (c == 0) = false := by simpa using hc0
    have p0 := row_cell HP.out 0
    have p1 := row_cell HP.out 1
    have p2 := row_cell HP.out 2
    have y0 := row_fz HP.out 0
    have y1 := row_fz HP.out 1
    have y2 := row_fz HP.out 2
    have HV := lid (rel_1 (by rw [HC.out]; exact hc0) x)
    go_wp2_with fail
    clear p0 p1 p2 y0 y1 y2
    obtain ⟨wf, hwf⟩ : ∃ y, wipe3 w.heap.size w1 = y := ⟨_, rfl⟩
    have hwr := wipe3_rows HP.out hb
    rw [hwf] at hwr
    unfold wipe3 at hwf
    rw [hwf]
    have p0 := row_cell hwr.1 0
    have p1 := row_cell hwr.1 1
    have p2 := row_cell hwr.1 2
    exact bodyPost_ret (v := .tuple #[.agg tz, .int .i64 1]) (by simp [results, Try.results21, go_sem, p0, p1, p2]) rfl ⟨.agg tz, by rw [HV.out], by rw [rel_bad HV.out (by decide)]; exact LsV.zero _ _, hwr.2⟩
  subst hc0
  have HOK := lid (checkLs_ok HC.out)
  have c0 := row_cell HT.out 0
  have c1 := row_cell HT.out 1
  have c2 := row_cell HT.out 2
  have j0 := row_cell HJ.out 0
  have j1 := row_cell HJ.out 1
  have j2 := row_cell HJ.out 2
  have j3 := row_cell HJ.out 3
  have j4 := row_cell HJ.out 4
  go_wp2_with fail
  clear c0 c1 c2 j0 j1 j2 j3 j4
  have hn : n ≤ 1000000 := by have := HOK.out.2.2.2.2; rw [HL.out] at this; omega
  (with_reducible refine (lzContains_any t.l n cap ao x w1 HL.out hn HA.out.sl).mono ?_); rintro e w2 ⟨rfl, hb2⟩
  have hb' := hb
  replace hb : Below w.heap.size w w2 := hb.trans (hb2.mono hb.size)
  replace HP := lid ((hb2.block _ (row_lt HP.out)).trans HP.out)
  replace HT := lid ((hb2.block _ (row_lt HT.out)).trans HT.out)
  replace HJ := lid ((hb2.block _ (row_lt HJ.out)).trans HJ.out)
  replace HA := lid (HA.out.below hb2)
  clear hb2 hb'
  cases hmm : memB t.l x with
  | false =>
    have HMM := lid hmm
    clear hmm
    have p0 := row_cell HP.out 0
    have p1 := row_cell HP.out 1
    have p2 := row_cell HP.out 2
    have y0 := row_fz HP.out 0
    have y1 := row_fz HP.out 1
    have y2 := row_fz HP.out 2
    have HV := lid (rel_2 HC.out HMM.out)
    go_wp2_with fail
    clear p0 p1 p2 y0 y1 y2
    obtain ⟨wf, hwf⟩ : ∃ y, wipe3 w.heap.size w2 = y := ⟨_, rfl⟩
    have hwr := wipe3_rows HP.out hb
    rw [hwf] at hwr
    unfold wipe3 at hwf
    rw [hwf]
    have p0 := row_cell hwr.1 0
    have p1 := row_cell hwr.1 1
    have p2 := row_cell hwr.1 2
    exact bodyPost_ret (v := .tuple #[.agg tz, .int .i64 28]) (by simp [results, Try.results21, go_sem, p0, p1, p2]) rfl ⟨.agg tz, by rw [HV.out], by rw [rel_bad HV.out (by decide)]; exact LsV.zero _ _, hwr.2⟩
  | true =>
  have HMM := lid hmm
  clear hmm
  have c0 := row_cell HT.out 0
  have c1 := row_cell HT.out 1
  have c2 := row_cell HT.out 2
  have j0 := row_cell HJ.out 0
  have j1 := row_cell HJ.out 1
  have j2 := row_cell HJ.out 2
  have j3 := row_cell HJ.out 3
  have j4 := row_cell HJ.out 4
  have HV := lid (rel_good (rel_3 HC.out HMM.out))
  have hn4 : n ≤ 10000 := by have := HOK.out.2.2.2.2; rw [HL.out] at this; omega
  have hl1 : w.heap.size + 1 < w2.heap.size := row_lt HJ.out
  have h3 : w.heap.size + 3 ≤ w2.heap.size := by have := row_lt HP.out; omega
  have hXB : XBox w2 (w.heap.size + 1) x := ⟨hl1, (row_cell HJ.out 0).trans rfl, (row_cell HJ.out 1).trans rfl, (row_cell HJ.out 2).trans rfl, (row_cell HJ.out 3).trans rfl, (row_cell HJ.out 4).trans rfl⟩
  have CO := lid (without_any t ao n cap (.func (.func 42) #[] #[.pointer (some ⟨w.heap.size + 1, 0, none⟩)]) (fun y => decide (y = x)) w2 HA.out HZ.out hn4 (fun v w' hs hz' hb' => DeleteFunc_release t.l v n (w.heap.size + 1) _ (w2.heap.size + 2) w' HL.out hn hs hz' (fun w'' hb'' => release_asks (w.heap.size + 1) x w'' (hXB.below (hb'.trans (hb''.mono (by omega)))))))
  clear hXB
  go_wp2_with fail
  clear c0 c1 c2 j0 j1 j2 j3 j4
  (with_reducible refine (CO.out).mono ?_); rintro e w4 ⟨v4, rfl, hown, hb4⟩
  clear CO
  have hb' := hb
  replace hb : Below w.heap.size w w4 := hb.trans (hb4.mono hb.size)
  replace HP := lid ((hb4.block _ (row_lt HP.out)).trans HP.out)
  replace HT := lid ((hb4.block _ (row_lt HT.out)).trans HT.out)
  replace HJ := lid ((hb4.block _ (row_lt HJ.out)).trans HJ.out)
  replace HA := lid (HA.out.below hb4)
  clear hb4 hb'
  have HLL : Hid (lessL t.l x = t.l.filter fun y => !decide (y = x)) := lid rfl
  rw [← HLL.out] at hown
  clear HLL
  have HLE := lid (lessL_le t.l x)
  have HSZ : Hid (∀ y ∈ lessL t.l x, y.2.1.size ≤ maxLen) := lid (fun y hy => HA.out.sz y (List.mem_filter.1 hy).1)
  obtain ⟨l', hl'⟩ : ∃ l', lessL t.l x = l' := ⟨_, rfl⟩
  rw [hl'] at hown HLE HSZ HV
  clear hl'
  obtain ⟨q, hq⟩ : ∃ q, l'.length = q := ⟨_, rfl⟩
  rw [hq] at hown HLE
  have HQL := lid hq
  have hqn : q ≤ n := by have := HLE.out; rw [HL.out] at this; exact this
  have HO4 := lid (ownsRow_base (base' := w.heap.size + 3) hown h3)
  obtain ⟨ao4, cap4, rfl⟩ := own_slice hown
  clear hown hq HLE
  have p0 := row_cell HP.out 0
  have p1 := row_cell HP.out 1
  have p2 := row_cell HP.out 2
  have y0 := row_fz HP.out 0
  have y1 := row_fz HP.out 1
  have y2 := row_fz HP.out 2
  go_wp2_with fail
  clear p0 p1 p2 y0 y1 y2
  obtain ⟨wS, hwS⟩ : ∃ y, ((w4.setCell ⟨w.heap.size + 1 + 1, 0, none⟩ (.int .i64 t.clock)).setCell ⟨w.heap.size + 1 + 1, 1, none⟩ (.int .i64 t.epoch)).setCell ⟨w.heap.size + 1 + 1, 2, none⟩ (.slice ao4 q cap4) = y := ⟨_, rfl⟩
  rw [hwS]
  have HPS : wS.heap[w.heap.size + 1 + 1]? = some (.cells #[.int .i64 t.clock, .int .i64 t.epoch, .slice ao4 q cap4] 24 (0, 0)) := by rw [← hwS]; exact row_set (row_set (row_set HP.out 0 _) 1 _) 2 _
  have hbS : Below w.heap.size w wS := by rw [← hwS]; exact ((hb.setCell (p := ⟨w.heap.size + 1 + 1, 0, none⟩) (by simp only; omega) _).setCell (p := ⟨w.heap.size + 1 + 1, 1, none⟩) (by simp only; omega) _).setCell (p := ⟨w.heap.size + 1 + 1, 2, none⟩) (by simp only; omega) _
  have HOS : wS.ownsRow (w.heap.size + 3) 31 5 (.slice ao4 q cap4) q (lzcells l') := by
    rw [← hwS]
    iterate 3 refine own_set ?_ (by omega)
    exact HO4.out
  have hLV : LsV ⟨t.clock, t.epoch, l'⟩ w.heap.size wS (.agg #[.int .i64 t.clock, .int .i64 t.epoch, .slice ao4 q cap4]) := LsV.own (T := ⟨t.clock, t.epoch, l'⟩) HOS (by omega) HQL.out (by simp only [maxLen]; omega) HSZ.out
  have p0 := row_cell HPS 0
  have p1 := row_cell HPS 1
  have p2 := row_cell HPS 2
  exact bodyPost_ret (v := .tuple #[.agg #[.int .i64 t.clock, .int .i64 t.epoch, .slice ao4 q cap4], .int .i64 0]) (by simp [results, Try.results21, go_sem, p0, p1, p2]) rfl ⟨_, by rw [HV.out.2], by rw [HV.out.1]; exact hLV, hbS⟩
set_option maxRecDepth 100000 in
set_option maxHeartbeats 16000000 in
theorem holds_any (t : Ls) (ao : Option Addr) (n cap : Nat) (x : Lz) (w : World) (h : LsA w ao n t) (hcap : n ≤ cap) :
    Calls Try.prog 17 #[.agg (tcells t ao n cap), .agg (lzc x)] w fun e w' => e = .returned (.bool (holdsB t x)) ∧ Below w.heap.size w w' := by
  obtain ⟨W, hW⟩ : ∃ y, (w.alloc (.cells #[.int .i64 t.clock, .int .i64 t.epoch, .slice ao n cap] 24)).alloc (.cells (lzc x) 31) = y := ⟨_, rfl⟩
  have hb : Below w.heap.size w W := by
    rw [← hW]
    exact ((Below.refl _ _).alloc (Nat.le_refl _) _).alloc (by simp) _
  have HT : Hid (W.heap[w.heap.size]? = some (.cells (tcells t ao n cap) 24 (0, 0))) := lid (by
    rw [← hW]
    iterate 1 rw [Below.heap_alloc _ _ _ (by simp only [World.size_alloc]; omega)]
    exact heap_alloc_new _ _)
  have HJ : Hid (W.heap[w.heap.size + 1]? = some (.cells (lzc x) 31 (0, 0))) := lid (by
    rw [← hW]
    have := heap_alloc_new (w.alloc (.cells #[.int .i64 t.clock, .int .i64 t.epoch, .slice ao n cap] 24)) (.cells (lzc x) 31)
    simp only [World.size_alloc] at this
    exact this)
  have HW := lid hW
  have HA := lid (h.below hb)
  have HL := lid h.len
  clear h hW
  go_enter Try.func17, Try.ntmps17
  have c0 := row_cell HT.out 0
  have c1 := row_cell HT.out 1
  have c2 := row_cell HT.out 2
  rw [← HW.out] at c0 c1 c2
  go_wp2_with fail
  rw [HW.out]
  clear HW c0 c1 c2
  have CK := lid (leaCheck_any t ao n cap W HA.out hcap)
  obtain ⟨c, hc⟩ : ∃ c, checkLs t = c := ⟨_, rfl⟩
  rw [hc] at CK
  have HC := lid hc
  clear hc
  (with_reducible refine (CK.out).mono ?_); rintro e w1 ⟨rfl, hb1⟩
  have hb' := hb
  replace hb : Below w.heap.size w w1 := hb.trans (hb1.mono hb.size)
  replace HT := lid ((hb1.block _ (row_lt HT.out)).trans HT.out)
  replace HJ := lid ((hb1.block _ (row_lt HJ.out)).trans HJ.out)
  replace HA := lid (HA.out.below hb1)
  clear hb1 hb' CK
  by_cases hc0 : c = 0
  case neg =>
    have d0 : (c == 0) = false := by simpa using hc0
    go_wp2_with fail
    go_ret
    exact ⟨ret_bool (by unfold holdsB; rw [HC.out, decide_eq_false hc0]; rfl), hb⟩
  subst hc0
  have HOK := lid (checkLs_ok HC.out)
  have c0 := row_cell HT.out 0
  have c1 := row_cell HT.out 1
  have c2 := row_cell HT.out 2
  have j0 := row_cell HJ.out 0
  have j1 := row_cell HJ.out 1
  have j2 := row_cell HJ.out 2
  have j3 := row_cell HJ.out 3
  have j4 := row_cell HJ.out 4
  go_wp2_with fail
  clear c0 c1 c2 j0 j1 j2 j3 j4
  have hn : n ≤ 1000000 := by have := HOK.out.2.2.2.2; rw [HL.out] at this; omega
  (with_reducible refine (lzContains_any t.l n cap ao x w1 HL.out hn HA.out.sl).mono ?_); rintro e w2 ⟨rfl, hb2⟩
  go_wp2_with fail
  go_ret
  exact ⟨ret_bool (by unfold holdsB; rw [HC.out]; simp), hb.trans (hb2.mono hb.size)⟩
set_option maxRecDepth 100000 in
set_option maxHeartbeats 16000000 in
theorem advance_any (t : Ls) (ao : Option Addr) (n cap : Nat) (k : Int) (w : World) (h : LsA w ao n t) (hcap : n ≤ cap) (hz : ao = none → cap = 0) :
    Calls Try.prog 18 #[.agg (tcells t ao n cap), .int .i64 k] w fun e w' => AdvR (advL t k) (advG t k) (advE t k) w e w' := by
  obtain ⟨W, hW⟩ : ∃ y, ((w.alloc (.cells #[.int .i64 t.clock, .int .i64 t.epoch, .slice ao n cap] 24)).alloc (.cells #[.int .i64 k] 3)).alloc (.cells tz 24) = y := ⟨_, rfl⟩
  have hb : Below w.heap.size w W := by
    rw [← hW]
    exact (((Below.refl _ _).alloc (Nat.le_refl _) _).alloc (by simp) _).alloc (by simp; omega) _
  have HT : Hid (W.heap[w.heap.size]? = some (.cells (tcells t ao n cap) 24 (0, 0))) := lid (by
    rw [← hW]
    iterate 2 rw [Below.heap_alloc _ _ _ (by simp only [World.size_alloc]; omega)]
    exact heap_alloc_new _ _)
  have HJ : Hid (W.heap[w.heap.size + 1]? = some (.cells #[.int .i64 k] 3 (0, 0))) := lid (by
    rw [← hW]
    iterate 1 rw [Below.heap_alloc _ _ _ (by simp only [World.size_alloc]; omega)]
    have := heap_alloc_new (w.alloc (.cells #[.int .i64 t.clock, .int .i64 t.epoch, .slice ao n cap] 24)) (.cells #[.int .i64 k] 3)
    simp only [World.size_alloc] at this
    exact this)
  have HP : Hid (tzRow (w.heap.size + 1 + 1) W) := lid (by
    rw [← hW]; unfold tzRow
    have := heap_alloc_new ((w.alloc (.cells #[.int .i64 t.clock, .int .i64 t.epoch, .slice ao n cap] 24)).alloc (.cells #[.int .i64 k] 3)) (.cells tz 24)
    simp only [World.size_alloc] at this
    exact this)
  have HW := lid hW
  have HA := lid (h.below hb)
  have HZ := lid hz
  have HL := lid h.len
  clear h hz hW
  go_enter Try.func18, Try.ntmps18
  have c0 := row_cell HT.out 0
  have c1 := row_cell HT.out 1
  have c2 := row_cell HT.out 2
  rw [← HW.out] at c0 c1 c2
  go_wp2_with fail
  rw [HW.out]
  clear HW c0 c1 c2
  have CK := lid (leaCheck_any t ao n cap W HA.out hcap)
  obtain ⟨c, hc⟩ : ∃ c, checkLs t = c := ⟨_, rfl⟩
  rw [hc] at CK
  have HC := lid hc
  clear hc
  (with_reducible refine (CK.out).mono ?_); rintro e w1 ⟨rfl, hb1⟩
  have hb' := hb
  replace hb : Below w.heap.size w w1 := hb.trans (hb1.mono hb.size)
  replace HP := lid ((hb1.block _ (row_lt HP.out)).trans HP.out)
  replace HT := lid ((hb1.block _ (row_lt HT.out)).trans HT.out)
  replace HJ := lid ((hb1.block _ (row_lt HJ.out)).trans HJ.out)
  replace HA := lid (HA.out.below hb1)
  clear hb1 hb'
  clear CK
  by_cases hc0 : c = 0
  case neg =>
    have d0 : (c == 0) = false := by simpa using hc0
    have p0 := row_cell HP.out 0
    have p1 := row_cell HP.out 1
    have p2 := row_cell HP.out 2
    have y0 := row_fz HP.out 0
    have y1 := row_fz HP.out 1
    have y2 := row_fz HP.out 2
    have HV := lid (adv_1 (by rw [HC.out]; exact hc0) k)
    go_wp2_with fail
    clear p0 p1 p2 y0 y1 y2
    obtain ⟨wf, hwf⟩ : ∃ y, wipe3 w.heap.size w1 = y := ⟨_, rfl⟩
    have hwr := wipe3_rows HP.out hb
    rw [hwf] at hwr
    unfold wipe3 at hwf
    rw [hwf]
    have p0 := row_cell hwr.1 0
    have p1 := row_cell hwr.1 1
    have p2 := row_cell hwr.1 2
    exact bodyPost_ret (v := .tuple #[.agg tz, .slice none 0 0, .int .i64 1]) (by simp [results, Try.results18, go_sem, p0, p1, p2]) rfl ⟨.agg tz, .slice none 0 0, by rw [HV.out], by rw [(adv_bad HV.out (by decide)).1]; exact LsV.zero _ _, by rw [(adv_bad HV.out (by decide)).2]; exact LzV.nil _ _, hwr.2⟩
  subst hc0
  have HOK := lid (checkLs_ok HC.out)
  have c0 := row_cell HT.out 0
  have c1 := row_cell HT.out 1
  have c2 := row_cell HT.out 2
  have j0 := row_cell HJ.out 0
  by_cases h1 : k < t.clock
  case pos =>
    have d1 : decide (k < t.clock) = true := by simpa using h1
    have p0 := row_cell HP.out 0
    have p1 := row_cell HP.out 1
    have p2 := row_cell HP.out 2
    have y0 := row_fz HP.out 0
    have y1 := row_fz HP.out 1
    have y2 := row_fz HP.out 2
    have HV := lid (adv_2 HC.out (.inl h1))
    go_wp2_with fail
    clear p0 p1 p2 y0 y1 y2
    obtain ⟨wf, hwf⟩ : ∃ y, wipe3 w.heap.size w1 = y := ⟨_, rfl⟩
    have hwr := wipe3_rows HP.out hb
    rw [hwf] at hwr
    unfold wipe3 at hwf
    rw [hwf]
    have p0 := row_cell hwr.1 0
    have p1 := row_cell hwr.1 1
    have p2 := row_cell hwr.1 2
    exact bodyPost_ret (v := .tuple #[.agg tz, .slice none 0 0, .int .i64 2]) (by simp [results, Try.results18, go_sem, p0, p1, p2]) rfl ⟨.agg tz, .slice none 0 0, by rw [HV.out], by rw [(adv_bad HV.out (by decide)).1]; exact LsV.zero _ _, by rw [(adv_bad HV.out (by decide)).2]; exact LzV.nil _ _, hwr.2⟩
  have d1 : decide (k < t.clock) = false := by simpa using h1
  by_cases h2 : 1099511627776 < k
  case pos =>
    have d2 : decide (1099511627776 < k) = true := by simpa using h2
    have p0 := row_cell HP.out 0
    have p1 := row_cell HP.out 1
    have p2 := row_cell HP.out 2
    have y0 := row_fz HP.out 0
    have y1 := row_fz HP.out 1
    have y2 := row_fz HP.out 2
    have HV := lid (adv_2 HC.out (.inr h2))
    go_wp2_with fail
    clear p0 p1 p2 y0 y1 y2
    obtain ⟨wf, hwf⟩ : ∃ y, wipe3 w.heap.size w1 = y := ⟨_, rfl⟩
    have hwr := wipe3_rows HP.out hb
    rw [hwf] at hwr
    unfold wipe3 at hwf
    rw [hwf]
    have p0 := row_cell hwr.1 0
    have p1 := row_cell hwr.1 1
    have p2 := row_cell hwr.1 2
    exact bodyPost_ret (v := .tuple #[.agg tz, .slice none 0 0, .int .i64 2]) (by simp [results, Try.results18, go_sem, p0, p1, p2]) rfl ⟨.agg tz, .slice none 0 0, by rw [HV.out], by rw [(adv_bad HV.out (by decide)).1]; exact LsV.zero _ _, by rw [(adv_bad HV.out (by decide)).2]; exact LzV.nil _ _, hwr.2⟩
  have d2 : decide (1099511627776 < k) = false := by simpa using h2
  have HV := lid (adv_good (adv_3 HC.out (fun h => h.elim h1 h2)))
  have hn4 : n ≤ 10000 := by have := HOK.out.2.2.2.2; rw [HL.out] at this; omega
  have hn : n ≤ 1000000 := by omega
  have h3 : w.heap.size + 3 ≤ w1.heap.size := by have := row_lt HP.out; omega
  clear h1 h2
  go_wp2_with fail
  clear c0 c1 c2 j0 d1 d2
  (with_reducible refine (expired_fn ao n cap k w1).mono ?_); rintro e wE ⟨rfl, hE⟩
  have hEb : Below w1.heap.size w1 wE := by rw [hE]; exact ((Below.refl _ _).alloc (Nat.le_refl _) _).alloc (by simp) _
  have hEs : wE.heap.size = w1.heap.size + 2 := by rw [hE]; simp only [World.size_alloc]
  have hE0 : wE.cell? ⟨w1.heap.size, 0, none⟩ = some (.slice ao n cap) := by rw [hE, cell_old_at (by simp), cell_new_at rfl]; rfl
  have hE1 : wE.cell? ⟨w1.heap.size + 1, 0, none⟩ = some (.int .i64 k) := by rw [hE, cell_new_at (by simp)]; rfl
  clear hE
  have hb1w := hb
  have hb' := hb
  replace hb : Below w.heap.size w wE := hb.trans (hEb.mono hb.size)
  replace HP := lid ((hEb.block _ (row_lt HP.out)).trans HP.out)
  replace HT := lid ((hEb.block _ (row_lt HT.out)).trans HT.out)
  replace HJ := lid ((hEb.block _ (row_lt HJ.out)).trans HJ.out)
  replace HA := lid (HA.out.below hEb)
  clear hEb hb'
  have CC := lid (Collect_lz w1.heap.size (w1.heap.size + 1) t.l n cap ao k wE (by omega) (by omega) hE0 hE1 HL.out HA.out.sl hn4)
  have h3E : w.heap.size + 3 ≤ wE.heap.size := by omega
  clear hE0 hE1 hEs hb1w
  go_wp2_with fail
  (with_reducible refine (CC.out).mono ?_); rintro e w2 ⟨vG, rfl, hgon, hb2⟩
  have HGO := lid (ownsRow_base (base' := w.heap.size + 3) hgon h3E)
  have h32 : w.heap.size + 3 ≤ w2.heap.size := Nat.le_trans h3E hb2.size
  have hb' := hb
  replace hb : Below w.heap.size w w2 := hb.trans (hb2.mono hb.size)
  replace HP := lid ((hb2.block _ (row_lt HP.out)).trans HP.out)
  replace HT := lid ((hb2.block _ (row_lt HT.out)).trans HT.out)
  replace HJ := lid ((hb2.block _ (row_lt HJ.out)).trans HJ.out)
  replace HA := lid (HA.out.below hb2)
  clear hb2 hb'
  have HGL : Hid ((goneL t.l k).length ≤ n) := lid (by rw [← HL.out]; exact List.length_filter_le _ _)
  obtain ⟨aoG, capG, rfl⟩ := own_slice hgon
  clear hgon CC
  obtain ⟨G, hG⟩ : ∃ G, goneL t.l k = G := ⟨_, rfl⟩
  rw [hG] at HGO HGL HV
  obtain ⟨qG, hqG⟩ : ∃ q, G.length = q := ⟨_, rfl⟩
  rw [hG, hqG]
  rw [hqG] at HGO HGL
  have HQG := lid hqG
  clear hG hqG
  have hl1 : w.heap.size + 1 < w2.heap.size := row_lt HJ.out
  have CO := lid (without_any t ao n cap (.func (.func 39) #[] #[.pointer (some ⟨w.heap.size + 1, 0, none⟩)]) (fun y => decide (y.2.2.1 ≤ k)) w2 HA.out HZ.out hn4 (fun v w' hs hz' hb' => DeleteFunc_adv t.l v n (w.heap.size + 1) _ (w2.heap.size + 2) w' HL.out hn hs hz' (fun w'' hb'' => adv_asks (w.heap.size + 1) k w'' (Nat.lt_of_lt_of_le hl1 (Nat.le_trans hb'.size hb''.size)) ((bc (hb'.trans (hb''.mono (by omega))) hl1 0).trans ((row_cell HJ.out 0).trans rfl)))))
  have c0 := row_cell HT.out 0
  have c1 := row_cell HT.out 1
  have c2 := row_cell HT.out 2
  go_wp2_with fail
  clear c0 c1 c2
  (with_reducible refine (CO.out).mono ?_); rintro e w4 ⟨v4, rfl, hown, hb4⟩
  clear CO
  have HGO4 := lid (ownsRow_below HGO.out hb4)
  have hb' := hb
  replace hb : Below w.heap.size w w4 := hb.trans (hb4.mono hb.size)
  replace HP := lid ((hb4.block _ (row_lt HP.out)).trans HP.out)
  replace HT := lid ((hb4.block _ (row_lt HT.out)).trans HT.out)
  replace HJ := lid ((hb4.block _ (row_lt HJ.out)).trans HJ.out)
  replace HA := lid (HA.out.below hb4)
  clear hb4 hb'
  have HSZ : Hid (∀ y ∈ (t.l.filter fun y => !decide (y.2.2.1 ≤ k)), y.2.1.size ≤ maxLen) := lid (fun y hy => HA.out.sz y (List.mem_filter.1 hy).1)
  have HLE : Hid ((t.l.filter fun y => !decide (y.2.2.1 ≤ k)).length ≤ t.l.length) := lid (List.length_filter_le _ _)
  obtain ⟨l', hl'⟩ : ∃ l', (t.l.filter fun y => !decide (y.2.2.1 ≤ k)) = l' := ⟨_, rfl⟩
  rw [hl'] at hown HLE HSZ HV
  clear hl'
  obtain ⟨q, hq⟩ : ∃ q, l'.length = q := ⟨_, rfl⟩
  rw [hq] at hown HLE
  have HQL := lid hq
  have hqn : q ≤ n := by have := HLE.out; rw [HL.out] at this; exact this
  have HO4 := lid (ownsRow_base (base' := w.heap.size + 3) hown h32)
  obtain ⟨ao4, cap4, rfl⟩ := own_slice hown
  clear hown hq HLE HGO
  have p0 := row_cell HP.out 0
  have p1 := row_cell HP.out 1
  have p2 := row_cell HP.out 2
  have y0 := row_fz HP.out 0
  have y1 := row_fz HP.out 1
  have y2 := row_fz HP.out 2
  have c0 := row_cell HT.out 0
  have c1 := row_cell HT.out 1
  have c2 := row_cell HT.out 2
  have z0 := row_fz HT.out 0
  have z1 := row_fz HT.out 1
  have z2 := row_fz HT.out 2
  have j0 := row_cell HJ.out 0
  go_wp2_with fail
  clear p0 p1 p2 y0 y1 y2 c0 c1 c2 z0 z1 z2 j0
  obtain ⟨wS, hwS⟩ : ∃ y, ((((((w4.setCell ⟨w.heap.size, 0, none⟩ (.int .i64 t.clock)).setCell ⟨w.heap.size, 1, none⟩ (.int .i64 t.epoch)).setCell ⟨w.heap.size, 2, none⟩ (.slice ao4 q cap4)).setCell ⟨w.heap.size, 0, none⟩ (.int .i64 k)).setCell ⟨w.heap.size + 1 + 1, 0, none⟩ (.int .i64 k)).setCell ⟨w.heap.size + 1 + 1, 1, none⟩ (.int .i64 t.epoch)).setCell ⟨w.heap.size + 1 + 1, 2, none⟩ (.slice ao4 q cap4) = y := ⟨_, rfl⟩
  rw [hwS]
  have HPS : wS.heap[w.heap.size + 1 + 1]? = some (.cells #[.int .i64 k, .int .i64 t.epoch, .slice ao4 q cap4] 24 (0, 0)) := by
    rw [← hwS]
    exact row_set (row_set (row_set (row_other (row_other (row_other (row_other HP.out (by omega)) (by omega)) (by omega)) (by omega)) 0 _) 1 _) 2 _
  have hbS : Below w.heap.size w wS := by
    rw [← hwS]
    exact ((((((hb.setCell (p := ⟨w.heap.size, 0, none⟩) (Nat.le_refl _) _).setCell (p := ⟨w.heap.size, 1, none⟩) (Nat.le_refl _) _).setCell (p := ⟨w.heap.size, 2, none⟩) (Nat.le_refl _) _).setCell (p := ⟨w.heap.size, 0, none⟩) (Nat.le_refl _) _).setCell (p := ⟨w.heap.size + 1 + 1, 0, none⟩) (by simp only; omega) _).setCell (p := ⟨w.heap.size + 1 + 1, 1, none⟩) (by simp only; omega) _).setCell (p := ⟨w.heap.size + 1 + 1, 2, none⟩) (by simp only; omega) _
  have HOS : wS.ownsRow (w.heap.size + 3) 31 5 (.slice ao4 q cap4) q (lzcells l') := by
    rw [← hwS]
    iterate 7 refine own_set ?_ (by omega)
    exact HO4.out
  have HGS : wS.ownsRow (w.heap.size + 3) 31 5 (.slice aoG qG capG) qG (lzcells G) := by
    rw [← hwS]
    iterate 7 refine own_set ?_ (by omega)
    exact HGO4.out
  have hqG := HGL.out
  have hLV : LsV ⟨k, t.epoch, l'⟩ w.heap.size wS (.agg #[.int .i64 k, .int .i64 t.epoch, .slice ao4 q cap4]) := LsV.own (T := ⟨k, t.epoch, l'⟩) HOS (by omega) HQL.out (by simp only [maxLen]; omega) HSZ.out
  have hGV : LzV G w.heap.size wS (.slice aoG qG capG) := LzV.own HGS (by omega) HQG.out (by simp only [maxLen]; omega)
  have p0 := row_cell HPS 0
  have p1 := row_cell HPS 1
  have p2 := row_cell HPS 2
  exact bodyPost_ret (v := .tuple #[.agg #[.int .i64 k, .int .i64 t.epoch, .slice ao4 q cap4], .slice aoG qG capG, .int .i64 0]) (by simp [results, Try.results18, go_sem, p0, p1, p2]) rfl ⟨_, _, by rw [HV.out.2.2], by rw [HV.out.1]; exact hLV, by rw [HV.out.2.1]; exact hGV, hbS⟩
end Go.Proofs.Ytghkldodceamcaa
