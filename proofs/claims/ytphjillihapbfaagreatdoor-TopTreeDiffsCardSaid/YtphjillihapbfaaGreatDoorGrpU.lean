/-
  StrCompare TreeFind TreeSort Box TreeLoad.
-/
import Derived.Test.YtphjillihapbfaaGreatDoorRows
import Derived.WalkKit
import Derived.Lib.Bytealg
import Derived.Lib.Walk
import Derived.Test.YtphjillihapbfaaGreatDoorGrpS
import Derived.Test.YtphjillihapbfaaGreatDoorLay
import Derived.Test.YtphjillihapbfaaGreatDoorGrpC
import Derived.Sort.OwnSorted
import Derived.RangeFuncBox
import Derived.Maps.AppendAt
import Derived.Test.YtphjillihapbfaaGreatDoorGrpF
import Derived.Test.YtphjillihapbfaaGreatDoorGrpA
import Derived.Test.YtphjillihapbfaaGreatDoorTreeVis2
namespace Go.Proofs.YtphjillihapbfaaGreatDoor

set_option maxRecDepth 100000 in
set_option maxHeartbeats 1000000 in
theorem CompareString_any (a b : ByteArray) (w : World) :
    Calls Tryz.prog 39 #[.string a, .string b] w fun e w' => e = .returned (.int .i64 (Lib.compareBytes a.data.toList b.data.toList)) ∧ w' = w := by
  go_enter Tryz.func39, Tryz.ntmps39
  go_wp2
  rw [run_callFunc_extern Tryz.func64 (by kernel_rfl) (by kernel_rfl) (by kernel_rfl) (e := Extern.BytealgCompare.compare) (by kernel_rfl), Lib.run_compareString]
  simp only [Result.andThen]
  rw [Oper.upon_value]
  go_wp2
  go_ret
  exact ⟨rfl, rfl⟩

set_option maxRecDepth 100000 in
set_option maxHeartbeats 1000000 in
theorem StrCompare_any (a b : ByteArray) (w : World) :
    Calls Tryz.prog 21 #[.string a, .string b] w fun e w' => e = .returned (.int .i64 (Lib.compareBytes a.data.toList b.data.toList)) ∧ w' = w := by
  go_enter Tryz.func21, Tryz.ntmps21
  go_wp2_with fail
  (with_reducible refine (CompareString_any _ _ _).mono ?_)
  rintro e w' ⟨rfl, rfl⟩
  go_wp2_with fail
  go_ret
  exact ⟨rfl, rfl⟩
end Go.Proofs.YtphjillihapbfaaGreatDoor

namespace Go.Proofs.YtphjillihapbfaaGreatDoor
open Go.RowKit

abbrev fv (x : Fl) : Value := .agg #[.string x.1, .string x.2]
def cmpB (a b : ByteArray) : Int := Lib.compareBytes a.data.toList b.data.toList
theorem cmpL_lt : ∀ (a b : List UInt8), decide (Lib.compareBytes a b < 0) = Op.bytesLess a b
  | [], [] => rfl
  | [], _ :: _ => rfl
  | _ :: _, [] => rfl
  | x :: a, y :: b => by
    unfold Lib.compareBytes Op.bytesLess
    by_cases h1 : x < y
    · simp [h1]
    · by_cases h2 : y < x
      · have : x ≠ y := by intro e; subst e; exact UInt8.lt_irrefl x h2
        simp [h1, h2, this]
      · have e : x = y := UInt8.le_antisymm (UInt8.not_lt.1 h2) (UInt8.not_lt.1 h1)
        subst e
        simp only [h1, if_false, decide_false, Bool.false_or, beq_self_eq_true, Bool.true_and]
        exact cmpL_lt a b
theorem cmpL_eq0 : ∀ (a b : List UInt8), Lib.compareBytes a b = 0 ↔ a = b
  | [], [] => by simp [Lib.compareBytes]
  | [], _ :: _ => by simp [Lib.compareBytes]
  | _ :: _, [] => by simp [Lib.compareBytes]
  | x :: a, y :: b => by
    unfold Lib.compareBytes
    by_cases h1 : x < y
    · have : x ≠ y := by intro e; subst e; exact UInt8.lt_irrefl x h1
      simp [h1, this]
    · by_cases h2 : y < x
      · have : x ≠ y := by intro e; subst e; exact UInt8.lt_irrefl x h2
        simp [h1, h2, this]
      · have e : x = y := UInt8.le_antisymm (UInt8.not_lt.1 h2) (UInt8.not_lt.1 h1)
        subst e
        simp only [h1, if_false, List.cons.injEq, true_and]
        exact cmpL_eq0 a b
theorem cmpB_lt (a b : ByteArray) : cmpB a b < 0 ↔ ltB a b = true := by
  have := cmpL_lt a.data.toList b.data.toList
  unfold cmpB ltB
  rw [← this, decide_eq_true_eq]
theorem cmpB_eq (a b : ByteArray) : cmpB a b = 0 ↔ a = b := by
  unfold cmpB
  rw [cmpL_eq0]
  exact ⟨data_inj, fun e => by rw [e]⟩
def idxFl (l : List Fl) (p : ByteArray) : Nat := idxB (fun x => ltB x.1 p) l
theorem ascF_mono {l : List Fl} (h : AscF l) (d : ByteArray) : Mono (fun x : Fl => ltB x.1 d) l := by
  intro a b ha hb hab (hb' : ltB l[b].1 d = true)
  show ltB l[a].1 d = true
  rcases Nat.lt_or_ge a b with g | g
  · exact ltB_trans (List.pairwise_iff_getElem.1 h a b ha hb g) hb'
  · obtain rfl : a = b := by omega
    exact hb'
theorem findF_at {l : List Fl} (h : AscF l) (d : ByteArray) : findF l d = if h' : idxFl l d < l.length then (if l[idxFl l d].1 = d then some l[idxFl l d].2 else none) else none := by
  cases hg : findF l d with
  | some s =>
    have hm := (find_asc h).1 hg
    obtain ⟨k, hk, e⟩ := List.getElem_of_mem hm
    have hi : idxFl l d = k := idxB_eq (by omega) (fun t ht hlt => by
        have := List.pairwise_iff_getElem.1 h t k ht hk hlt
        rw [e] at this
        exact this) (fun _ => by
        show ltB l[k].1 d = false
        rw [e]
        exact ltB_irrefl d)
    rw [dif_pos (by rw [hi]; exact hk)]
    simp only [hi, e, if_true]
  | none =>
    split
    · rename_i h'
      split
      · rename_i he
        have := (find_asc h (p := d) (d := l[idxFl l d].2)).2 (by
          have hm := List.getElem_mem h'
          generalize l[idxFl l d] = y at he hm ⊢
          rw [← he]
          exact hm)
        rw [hg] at this
        cases this
      · rfl
    · rfl
set_option maxRecDepth 100000 in
set_option maxHeartbeats 1000000 in
theorem tfind1_any (x : Fl) (p : ByteArray) (w : World) : Calls Tryz.prog 50 #[fv x, .string p] w fun e w' => e = .returned (.int .i64 (cmpB x.1 p)) ∧ Below w.heap.size w w' := by
  have CC := lid (fun W => StrCompare_any x.1 p W)
  have HB := lid (ba w (Obj.cells #[.string x.1, .string x.2] 45))
  go_enter Tryz.func50, Tryz.ntmps50
  go_wp2_with fail
  (with_reducible refine (CC.out _).mono ?_); rintro e w1 ⟨rfl, rfl⟩
  go_wp2_with fail
  go_ret
  exact ⟨rfl, HB.out⟩
theorem fmono_at {l : List Fl} {d : ByteArray} (h : AscF l) {m : Nat} (hm : m < l.length) (hp : ltB l[m].1 d = true) : ∀ t (ht : t < l.length), t < m + 1 → ltB l[t].1 d = true := fun t ht hlt => ascF_mono h d t m ht hm (by omega) hp
/-- What the search knows. -/
def BsF (l : List Fl) (d : ByteArray) (a b : Nat) : Prop := (∀ t (h : t < l.length), t < a → ltB l[t].1 d = true) ∧ ∀ h : b < l.length, ltB l[b].1 d = false
theorem BsF.done {l : List Fl} {d : ByteArray} {a : Nat} (h : BsF l d a a) (ha : a ≤ l.length) : idxFl l d = a := idxB_eq ha h.1 h.2
set_option maxRecDepth 100000 in
set_option maxHeartbeats 4000000 in
theorem bsearchF_any (l : List Fl) (d : ByteArray) (n cap : Nat) (ao : Option Addr) (w : World) (h : FA w ao n cap l) (hA : AscF l) (hm1 : n ≤ 1000000) :
    Calls Tryz.prog 49 #[.slice ao n cap, .string d, .func (.func 50) #[] #[]] w fun e w' => e = .returned (.tuple #[.int .i64 (idxFl l d), .bool (findF l d).isSome]) ∧ Below w.heap.size w w' := by
  have HN := lid h.len
  have HA := lid hA
  have HS : Hid (Sl w 2 ao n (fcells l)) := lid h.sl
  clear h hA
  go_enter Tryz.func49, Tryz.ntmps49
  go_wp2_with fail
  go_loopw [9, 10] (fun u9 u10 wr => ∃ a b : Nat, a ≤ b ∧ b ≤ n ∧ u9 = .int .i64 a ∧ u10 = .int .i64 b ∧ Hid (BsF l d a b) ∧ Below w.heap.size w wr) (fun u9 u10 _ => (intOf u10).toNat - (intOf u9).toNat)
  case atStart => exact ⟨0, n, Nat.zero_le _, Nat.le_refl _, rfl, rfl, lid ⟨fun t _ ht => by omega, fun h => by rw [HN.out] at h; omega⟩, Below.refl _ _⟩
  case round =>
    obtain ⟨a, b, hab, hbn, rfl, rfl, HI, hb⟩ := hrel
    by_cases hlt : a < b
    · have dk : decide ((a : Int) < (b : Int)) = true := by simp; omega
      obtain ⟨m, hm⟩ : ∃ m, (a + b) / 2 = m := ⟨_, rfl⟩
      have hmi : ((a : Int) + (b : Int)) / 2 = (m : Int) := by omega
      have hma : a ≤ m := by omega
      have hmb : m < b := by omega
      have hml : m < l.length := by rw [HN.out]; omega
      obtain ⟨b1, o1, rfl, hlb1, hc1⟩ := (HS.out.below hb).at_ (show m < n by omega)
      obtain ⟨z0, z1⟩ := fcells_at hml
      have x0 := hc1 _ _ z0
      have x1 := hc1 _ _ z1
      rw [Nat.add_zero] at x0
      rw [← Nat.add_assoc] at x1
      have HM : Hid (cmpB l[m].1 d < 0 → ∀ t (ht : t < l.length), t < m + 1 → ltB l[t].1 d = true) := lid (fun hq => fmono_at HA.out hml ((cmpB_lt _ _).1 hq))
      have HE : Hid (¬ cmpB l[m].1 d < 0 → ∀ h : m < l.length, ltB l[m].1 d = false) := lid (fun hq _ => by
        cases hl : ltB l[m].1 d with
        | false => rfl
        | true => exact absurd ((cmpB_lt _ _).2 hl) hq)
      have CF := lid (fun W => tfind1_any l[m] d W)
      obtain ⟨q, hq⟩ : ∃ q, cmpB l[m].1 d = q := ⟨_, rfl⟩
      rw [hq] at HM HE CF
      obtain ⟨x, hx⟩ : ∃ x, l[m] = x := ⟨_, rfl⟩
      rw [hx] at x0 x1 CF
      clear hc1 z0 z1 hx hq
      by_cases hc : q < 0
      · have u := decide_eq_true hc
        have HV := lid (HM.out hc)
        clear HM HE
        go_wp2_with fail
        (with_reducible refine (CF.out _).mono ?_); rintro e w2 ⟨rfl, hb2⟩
        have hw2 := hb.trans (hb2.mono hb.size)
        go_wp2_with fail
        go_roundw
        case rel => exact ⟨m + 1, b, by omega, by omega, by go_num, rfl, lid ⟨HV.out, HI.out.2⟩, hw2⟩
        case measure => simp [intOf]; omega
      · have u := decide_eq_false hc
        have HV := lid (HE.out hc)
        clear HM HE
        go_wp2_with fail
        (with_reducible refine (CF.out _).mono ?_); rintro e w2 ⟨rfl, hb2⟩
        have hw2 := hb.trans (hb2.mono hb.size)
        go_wp2_with fail
        go_roundw
        case rel => exact ⟨a, m, by omega, by omega, rfl, rfl, lid ⟨HI.out.1, HV.out⟩, hw2⟩
        case measure => simp [intOf]; omega
    · obtain rfl : a = b := by omega
      have dk : decide ((a : Int) < (a : Int)) = false := by simp
      have HIX : Hid (idxFl l d = a) := lid (HI.out.done (by rw [HN.out]; omega))
      have hg := findF_at HA.out d
      by_cases han : a < n
      · have hal : a < l.length := by rw [HN.out]; exact han
        simp only [HIX.out, hal, dif_pos] at hg
        obtain ⟨b1, o1, rfl, hlb1, hc1⟩ := (HS.out.below hb).at_ han
        obtain ⟨z0, z1⟩ := fcells_at hal
        have x0 := hc1 _ _ z0
        have x1 := hc1 _ _ z1
        rw [Nat.add_zero] at x0
        rw [← Nat.add_assoc] at x1
        obtain ⟨x, hx⟩ : ∃ x, l[a] = x := ⟨_, rfl⟩
        rw [hx] at x0 x1 hg
        have CF := lid (fun W => tfind1_any x d W)
        have HU : Hid ((cmpB x.1 d == 0) = (findF l d).isSome) := lid (by
          rw [hg, Bool.eq_iff_iff, beq_iff_eq, cmpB_eq]
          by_cases e : x.1 = d <;> simp [e])
        obtain ⟨q, hq⟩ : ∃ q, cmpB x.1 d = q := ⟨_, rfl⟩
        rw [hq] at CF HU
        have da : decide ((a : Int) < (n : Int)) = true := by simp; omega
        clear hc1 z0 z1 hx hg hq
        go_wp2_with fail
        (with_reducible refine (CF.out _).mono ?_); rintro e w2 ⟨rfl, hb2⟩
        go_wp2_with fail
        go_ret2
        rw [HIX.out, ← HU.out]
        exact ⟨rfl, hb.trans (hb2.mono hb.size)⟩
      · obtain rfl : a = n := by omega
        have hal : ¬ a < l.length := by rw [HN.out]; omega
        simp only [HIX.out, hal, dif_neg, not_false_eq_true] at hg
        have HG := lid hg
        clear hg
        go_wp2_with fail
        go_ret2
        rw [HIX.out, HG.out]
        exact ⟨rfl, hb⟩
set_option maxRecDepth 100000 in
set_option maxHeartbeats 1000000 in
theorem treeFind_any (l : List Fl) (d : ByteArray) (n cap : Nat) (ao : Option Addr) (w : World) (h : FA w ao n cap l) (hA : AscF l) (hm1 : n ≤ 1000000) :
    Calls Tryz.prog 33 #[.slice ao n cap, .string d] w fun e w' => e = .returned (.tuple #[.int .i64 (idxFl l d), .bool (findF l d).isSome]) ∧ Below w.heap.size w w' := by
  have CB := lid (bsearchF_any l d n cap ao w h hA hm1)
  clear h hA
  go_enter Tryz.func33, Tryz.ntmps33
  go_wp2_with fail
  (with_reducible refine (CB.out).mono ?_); rintro e w1 ⟨rfl, hb⟩
  go_wp2_with fail
  go_ret2
  exact ⟨rfl, hb⟩
end Go.Proofs.YtphjillihapbfaaGreatDoor

namespace Go.Proofs.YtphjillihapbfaaGreatDoor
open Go.RowKit Go.Shelf Go.Sort

theorem flat_files (l : List Fl) : flatK fce 2 l.toArray = (fcells l).toArray := by
  have hs : (flatK fce 2 l.toArray).size = (fcells l).toArray.size := by simp [fcells_length]
  refine Array.ext hs fun t h1 h2 => ?_
  have ht : t < l.toArray.size * 2 := by simpa using h1
  have h3 := get_flatK fce 2 l.toArray t ht
  rw [getElem!_pos _ t h1] at h3
  rw [h3]
  have hk : t / 2 < l.length := by simp at ht; omega
  obtain ⟨z0, z1⟩ := fcells_at hk
  have h4 : (fcells l).toArray[t] = (fcells l)[t]'(by simpa using h2) := by simp
  rw [h4]
  have h5 : l.toArray[t / 2]! = l[t / 2] := by simp [hk]
  rw [h5]
  rcases Nat.mod_two_eq_zero_or_one t with hm | hm
  · rw [hm]
    have e : t = t / 2 * 2 + 0 := by omega
    have := List.getElem?_eq_some_iff.1 z0
    obtain ⟨hq, hv⟩ := this
    have : (fcells l)[t]'(by simpa using h2) = .string (l[t / 2]).1 := by
      rw [← hv]
      congr 1
    rw [this]
    rfl
  · rw [hm]
    have e : t = t / 2 * 2 + 1 := by omega
    obtain ⟨hq, hv⟩ := List.getElem?_eq_some_iff.1 z1
    have : (fcells l)[t]'(by simpa using h2) = .string (l[t / 2]).2 := by
      rw [← hv]
      congr 1
    rw [this]
    rfl
theorem holds_row {w : World} {g : Nat} {cur : Array Value} {e : TypeId} {xs : List Value} (hb : w.heap[g]? = some (.cells cur e (0, 0))) (ht : cur.toList.take xs.length = xs) : Holds id w g 0 xs.toArray := by
  intro j hj
  have hj' : j < xs.length := by simpa using hj
  refine ⟨?_, by simp [World.frozen?, hb]⟩
  have h1 : (cur.toList.take xs.length)[j]? = xs[j]? := by rw [ht]
  rw [List.getElem?_take_of_lt hj'] at h1
  simp only [World.cell?, hb, Nat.zero_add]
  simp only [Option.isSome_none, Bool.false_eq_true, if_false]
  rw [← Array.getElem?_toList, h1]
  simp [hj']
theorem heap_row {w : World} {g n : Nat} {os : Array Obj} {cur : Array Value} {e : TypeId} {fr : Nat × Nat} (d : Array Value) (hb : w.heap[g]? = some (.cells cur e fr)) :
    (grow (putRow id (Sort.ahead w n) g 0 d) os).heap[g]? = some (.cells (putCells id 0 d cur) e fr) := by
  have hg : g < w.heap.size := (Array.getElem?_eq_some_iff.1 hb).1
  rw [heap_grow_old _ _ (by simpa using hg)]
  simp [putRow, mapBlock, Sort.ahead, Array.getElem?_modify, hb, onCells]
theorem grown_row {w : World} {g n : Nat} {os : Array Obj} (d : Array Value) : w.grownBy (grow (putRow id (Sort.ahead w n) g 0 d) os) (some g) := by
  refine ⟨rfl, rfl, rfl, by simp, fun k hk hne => ?_⟩
  rw [heap_grow_old _ _ (by simpa using hk)]
  have : g ≠ k := fun e => hne (by rw [e])
  simp [putRow, mapBlock, Sort.ahead, Array.getElem?_modify, this]
theorem take_row (cur : Array Value) (ts : List Value) (h : ts.length ≤ cur.size) : (putCells id 0 ts.toArray cur).toList.take ts.length = ts := by
  apply List.ext_getElem?
  intro j
  by_cases hj : j < ts.length
  · rw [List.getElem?_take_of_lt hj, Array.getElem?_toList]
    simp [putCells, hj, show j < cur.size by omega]
  · rw [List.getElem?_take_eq_none (by omega), List.getElem?_eq_none (by omega)]
def cmpF (x y : Fl) : Int := cmpB x.1 y.1
theorem ltF (x y : Fl) : ltOf cmpF x y = ltB x.1 y.1 := by
  unfold ltOf cmpF
  cases h : ltB x.1 y.1 with
  | true => exact decide_eq_true ((cmpB_lt _ _).2 h)
  | false => exact decide_eq_false (fun e => by rw [(cmpB_lt _ _).1 e] at h; cases h)
theorem swoF : SWO (ltOf cmpF) where
  irrefl x := by rw [ltF]; exact ltB_irrefl _
  trans x y z h1 h2 := by rw [ltF] at *; exact ltB_trans h1 h2
  ntrans x y z h1 h2 := by
    rw [ltF] at *
    cases h : ltB x.1 z.1 with
    | false => rfl
    | true =>
      by_cases e : x.1 = y.1
      · rw [e] at h; rw [h] at h2; cases h2
      · have h3 := ltB_tri h1 e
        have := ltB_trans h3 h
        rw [this] at h2; cases h2
set_option maxHeartbeats 1000000 in
theorem load1_any (x y : Fl) (W : World) : Calls Tryz.prog 20 #[.agg #[.string x.1, .string x.2], .agg #[.string y.1, .string y.2]] W fun e w' => e = .returned (.int .i64 (cmpF x y)) ∧ ∃ q os', w' = grow (W.drewN q) os' := by
  have CC := lid (fun w => StrCompare_any x.1 y.1 w)
  go_enter Tryz.func20, Tryz.ntmps20
  go_wp2_with fail
  (with_reducible refine (CC.out _).mono ?_); rintro e w1 ⟨rfl, rfl⟩
  go_wp2_with fail
  go_ret
  exact ⟨rfl, 0, _, by rw [alloc_eq_grow, alloc_eq_grow, grow_grow]; rfl⟩
theorem lays1 (blk off size : Nat) (w : World) : CmpLays Tryz.prog 20 #[] fce 2 cmpF blk off size w := fun _ _ _ _ x y => load1_any x y _
theorem len12 (n : Nat) (W : World) (h : n ≤ 12) : Calls Tryz.prog 38 #[.int .u64 n] W fun e w' => (∃ l : Int, e = .returned (.int .i64 l)) ∧ w' = W :=
  (Any.bits_Len bitsA n W (by omega) (by omega)).mono fun _ _ ⟨he, hw⟩ => ⟨⟨_, he⟩, hw⟩
/-- A list sorted by its paths. -/
theorem sorted_asc {d : Array Fl} (hS : SortedIn (ltOf cmpF) 0 d.size d) (hn : d.toList.Pairwise fun f g => f.1 ≠ g.1) : AscF d.toList := by
  unfold AscF
  rw [List.pairwise_iff_getElem] at hn ⊢
  intro i j hi hj hij
  have h1 := hS i j (Nat.zero_le _) hij (by simpa using hj)
  rw [ltF, getElem!_pos d i (by simpa using hi), getElem!_pos d j (by simpa using hj)] at h1
  have h2 := hn i j hi hj hij
  refine ltB_tri (by simpa using h1) (fun e => h2 ?_)
  simpa using e.symm
set_option maxHeartbeats 2000000 in
theorem sortF_own (v : Value) (l : List Fl) (base : Nat) (w : World) (h : w.ownsRow base 45 2 v l.length (fcells l)) (hne : v ≠ .slice none 0 0) (h12 : l.length ≤ 12) (hnd : l.Pairwise fun f g => f.1 ≠ g.1) :
    Calls Tryz.prog 19 #[v, .func (.func 20) #[] #[]] w fun e w' => e = .returned (.tuple #[]) ∧ ∃ M : List Fl, w'.ownsRow base 45 2 v l.length (fcells M) ∧ M.Perm l ∧ AscF M ∧ w.grownBy w' v.ownBlock := by
  rcases h.2 with ⟨rfl, _⟩ | ⟨g, cap, cur, rfl, hgb, hb, r1, r2, r3, r4⟩
  · exact absurd rfl hne
  · have hH : HoldsK fce 2 w g 0 l.toArray := by
      unfold HoldsK
      rw [flat_files]
      refine holds_row hb ?_
      rw [fcells_length]
      exact r4
    have hgl : g < w.heap.size := (Array.getElem?_eq_some_iff.1 hb).1
    have hcon := AnyQ.slices_SortFunc_small_sorted sortFA 2 Tryz.isAgg45 Tryz.sizeOf45 fce (fun _ => rfl) (fun x v hv => by simp [fce] at hv; rcases hv with rfl | rfl <;> rfl) cmpF 20 #[] swoF g 0 cap l.toArray w (enters_of Tryz.func20 (by kernel_rfl) rfl) (lays1 g 0 l.toArray.size w) hH hgl (by simpa using h12) len12
    change Calls Tryz.prog 19 _ _ _ at hcon
    rw [show l.toArray.size = l.length by simp] at hcon
    refine hcon.mono ?_
    rintro e w' ⟨rfl, d', nn, os, hP, hS, rfl⟩
    obtain ⟨p1, _, p3⟩ := hP
    have hsz : d'.size = l.length := by simpa using p1
    have hperm : d'.toList.Perm l := by
      have e1 : d'.extract 0 l.length = d' := by rw [← hsz]; simp
      rw [e1] at p3
      simpa using p3
    have hfl : flatK fce 2 d' = (fcells d'.toList).toArray := by
      have := flat_files d'.toList
      simpa using this
    refine ⟨rfl, d'.toList, ?_, hperm, sorted_asc (by rw [hsz]; exact hS) ((hperm.pairwise_iff (fun h => Ne.symm h)).2 hnd), ?_⟩
    · unfold sortWorldK putRowK
      rw [hfl]
      refine ⟨by simp [fcells_length, hsz], .inr ⟨g, cap, _, rfl, hgb, heap_row _ hb, r1, r2, by simp [putCells, r3], ?_⟩⟩
      have hl2 : (fcells d'.toList).length = l.length * 2 := by simp [fcells_length, hsz]
      rw [← hl2]
      exact take_row cur _ (by rw [hl2, r3]; omega)
    · unfold sortWorldK putRowK
      exact grown_row _
end Go.Proofs.YtphjillihapbfaaGreatDoor

namespace Go.Proofs.YtphjillihapbfaaGreatDoor
open Go.RowKit
/-- 'out = append(out, ..)' where out lies in a box below the row's base. -/
theorem appended_x {W w1 : World} {n₀ B : Nat} {t e : TypeId} {size : Nat} {v v' : Value} {k m : Nat} {xs ys : List Value} {tmp : Obj} (hv : Boxed W B t v) (hrow : W.ownsRow n₀ e size v k xs) (hn₀ : n₀ ≤ W.heap.size) (hB : B < n₀)
    (hown' : w1.ownsRow n₀ e size v' m ys) (hgrow : (W.alloc tmp).grownBy w1 v.ownBlock) :
    Boxed w1 B t v ∧ Boxed (w1.setCell ⟨B, 0, none⟩ v') B t v' ∧ (w1.setCell ⟨B, 0, none⟩ v').ownsRow n₀ e size v' m ys ∧ KeepsOthers W (w1.setCell ⟨B, 0, none⟩ v') ∧ Below B W (w1.setCell ⟨B, 0, none⟩ v') ∧ KeptX n₀ B W (w1.setCell ⟨B, 0, none⟩ v') := by
  have hb : Below n₀ W w1 := ((Below.refl n₀ W).alloc hn₀ tmp).grown hgrow (by simp; omega) (fun k hk => ownsRow_row hrow k hk)
  have hv1 : Boxed w1 B t v := (hb.block B hB).trans hv
  refine ⟨hv1, hv1.set v', hown'.kept (grownBy_setCell' w1 B v') (.inr fun e => by have := ownsRow_row hown' B e; omega), ?_, (hb.mono (show B ≤ n₀ by omega)).setCell (p := ⟨B, 0, none⟩) (Nat.le_refl _) _, ((KeptX.refl _ _ _).below hb).setCell (p := ⟨B, 0, none⟩) (.inl rfl) _⟩
  refine ((KeepsOthers.alloc W tmp).trans (KeepsOthers.of_grownBy hgrow fun j o ej hj => ?_)).trans (KeepsOthers.setCell _ _ _)
  rcases (hrow.alloc tmp).2 with ⟨rfl, _⟩ | ⟨g, cap, cur, rfl, _, hgb, _⟩
  · simp [Value.ownBlock] at ej
  · obtain rfl : g = j := by simpa [Value.ownBlock] using ej
    rw [hgb] at hj; cases hj; rfl
theorem Boxed.below {w w' : World} {B X : Nat} {t : TypeId} {v : Value} (h : Boxed w X t v) (hb : Below B w w') (hX : X < B) : Boxed w' X t v := (hb.block X hX).trans h
theorem Boxed.keptx {w w' : World} {B X Y : Nat} {t : TypeId} {v : Value} (h : Boxed w X t v) (hb : KeptX B Y w w') (hX : X < B) (hne : X ≠ Y) : Boxed w' X t v := (hb X hX hne).trans h
end Go.Proofs.YtphjillihapbfaaGreatDoor

namespace Go.Proofs.YtphjillihapbfaaGreatDoor
open Go.RowKit Go.Shelf
attribute [local go_sem] Oper.semAt_some

set_option maxRecDepth 100000 in
set_option maxHeartbeats 2000000 in
theorem insF_none (cap : Nat) (w : World) : Calls Tryz.prog 54 #[.slice none 0 cap, .int .i64 0, .int .i64 0, .func (.func 20) #[] #[]] w fun e w' => e = .returned (.tuple #[]) ∧ w' = w := by
  go_enter Tryz.func54, Tryz.ntmps54
  go_wp2_with fail
  refine wp_loop_rounds 1 ?_
  rw [rounds_succ]
  go_wp2_with fail
  go_end0
  exact ⟨rfl, rfl⟩
set_option maxRecDepth 100000 in
set_option maxHeartbeats 2000000 in
theorem pdqF_none (cap : Nat) (lim : Int) (w : World) : Calls Tryz.prog 37 #[.slice none 0 cap, .int .i64 0, .int .i64 0, .int .i64 lim, .func (.func 20) #[] #[]] w fun e w' => e = .returned (.tuple #[]) ∧ w' = w := by
  have CI := lid (insF_none cap w)
  go_enter Tryz.func37, Tryz.ntmps37
  go_wp2_with fail
  refine wp_loop_rounds 1 ?_
  rw [rounds_succ]
  go_wp2_with fail
  (with_reducible refine (CI.out).mono ?_); rintro e w1 ⟨rfl, rfl⟩
  go_wp2_with fail
  exact bodyPost_ret (results_none rfl _ _ _) rfl ⟨rfl, rfl⟩
set_option maxRecDepth 100000 in
set_option maxHeartbeats 2000000 in
theorem sortF_none (cap : Nat) (w : World) : Calls Tryz.prog 19 #[.slice none 0 cap, .func (.func 20) #[] #[]] w fun e w' => e = .returned (.tuple #[]) ∧ w' = w := by
  have CL : Hid (Calls Tryz.prog 38 #[.int .u64 0] w fun e w' => (∃ l : Int, e = .returned (.int .i64 l)) ∧ w' = w) := lid (len12 0 w (by omega))
  have CP := lid (fun lim => pdqF_none cap lim w)
  go_enter Tryz.func19, Tryz.ntmps19
  go_wp2_with fail
  (with_reducible refine (CL.out).mono ?_); rintro e w1 ⟨⟨x, rfl⟩, rfl⟩
  go_wp2_with fail
  (with_reducible refine (CP.out _).mono ?_); rintro e w1 ⟨rfl, rfl⟩
  go_wp2_with fail
  go_end0
  exact ⟨rfl, rfl⟩
theorem all_fn (n cap : Nat) (ao : Option Addr) (d : Dg) (w : World) : Calls Tryz.prog 18 #[.slice ao n cap, dv d] w fun e w' => e = .returned (.func (.func 35) #[] #[.pointer (some ⟨w.heap.size, 0, none⟩), .pointer (some ⟨w.heap.size + 1, 0, none⟩)]) ∧ w' = (w.alloc (.cells #[.slice ao n cap] 25)).alloc (.cells #[.int .u64 d.1.toNat, .int .u64 d.2.toNat] 31) := by
  show Calls Tryz.prog 18 #[.slice ao n cap, .agg #[.int .u64 d.1.toNat, .int .u64 d.2.toNat]] w _
  go_enter Tryz.func18, Tryz.ntmps18
  go_wp2_with fail
  go_ret
  exact ⟨by simp, rfl⟩
set_option maxRecDepth 100000 in
set_option maxHeartbeats 4000000 in
theorem all_stops (m : Nat) (hm1 : 1 ≤ m) (bp bd bx : Nat) (p : List It) (n cap : Nat) (ao : Option Addr) (d : Dg) (k : Nat) (L : List Fl) (w : World) (hG : GoodP p) (hn : n ≤ 90000) (hP : PA w ao n cap p) (hLo : Lo w ao) (hND : ND bx w) (hT : ∀ x, ao = some x → ¬ Ter bx w x.block) (hL : loadP p k d [] = some L)
    (hbp : w.heap[bp]? = some (.cells #[.slice ao n cap] 25 (0, 0))) (hbd : w.heap[bd]? = some (.cells #[.int .u64 d.1.toNat, .int .u64 d.2.toNat] 31 (0, 0))) :
    SeqStopsK Fence.wide m Tryz.prog 35 #[.pointer (some ⟨bp, 0, none⟩), .pointer (some ⟨bd, 0, none⟩)] (fun (x : Fl) => #[vv x]) (KT bx) (fun ys => ys = L) (fun _ => True) L.length w := by
  intro l J Jx W hW hJ hJx hY h0
  have hp1 := (hW.block _ (row_lt hbp)).trans hbp
  have hd1 := (hW.block _ (row_lt hbd)).trans hbd
  have CV := lid (visit_any k p n cap ao d ⟨#[]⟩ L l (m - 1) bx L.length J (fun s X => Jx s X) [] W hG hn (hP.below hW) (hND.same (hW.block _ hND.lt) hW.size) (hLo.mono hW.size) (fun x hx ht => hT x hx ((ter_same (hW.block _ hND.lt) _).1 ht)) hL (by decide) (fun s X X' hs hg => hJ s X X' none hs hg (fun r e => by cases e)) (fun s x X hs hl => hY s x X hs hl) h0 (by simp))
  have y0 := row_cell hp1 0
  have lp := row_lt hp1
  have z0 : W.cell? ⟨bd, 0, none⟩ = some (.int .u64 d.1.toNat) := row_cell hd1 0
  have z1 : W.cell? ⟨bd, 1, none⟩ = some (.int .u64 d.2.toNat) := row_cell hd1 1
  replace y0 : W.cell? ⟨bp, 0, none⟩ = some (.slice ao n cap) := y0
  have ld := row_lt hd1
  clear hJ hJx hY h0 hG hP hLo hND hT hL hbp hbd hp1 hd1 hW
  refine callsIn_of_wp Tryz.func35 rfl trivial ?_ rfl
  simp only [Tryz.ntmps35, List.size_toArray, List.length_cons, List.length_nil, Nat.reduceAdd, Nat.reduceSub, Array.replicate_succ, Array.replicate_zero, List.push_toArray, List.append_toArray, List.nil_append, List.cons_append]
  gi_wp2_with fail
  refine ⟨trivial, (callsIn_wide.2 CV.out).mono ?_⟩
  rintro e w4 (⟨rfl, hJ4, _⟩ | ⟨rfl, s, hJx⟩)
  · have HJ := lid hJ4
    clear hJ4
    gi_wp2_with fail
    exact bodyPost_end (results_none rfl _ _ _) rfl ⟨⟨_, rfl⟩, .inl ⟨_, rfl, HJ.out⟩⟩
  · have HJ := lid hJx
    clear hJx
    gi_wp2_with fail
    exact bodyPost_end (results_none rfl _ _ _) rfl ⟨⟨_, rfl⟩, .inr ⟨_, trivial, HJ.out⟩⟩
end Go.Proofs.YtphjillihapbfaaGreatDoor
