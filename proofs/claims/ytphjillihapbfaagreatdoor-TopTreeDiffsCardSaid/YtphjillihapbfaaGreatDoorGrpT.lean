/-
  LedRec LedDig LedIter TreeVisit.
-/
import Derived.Test.YtphjillihapbfaaGreatDoorLedWord
import Derived.Test.YtphjillihapbfaaGreatDoorGrpG
import Derived.Test.YtphjillihapbfaaGreatDoorGrpA
import Derived.Test.YtphjillihapbfaaGreatDoorGrpB
import Derived.RangeFuncNested
import Derived.RangeFuncBound
import Derived.RangeFuncCalls
import Derived.RangeFuncLeaves
import Derived.Shelf.Abstract
import Derived.WalkKit
import Derived.OwnWalkIn
import Derived.TacticsInMore
import Derived.LoopNIn
import Derived.LoopIn
import Derived.Test.YtphjillihapbfaaGreatDoorSl
import Derived.Test.YtphjillihapbfaaGreatDoorGrpF
import Derived.Test.YtphjillihapbfaaGreatDoorGrpL
import Derived.Test.YtphjillihapbfaaGreatDoorGrpP
import Derived.Test.YtphjillihapbfaaGreatDoorGrpM
import Derived.Test.YtphjillihapbfaaGreatDoorGrpQ
namespace Go.Proofs.YtphjillihapbfaaGreatDoor
open Go.RowKit

/-- The sizes of a record's texts that the model asks. -/
def RecS (r : Rec) : Prop := r.2.1.size ≤ maxLen ∧ r.2.2.1.size ≤ maxLen ∧ r.2.2.2.size ≤ maxLen

theorem putI_len (n : Int) : (putI n).length ≤ 6 := by
  unfold putI putB
  split
  · rename_i h
    have := of_decide_eq_true h
    exact putN_six (by omega)
  · simp
theorem putX_len (l : List UInt8) : (putX l).length ≤ 65542 := by
  unfold putX
  split
  · rename_i h
    unfold putT
    rw [List.length_append]
    have := putN_six (n := l.length) (by omega)
    omega
  · simp
theorem recL_len (r : Rec) : (bstr (recL r)).size ≤ maxLen := by
  rw [bstr_size]
  unfold recL
  simp only [List.length_append]
  have := putI_len r.1
  have := putX_len r.2.1.data.toList
  have := putX_len r.2.2.1.data.toList
  have := putX_len r.2.2.2.data.toList
  unfold maxLen
  omega

end Go.Proofs.YtphjillihapbfaaGreatDoor

namespace Go.Proofs.YtphjillihapbfaaGreatDoor
open Go.RowKit

end Go.Proofs.YtphjillihapbfaaGreatDoor

namespace Go.Proofs.YtphjillihapbfaaGreatDoor
open Go.RowKit Go.Shelf
attribute [local go_sem] Oper.semAt_some

theorem grown_of_below {w w' : World} (h : Below w.heap.size w w') (row : Option Nat) : w.grownBy w' row := ⟨h.os, h.tape, h.output, h.size, fun k hk _ => h.block k hk⟩
theorem take_map_succ {l : List Rec} {k : Nat} (h : k < l.length) : (l.map recD).take (k + 1) = (l.map recD).take k ++ [recD l[k]] := by
  rw [List.take_succ_eq_append_getElem (by simpa using h)]
  simp

end Go.Proofs.YtphjillihapbfaaGreatDoor

namespace Go.Proofs.YtphjillihapbfaaGreatDoor
open Go.RowKit Go.Shelf
attribute [local go_sem] Oper.semAt_some

/-- What belongs to the caller whose slice variable lies in block bx. -/
def Ter (bx : Nat) (W : World) (k : Nat) : Prop := k = bx ∨ ∃ v, W.heap[bx]? = some (.cells #[v] 28 (0, 0)) ∧ v.ownBlock = some k
def ND (bx : Nat) (W : World) : Prop := ∃ v, W.heap[bx]? = some (.cells #[v] 28 (0, 0)) ∧ ∀ k, v.ownBlock = some k → k < W.heap.size
theorem ND.lt {bx : Nat} {W : World} (h : ND bx W) : bx < W.heap.size := let ⟨_, hv, _⟩ := h; (Array.getElem?_eq_some_iff.1 hv).1
structure KT1 (bx : Nat) (W W' : World) : Prop where
  nd : ND bx W'
  size : W.heap.size ≤ W'.heap.size
  keep : ∀ k cs t f, W.heap[k]? = some (.cells cs t f) → ¬ Ter bx W k → W'.heap[k]? = W.heap[k]?
  back : ∀ k, k < W.heap.size → Ter bx W' k → Ter bx W k
def KT (bx : Nat) (W W' : World) : Prop := ND bx W → KT1 bx W W'
theorem KT.refl (bx : Nat) (W : World) : KT bx W W := fun h => ⟨h, Nat.le_refl _, fun _ _ _ _ _ _ => rfl, fun _ _ h => h⟩
theorem KT.trans {bx : Nat} {A B C : World} (h : KT bx A B) (g : KT bx B C) : KT bx A C := fun hA => by
  have h1 := h hA
  have g1 := g h1.nd
  refine ⟨g1.nd, Nat.le_trans h1.size g1.size, fun k cs t f hk hn => ?_, fun k hk ht => h1.back k hk (g1.back k (Nat.lt_of_lt_of_le hk h1.size) ht)⟩
  have e1 := h1.keep k cs t f hk hn
  have hkl := (Array.getElem?_eq_some_iff.1 hk).1
  exact (g1.keep k cs t f (e1.trans hk) (fun ht => hn (h1.back k hkl ht))).trans e1
theorem ter_same {bx : Nat} {W W' : World} (h : W'.heap[bx]? = W.heap[bx]?) (k : Nat) : Ter bx W' k ↔ Ter bx W k := by unfold Ter; rw [h]
theorem ND.same {bx : Nat} {W W' : World} (h : ND bx W) (e : W'.heap[bx]? = W.heap[bx]?) (hs : W.heap.size ≤ W'.heap.size) : ND bx W' := let ⟨v, hv, hk⟩ := h; ⟨v, e.trans hv, fun k h => Nat.lt_of_lt_of_le (hk k h) hs⟩
theorem KT.below {bx : Nat} {W W' : World} (hb : Below W.heap.size W W') : KT bx W W' := fun h => by
  have e := hb.block bx h.lt
  exact ⟨h.same e hb.size, hb.size, fun k cs t f hk _ => hb.block k (Array.getElem?_eq_some_iff.1 hk).1, fun k _ ht => (ter_same e k).1 ht⟩
theorem KT.putObj {bx : Nat} (W : World) (l : Nat) (o o' : Obj) (h : W.heap[l]? = some o) (ho : o.isCells = false) : KT bx W (W.putObj l o') := fun hn => by
  have hl : bx ≠ l := fun e => by
    obtain ⟨v, hv, _⟩ := hn
    rw [e, h] at hv
    cases hv
    cases ho
  have e : (W.putObj l o').heap[bx]? = W.heap[bx]? := World.putObj_heap_other hl
  refine ⟨hn.same e (by simp), by simp, fun k cs t f hk _ => ?_, fun k _ ht => (ter_same e k).1 ht⟩
  exact World.putObj_heap_other (fun e2 => by subst e2; rw [h] at hk; cases hk; cases ho)
theorem ter_lt {bx : Nat} {W : World} (h : ND bx W) {k : Nat} (ht : Ter bx W k) : k < W.heap.size := by
  obtain ⟨v, hv, h2⟩ := h
  rcases ht with rfl | ⟨u, hu, hk⟩
  · exact (Array.getElem?_eq_some_iff.1 hv).1
  · rw [hv] at hu
    cases hu
    exact h2 k hk
theorem fresh {bx : Nat} {W W' : World} (h : ND bx W) (hb : Below W.heap.size W W') {k : Nat} (hk : W.heap.size ≤ k) : ¬ Ter bx W' k := fun ht => by
  have := ter_lt h ((ter_same (hb.block bx h.lt) k).1 ht)
  omega
theorem KT1.safe {bx : Nat} {W W' : World} (h : KT1 bx W W') {k : Nat} (hk : k < W.heap.size) (hn : ¬ Ter bx W k) : ¬ Ter bx W' k := fun ht => hn (h.back k hk ht)
theorem cell_cells {W : World} {b j : Nat} {u : Value} (h : W.cell? ⟨b, j, none⟩ = some u) : ∃ cs t f, W.heap[b]? = some (.cells cs t f) := by
  simp only [World.cell?] at h
  cases hb : W.heap[b]? with
  | none => simp [hb] at h
  | some o =>
    cases o with
    | cells cs t f => exact ⟨cs, t, f, rfl⟩
    | _ => simp [hb] at h
theorem Sl.kt {bx : Nat} {W W' : World} {size n : Nat} {ao : Option Addr} {xs : List Value} (h : Sl W size ao n xs) (hk : KT1 bx W W') (hn : ∀ x, ao = some x → ¬ Ter bx W x.block) : Sl W' size ao n xs := by
  refine ⟨h.1, ?_⟩
  rcases h.2 with h0 | ⟨b, o, e, hb, hc⟩
  · exact .inl h0
  · refine .inr ⟨b, o, e, Nat.lt_of_lt_of_le hb hk.size, fun j u hu => ?_⟩
    have h1 := hc j u hu
    obtain ⟨cs, t, f, hcs⟩ := cell_cells h1
    have h2 := hk.keep b cs t f hcs (hn _ e)
    simp only [World.cell?] at h1 ⊢
    rw [h2]
    exact h1
theorem PA.kt {bx : Nat} {W W' : World} {n cap : Nat} {ao : Option Addr} {l : List It} (h : PA W ao n cap l) (hk : KT1 bx W W') (hn : ∀ x, ao = some x → ¬ Ter bx W x.block) : PA W' ao n cap l := ⟨h.len, h.sl.kt hk hn, h.le, h.max, h.z⟩
set_option maxRecDepth 100000 in
set_option maxHeartbeats 2000000 in
/-- The data of a blob. -/
theorem data_any (l : List It) (d : Dg) (n cap : Nat) (ao : Option Addr) (w : World) (o : Ob) (h : PA w ao n cap l) (hG : GoodP l) (hm1 : n ≤ 1000000) (ho : getO l d = some o) (hkd : o.kind = 1) :
    Calls Tryz.prog 53 #[.slice ao n cap, dv d] w fun e w' => e = .returned (.tuple #[.string o.data, .int .i64 0]) ∧ Below w.heap.size w w' := by
  obtain ⟨W, hW⟩ : ∃ W, w.alloc (Obj.cells #[.int .u64 d.1.toNat, .int .u64 d.2.toNat] 31) = W := ⟨_, rfl⟩
  have hbW : Below w.heap.size w W := by rw [← hW]; exact ba _ _
  have hP : W.heap[w.heap.size]? = some (.cells #[.int .u64 d.1.toNat, .int .u64 d.2.toNat] 31 (0, 0)) := by rw [← hW]; exact heap_alloc_new w _
  have y0 : W.cell? ⟨w.heap.size, 0, none⟩ = some (.int .u64 d.1.toNat) := row_cell hP 0
  have y1 : W.cell? ⟨w.heap.size, 1, none⟩ = some (.int .u64 d.2.toNat) := row_cell hP 1
  have ly := row_lt hP
  have CG := lid (poolGet_any l d n cap ao W o (h.below hbW) hG hm1 ho)
  have HBW := lid hbW
  have HW := lid hW
  clear h hG ho hW hbW hP
  show Calls Tryz.prog 53 #[.slice ao n cap, .agg #[.int .u64 d.1.toNat, .int .u64 d.2.toNat]] w _
  go_enter Tryz.func53, Tryz.ntmps53
  go_wp2_with fail
  rw [HW.out]
  (with_reducible refine (CG.out).mono ?_); rintro e w1 ⟨ae, ap, ne, ce, np, cp, rfl, hnp, hoa, hb1, _, _⟩
  obtain ⟨W2, hW2⟩ : ∃ y, w1.alloc (Obj.cells (ocells o ae ne ce ap np cp) 72) = y := ⟨_, rfl⟩
  have hb2 : Below w1.heap.size w1 W2 := by rw [← hW2]; exact ba _ _
  have hO2 : W2.heap[w1.heap.size]? = some (.cells (ocells o ae ne ce ap np cp) 72 (0, 0)) := by rw [← hW2]; exact heap_alloc_new w1 _
  have o0 : W2.cell? ⟨w1.heap.size, 0, none⟩ = some (.int .i64 o.kind) := row_cell hO2 0
  have o1 : W2.cell? ⟨w1.heap.size, 1, none⟩ = some (.string o.data) := row_cell hO2 1
  have lo := row_lt hO2
  have HW2 := lid hW2
  have HB2 := lid ((HBW.out.trans (hb1.mono HBW.out.size)).trans (hb2.mono (by have := HBW.out.size; have := hb1.size; omega)))
  rw [hkd] at o0
  clear hkd hW2 hb2 hO2 hb1 hoa
  go_wp2_with (with_reducible refine swap_world HW2.out ?_)
  go_ret2
  exact ⟨rfl, HB2.out⟩
end Go.Proofs.YtphjillihapbfaaGreatDoor
