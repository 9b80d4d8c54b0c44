/-
  OwnRdP AppAt OwnRead.
-/
import Derived.Test.YtefehgdckmajiaaGreatDoorOwnChk
import Derived.Test.YtefehgdckmajiaaGreatDoorOwnWords
import Derived.Maps.AppendAt
import Derived.Test.YtefehgdckmajiaaGreatDoorGrpA
import Derived.RangeFuncBox
namespace Go.Proofs.YtefehgdckmajiaaGreatDoor
open Go.RowKit

def allS : ByteArray := ⟨#[97, 108, 108]⟩
def prefS : ByteArray := ⟨#[112, 114, 101, 102, 105, 120]⟩
def semiS : ByteArray := ⟨#[59]⟩
theorem allS_list : allS.toList = [97, 108, 108] := by rw [ByteArray.toList_eq]; rfl
theorem prefS_list : prefS.toList = [112, 114, 101, 102, 105, 120] := by rw [ByteArray.toList_eq]; rfl
theorem semiS_list : semiS.toList = [59] := by rw [ByteArray.toList_eq]; rfl
/-- Where a reader is: the rules that are closed, and what is open. -/
inductive RdS where
  | rule (l : List Rl)
  | pre (l : List Rl)
  | groups (l : List Rl) (p : ByteArray)
  | group (l : List Rl) (p : ByteArray) (gs : List (List ByteArray))
  | person (l : List Rl) (p : ByteArray) (gs : List (List ByteArray)) (g : List ByteArray)
def RdS.place : RdS → Int
  | .rule _ => 0
  | .pre _ => 1
  | .groups .. => 2
  | .group .. => 3
  | .person .. => 4
/-- The rules, the open one among them. -/
def RdS.all : RdS → List Rl
  | .rule l => l
  | .pre l => l
  | .groups l p => l ++ [(p, [])]
  | .group l p gs => l ++ [(p, gs ++ [[]])]
  | .person l p gs g => l ++ [(p, gs ++ [g])]
def readF : RdS → ByteArray → Option RdS
  | .rule l, w => if w = allS then some (.groups l ⟨#[]⟩) else if w = prefS then some (.pre l) else none
  | .pre l, w => if prefixB w = true then some (.groups l w) else none
  | .groups l p, w => if w = groupS then some (.group l p []) else none
  | .group l p gs, w => if personB w = true then some (.person l p gs [w]) else none
  | .person l p gs g, w => if w = groupS then some (.group l p (gs ++ [g])) else if personB w = true then some (.person l p gs (g ++ [w])) else if w = semiS then some (.rule (l ++ [(p, gs ++ [g])])) else none
/-- Words, one after the other. -/
def readGo : RdS → List (List UInt8) → Option RdS
  | s, [] => some s
  | s, x :: l => match readF s (bstr x) with
    | some s' => readGo s' l
    | none => none
/-- owners.Parse, of texts of at most 65536 bytes. -/
def parseF (s : ByteArray) : Option (List Rl) :=
  match readGo (.rule []) (wordsL s.data.toList) with
  | some (.rule l) => if chkL l = 0 then some l else none
  | _ => none
end Go.Proofs.YtefehgdckmajiaaGreatDoor

namespace Go.Proofs.YtefehgdckmajiaaGreatDoor
open Go.RowKit

/-- 'append(out, x)', x just laid in a block of its own; where the new slice lies. -/
theorem wpList_append_new_at {P : Program} {ops : Array Oper} {rest : List Oper} {o : Oper} {a : Act} {Q : Exit → Act → World → Prop} {w : World} (us : Array Value) (hgd : o.guard = none) (s x : Operand) (t : TypeId)
    (ho : o.op = .call { callee := .builtin .append, args := #[s, x], argTypes := #[t, t] })
    (base : Nat) (e : TypeId) (z : Value) (size bytes : Nat) (hinfo : (P.info? e).map (fun i => (i.zero, i.size, i.bytes)) = some (some z, size, bytes)) (ht : P.underlying t = some (.slice e)) (hzs : z.cells.size = size) (hsz : 0 < size)
    (v : Value) (n : Nat) (xs : List Value) (hown : w.ownsRow base e size v n xs) (hs : a.eval s = v)
    (hx : a.eval x = .slice (some ⟨w.heap.size, 0, none⟩) 1 1) (hl : us.size = size) (h1 : ∀ u ∈ us.toList, u.oneCell' = true)
    (h63 : n + 1 ≤ maxLen) (hbytes : (n + 1) * bytes ≤ 140737488355328) (hbase : base ≤ w.heap.size)
    (h : ∀ v' w', w'.ownsRow base e size v' (n + 1) (xs ++ us.toList) → (w.alloc (.cells us e)).grownBy w' v.ownBlock → (v'.ownBlock = v.ownBlock ∨ v'.ownBlock = some (w.alloc (.cells us e)).heap.size) → wpList P ops Q rest (a.put o.dst v') w') : wpList P ops Q (o :: rest) a (w.alloc (.cells us e)) := by
  obtain ⟨i, hi, hz0, hz1, hz2⟩ := info_parts hinfo
  refine wpList_append_own_at _ hgd s x t ho base e i z size bytes ht hi hz0 hz1 hz2 hzs hsz v n xs hs (hown.alloc _) ⟨w.heap.size, 0, none⟩ 1 1 us.toList hx (by simp [hl]) ?_ h1 h63 hbytes (by simp; omega) ?_
  · intro j u hu
    rw [Addr.add_lit]
    simp only [World.cell?, Nat.zero_add]
    rw [heap_alloc_new]
    simpa using hu
  · intro v' w' hown' hg hn hat
    exact h v' w' hown' hg hat

end Go.Proofs.YtefehgdckmajiaaGreatDoor

namespace Go.Proofs.YtefehgdckmajiaaGreatDoor
open Go.RowKit

theorem info_rl : (Tryz.prog.info? 99).map (fun i => (i.zero, i.size, i.bytes)) = some (some (.agg #[.string ⟨#[]⟩, .slice none 0 0]), 2, 40) := by kernel_rfl
/-- All that lay stays, but for block rb and the block of a row. -/
structure RowStep (rb : Nat) (v : Value) (w w' : World) : Prop where
  size : w.heap.size ≤ w'.heap.size
  kept : ∀ k, k < w.heap.size → k ≠ rb → some k ≠ v.ownBlock → w'.heap[k]? = w.heap[k]?
/-- What a word of the reader may do: its box, and rows of its own. -/
structure RdStep (base rb : Nat) (w w' : World) : Prop where
  below : Below rb w w'
  low : ∀ k, k < base → k ≠ rb → w'.heap[k]? = w.heap[k]?
  obj : ∀ (k : Nat) (o : Obj), w.heap[k]? = some o → o.isCells = false → w'.heap[k]? = some o
section
variable {base rb : Nat} {w w' w2 : World}
theorem RdStep.refl (base rb : Nat) (w : World) : RdStep base rb w w := ⟨Below.refl _ _, fun _ _ _ => rfl, fun _ _ h _ => h⟩
theorem RdStep.trans (h : RdStep base rb w w') (k : RdStep base rb w' w2) : RdStep base rb w w2 := ⟨h.below.trans k.below, fun i hi hr => (k.low i hi hr).trans (h.low i hi hr), fun i o hi ho => k.obj i o (h.obj i o hi ho) ho⟩
theorem RdStep.of_below (hb : base ≤ w.heap.size) (hr : rb < base) (h : Below w.heap.size w w') : RdStep base rb w w' := ⟨h.mono (by omega), fun k hk _ => h.block k (by omega), fun k o hk _ => (h.block k (Array.getElem?_eq_some_iff.1 hk).1).trans hk⟩
theorem RdStep.own {e : TypeId} {size n : Nat} {v : Value} {xs : List Value} (hb : base ≤ w.heap.size) (hr : rb < base) (ho : w.ownsRow base e size v n xs) (hg : w.grownBy w' v.ownBlock) : RdStep base rb w w' := by
  refine ⟨(Below.refl _ _).grown hg (by omega) (fun k hk => by have := ownsRow_row ho k hk; omega), fun k hk _ => hg.block k (by omega) (fun e => by have := ownsRow_row ho k e.symm; omega), fun k o hk hc => ?_⟩
  refine (hg.block k (Array.getElem?_eq_some_iff.1 hk).1 fun e => ?_).trans hk
  rcases ho.2 with ⟨rfl, _⟩ | ⟨g, cap, cur, rfl, _, hgb, _⟩
  · cases e
  · obtain rfl : k = g := Option.some.inj e
    rw [hgb] at hk
    cases hk
    cases hc
theorem RdStep.setCell (hr : rb < base) {p : Addr} (hp : p.block = rb ∨ base ≤ p.block) (v : Value) : RdStep base rb w (w.setCell p v) :=
  ⟨(Below.refl _ _).setCell (by omega) v, fun k hk hn => Below.heap_setCell _ _ _ k (by omega), fun k o hk hc => (KeepsOthers.setCell w p v).same k o hk hc⟩
end
set_option maxRecDepth 100000 in
set_option maxHeartbeats 4000000 in
theorem begin_any (base rb : Nat) (pl : Int) (vr : Value) (ps : List PV) (p : ByteArray) (w : World) (_hp : p.size ≤ maxLen) (hb : w.heap[rb]? = some (.cells #[.int .i64 pl, vr] 120 (0, 0))) (ho : w.ownsRow base 99 2 vr ps.length (pcells ps)) (hn : ps.length ≤ 1000000) (hbase : base ≤ w.heap.size) (hrb : rb < base) :
    Calls Tryz.prog 79 #[.pointer (some ⟨rb, 0, none⟩), .string p] w fun e w' => e = .returned (.tuple #[]) ∧ ∃ vr' : Value, w'.heap[rb]? = some (.cells #[.int .i64 pl, vr'] 120 (0, 0)) ∧
      w'.ownsRow base 99 2 vr' (ps.length + 1) (pcells (ps ++ [(p, (none, 0, 0))])) ∧ RowStep rb vr w w' ∧ RdStep base rb w w' ∧ (vr'.ownBlock = vr.ownBlock ∨ ∀ g, vr'.ownBlock = some g → w.heap.size ≤ g) := by
  have HB := lid hb
  have y0 := row_cell hb 0
  have y1 := row_cell hb 1
  have f1 := row_fz hb 1
  have lR := row_lt hb
  have HO := lid ho
  clear hb ho
  go_enter Tryz.func79, Tryz.ntmps79
  go_wp2_with (at_builtin; go_must (refine wpList_append_new_at (w := w) #[.string p, .slice none 0 0] rfl _ _ 92 rfl base 99 (.agg #[.string ⟨#[]⟩, .slice none 0 0]) 2 40 info_rl Tryz.underlying92 rfl (by decide) vr ps.length (pcells ps) HO.out rfl rfl rfl (by intro u hu; simp only [List.mem_cons, List.not_mem_nil, or_false] at hu; rcases hu with rfl | rfl <;> rfl) (by simp only [maxLen]; omega) (by omega) hbase ?_))
  intro v' w2 hown hg hat
  have hb2 : w2.heap[rb]? = some (.cells #[.int .i64 pl, vr] 120 (0, 0)) := by
    refine (hg.block rb (by simp; omega) ?_).trans ((h_old lR _).trans HB.out)
    intro e
    have := ownsRow_row HO.out rb e.symm
    omega
  have HB2 := lid hb2
  have f2 := row_fz hb2 1
  have c2 := row_cell hb2 1
  have lR2 := row_lt hb2
  have HOW := lid hown
  have HG := lid hg
  have HAT := lid hat
  obtain ⟨a8, n8, c8, hv⟩ : ∃ a n c, v' = .slice a n c := by
    obtain ⟨ao, cap, e, _⟩ := Sl.of_own hown
    exact ⟨_, _, _, e⟩
  subst hv
  clear hb2 hown hg hat y0 y1 f1 lR
  go_wp2_with fail
  have hbase2 : base ≤ w2.heap.size := Nat.le_trans hbase (Nat.le_trans (by simp) HG.out.size)
  refine bodyPost_end (results_none rfl _ _ _) rfl ⟨rfl, .slice a8 n8 c8, ?_, ?_, ⟨?_, ?_⟩, ?_, ?_⟩
  · have := row_set HB2.out 1 (.slice a8 n8 c8)
    simpa using this
  · rw [pcells_append]
    exact ownsRow_setCell_below HOW.out (a := ⟨rb, 1, none⟩) hrb _
  · have h1 := HG.out.size
    have h2 : w2.heap.size ≤ (w2.setCell ⟨rb, 1, none⟩ (.slice a8 n8 c8)).heap.size := by show _ ≤ (w2.heap.modify _ _).size; rw [Array.size_modify]; exact Nat.le_refl _
    simp at h1
    omega
  · intro k hk hkr hkv
    refine (Below.heap_setCell _ _ _ k hkr).trans ((HG.out.block k (by simp; omega) (fun e => hkv e)).trans (h_old hk _))
  · exact (RdStep.of_below hbase hrb (ba _ _)).trans ((RdStep.own (by simp; omega) hrb (HO.out.alloc _) HG.out).trans (RdStep.setCell hrb (.inl rfl) _))
  · refine HAT.out.imp id fun e g hg => ?_
    rw [e] at hg
    cases hg
    omega
end Go.Proofs.YtefehgdckmajiaaGreatDoor
