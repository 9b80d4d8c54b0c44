/-
  chunks: the iterator over the chunks of data, for every loop body.
-/
import Derived.RangeFuncNested
import Derived.RangeFuncBound
import Derived.RangeFuncCalls
import Derived.RangeFuncLeaves
import Derived.Shelf.Abstract
import Derived.WalkKit
import Derived.OwnWalkIn
import Derived.TacticsInMore
import Derived.LoopNIn
import Derived.LoopIn
import Derived.Test.YtmebjjoldhcgpaaRows
import Derived.Test.YtmebjjoldhcgpaaChkU32
import Derived.Test.YtmebjjoldhcgpaaKit
namespace Go.Proofs.Ytmebjjoldhcgpaa
open Go.RowKit Go.Shelf
attribute [local go_sem] Oper.semAt_some

/-- Two blocks lie as they lay. -/
def Kept2 (b c : Nat) (W W' : World) : Prop := W'.heap[b]? = W.heap[b]? ∧ W'.heap[c]? = W.heap[c]?
theorem Kept2.refl (b c : Nat) (W : World) : Kept2 b c W W := ⟨rfl, rfl⟩
theorem Kept2.trans {b c : Nat} {W W' W'' : World} (h : Kept2 b c W W') (k : Kept2 b c W' W'') : Kept2 b c W W'' := ⟨k.1.trans h.1, k.2.trans h.2⟩
theorem Kept2.c1 {b c : Nat} {W W' : World} (h : Kept2 b c W W') (o : Nat) : W'.cell? ⟨b, o, none⟩ = W.cell? ⟨b, o, none⟩ := World.cell?_of_block (a := ⟨b, o, none⟩) h.1
theorem Kept2.c2 {b c : Nat} {W W' : World} (h : Kept2 b c W W') (o : Nat) : W'.cell? ⟨c, o, none⟩ = W.cell? ⟨c, o, none⟩ := World.cell?_of_block (a := ⟨c, o, none⟩) h.2
theorem Kept2.below {b c B : Nat} {W W' : World} (h : Below B W W') (hb : b < B) (hc : c < B) : Kept2 b c W W' := ⟨h.block b hb, h.block c hc⟩
theorem Kept2.t {b c : Nat} {A B C : World} (h : Kept2 b c A B) (k : Kept2 b c B C) : Kept2 b c A C := h.trans k
theorem Kept2.b {b c n : Nat} (hb : b < n) (hc : c < n) (W : World) (l : Nat) (o o' : Obj) (h1 : n ≤ l) (_h2 : W.heap[l]? = some o) (_h3 : o.isCells = false) (_h4 : o.isWalk = false) : Kept2 b c W (W.putObj l o') :=
  ⟨World.putObj_heap_other (by omega), World.putObj_heap_other (by omega)⟩

/-- A place where a chunk may lie. -/
abbrev Cut (s : List UInt8) := { x : Nat × Nat // x.1 < x.2 ∧ x.2 ≤ s.length }

theorem getD_byte {s : ByteArray} {k : Nat} (h : k < s.size) : s.data.toList.getD k 0 = s[k]'h := by
  rw [List.getD_eq_getElem?_getD, List.getElem?_eq_getElem (show k < s.data.toList.length from h)]
  rfl

set_option maxRecDepth 100000 in
set_option maxHeartbeats 4000000 in
theorem chunks_stops (F : Fence) (n : Nat) (hF : F.fn 30) (hro : F.round = none) (hn : 1 ≤ n) (bp bs : Nat) (s : ByteArray) (l m v b : Nat) (w : World) (hv1 : 1 ≤ v) (hvl : v ≤ l) (hlm : l ≤ m) (hm : m ≤ 65536) (hb16 : b ≤ 16)
    (hs : s.size ≤ 65536) (hbp : bp < w.heap.size) (hbs : bs < w.heap.size)
    (hp0 : w.cell? ⟨bp, 0, none⟩ = some (.int .i64 l)) (hp1 : w.cell? ⟨bp, 1, none⟩ = some (.int .i64 m)) (hp2 : w.cell? ⟨bp, 2, none⟩ = some (.int .i64 v)) (hp3 : w.cell? ⟨bp, 3, none⟩ = some (.int .i64 b))
    (hsc : w.cell? ⟨bs, 0, none⟩ = some (.string s)) :
    SeqStopsK F n Try.prog 30 #[.pointer (some ⟨bp, 0, none⟩), .pointer (some ⟨bs, 0, none⟩)] (fun (x : Cut s.data.toList) => #[.int .i64 x.1.1, .int .i64 x.1.2]) (Kept2 bp bs)
      (fun ys => ys.map (·.1) = cuts s.data.toList l m v b) (fun pre => pre.map (·.1) <+: cuts s.data.toList l m v b) (cuts s.data.toList l m v b).length w := by
  intro l' J Jx W hW hJ hJx hY h0
  have hc0 := (hW.cell (p := ⟨bp, 0, none⟩) hbp).trans hp0
  have hc1 := (hW.cell (p := ⟨bp, 1, none⟩) hbp).trans hp1
  have hc2 := (hW.cell (p := ⟨bp, 2, none⟩) hbp).trans hp2
  have hc3 := (hW.cell (p := ⟨bp, 3, none⟩) hbp).trans hp3
  have hcs := (hW.cell (p := ⟨bs, 0, none⟩) hbs).trans hsc
  refine callsIn_of_wp Try.func30 rfl hF ?_ hro
  simp only [Try.ntmps30, List.size_toArray, List.length_cons, List.length_nil, Nat.reduceAdd, Nat.reduceSub, Array.replicate_succ, Array.replicate_zero, List.push_toArray, List.append_toArray, List.nil_append, List.cons_append]
  gi_wp2
  gi_loopw [4, 14] (fun t i wr => ∃ k : Nat, k ≤ v ∧ i = .int .i64 k ∧ t = .int .u32 (powF k).toNat ∧ wr = W) (fun _ i _ => v - (intOf i).toNat)
  case atStart => exact ⟨0, Nat.zero_le _, rfl, rfl, rfl⟩
  case round =>
    obtain ⟨k, hk, rfl, rfl, rfl⟩ := hrel
    by_cases hlt : k < v
    · gi_wp2
      go_roundw
      case rel => exact ⟨k + 1, by omega, by go_num, by rw [powF, ← mulW, IntKind.wrap_u32]; rfl, trivial⟩
      case measure => simp [intOf]; omega
    · obtain rfl : v = k := by omega
      gi_wp2
      generalize hT : powF v = T at *
      have HT := lid hT
      clear hT hp0 hp1 hp2 hp3 hsc hk hlt
      rw [maskW_val hb16]
      generalize hM : maskW b = M at *
      have HM := lid hM
      clear hM
      gi_loopw [6, 7, 8, 9, 10, 11, 25] (fun h st _ _ _ _ i w2 => ∃ (k : Nat) (pre : List (Cut s.data.toList)) (hh : UInt32) (sv : Nat), k ≤ s.size ∧ i = .int .i64 k ∧ h = .int .u32 hh.toNat ∧ st = .int .i64 sv ∧ sv ≤ k ∧
        Hid (hh = rollH s.data.toList v k ∧ scan s.data.toList l m v b k = (pre.map (·.1), sv)) ∧ J pre w2 ∧ Kept2 bp bs wr w2) (fun _ _ _ _ _ _ i _ => s.size - (intOf i).toNat)
      case atStart => exact ⟨0, [], 0, 0, Nat.zero_le _, rfl, rfl, rfl, Nat.le_refl _, lid ⟨rfl, rfl⟩, h0, Kept2.refl _ _ _⟩
      case round =>
        obtain ⟨k, pre, hh, sv, hk, rfl, rfl, rfl, hsk, HI, hJ1, hb1⟩ := hrel
        have hd0 := (hb1.c1 0).trans hc0
        have hd1 := (hb1.c1 1).trans hc1
        have hd2 := (hb1.c1 2).trans hc2
        have hds := (hb1.c2 0).trans hcs
        by_cases hlt : k < s.size
        · have hlt' : k < s.data.toList.length := hlt
          generalize hG : rollH s.data.toList v (k + 1) = g at *
          have HG := lid hG
          by_cases hvk : v ≤ k
          · have hkv : k - v < s.size := by omega
            have hE : ((hh.toNat : Int) * 16777619 + (s[k]'hlt).toNat + 1 - (((s[k - v]'hkv).toNat : Int) + 1) % 4294967296 * (T.toNat : Int)) % 4294967296 = (g.toNat : Int) := by
              rw [step_in, ← hG, rollH, stepH, if_pos hvk, HT.out, ← HI.out.1, getD_byte hlt, getD_byte hkv]
            clear hG
            cases hD : divB b g with
            | true =>
              have CT : Hid ((l ≤ k + 1 - sv ∨ k + 1 - sv = m ∨ k + 1 = s.size) → cutAt s.data.toList l m v b sv k = true) := lid fun h => by
                unfold cutAt
                rw [HG.out, hD]
                simp only [Bool.and_true, Bool.or_eq_true, decide_eq_true_eq]
                have hN : s.data.toList.length = s.size := rfl
                omega
              have CF : Hid (¬ (l ≤ k + 1 - sv ∨ k + 1 - sv = m ∨ k + 1 = s.size) → cutAt s.data.toList l m v b sv k = false) := lid fun h => by
                rw [Bool.eq_false_iff]
                unfold cutAt
                rw [HG.out, hD]
                simp only [Bool.and_true, ne_eq, Bool.or_eq_true, decide_eq_true_eq]
                have hN : s.data.toList.length = s.size := rfl
                omega
              have hd := div_true hD
              rw [HM.out] at hd
              clear hD
              gi_wp2
              all_goals (try simp only [beq_iff_eq, beq_eq_false_iff_ne, ne_eq] at *)
              all_goals first
                | (have hcut := CT.out (by omega)
                   have hsc := scan_cut (s := s.data.toList) (l := l) (m := m) (v := v) (b := b) (i := k) (by rw [HI.out.2]; exact hcut)
                   rw [HI.out.2] at hsc
                   have hpx : ∃ t, cuts s.data.toList l m v b = (pre.map (·.1) ++ [(sv, k + 1)]) ++ t := by
                     obtain ⟨t, ht⟩ := scan_prefix (s := s.data.toList) (l := l) (m := m) (v := v) (b := b) (k + 1) (s.data.toList.length - (k + 1))
                     rw [hsc, Nat.add_sub_cancel' hlt'] at ht
                     exact ⟨t, ht⟩
                   have hlen : pre.length < (cuts s.data.toList l m v b).length := by
                     obtain ⟨t, ht⟩ := hpx
                     rw [ht]; simp <;> omega
                   obtain ⟨X, hX⟩ : ∃ X : Cut s.data.toList, X.1 = (sv, k + 1) := ⟨⟨(sv, k + 1), by simp only []; omega, hlt'⟩, rfl⟩
                   obtain ⟨fn, tmps, assign, body, hy, hR⟩ := hY pre X wr hJ1 hlen
                   rw [hX] at hy
                   simp only [Int.natCast_add, Int.natCast_one] at hy
                   have HSC := lid hsc
                   have HPX := lid hpx
                   clear hsc hpx hcut
                   gi_wp2
                   refine hR.mono ?_
                   rintro e W' (⟨rfl, hJ', hk'⟩ | ⟨rfl, hJx'⟩)
                   · gi_wp2
                     go_roundw
                     case rel => exact ⟨k + 1, pre ++ [X], g, k + 1, by omega, by go_num, rfl, by go_num, by omega, lid ⟨HG.out.symm, by rw [HSC.out]; simp [hX]⟩, hJ', hb1.trans hk'⟩
                     case measure => simp [intOf]; omega
                   · gi_wp2
                     refine bodyPost_ret (results_none rfl _ _ _) rfl ?_
                     refine ⟨⟨_, rfl⟩, .inr ⟨pre ++ [X], ?_, hJx'⟩⟩
                     obtain ⟨t, ht⟩ := HPX.out
                     exact ⟨t, by rw [ht]; simp [hX]⟩)
                | (have hcut := CF.out (by omega)
                   have hsc := scan_no (s := s.data.toList) (l := l) (m := m) (v := v) (b := b) (i := k) (by rw [HI.out.2]; exact hcut)
                   exact ⟨⟨k + 1, pre, g, sv, by omega, by go_num, rfl, rfl, by omega, lid ⟨HG.out.symm, by rw [hsc, HI.out.2]⟩, hJ1, hb1⟩, by simp [intOf]; omega⟩)
            | false =>
              have CT : Hid ((k + 1 - sv = m ∨ k + 1 = s.size) → cutAt s.data.toList l m v b sv k = true) := lid fun h => by
                unfold cutAt
                rw [HG.out, hD]
                simp only [Bool.and_false, Bool.false_or, Bool.or_eq_true, decide_eq_true_eq]
                have hN : s.data.toList.length = s.size := rfl
                omega
              have CF : Hid (¬ (k + 1 - sv = m ∨ k + 1 = s.size) → cutAt s.data.toList l m v b sv k = false) := lid fun h => by
                rw [Bool.eq_false_iff]
                unfold cutAt
                rw [HG.out, hD]
                simp only [Bool.and_false, Bool.false_or, ne_eq, Bool.or_eq_true, decide_eq_true_eq]
                have hN : s.data.toList.length = s.size := rfl
                omega
              have hd := div_false hD
              rw [HM.out] at hd
              clear hD
              gi_wp2
              all_goals (try simp only [beq_iff_eq, beq_eq_false_iff_ne, ne_eq] at *)
              all_goals first
                | (have hcut := CT.out (by omega)
                   have hsc := scan_cut (s := s.data.toList) (l := l) (m := m) (v := v) (b := b) (i := k) (by rw [HI.out.2]; exact hcut)
                   rw [HI.out.2] at hsc
                   have hpx : ∃ t, cuts s.data.toList l m v b = (pre.map (·.1) ++ [(sv, k + 1)]) ++ t := by
                     obtain ⟨t, ht⟩ := scan_prefix (s := s.data.toList) (l := l) (m := m) (v := v) (b := b) (k + 1) (s.data.toList.length - (k + 1))
                     rw [hsc, Nat.add_sub_cancel' hlt'] at ht
                     exact ⟨t, ht⟩
                   have hlen : pre.length < (cuts s.data.toList l m v b).length := by
                     obtain ⟨t, ht⟩ := hpx
                     rw [ht]; simp <;> omega
                   obtain ⟨X, hX⟩ : ∃ X : Cut s.data.toList, X.1 = (sv, k + 1) := ⟨⟨(sv, k + 1), by simp only []; omega, hlt'⟩, rfl⟩
                   obtain ⟨fn, tmps, assign, body, hy, hR⟩ := hY pre X wr hJ1 hlen
                   rw [hX] at hy
                   simp only [Int.natCast_add, Int.natCast_one] at hy
                   have HSC := lid hsc
                   have HPX := lid hpx
                   clear hsc hpx hcut
                   gi_wp2
                   refine hR.mono ?_
                   rintro e W' (⟨rfl, hJ', hk'⟩ | ⟨rfl, hJx'⟩)
                   · gi_wp2
                     go_roundw
                     case rel => exact ⟨k + 1, pre ++ [X], g, k + 1, by omega, by go_num, rfl, by go_num, by omega, lid ⟨HG.out.symm, by rw [HSC.out]; simp [hX]⟩, hJ', hb1.trans hk'⟩
                     case measure => simp [intOf]; omega
                   · gi_wp2
                     refine bodyPost_ret (results_none rfl _ _ _) rfl ?_
                     refine ⟨⟨_, rfl⟩, .inr ⟨pre ++ [X], ?_, hJx'⟩⟩
                     obtain ⟨t, ht⟩ := HPX.out
                     exact ⟨t, by rw [ht]; simp [hX]⟩)
                | (have hcut := CF.out (by omega)
                   have hsc := scan_no (s := s.data.toList) (l := l) (m := m) (v := v) (b := b) (i := k) (by rw [HI.out.2]; exact hcut)
                   exact ⟨⟨k + 1, pre, g, sv, by omega, by go_num, rfl, rfl, by omega, lid ⟨HG.out.symm, by rw [hsc, HI.out.2]⟩, hJ1, hb1⟩, by simp [intOf]; omega⟩)
          · have hE : ((hh.toNat : Int) * 16777619 + (s[k]'hlt).toNat + 1) % 4294967296 = (g.toNat : Int) := by
              rw [step_out, ← hG, rollH, stepH, if_neg hvk, ← HI.out.1, getD_byte hlt]
            clear hG
            cases hD : divB b g with
            | true =>
              have CT : Hid ((l ≤ k + 1 - sv ∨ k + 1 - sv = m ∨ k + 1 = s.size) → cutAt s.data.toList l m v b sv k = true) := lid fun h => by
                unfold cutAt
                rw [HG.out, hD]
                simp only [Bool.and_true, Bool.or_eq_true, decide_eq_true_eq]
                have hN : s.data.toList.length = s.size := rfl
                omega
              have CF : Hid (¬ (l ≤ k + 1 - sv ∨ k + 1 - sv = m ∨ k + 1 = s.size) → cutAt s.data.toList l m v b sv k = false) := lid fun h => by
                rw [Bool.eq_false_iff]
                unfold cutAt
                rw [HG.out, hD]
                simp only [Bool.and_true, ne_eq, Bool.or_eq_true, decide_eq_true_eq]
                have hN : s.data.toList.length = s.size := rfl
                omega
              have hd := div_true hD
              rw [HM.out] at hd
              clear hD
              gi_wp2
              all_goals (try simp only [beq_iff_eq, beq_eq_false_iff_ne, ne_eq] at *)
              all_goals first
                | (have hcut := CT.out (by omega)
                   have hsc := scan_cut (s := s.data.toList) (l := l) (m := m) (v := v) (b := b) (i := k) (by rw [HI.out.2]; exact hcut)
                   rw [HI.out.2] at hsc
                   have hpx : ∃ t, cuts s.data.toList l m v b = (pre.map (·.1) ++ [(sv, k + 1)]) ++ t := by
                     obtain ⟨t, ht⟩ := scan_prefix (s := s.data.toList) (l := l) (m := m) (v := v) (b := b) (k + 1) (s.data.toList.length - (k + 1))
                     rw [hsc, Nat.add_sub_cancel' hlt'] at ht
                     exact ⟨t, ht⟩
                   have hlen : pre.length < (cuts s.data.toList l m v b).length := by
                     obtain ⟨t, ht⟩ := hpx
                     rw [ht]; simp <;> omega
                   obtain ⟨X, hX⟩ : ∃ X : Cut s.data.toList, X.1 = (sv, k + 1) := ⟨⟨(sv, k + 1), by simp only []; omega, hlt'⟩, rfl⟩
                   obtain ⟨fn, tmps, assign, body, hy, hR⟩ := hY pre X wr hJ1 hlen
                   rw [hX] at hy
                   simp only [Int.natCast_add, Int.natCast_one] at hy
                   have HSC := lid hsc
                   have HPX := lid hpx
                   clear hsc hpx hcut
                   gi_wp2
                   refine hR.mono ?_
                   rintro e W' (⟨rfl, hJ', hk'⟩ | ⟨rfl, hJx'⟩)
                   · gi_wp2
                     go_roundw
                     case rel => exact ⟨k + 1, pre ++ [X], g, k + 1, by omega, by go_num, rfl, by go_num, by omega, lid ⟨HG.out.symm, by rw [HSC.out]; simp [hX]⟩, hJ', hb1.trans hk'⟩
                     case measure => simp [intOf]; omega
                   · gi_wp2
                     refine bodyPost_ret (results_none rfl _ _ _) rfl ?_
                     refine ⟨⟨_, rfl⟩, .inr ⟨pre ++ [X], ?_, hJx'⟩⟩
                     obtain ⟨t, ht⟩ := HPX.out
                     exact ⟨t, by rw [ht]; simp [hX]⟩)
                | (have hcut := CF.out (by omega)
                   have hsc := scan_no (s := s.data.toList) (l := l) (m := m) (v := v) (b := b) (i := k) (by rw [HI.out.2]; exact hcut)
                   exact ⟨⟨k + 1, pre, g, sv, by omega, by go_num, rfl, rfl, by omega, lid ⟨HG.out.symm, by rw [hsc, HI.out.2]⟩, hJ1, hb1⟩, by simp [intOf]; omega⟩)
            | false =>
              have CT : Hid ((k + 1 - sv = m ∨ k + 1 = s.size) → cutAt s.data.toList l m v b sv k = true) := lid fun h => by
                unfold cutAt
                rw [HG.out, hD]
                simp only [Bool.and_false, Bool.false_or, Bool.or_eq_true, decide_eq_true_eq]
                have hN : s.data.toList.length = s.size := rfl
                omega
              have CF : Hid (¬ (k + 1 - sv = m ∨ k + 1 = s.size) → cutAt s.data.toList l m v b sv k = false) := lid fun h => by
                rw [Bool.eq_false_iff]
                unfold cutAt
                rw [HG.out, hD]
                simp only [Bool.and_false, Bool.false_or, ne_eq, Bool.or_eq_true, decide_eq_true_eq]
                have hN : s.data.toList.length = s.size := rfl
                omega
              have hd := div_false hD
              rw [HM.out] at hd
              clear hD
              gi_wp2
              all_goals (try simp only [beq_iff_eq, beq_eq_false_iff_ne, ne_eq] at *)
              all_goals first
                | (have hcut := CT.out (by omega)
                   have hsc := scan_cut (s := s.data.toList) (l := l) (m := m) (v := v) (b := b) (i := k) (by rw [HI.out.2]; exact hcut)
                   rw [HI.out.2] at hsc
                   have hpx : ∃ t, cuts s.data.toList l m v b = (pre.map (·.1) ++ [(sv, k + 1)]) ++ t := by
                     obtain ⟨t, ht⟩ := scan_prefix (s := s.data.toList) (l := l) (m := m) (v := v) (b := b) (k + 1) (s.data.toList.length - (k + 1))
                     rw [hsc, Nat.add_sub_cancel' hlt'] at ht
                     exact ⟨t, ht⟩
                   have hlen : pre.length < (cuts s.data.toList l m v b).length := by
                     obtain ⟨t, ht⟩ := hpx
                     rw [ht]; simp <;> omega
                   obtain ⟨X, hX⟩ : ∃ X : Cut s.data.toList, X.1 = (sv, k + 1) := ⟨⟨(sv, k + 1), by simp only []; omega, hlt'⟩, rfl⟩
                   obtain ⟨fn, tmps, assign, body, hy, hR⟩ := hY pre X wr hJ1 hlen
                   rw [hX] at hy
                   simp only [Int.natCast_add, Int.natCast_one] at hy
                   have HSC := lid hsc
                   have HPX := lid hpx
                   clear hsc hpx hcut
                   gi_wp2
                   refine hR.mono ?_
                   rintro e W' (⟨rfl, hJ', hk'⟩ | ⟨rfl, hJx'⟩)
                   · gi_wp2
                     go_roundw
                     case rel => exact ⟨k + 1, pre ++ [X], g, k + 1, by omega, by go_num, rfl, by go_num, by omega, lid ⟨HG.out.symm, by rw [HSC.out]; simp [hX]⟩, hJ', hb1.trans hk'⟩
                     case measure => simp [intOf]; omega
                   · gi_wp2
                     refine bodyPost_ret (results_none rfl _ _ _) rfl ?_
                     refine ⟨⟨_, rfl⟩, .inr ⟨pre ++ [X], ?_, hJx'⟩⟩
                     obtain ⟨t, ht⟩ := HPX.out
                     exact ⟨t, by rw [ht]; simp [hX]⟩)
                | (have hcut := CF.out (by omega)
                   have hsc := scan_no (s := s.data.toList) (l := l) (m := m) (v := v) (b := b) (i := k) (by rw [HI.out.2]; exact hcut)
                   exact ⟨⟨k + 1, pre, g, sv, by omega, by go_num, rfl, rfl, by omega, lid ⟨HG.out.symm, by rw [hsc, HI.out.2]⟩, hJ1, hb1⟩, by simp [intOf]; omega⟩)
        · obtain rfl : k = s.size := by omega
          gi_wp2
          go_end0
          refine ⟨⟨_, rfl⟩, .inl ⟨pre, ?_, hJ1⟩⟩
          exact (congrArg Prod.fst HI.out.2).symm
end Go.Proofs.Ytmebjjoldhcgpaa
