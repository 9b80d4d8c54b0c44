/-
  The iterator over the digests of a ledger's records, for every loop body.
-/
import Derived.RangeFuncNested
import Derived.RangeFuncBound
import Derived.RangeFuncCalls
import Derived.RangeFuncLeaves
import Derived.Shelf.Abstract
import Derived.WalkKit
import Derived.OwnWalkIn
import Derived.TacticsInMore
import Derived.LoopNIn
import Derived.LoopIn
import Derived.Test.YtbghpjedldhnhaaLedDig
import Derived.Test.YtbghpjedldhnhaaSl
import Derived.Test.YtbghpjedldhnhaaCells
namespace Go.Proofs.Ytbghpjedldhnhaa
open Go.RowKit Go.Shelf
attribute [local go_sem] Oper.semAt_some

theorem digests_fn (v : Value) (ao : Option Addr) (n cap : Nat) (w : World) (hv : v = .slice ao n cap) :
    Calls Try.prog 23 #[.agg #[v]] w fun e w' => e = .returned (.func (.func 42) #[] #[.pointer (some ⟨w.heap.size, 0, none⟩)]) ∧ w' = w.alloc (.cells #[v] 26) := by
  subst hv
  go_enter Try.func23, Try.ntmps23
  go_wp2
  go_ret
  exact ⟨rfl, rfl⟩
theorem grown_of_below {w w' : World} (h : Below w.heap.size w w') (row : Option Nat) : w.grownBy w' row := ⟨h.os, h.tape, h.output, h.size, fun k hk _ => h.block k hk⟩
theorem take_map_succ {l : List Rec} {k : Nat} (h : k < l.length) : (l.map recD).take (k + 1) = (l.map recD).take k ++ [recD l[k]] := by
  rw [List.take_succ_eq_append_getElem (by simpa using h)]
  simp

set_option maxRecDepth 100000 in
set_option maxHeartbeats 8000000 in
theorem digests_stops (m : Nat) (hm1 : 1 ≤ m) (bl : Nat) (l : List Rec) (n cap : Nat) (ao : Option Addr) (w : World) (hbl : bl < w.heap.size) (hc : w.cell? ⟨bl, 0, none⟩ = some (.slice ao n cap)) (hn : l.length = n) (hs : Sl w 4 ao n (rcells l)) (hr : ∀ r ∈ l, RecS r) (hm : n ≤ maxLen) :
    SeqStopsK Fence.wide m Try.prog 42 #[.pointer (some ⟨bl, 0, none⟩)] (fun (d : Dg) => #[dv d]) (Below w.heap.size) (fun ys => ys = l.map recD) (fun _ => True) n w := by
  intro l' J Jx W hW hJ hJx hY h0
  have HN := lid hn
  have HR := lid hr
  have HS := lid hs
  have HJ := lid hJ
  have hm' : n ≤ 9223372036854775807 := hm
  have hcW := (hW.cell (p := ⟨bl, 0, none⟩) hbl).trans hc
  clear hn hr hs hm hJ hc
  refine callsIn_of_wp Try.func42 rfl trivial ?_ rfl
  simp only [Try.ntmps42, List.size_toArray, List.length_cons, List.length_nil, Nat.reduceAdd, Nat.reduceSub, Array.replicate_succ, Array.replicate_zero, List.push_toArray, List.append_toArray, List.nil_append, List.cons_append]
  gi_wp2
  gi_loopw [4, 8] (fun _ i wr => ∃ k : Nat, k ≤ n ∧ i = .int .i64 k ∧ Hid (J ((l.map recD).take k) wr) ∧ Below w.heap.size W wr) (fun _ i _ => n - (intOf i).toNat)
  case atStart => exact ⟨0, Nat.zero_le _, rfl, lid (by simpa using h0), Below.refl _ _⟩
  case round =>
    obtain ⟨k, hk, rfl, HJ1, hb⟩ := hrel
    have hw := hW.trans hb
    by_cases hlt : k < n
    · have hkl : k < l.length := by rw [HN.out]; exact hlt
      obtain ⟨b1, o1, rfl, hlb, hcell⟩ := HS.out.at_ hlt
      have x0 := (bc hw hlb _).trans (hcell (k * 4 + 0) _ (rcells_at hkl).1)
      have x1 := (bc hw hlb _).trans (hcell (k * 4 + 1) _ (rcells_at hkl).2.1)
      have x2 := (bc hw hlb _).trans (hcell (k * 4 + 2) _ (rcells_at hkl).2.2.1)
      have x3 := (bc hw hlb _).trans (hcell (k * 4 + 3) _ (rcells_at hkl).2.2.2)
      rw [← Nat.add_assoc] at x1 x2 x3
      rw [Nat.add_zero] at x0
      have HT := lid (take_map_succ hkl)
      have HRS := lid (HR.out _ (List.getElem_mem hkl))
      have hlen : ((l.map recD).take k).length < n := by simp; omega
      have HLEN := lid hlen
      obtain ⟨r, hrk⟩ : ∃ r, l[k] = r := ⟨_, rfl⟩
      rw [hrk] at x0 x1 x2 x3 HT HRS
      obtain ⟨t, a, b, d⟩ := r
      simp only at x0 x1 x2 x3
      clear hrk hcell hlen
      gi_wp2_with fail
      refine ⟨trivial, (callsIn_wide.2 (digestOf_any (t, a, b, d) _ HRS.out)).mono ?_⟩
      rintro e w3 ⟨rfl, hb3⟩
      have h13 : Below wr.heap.size wr w3 := (ba wr _).trans (hb3.mono (by simp))
      have hJ3 := HJ.out _ _ _ none HJ1.out (grown_of_below h13 none) (fun r e => by cases e)
      obtain ⟨fn, tmps, assign, body, hy, hR⟩ := hY _ (recD (t, a, b, d)) w3 hJ3 HLEN.out
      have hw3 : Below w.heap.size W w3 := hb.trans (h13.mono hw.size)
      clear x0 x1 x2 x3 hJ3
      gi_wp2_with fail
      refine hR.mono ?_
      rintro e W' (⟨rfl, hJ', hk'⟩ | ⟨rfl, hJx'⟩)
      · gi_wp2_with fail
        go_roundw
        case rel => exact ⟨k + 1, by omega, by go_num, lid (by rw [HT.out]; exact hJ'), hw3.trans hk'⟩
        case measure => simp [intOf]; omega
      · gi_wp2_with fail
        exact bodyPost_ret (results_none rfl _ _ _) rfl ⟨⟨_, rfl⟩, .inr ⟨_, trivial, hJx'⟩⟩
    · obtain rfl : k = n := by omega
      have hfin := HJ1.out
      rw [List.take_of_length_le (by rw [List.length_map, HN.out]; exact Nat.le_refl _)] at hfin
      have HF := lid hfin
      clear hfin
      gi_wp2_with fail
      exact bodyPost_end (results_none rfl _ _ _) rfl ⟨⟨_, rfl⟩, .inl ⟨_, rfl, HF.out⟩⟩
end Go.Proofs.Ytbghpjedldhnhaa
