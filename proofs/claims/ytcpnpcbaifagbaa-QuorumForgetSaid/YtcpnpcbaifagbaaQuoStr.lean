/-
  Slices of strings: Equal, Index, Contains, Clone.
-/
import Derived.Test.YtcpnpcbaifagbaaQuoFor
import Derived.Test.YtcpnpcbaifagbaaQuoMap
namespace Go.Proofs.Ytcpnpcbaifagbaa
open Go.RowKit

set_option maxRecDepth 100000 in
set_option maxHeartbeats 4000000 in
theorem Equal_any (S T : List ByteArray) (n1 c1 n2 c2 : Nat) (a1 a2 : Option Addr) (w : World) (hm : n1 ≤ 1000000) (hm2 : n2 ≤ 1000000) (h1 : SA w a1 n1 c1 S) (h2 : SA w a2 n2 c2 T) :
    Calls Try.prog 26 #[.slice a1 n1 c1, .slice a2 n2 c2] w fun e w' => e = .returned (.bool (decide (S = T))) ∧ Below w.heap.size w w' := by
  by_cases hnn : n1 = n2
  case neg =>
    have HV : Hid (decide (S = T) = false) := lid (decide_eq_false (fun e => hnn (by rw [← h1.len, ← h2.len, e])))
    have d0 : ((n1 : Int) == (n2 : Int)) = false := by simp; omega
    have d1 : ((n1 : Int) != (n2 : Int)) = true := by simp; omega
    clear h1 h2 hnn
    go_enter Try.func26, Try.ntmps26
    go_wp2_with fail
    go_ret
    exact ⟨ret_bool HV.out.symm, Below.refl _ _⟩
  subst hnn
  have HN1 := lid h1.len
  have HN2 := lid h2.len
  have HS1 := lid h1.sl
  have HS2 := lid h2.sl
  clear h1 h2
  go_enter Try.func26, Try.ntmps26
  go_wp2_with fail
  go_loopw [5, 13] (fun _ i wr => ∃ k : Nat, k ≤ n1 ∧ i = .int .i64 k ∧ Hid (S.take k = T.take k) ∧ Below w.heap.size w wr) (fun _ i _ => n1 - (intOf i).toNat)
  case atStart => exact ⟨0, Nat.zero_le _, rfl, lid rfl, Below.refl _ _⟩
  case round =>
    obtain ⟨k, hk, rfl, HT, hb⟩ := hrel
    by_cases hlt : k < n1
    · have hk1 : k < S.length := by rw [HN1.out]; exact hlt
      have hk2 : k < T.length := by rw [HN2.out]; exact hlt
      obtain ⟨b1, o1, rfl, hlb1, hcell⟩ := (HS1.out.below hb).at_ hlt
      have x0 := hcell k _ (svals_at hk1)
      obtain ⟨b2, o2, rfl, hlb2, hcell2⟩ := (HS2.out.below hb).at_ hlt
      have y0 := hcell2 k _ (svals_at hk2)
      have HNE : Hid (¬ S[k] = T[k] → decide (S = T) = false) := lid (fun e => decide_eq_false (ne_at hk1 hk2 e))
      have HEQ : Hid (S[k] = T[k] → S.take (k + 1) = T.take (k + 1)) := lid (fun e => take_eq_succ hk1 hk2 HT.out e)
      obtain ⟨x, hx⟩ : ∃ x, S[k] = x := ⟨_, rfl⟩
      obtain ⟨y, hy⟩ : ∃ y, T[k] = y := ⟨_, rfl⟩
      rw [hx] at x0 HNE HEQ
      rw [hy] at y0 HNE HEQ
      have dk : decide ((k : Int) < (n1 : Int)) = true := by simp; omega
      clear hcell hcell2 hx hy
      by_cases he : x = y
      · have HV := lid (HEQ.out he)
        have d := str_eq he
        clear he HEQ HNE
        go_wp2_with fail
        refine wp_region_seq (fun w' => ∃ s : Since wr.heap.size wr, w' = s.world) [(0, true), (1, true), (2, true), (3, true), (4, true), (5, true), (6, true), (7, true), (8, true)] (by kernel_rfl) (by kernel_rfl) (by intro c d v a w h; cases d <;> exact h) (since (Below.refl _ _).drew) ?_
        repeat (first | (refine seq_skip (by rfl) (by rfl) ?_; simp only [Act.put, List.setIfInBounds_toArray, List.set_cons_succ, List.set_cons_zero]) | (refine seq_float (by rfl) (by rfl) (by rfl) ?_; intro K hK; go_big_quiet_op; go_big_quiet_on))
        refine seq_nil ?_
        go_wp2_with fail
        go_roundw
        case rel => exact ⟨k + 1, by omega, by go_num, HV, hb.drew⟩
        case measure => simp [intOf]; omega
      · have HV := lid (HNE.out he)
        have d := str_ne he
        clear he HEQ HNE
        go_wp2_with fail
        refine wp_region_seq (fun w' => ∃ s : Since wr.heap.size wr, w' = s.world) [(0, true), (1, true), (2, true), (3, true), (4, true), (5, true), (6, true), (7, true), (8, true)] (by kernel_rfl) (by kernel_rfl) (by intro c d v a w h; cases d <;> exact h) (since (Below.refl _ _).drew) ?_
        repeat (first | (refine seq_skip (by rfl) (by rfl) ?_; simp only [Act.put, List.setIfInBounds_toArray, List.set_cons_succ, List.set_cons_zero]) | (refine seq_float (by rfl) (by rfl) (by rfl) ?_; intro K hK; go_big_quiet_op; go_big_quiet_on))
        refine seq_nil ?_
        go_wp2_with fail
        go_ret
        exact ⟨ret_bool HV.out.symm, hb.drew⟩
    · obtain rfl : k = n1 := by omega
      have HV : Hid (decide (S = T) = true) := lid (decide_eq_true (by have := HT.out; rwa [List.take_of_length_le (Nat.le_of_eq HN1.out), List.take_of_length_le (Nat.le_of_eq HN2.out)] at this))
      have dk : decide ((k : Int) < (k : Int)) = false := by simp
      go_wp2_with fail
      go_ret
      exact ⟨ret_bool HV.out.symm, hb⟩

theorem not_mem_succ {S : List ByteArray} {k : Nat} {s : ByteArray} (hk : k < S.length) (h : ¬ s ∈ S.take k) (e : ¬ s = S[k]) : ¬ s ∈ S.take (k + 1) := by
  rw [List.take_succ_eq_append_getElem hk, List.mem_append]
  rintro (h' | h')
  · exact h h'
  · exact e (List.mem_singleton.1 h')
def inS (S : List ByteArray) (s : ByteArray) : Bool := S.any fun x => decide (x = s)
theorem inS_iff {S : List ByteArray} {s : ByteArray} : inS S s = true ↔ s ∈ S := by
  unfold inS
  rw [List.any_eq_true]
  exact ⟨fun ⟨x, hx, e⟩ => by rw [← of_decide_eq_true e]; exact hx, fun h => ⟨s, h, decide_eq_true rfl⟩⟩
/-- Where a string stands first, -1 if nowhere: told by its sign alone. -/
def IdxS (S : List ByteArray) (s : ByteArray) (i : Int) : Prop := decide (0 ≤ i) = inS S s
set_option maxRecDepth 100000 in
set_option maxHeartbeats 4000000 in
theorem Index_any (S : List ByteArray) (n cap : Nat) (ao : Option Addr) (s : ByteArray) (w : World) (hm : n ≤ 1000000) (h : SA w ao n cap S) :
    Calls Try.prog 51 #[.slice ao n cap, .string s] w fun e w' => ∃ i : Int, e = .returned (.int .i64 i) ∧ IdxS S s i ∧ w = w' := by
  have HN := lid h.len
  have HS := lid h.sl
  clear h
  go_enter Try.func51, Try.ntmps51
  go_wp2_with fail
  go_loop [5, 8] (fun _ i => ∃ k : Nat, k ≤ n ∧ i = .int .i64 k ∧ Hid (¬ s ∈ S.take k)) (fun _ i => n - (intOf i).toNat)
  case atStart => exact ⟨0, Nat.zero_le _, rfl, lid (by simp)⟩
  case round =>
    obtain ⟨k, hk, rfl, HT⟩ := hrel
    by_cases hlt : k < n
    · have hkl : k < S.length := by rw [HN.out]; exact hlt
      obtain ⟨b1, o1, rfl, hlb1, hcell⟩ := HS.out.at_ hlt
      have x0 := hcell k _ (svals_at hkl)
      have HY : Hid (s = S[k] → IdxS S s (k : Int)) := lid (fun e => by
        unfold IdxS
        rw [decide_eq_true (show (0 : Int) ≤ k by omega), inS_iff.2 (by rw [e]; exact List.getElem_mem hkl)])
      have HX := lid (fun e => not_mem_succ hkl HT.out e)
      have dk : decide ((k : Int) < (n : Int)) = true := by simp; omega
      obtain ⟨x, hx⟩ : ∃ x, S[k] = x := ⟨_, rfl⟩
      rw [hx] at x0 HY HX
      clear hcell hx
      by_cases he : s = x
      · have HV := lid (HY.out he)
        have d := str_eq he
        clear he HY HX
        go_wp2_with fail
        go_ret
        exact ⟨_, rfl, HV.out, rfl⟩
      · have HV := lid (HX.out he)
        have d := str_ne he
        clear he HY HX
        go_wp2_with fail
        go_round
        case rel => exact ⟨k + 1, by omega, by go_num, HV⟩
        case measure => simp [intOf]; omega
    · obtain rfl : k = n := by omega
      have HV : Hid (IdxS S s (-1)) := lid (by
        unfold IdxS
        have := HT.out
        rw [List.take_of_length_le (Nat.le_of_eq HN.out)] at this
        cases hh : inS S s with
        | true => exact absurd (inS_iff.1 hh) this
        | false => rfl)
      have dk : decide ((k : Int) < (k : Int)) = false := by simp
      go_wp2_with fail
      go_ret
      exact ⟨_, rfl, HV.out, rfl⟩
set_option maxRecDepth 100000 in
theorem Contains_any (S : List ByteArray) (n cap : Nat) (ao : Option Addr) (s : ByteArray) (w : World) (hm : n ≤ 1000000) (h : SA w ao n cap S) :
    Calls Try.prog 25 #[.slice ao n cap, .string s] w fun e w' => e = .returned (.bool (inS S s)) ∧ w = w' := by
  have HC := lid (Index_any S n cap ao s w hm h)
  clear h
  go_enter Try.func25, Try.ntmps25
  go_wp2_with fail
  (with_reducible refine (HC.out).mono ?_); rintro e w1 ⟨i, rfl, hi, rfl⟩
  have HI := lid hi
  clear hi
  have hi := HI.out
  unfold IdxS at hi
  go_wp2_with fail
  go_ret
  exact ⟨rfl, rfl⟩
end Go.Proofs.Ytcpnpcbaifagbaa
