/-
  slices.Contains of strings; slices.ContainsFunc over elements of one cell, told by their places.
-/
import Derived.Test.YtefehgdckmajiaaGreatDoorOwnRl
namespace Go.Proofs.YtefehgdckmajiaaGreatDoor
open Go.RowKit

theorem range_any_at {P : Nat → Bool} {n k : Nat} (hk : k < n) (hp : P k = true) : (List.range n).any P = true := List.any_eq_true.2 ⟨k, by simpa using hk, hp⟩
theorem not_mem_succ {S : List ByteArray} {k : Nat} {s : ByteArray} (hk : k < S.length) (h : ¬ s ∈ S.take k) (e : ¬ s = S[k]) : ¬ s ∈ S.take (k + 1) := by
  rw [List.take_succ_eq_append_getElem hk, List.mem_append]
  rintro (h' | h')
  · exact h h'
  · exact e (List.mem_singleton.1 h')
def inS (S : List ByteArray) (s : ByteArray) : Bool := S.any fun x => decide (x = s)
theorem inS_iff {S : List ByteArray} {s : ByteArray} : inS S s = true ↔ s ∈ S := by
  unfold inS
  rw [List.any_eq_true]
  exact ⟨fun ⟨x, hx, e⟩ => by rw [← of_decide_eq_true e]; exact hx, fun h => ⟨s, h, decide_eq_true rfl⟩⟩
/-- Where a string stands first, -1 if nowhere: told by its sign alone. -/
def IdxS (S : List ByteArray) (s : ByteArray) (i : Int) : Prop := decide (0 ≤ i) = inS S s
set_option maxRecDepth 100000 in
set_option maxHeartbeats 4000000 in
theorem IndexS_any (S : List ByteArray) (n cap : Nat) (ao : Option Addr) (s : ByteArray) (w : World) (hm : n ≤ 1000000) (hn : S.length = n) (hs : Sl w 1 ao n (svals S)) :
    Calls Tryz.prog 68 #[.slice ao n cap, .string s] w fun e w' => ∃ i : Int, e = .returned (.int .i64 i) ∧ IdxS S s i ∧ w = w' := by
  have HN := lid hn
  have HS := lid hs
  clear hn hs
  go_enter Tryz.func68, Tryz.ntmps68
  go_wp2_with fail
  go_loop [5, 8] (fun _ i => ∃ k : Nat, k ≤ n ∧ i = .int .i64 k ∧ Hid (¬ s ∈ S.take k)) (fun _ i => n - (intOf i).toNat)
  case atStart => exact ⟨0, Nat.zero_le _, rfl, lid (by simp)⟩
  case round =>
    obtain ⟨k, hk, rfl, HT⟩ := hrel
    by_cases hlt : k < n
    · have hkl : k < S.length := by rw [HN.out]; exact hlt
      obtain ⟨b1, o1, rfl, hlb1, hcell⟩ := HS.out.at_ hlt
      have x0 := hcell k _ (svals_at hkl)
      have HY : Hid (s = S[k] → IdxS S s (k : Int)) := lid (fun e => by
        unfold IdxS
        rw [decide_eq_true (show (0 : Int) ≤ k by omega), inS_iff.2 (by rw [e]; exact List.getElem_mem hkl)])
      have HX := lid (fun e => not_mem_succ hkl HT.out e)
      have dk : decide ((k : Int) < (n : Int)) = true := by simp; omega
      obtain ⟨x, hx⟩ : ∃ x, S[k] = x := ⟨_, rfl⟩
      rw [hx] at x0 HY HX
      clear hcell hx
      by_cases he : s = x
      · have HV := lid (HY.out he)
        have d := str_eq he
        clear he HY HX
        go_wp2_with fail
        go_ret
        exact ⟨_, rfl, HV.out, rfl⟩
      · have HV := lid (HX.out he)
        have d := str_ne he
        clear he HY HX
        go_wp2_with fail
        go_round
        case rel => exact ⟨k + 1, by omega, by go_num, HV⟩
        case measure => simp [intOf]; omega
    · obtain rfl : k = n := by omega
      have HV : Hid (IdxS S s (-1)) := lid (by
        unfold IdxS
        have := HT.out
        rw [List.take_of_length_le (Nat.le_of_eq HN.out)] at this
        cases hh : inS S s with
        | true => exact absurd (inS_iff.1 hh) this
        | false => rfl)
      have dk : decide ((k : Int) < (k : Int)) = false := by simp
      go_wp2_with fail
      go_ret
      exact ⟨_, rfl, HV.out, rfl⟩
set_option maxRecDepth 100000 in
theorem ContainsS_any (S : List ByteArray) (n cap : Nat) (ao : Option Addr) (s : ByteArray) (w : World) (hm : n ≤ 1000000) (hn : S.length = n) (hs : Sl w 1 ao n (svals S)) :
    Calls Tryz.prog 52 #[.slice ao n cap, .string s] w fun e w' => e = .returned (.bool (inS S s)) ∧ w = w' := by
  have HC := lid (IndexS_any S n cap ao s w hm hn hs)
  clear hn hs
  go_enter Tryz.func52, Tryz.ntmps52
  go_wp2_with fail
  (with_reducible refine (HC.out).mono ?_); rintro e w1 ⟨i, rfl, hi, rfl⟩
  have HI := lid hi
  clear hi
  have hi := HI.out
  unfold IdxS at hi
  go_wp2_with fail
  go_ret
  exact ⟨rfl, rfl⟩
/-- What the function value answers at each place, in every later world. -/
def AsksE (xs : List Value) (P : Nat → Bool) (w : World) : Prop :=
  ∀ (i : Nat) (u : Value) (w' : World), xs[i]? = some u → Below w.heap.size w w' → Calls Tryz.prog 93 #[u] w' fun e w'' => e = .returned (.bool (P i)) ∧ Below w'.heap.size w' w''
set_option maxRecDepth 100000 in
set_option maxHeartbeats 4000000 in
theorem IndexFuncE (xs : List Value) (n cap : Nat) (ao : Option Addr) (P : Nat → Bool) (w : World) (hm : n ≤ 1000000) (hs : Sl w 1 ao n xs) (hc : AsksE  xs P w) :
    Calls Tryz.prog 67 #[.slice ao n cap, .func (.func 93) #[] #[]] w fun e w' => (∃ i : Int, e = .returned (.int .i64 i) ∧ decide (0 ≤ i) = (List.range n).any P) ∧ Below w.heap.size w w' := by
  have HN : Hid (xs.length = n) := lid (by rw [hs.1, Nat.mul_one])
  have HS := lid hs
  have HC := lid hc
  clear hs hc
  go_enter Tryz.func67, Tryz.ntmps67
  go_wp2_with fail
  go_loopw [5, 8] (fun _ i wr => ∃ k : Nat, k ≤ n ∧ i = .int .i64 k ∧ Hid ((List.range k).any P = false) ∧ Below w.heap.size w wr) (fun _ i _ => n - (intOf i).toNat)
  case atStart => exact ⟨0, Nat.zero_le _, rfl, lid rfl, Below.refl _ _⟩
  case round =>
    obtain ⟨k, hk, rfl, HT, hb⟩ := hrel
    by_cases hlt : k < n
    · have hkl : k < xs.length := by rw [HN.out]; exact hlt
      obtain ⟨b1, o1, rfl, hlb, hcell⟩ := (HS.out.below hb).at_ hlt
      have dk : decide ((k : Int) < (n : Int)) = true := by simp; omega
      have HX : Hid (xs[k]? = some xs[k]) := lid (List.getElem?_eq_getElem hkl)
      obtain ⟨u, hu⟩ : ∃ u, xs[k] = u := ⟨_, rfl⟩
      rw [hu] at HX
      have x0 := hcell k _ HX.out
      have CX : Hid (Calls Tryz.prog 93 #[u] wr fun e w'' => e = .returned (.bool (P k)) ∧ Below wr.heap.size wr w'') := lid (HC.out k u wr HX.out hb)
      have HA : Hid (P k = true → (List.range n).any P = true) := lid (fun h => range_any_at hlt h)
      have HB : Hid (P k = false → (List.range (k + 1)).any P = false) := lid (fun h => range_any_succ HT.out h)
      clear hcell hu
      go_wp2_with fail
      (with_reducible refine (CX.out).mono ?_); rintro e w2 ⟨rfl, hb2⟩
      have hw2 := hb.trans (hb2.mono hb.size)
      cases hp : P k with
      | true =>
        have HV := lid (HA.out hp)
        clear hp
        go_wp2_with fail
        go_ret
        exact ⟨⟨_, rfl, by rw [HV.out]; simp⟩, hw2⟩
      | false =>
        have HV := lid (HB.out hp)
        clear hp
        go_wp2_with fail
        go_roundw
        case rel => exact ⟨k + 1, by omega, by go_num, HV, hw2⟩
        case measure => simp [intOf]; omega
    · obtain rfl : k = n := by omega
      have dk : decide ((k : Int) < (k : Int)) = false := by simp
      go_wp2_with fail
      go_ret
      exact ⟨⟨_, rfl, by rw [HT.out]; decide⟩, hb⟩
set_option maxRecDepth 100000 in
theorem ContainsFuncE (xs : List Value) (n cap : Nat) (ao : Option Addr) (P : Nat → Bool) (w : World) (hm : n ≤ 1000000) (hs : Sl w 1 ao n xs) (hc : AsksE  xs P w) :
    Calls Tryz.prog 50 #[.slice ao n cap, .func (.func 93) #[] #[]] w fun e w' => e = .returned (.bool ((List.range n).any P)) ∧ Below w.heap.size w w' := by
  have CF := lid (IndexFuncE  xs n cap ao P w hm hs hc)
  clear hs hc
  go_enter Tryz.func50, Tryz.ntmps50
  go_wp2_with fail
  (with_reducible refine (CF.out).mono ?_); rintro e w2 ⟨⟨i, rfl, hi⟩, hb⟩
  cases hq : (List.range n).any P with
  | true =>
    rw [hq] at hi
    have HQ := lid hq
    clear hq
    go_wp2_with fail
    go_ret
    exact ⟨ret_bool HQ.out.symm, hb⟩
  | false =>
    rw [hq] at hi
    have HQ := lid hq
    clear hq
    go_wp2_with fail
    go_ret
    exact ⟨ret_bool HQ.out.symm, hb⟩
/-- What the function value answers at each place, in every later world. -/
def AsksM (xs : List Value) (P : Nat → Bool) (w : World) : Prop :=
  ∀ (i : Nat) (u : Value) (w' : World), xs[i]? = some u → Below w.heap.size w w' → Calls Tryz.prog 94 #[u] w' fun e w'' => e = .returned (.bool (P i)) ∧ Below w'.heap.size w' w''
set_option maxRecDepth 100000 in
set_option maxHeartbeats 4000000 in
theorem IndexFuncM (xs : List Value) (n cap : Nat) (ao : Option Addr) (P : Nat → Bool) (w : World) (hm : n ≤ 1000000) (hs : Sl w 1 ao n xs) (hc : AsksM  xs P w) :
    Calls Tryz.prog 67 #[.slice ao n cap, .func (.func 94) #[] #[]] w fun e w' => (∃ i : Int, e = .returned (.int .i64 i) ∧ decide (0 ≤ i) = (List.range n).any P) ∧ Below w.heap.size w w' := by
  have HN : Hid (xs.length = n) := lid (by rw [hs.1, Nat.mul_one])
  have HS := lid hs
  have HC := lid hc
  clear hs hc
  go_enter Tryz.func67, Tryz.ntmps67
  go_wp2_with fail
  go_loopw [5, 8] (fun _ i wr => ∃ k : Nat, k ≤ n ∧ i = .int .i64 k ∧ Hid ((List.range k).any P = false) ∧ Below w.heap.size w wr) (fun _ i _ => n - (intOf i).toNat)
  case atStart => exact ⟨0, Nat.zero_le _, rfl, lid rfl, Below.refl _ _⟩
  case round =>
    obtain ⟨k, hk, rfl, HT, hb⟩ := hrel
    by_cases hlt : k < n
    · have hkl : k < xs.length := by rw [HN.out]; exact hlt
      obtain ⟨b1, o1, rfl, hlb, hcell⟩ := (HS.out.below hb).at_ hlt
      have dk : decide ((k : Int) < (n : Int)) = true := by simp; omega
      have HX : Hid (xs[k]? = some xs[k]) := lid (List.getElem?_eq_getElem hkl)
      obtain ⟨u, hu⟩ : ∃ u, xs[k] = u := ⟨_, rfl⟩
      rw [hu] at HX
      have x0 := hcell k _ HX.out
      have CX : Hid (Calls Tryz.prog 94 #[u] wr fun e w'' => e = .returned (.bool (P k)) ∧ Below wr.heap.size wr w'') := lid (HC.out k u wr HX.out hb)
      have HA : Hid (P k = true → (List.range n).any P = true) := lid (fun h => range_any_at hlt h)
      have HB : Hid (P k = false → (List.range (k + 1)).any P = false) := lid (fun h => range_any_succ HT.out h)
      clear hcell hu
      go_wp2_with fail
      (with_reducible refine (CX.out).mono ?_); rintro e w2 ⟨rfl, hb2⟩
      have hw2 := hb.trans (hb2.mono hb.size)
      cases hp : P k with
      | true =>
        have HV := lid (HA.out hp)
        clear hp
        go_wp2_with fail
        go_ret
        exact ⟨⟨_, rfl, by rw [HV.out]; simp⟩, hw2⟩
      | false =>
        have HV := lid (HB.out hp)
        clear hp
        go_wp2_with fail
        go_roundw
        case rel => exact ⟨k + 1, by omega, by go_num, HV, hw2⟩
        case measure => simp [intOf]; omega
    · obtain rfl : k = n := by omega
      have dk : decide ((k : Int) < (k : Int)) = false := by simp
      go_wp2_with fail
      go_ret
      exact ⟨⟨_, rfl, by rw [HT.out]; decide⟩, hb⟩
set_option maxRecDepth 100000 in
theorem ContainsFuncM (xs : List Value) (n cap : Nat) (ao : Option Addr) (P : Nat → Bool) (w : World) (hm : n ≤ 1000000) (hs : Sl w 1 ao n xs) (hc : AsksM  xs P w) :
    Calls Tryz.prog 50 #[.slice ao n cap, .func (.func 94) #[] #[]] w fun e w' => e = .returned (.bool ((List.range n).any P)) ∧ Below w.heap.size w w' := by
  have CF := lid (IndexFuncM  xs n cap ao P w hm hs hc)
  clear hs hc
  go_enter Tryz.func50, Tryz.ntmps50
  go_wp2_with fail
  (with_reducible refine (CF.out).mono ?_); rintro e w2 ⟨⟨i, rfl, hi⟩, hb⟩
  cases hq : (List.range n).any P with
  | true =>
    rw [hq] at hi
    have HQ := lid hq
    clear hq
    go_wp2_with fail
    go_ret
    exact ⟨ret_bool HQ.out.symm, hb⟩
  | false =>
    rw [hq] at hi
    have HQ := lid hq
    clear hq
    go_wp2_with fail
    go_ret
    exact ⟨ret_bool HQ.out.symm, hb⟩
end Go.Proofs.YtefehgdckmajiaaGreatDoor
