/-
  slices.ContainsFunc with the function values of approval.
-/
import Derived.Test.YtefehgdckmajiaaGreatDoorAppEx
namespace Go.Proofs.YtefehgdckmajiaaGreatDoor
open Go.RowKit

/-- What the function value answers at each place, in every later world. -/
def AsksS (bw : Nat) (xs : List Value) (P : Nat → Bool) (w : World) : Prop :=
  ∀ (i : Nat) (u : Value) (w' : World), xs[i]? = some u → Below w.heap.size w w' → Calls Tryz.prog 51 #[u, .pointer (some ⟨bw, 0, none⟩)] w' fun e w'' => e = .returned (.bool (P i)) ∧ Below w'.heap.size w' w''
set_option maxRecDepth 100000 in
set_option maxHeartbeats 4000000 in
theorem IndexFuncS (bw : Nat) (xs : List Value) (n cap : Nat) (ao : Option Addr) (P : Nat → Bool) (w : World) (hm : n ≤ 1000000) (hs : Sl w 1 ao n xs) (hc : AsksS bw xs P w) :
    Calls Tryz.prog 67 #[.slice ao n cap, .func (.func 51) #[] #[.pointer (some ⟨bw, 0, none⟩)]] w fun e w' => (∃ i : Int, e = .returned (.int .i64 i) ∧ decide (0 ≤ i) = (List.range n).any P) ∧ Below w.heap.size w w' := by
  have HN : Hid (xs.length = n) := lid (by rw [hs.1, Nat.mul_one])
  have HS := lid hs
  have HC := lid hc
  clear hs hc
  go_enter Tryz.func67, Tryz.ntmps67
  go_wp2_with fail
  go_loopw [5, 8] (fun _ i wr => ∃ k : Nat, k ≤ n ∧ i = .int .i64 k ∧ Hid ((List.range k).any P = false) ∧ Below w.heap.size w wr) (fun _ i _ => n - (intOf i).toNat)
  case atStart => exact ⟨0, Nat.zero_le _, rfl, lid rfl, Below.refl _ _⟩
  case round =>
    obtain ⟨k, hk, rfl, HT, hb⟩ := hrel
    by_cases hlt : k < n
    · have hkl : k < xs.length := by rw [HN.out]; exact hlt
      obtain ⟨b1, o1, rfl, hlb, hcell⟩ := (HS.out.below hb).at_ hlt
      have dk : decide ((k : Int) < (n : Int)) = true := by simp; omega
      have HX : Hid (xs[k]? = some xs[k]) := lid (List.getElem?_eq_getElem hkl)
      obtain ⟨u, hu⟩ : ∃ u, xs[k] = u := ⟨_, rfl⟩
      rw [hu] at HX
      have x0 := hcell k _ HX.out
      have CX : Hid (Calls Tryz.prog 51 #[u, .pointer (some ⟨bw, 0, none⟩)] wr fun e w'' => e = .returned (.bool (P k)) ∧ Below wr.heap.size wr w'') := lid (HC.out k u wr HX.out hb)
      have HA : Hid (P k = true → (List.range n).any P = true) := lid (fun h => range_any_at hlt h)
      have HB : Hid (P k = false → (List.range (k + 1)).any P = false) := lid (fun h => range_any_succ HT.out h)
      clear hcell hu
      go_wp2_with fail
      (with_reducible refine (CX.out).mono ?_); rintro e w2 ⟨rfl, hb2⟩
      have hw2 := hb.trans (hb2.mono hb.size)
      cases hp : P k with
      | true =>
        have HV := lid (HA.out hp)
        clear hp
        go_wp2_with fail
        go_ret
        exact ⟨⟨_, rfl, by rw [HV.out]; simp⟩, hw2⟩
      | false =>
        have HV := lid (HB.out hp)
        clear hp
        go_wp2_with fail
        go_roundw
        case rel => exact ⟨k + 1, by omega, by go_num, HV, hw2⟩
        case measure => simp [intOf]; omega
    · obtain rfl : k = n := by omega
      have dk : decide ((k : Int) < (k : Int)) = false := by simp
      go_wp2_with fail
      go_ret
      exact ⟨⟨_, rfl, by rw [HT.out]; decide⟩, hb⟩
set_option maxRecDepth 100000 in
theorem ContainsFuncS (bw : Nat) (xs : List Value) (n cap : Nat) (ao : Option Addr) (P : Nat → Bool) (w : World) (hm : n ≤ 1000000) (hs : Sl w 1 ao n xs) (hc : AsksS bw xs P w) :
    Calls Tryz.prog 50 #[.slice ao n cap, .func (.func 51) #[] #[.pointer (some ⟨bw, 0, none⟩)]] w fun e w' => e = .returned (.bool ((List.range n).any P)) ∧ Below w.heap.size w w' := by
  have CF := lid (IndexFuncS bw xs n cap ao P w hm hs hc)
  clear hs hc
  go_enter Tryz.func50, Tryz.ntmps50
  go_wp2_with fail
  (with_reducible refine (CF.out).mono ?_); rintro e w2 ⟨⟨i, rfl, hi⟩, hb⟩
  cases hq : (List.range n).any P with
  | true =>
    rw [hq] at hi
    have HQ := lid hq
    clear hq
    go_wp2_with fail
    go_ret
    exact ⟨ret_bool HQ.out.symm, hb⟩
  | false =>
    rw [hq] at hi
    have HQ := lid hq
    clear hq
    go_wp2_with fail
    go_ret
    exact ⟨ret_bool HQ.out.symm, hb⟩
/-- What the function value answers at each place, in every later world. -/
def AsksA (ba : Nat) (xs : List Value) (P : Nat → Bool) (w : World) : Prop :=
  ∀ (i : Nat) (u : Value) (w' : World), xs[i]? = some u → Below w.heap.size w w' → Calls Tryz.prog 18 #[u, .pointer (some ⟨ba, 0, none⟩)] w' fun e w'' => e = .returned (.bool (P i)) ∧ Below w'.heap.size w' w''
set_option maxRecDepth 100000 in
set_option maxHeartbeats 4000000 in
theorem IndexFuncA (ba : Nat) (xs : List Value) (n cap : Nat) (ao : Option Addr) (P : Nat → Bool) (w : World) (hm : n ≤ 1000000) (hs : Sl w 1 ao n xs) (hc : AsksA ba xs P w) :
    Calls Tryz.prog 32 #[.slice ao n cap, .func (.func 18) #[] #[.pointer (some ⟨ba, 0, none⟩)]] w fun e w' => (∃ i : Int, e = .returned (.int .i64 i) ∧ decide (0 ≤ i) = (List.range n).any P) ∧ Below w.heap.size w w' := by
  have HN : Hid (xs.length = n) := lid (by rw [hs.1, Nat.mul_one])
  have HS := lid hs
  have HC := lid hc
  clear hs hc
  go_enter Tryz.func32, Tryz.ntmps32
  go_wp2_with fail
  go_loopw [5, 8] (fun _ i wr => ∃ k : Nat, k ≤ n ∧ i = .int .i64 k ∧ Hid ((List.range k).any P = false) ∧ Below w.heap.size w wr) (fun _ i _ => n - (intOf i).toNat)
  case atStart => exact ⟨0, Nat.zero_le _, rfl, lid rfl, Below.refl _ _⟩
  case round =>
    obtain ⟨k, hk, rfl, HT, hb⟩ := hrel
    by_cases hlt : k < n
    · have hkl : k < xs.length := by rw [HN.out]; exact hlt
      obtain ⟨b1, o1, rfl, hlb, hcell⟩ := (HS.out.below hb).at_ hlt
      have dk : decide ((k : Int) < (n : Int)) = true := by simp; omega
      have HX : Hid (xs[k]? = some xs[k]) := lid (List.getElem?_eq_getElem hkl)
      obtain ⟨u, hu⟩ : ∃ u, xs[k] = u := ⟨_, rfl⟩
      rw [hu] at HX
      have x0 := hcell k _ HX.out
      have CX : Hid (Calls Tryz.prog 18 #[u, .pointer (some ⟨ba, 0, none⟩)] wr fun e w'' => e = .returned (.bool (P k)) ∧ Below wr.heap.size wr w'') := lid (HC.out k u wr HX.out hb)
      have HA : Hid (P k = true → (List.range n).any P = true) := lid (fun h => range_any_at hlt h)
      have HB : Hid (P k = false → (List.range (k + 1)).any P = false) := lid (fun h => range_any_succ HT.out h)
      clear hcell hu
      go_wp2_with fail
      (with_reducible refine (CX.out).mono ?_); rintro e w2 ⟨rfl, hb2⟩
      have hw2 := hb.trans (hb2.mono hb.size)
      cases hp : P k with
      | true =>
        have HV := lid (HA.out hp)
        clear hp
        go_wp2_with fail
        go_ret
        exact ⟨⟨_, rfl, by rw [HV.out]; simp⟩, hw2⟩
      | false =>
        have HV := lid (HB.out hp)
        clear hp
        go_wp2_with fail
        go_roundw
        case rel => exact ⟨k + 1, by omega, by go_num, HV, hw2⟩
        case measure => simp [intOf]; omega
    · obtain rfl : k = n := by omega
      have dk : decide ((k : Int) < (k : Int)) = false := by simp
      go_wp2_with fail
      go_ret
      exact ⟨⟨_, rfl, by rw [HT.out]; decide⟩, hb⟩
set_option maxRecDepth 100000 in
theorem ContainsFuncA (ba : Nat) (xs : List Value) (n cap : Nat) (ao : Option Addr) (P : Nat → Bool) (w : World) (hm : n ≤ 1000000) (hs : Sl w 1 ao n xs) (hc : AsksA ba xs P w) :
    Calls Tryz.prog 17 #[.slice ao n cap, .func (.func 18) #[] #[.pointer (some ⟨ba, 0, none⟩)]] w fun e w' => e = .returned (.bool ((List.range n).any P)) ∧ Below w.heap.size w w' := by
  have CF := lid (IndexFuncA ba xs n cap ao P w hm hs hc)
  clear hs hc
  go_enter Tryz.func17, Tryz.ntmps17
  go_wp2_with fail
  (with_reducible refine (CF.out).mono ?_); rintro e w2 ⟨⟨i, rfl, hi⟩, hb⟩
  cases hq : (List.range n).any P with
  | true =>
    rw [hq] at hi
    have HQ := lid hq
    clear hq
    go_wp2_with fail
    go_ret
    exact ⟨ret_bool HQ.out.symm, hb⟩
  | false =>
    rw [hq] at hi
    have HQ := lid hq
    clear hq
    go_wp2_with fail
    go_ret
    exact ⟨ret_bool HQ.out.symm, hb⟩
end Go.Proofs.YtefehgdckmajiaaGreatDoor
