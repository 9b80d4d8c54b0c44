/-
  short of the law's oracles.
-/
import Derived.Test.YtnjcoejnknpfoaaMinStart
namespace Go.Proofs.Ytnjcoejnknpfoaa
open Go.RowKit
def longS (r : Sw) : Bool := decide (10 < r.vs.length)
def shortB (l : List Sw) : Bool := !(decide (6 < l.length) || l.any longS)
set_option maxRecDepth 100000 in
set_option maxHeartbeats 4000000 in
theorem short_any (l : List Sw) (n cap : Nat) (ao : Option Addr) (q r : Int) (w : World) (h : GA w ao n cap l) :
    Calls Try.prog 25 #[.agg #[.slice ao n cap, .int .u64 q, .int .u8 r]] w fun e w' => e = .returned (.bool (shortB l)) ∧ Below w.heap.size w w' := by
  have HA := lid h
  have hmx : n ≤ 9223372036854775807 := Nat.le_trans h.le h.max
  clear h
  by_cases h6 : 6 < n
  · have d6 : decide ((6 : Int) < (n : Int)) = true := by simp; omega
    have HV : Hid (shortB l = false) := lid (by unfold shortB; rw [HA.out.len, decide_eq_true h6]; rfl)
    clear h6
    go_enter Try.func25, Try.ntmps25
    go_wp2_with fail
    go_ret
    exact ⟨ret_bool HV.out.symm, ba _ _⟩
  have d6 : decide ((6 : Int) < (n : Int)) = false := by simp; omega
  have HV0 : Hid (shortB l = !l.any longS) := lid (by unfold shortB; rw [HA.out.len, decide_eq_false h6]; rfl)
  clear h6
  go_enter Try.func25, Try.ntmps25
  go_wp2_with fail
  obtain ⟨W0, hW0⟩ : ∃ y, w.alloc (.cells #[.slice ao n cap, .int .u64 q, .int .u8 r] 42) = y := ⟨_, rfl⟩
  rw [hW0]
  have hb0 : Below w.heap.size w W0 := by rw [← hW0]; exact ba _ _
  clear hW0
  replace HA := lid (HA.out.below hb0)
  go_loopw [4, 12] (fun _ i wr => ∃ j : Nat, j ≤ n ∧ i = .int .i64 j ∧ Hid ((l.take j).any longS = false) ∧ Below W0.heap.size W0 wr) (fun _ i _ => n - (intOf i).toNat)
  case atStart => exact ⟨0, Nat.zero_le _, rfl, lid rfl, Below.refl _ _⟩
  case round =>
    obtain ⟨j, hj, rfl, HT, hbw⟩ := hrel
    have hb9 := hb0.trans (hbw.mono hb0.size)
    by_cases hlt : j < n
    · have hkl : j < l.length := by rw [HA.out.len]; exact hlt
      obtain ⟨b1, o1, rfl, hlb, hcell⟩ := (HA.out.below hbw).sl.at_ hlt
      have x0 := hcell j _ (gcells_at hkl)
      have HY : Hid (longS l[j] = true → l.any longS = true) := lid (fun e => List.any_eq_true.2 ⟨l[j], List.getElem_mem hkl, e⟩)
      have HZ : Hid (longS l[j] = false → (l.take (j + 1)).any longS = false) := lid (fun e => any_take_succ hkl HT.out e)
      have dj : decide ((j : Int) < (n : Int)) = true := by simp; omega
      obtain ⟨x, hx⟩ : ∃ x, l[j] = x := ⟨_, rfl⟩
      rw [hx] at x0 HY HZ
      obtain ⟨m, hm⟩ : ∃ m, x.vs.length = m := ⟨_, rfl⟩
      have HL : Hid (longS x = decide (10 < m)) := lid (by unfold longS; rw [hm])
      replace x0 : wr.cell? ⟨b1, o1 + j, none⟩ = some (.slice x.ao m x.cap) := by rw [x0, ← hm]
      clear hcell hx hm
      by_cases h10 : 10 < m
      · have HV := lid (HY.out (HL.out.trans (decide_eq_true h10)))
        have d10 : decide ((10 : Int) < (m : Int)) = true := by simp; omega
        clear h10 HY HZ
        go_wp2_with fail
        go_ret
        exact ⟨ret_bool (by rw [HV0.out, HV.out]; rfl), hb9⟩
      · have HV := lid (HZ.out (HL.out.trans (decide_eq_false h10)))
        have d10 : decide ((10 : Int) < (m : Int)) = false := by simp; omega
        clear h10 HY HZ
        go_wp2_with fail
        go_roundw
        case rel => exact ⟨j + 1, by omega, by go_num, HV, hbw⟩
        case measure => simp [intOf]; omega
    · obtain rfl : j = n := by omega
      have HV : Hid (l.any longS = false) := lid (by have := HT.out; rwa [List.take_of_length_le (Nat.le_of_eq HA.out.len)] at this)
      have dj : decide ((j : Int) < (j : Int)) = false := by simp
      go_wp2_with fail
      go_ret
      exact ⟨ret_bool (by rw [HV0.out, HV.out]; rfl), hb9⟩
end Go.Proofs.Ytnjcoejnknpfoaa
