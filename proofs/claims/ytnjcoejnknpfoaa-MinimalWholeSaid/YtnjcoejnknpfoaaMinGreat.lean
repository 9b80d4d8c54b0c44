/-
  Great of the reference.
-/
import Derived.Test.YtnjcoejnknpfoaaMinKn
namespace Go.Proofs.Ytnjcoejnknpfoaa
open Go.RowKit
def longK (r : Kw) : Bool := decide (12 < r.vs.length)
def greatS (N : Int) (l : List Kw) : Bool := decide (60 < l.length) || (decide (10 < N) && decide (N ≤ 64)) || l.any longK
set_option maxRecDepth 100000 in
set_option maxHeartbeats 4000000 in
theorem Great_any (N : Int) (l : List Kw) (n cap : Nat) (ao : Option Addr) (w : World) (h : KA w ao n cap l) :
    Calls Try.prog 11 #[.agg #[.int .i64 N, .slice ao n cap]] w fun e w' => e = .returned (.bool (greatS N l)) ∧ Below w.heap.size w w' := by
  have HA := lid h
  have hmx : n ≤ 9223372036854775807 := Nat.le_trans h.le h.max
  clear h
  by_cases h60 : 60 < n
  · have d60 : decide ((60 : Int) < (n : Int)) = true := by simp; omega
    have HV : Hid (greatS N l = true) := lid (by unfold greatS; rw [HA.out.len, decide_eq_true h60]; rfl)
    clear h60
    go_enter Try.func11, Try.ntmps11
    go_wp2_with fail
    go_ret
    exact ⟨ret_bool HV.out.symm, ba _ _⟩
  have d60 : decide ((60 : Int) < (n : Int)) = false := by simp; omega
  have HV0 : Hid (greatS N l = ((decide (10 < N) && decide (N ≤ 64)) || l.any longK)) := lid (by unfold greatS; rw [HA.out.len, decide_eq_false h60]; rfl)
  have hn60 : n ≤ 60 := by omega
  clear h60
  have cases3 : (decide (10 < N) = true ∧ decide (N ≤ 64) = true) ∨ (decide (10 < N) = true ∧ decide (N ≤ 64) = false) ∨ (decide (10 < N) = false ∧ decide (N ≤ 64) = true) := by
    by_cases a : 10 < N
    · by_cases b : N ≤ 64
      · exact .inl ⟨decide_eq_true a, decide_eq_true b⟩
      · exact .inr (.inl ⟨decide_eq_true a, decide_eq_false b⟩)
    · exact .inr (.inr ⟨decide_eq_false a, decide_eq_true (by omega)⟩)
  rcases cases3 with ⟨h1, h2⟩ | ⟨h1, h2⟩ | ⟨h1, h2⟩
  · have HV : Hid (greatS N l = true) := lid (by rw [HV0.out, h1, h2]; rfl)
    go_enter Try.func11, Try.ntmps11
    go_wp2_with fail
    go_ret
    exact ⟨ret_bool HV.out.symm, ba _ _⟩
  all_goals
    rw [h1, h2] at HV0
    simp only [Bool.and_false, Bool.and_true, Bool.false_or] at HV0
    go_enter Try.func11, Try.ntmps11
    go_wp2_with fail
    obtain ⟨W0, hW0⟩ : ∃ y, w.alloc (.cells #[.int .i64 N, .slice ao n cap] 24) = y := ⟨_, rfl⟩
    rw [hW0]
    have XB : Hid (W0.heap[w.heap.size]? = some (.cells #[.int .i64 N, .slice ao n cap] 24 (0, 0))) := lid (by rw [← hW0]; exact heap_alloc_new _ _)
    have hb0 : Below w.heap.size w W0 := by rw [← hW0]; exact ba _ _
    clear hW0
    replace HA := lid (HA.out.below hb0)
    have p0 := row_cell XB.out 0
    have p1 := row_cell XB.out 1
    go_loopw [3] (fun i wr => ∃ j : Nat, j ≤ n ∧ i = .int .i64 j ∧ Hid ((l.take j).any longK = false) ∧ Below W0.heap.size W0 wr) (fun i _ => n - (intOf i).toNat)
    case atStart => exact ⟨0, Nat.zero_le _, rfl, lid rfl, Below.refl _ _⟩
    case round =>
      obtain ⟨j, hj, rfl, HT, hbw⟩ := hrel
      have p0 := (bc hbw (row_lt XB.out) 0).trans (row_cell XB.out 0)
      have p1 := (bc hbw (row_lt XB.out) 1).trans (row_cell XB.out 1)
      have hb9 := hb0.trans (hbw.mono hb0.size)
      by_cases hlt : j < n
      · have hkl : j < l.length := by rw [HA.out.len]; exact hlt
        obtain ⟨b1, o1, rfl, hlb, hcell⟩ := (HA.out.below hbw).sl.at_ hlt
        have x0 := hcell (j * 2 + 0) _ (kcells_at hkl).1
        rw [Nat.add_zero] at x0
        have HY : Hid (longK l[j] = true → l.any longK = true) := lid (fun e => List.any_eq_true.2 ⟨l[j], List.getElem_mem hkl, e⟩)
        have HZ : Hid (longK l[j] = false → (l.take (j + 1)).any longK = false) := lid (fun e => any_take_succ hkl HT.out e)
        have dj : decide ((j : Int) < (n : Int)) = true := by simp; omega
        obtain ⟨x, hx⟩ : ∃ x, l[j] = x := ⟨_, rfl⟩
        rw [hx] at x0 HY HZ
        obtain ⟨m, hm⟩ : ∃ m, x.vs.length = m := ⟨_, rfl⟩
        have HL : Hid (longK x = decide (12 < m)) := lid (by unfold longK; rw [hm])
        rw [hm] at x0
        clear hcell hx hm
        by_cases h12 : 12 < m
        · have HV := lid (HY.out (HL.out.trans (decide_eq_true h12)))
          have d12 : decide ((12 : Int) < (m : Int)) = true := by simp; omega
          clear h12 HY HZ
          go_wp2_with fail
          go_ret
          exact ⟨ret_bool (HV0.out.trans HV.out).symm, hb9⟩
        · have HV := lid (HZ.out (HL.out.trans (decide_eq_false h12)))
          have d12 : decide ((12 : Int) < (m : Int)) = false := by simp; omega
          clear h12 HY HZ
          go_wp2_with fail
          go_roundw
          case rel => exact ⟨j + 1, by omega, by go_num, HV, hbw⟩
          case measure => simp [intOf]; omega
      · obtain rfl : j = n := by omega
        have HV : Hid (l.any longK = false) := lid (by have := HT.out; rwa [List.take_of_length_le (Nat.le_of_eq HA.out.len)] at this)
        have dj : decide ((j : Int) < (j : Int)) = false := by simp
        go_wp2_with fail
        go_ret
        exact ⟨ret_bool (HV0.out.trans HV.out).symm, hb9⟩
end Go.Proofs.Ytnjcoejnknpfoaa
