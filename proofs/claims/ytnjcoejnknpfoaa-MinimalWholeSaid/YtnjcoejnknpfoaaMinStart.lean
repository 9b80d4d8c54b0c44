/-
  finish of the simulation; Start of both.
-/
import Derived.Test.YtnjcoejnknpfoaaMinGreat
namespace Go.Proofs.Ytnjcoejnknpfoaa
open Go.RowKit
set_option maxRecDepth 100000 in
set_option maxHeartbeats 1000000 in
theorem finish_any (b : Nat) (c0 c1 c2 c3 : Value) (ao : Option Addr) (n cap : Nat) (w : World) (h : w.heap[b]? = some (.cells #[c0, c1, c2, c3] 66 (0, 0))) :
    Calls Try.prog 46 #[.pointer (some ⟨b, 0, none⟩), .slice ao n cap] w fun e w' => e = .returned (.tuple #[]) ∧ w' = (w.setCell ⟨b, 2, none⟩ (.slice ao n cap)).setCell ⟨b, 3, none⟩ (.bool true) := by
  have p2 := row_cell h 2
  have p3 := row_cell h 3
  have z2 := row_fz h 2
  have z3 := row_fz h 3
  clear h
  go_enter Try.func46, Try.ntmps46
  go_wp2_with fail
  go_end0
  exact ⟨rfl, rfl⟩
/-- What Start gives. -/
def startE (N : Int) : Int := if N < 0 ∨ 64 < N then 2 else 0
def startN (N : Int) : Int := if N < 0 ∨ 64 < N then 0 else N
set_option maxRecDepth 100000 in
set_option maxHeartbeats 2000000 in
theorem Start_any (N : Int) (w : World) : Calls Try.prog 13 #[.int .i64 N] w fun e w' => e = .returned (.tuple #[.agg #[.int .i64 (startN N), .slice none 0 0], .int .i64 (startE N)]) ∧ Below w.heap.size w w' := by
  by_cases h0 : N < 0
  · have d0 : decide (N < 0) = true := decide_eq_true h0
    have HV : Hid (startN N = 0 ∧ startE N = 2) := lid ⟨if_pos (.inl h0), if_pos (.inl h0)⟩
    clear h0
    go_enter Try.func13, Try.ntmps13
    go_wp2_with fail
    refine bodyPost_ret (v := .tuple #[.agg #[.int .i64 0, .slice none 0 0], .int .i64 2]) (by simp [results, Try.results13, go_sem]) rfl ⟨by rw [HV.out.1, HV.out.2], ba _ _⟩
  have d0 : decide (N < 0) = false := decide_eq_false h0
  by_cases h1 : 64 < N
  · have d1 : decide (64 < N) = true := decide_eq_true h1
    have HV : Hid (startN N = 0 ∧ startE N = 2) := lid ⟨if_pos (.inr h1), if_pos (.inr h1)⟩
    clear h0 h1
    go_enter Try.func13, Try.ntmps13
    go_wp2_with fail
    refine bodyPost_ret (v := .tuple #[.agg #[.int .i64 0, .slice none 0 0], .int .i64 2]) (by simp [results, Try.results13, go_sem]) rfl ⟨by rw [HV.out.1, HV.out.2], ba _ _⟩
  · have d1 : decide (64 < N) = false := decide_eq_false h1
    have hn : ¬ (N < 0 ∨ 64 < N) := fun h => h.elim h0 h1
    have HV : Hid (startN N = N ∧ startE N = 0) := lid ⟨if_neg hn, if_neg hn⟩
    clear h0 h1 hn
    go_enter Try.func13, Try.ntmps13
    go_wp2_with fail
    refine bodyPost_ret (v := .tuple #[.agg #[.int .i64 N, .slice none 0 0], .int .i64 0]) (by simp [results, Try.results13, go_sem]) rfl ⟨by rw [HV.out.1, HV.out.2], ba _ _⟩
set_option maxRecDepth 100000 in
set_option maxHeartbeats 2000000 in
theorem refStart_any (N : Int) (w : World) : Calls Try.prog 14 #[.int .i64 N] w fun e w' => e = .returned (.tuple #[.agg #[.int .i64 (startN N), .slice none 0 0], .int .i64 (startE N)]) ∧ Below w.heap.size w w' := by
  by_cases h0 : N < 0
  · have d0 : decide (N < 0) = true := decide_eq_true h0
    have HV : Hid (startN N = 0 ∧ startE N = 2) := lid ⟨if_pos (.inl h0), if_pos (.inl h0)⟩
    clear h0
    go_enter Try.func14, Try.ntmps14
    go_wp2_with fail
    refine bodyPost_ret (v := .tuple #[.agg #[.int .i64 0, .slice none 0 0], .int .i64 2]) (by simp [results, Try.results14, go_sem]) rfl ⟨by rw [HV.out.1, HV.out.2], ba _ _⟩
  have d0 : decide (N < 0) = false := decide_eq_false h0
  by_cases h1 : 64 < N
  · have d1 : decide (64 < N) = true := decide_eq_true h1
    have HV : Hid (startN N = 0 ∧ startE N = 2) := lid ⟨if_pos (.inr h1), if_pos (.inr h1)⟩
    clear h0 h1
    go_enter Try.func14, Try.ntmps14
    go_wp2_with fail
    refine bodyPost_ret (v := .tuple #[.agg #[.int .i64 0, .slice none 0 0], .int .i64 2]) (by simp [results, Try.results14, go_sem]) rfl ⟨by rw [HV.out.1, HV.out.2], ba _ _⟩
  · have d1 : decide (64 < N) = false := decide_eq_false h1
    have hn : ¬ (N < 0 ∨ 64 < N) := fun h => h.elim h0 h1
    have HV : Hid (startN N = N ∧ startE N = 0) := lid ⟨if_neg hn, if_neg hn⟩
    clear h0 h1 hn
    go_enter Try.func14, Try.ntmps14
    go_wp2_with fail
    refine bodyPost_ret (v := .tuple #[.agg #[.int .i64 N, .slice none 0 0], .int .i64 0]) (by simp [results, Try.results14, go_sem]) rfl ⟨by rw [HV.out.1, HV.out.2], ba _ _⟩
end Go.Proofs.Ytnjcoejnknpfoaa
