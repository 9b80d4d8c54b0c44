/-
  The examples of chapter 52.
-/
import Derived.Test.YtmlkegopbdfiaaaSprRefRun
namespace Go.Proofs.Ytmlkegopbdfiaaa
open Go.RowKit

theorem Sl.lit (w : World) (us : Array Value) (t : TypeId) (xs : List Value) (n : Nat) (h : us.toList = xs) (hn : xs.length = n) : Sl (w.alloc (.cells us t)) 1 (some ⟨w.heap.size, 0, none⟩) n xs := by
  subst h
  refine ⟨by omega, .inr ⟨w.heap.size, 0, rfl, by simp, fun j u hu => ?_⟩⟩
  rw [Nat.zero_add, cell_new_at rfl]
  simpa using hu

set_option maxRecDepth 100000 in
set_option maxHeartbeats 1000000 in
theorem example_any (w : World) :
    Calls Try.prog 26 #[] w fun e w' => e = .returned (.agg (tv 9 10 1 2 1 20 1 20)) ∧ Below w.heap.size w w' := by
  go_enter Try.func26, Try.ntmps26
  go_wp2_with fail
  exact bodyPost_ret (v := .agg (tv 9 10 1 2 1 20 1 20)) (by simp [results, Try.results26, go_sem]) rfl ⟨rfl, ba _ _⟩

set_option maxRecDepth 100000 in
set_option maxHeartbeats 1000000 in
theorem awake_any (w : World) :
    Calls Try.prog 14 #[] w fun e w' => e = .returned (.bool true) ∧ Below w.heap.size w w' := by
  have d1 : decD 9 10 1 2 1 20 1 20 6 0 = 1 := by decide +kernel
  have d2 : decE 9 10 1 2 1 20 1 20 6 0 = 0 := by decide +kernel
  have d3 : decD 9 10 1 2 1 20 1 20 5 0 = 0 := by decide +kernel
  have d4 : decE 9 10 1 2 1 20 1 20 5 0 = 0 := by decide +kernel
  have d5 : runR 9 10 1 2 1 20 1 20 [false, false, true] = (2, 2) := by decide +kernel
  have d6 : runE 9 10 1 2 1 20 1 20 3 = 0 := by decide +kernel
  go_enter Try.func14, Try.ntmps14
  go_wp2_with fail
  (with_reducible refine (example_any _).mono ?_); rintro e w1 ⟨rfl, hb1⟩
  go_wp2_with fail
  (with_reducible refine (Decide_any 9 10 1 2 1 20 1 20 6 0 _).mono ?_); rintro e w2 ⟨rfl, hb2⟩
  rw [d1, d2]
  have hb12 := hb1.trans (hb2.mono hb1.size)
  clear hb1 hb2 d1 d2
  go_wp2_with fail
  (with_reducible refine (example_any _).mono ?_); rintro e w3 ⟨rfl, hb3⟩
  have hb13 := hb12.trans (hb3.mono hb12.size)
  clear hb12 hb3
  go_wp2_with fail
  (with_reducible refine (Decide_any 9 10 1 2 1 20 1 20 5 0 _).mono ?_); rintro e w4 ⟨rfl, hb4⟩
  rw [d3, d4]
  have hb14 := hb13.trans (hb4.mono hb13.size)
  clear hb13 hb4 d3 d4
  go_wp2_with fail
  (with_reducible refine (example_any _).mono ?_); rintro e w5 ⟨rfl, hb5⟩
  have hb15 := hb14.trans (hb5.mono hb14.size)
  clear hb14 hb5
  go_wp2_with fail
  (with_reducible refine (Run_any 9 10 1 2 1 20 1 20 [false, false, true] 3 3 (some ⟨w5.heap.size, 0, none⟩) _ rfl (by decide) (Sl.lit w5 #[Value.bool false, Value.bool false, Value.bool true] 4 _ _ rfl rfl)).mono ?_); rintro e w6 ⟨rfl, hb6⟩
  rw [d5, d6]
  go_wp2_with fail
  go_ret
  exact ⟨rfl, (hb15.alloc hb15.size _).trans (hb6.mono (by have := hb15.size; simp <;> omega))⟩
end Go.Proofs.Ytmlkegopbdfiaaa
