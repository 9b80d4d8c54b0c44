/-
  chunk.Check and the reference's Check: which parameters are valid.
-/
import Derived.Test.YtmebjjoldhcgpaaRows
import Derived.Test.YtmebjjoldhcgpaaKit
import Derived.WalkKit
namespace Go.Proofs.Ytmebjjoldhcgpaa
open Go.RowKit


/-- The error of parameters (least, most, window, bits). -/
def checkE (l m v b : Int) : Int := if v < 1 ∨ l < v ∨ m < l ∨ 65536 < m ∨ b < 0 ∨ 16 < b then 2 else 0
theorem checkE_bad {l m v b : Int} (h : v < 1 ∨ l < v ∨ m < l ∨ 65536 < m ∨ b < 0 ∨ 16 < b) : checkE l m v b = 2 := by unfold checkE; rw [if_pos h]
theorem checkE_ok {l m v b : Int} (h : ¬ (v < 1 ∨ l < v ∨ m < l ∨ 65536 < m ∨ b < 0 ∨ 16 < b)) : checkE l m v b = 0 := by unfold checkE; rw [if_neg h]

set_option maxHeartbeats 1000000 in
theorem Check_any (l m v b : Int) (w : World) :
    Calls Try.prog 11 #[.agg #[.int .i64 l, .int .i64 m, .int .i64 v, .int .i64 b]] w fun e w' => e = .returned (.int .i64 (checkE l m v b)) ∧ Below w.heap.size w w' := by
  by_cases h0 : v < 1
  · have HV := lid (checkE_bad (l := l) (m := m) (v := v) (b := b) (by omega))
    go_enter Try.func11, Try.ntmps11
    go_wp2_with fail
    go_ret
    exact ⟨ret_i64 HV.out.symm, (Below.refl _ _).alloc (Nat.le_refl _) _⟩
  by_cases h1 : l < v
  · have HV := lid (checkE_bad (l := l) (m := m) (v := v) (b := b) (by omega))
    go_enter Try.func11, Try.ntmps11
    go_wp2_with fail
    go_ret
    exact ⟨ret_i64 HV.out.symm, (Below.refl _ _).alloc (Nat.le_refl _) _⟩
  by_cases h2 : m < l
  · have HV := lid (checkE_bad (l := l) (m := m) (v := v) (b := b) (by omega))
    go_enter Try.func11, Try.ntmps11
    go_wp2_with fail
    go_ret
    exact ⟨ret_i64 HV.out.symm, (Below.refl _ _).alloc (Nat.le_refl _) _⟩
  by_cases h3 : 65536 < m
  · have HV := lid (checkE_bad (l := l) (m := m) (v := v) (b := b) (by omega))
    go_enter Try.func11, Try.ntmps11
    go_wp2_with fail
    go_ret
    exact ⟨ret_i64 HV.out.symm, (Below.refl _ _).alloc (Nat.le_refl _) _⟩
  by_cases h4 : b < 0
  · have HV := lid (checkE_bad (l := l) (m := m) (v := v) (b := b) (by omega))
    go_enter Try.func11, Try.ntmps11
    go_wp2_with fail
    go_ret
    exact ⟨ret_i64 HV.out.symm, (Below.refl _ _).alloc (Nat.le_refl _) _⟩
  by_cases h5 : 16 < b
  · have HV := lid (checkE_bad (l := l) (m := m) (v := v) (b := b) (by omega))
    go_enter Try.func11, Try.ntmps11
    go_wp2_with fail
    go_ret
    exact ⟨ret_i64 HV.out.symm, (Below.refl _ _).alloc (Nat.le_refl _) _⟩
  have HV := lid (checkE_ok (l := l) (m := m) (v := v) (b := b) (by omega))
  go_enter Try.func11, Try.ntmps11
  go_wp2_with fail
  go_ret
  exact ⟨ret_i64 HV.out.symm, (Below.refl _ _).alloc (Nat.le_refl _) _⟩

set_option maxHeartbeats 1000000 in
theorem refCheck_any (l m v b : Int) (w : World) :
    Calls Try.prog 22 #[.agg #[.int .i64 l, .int .i64 m, .int .i64 v, .int .i64 b]] w fun e w' => e = .returned (.int .i64 (checkE l m v b)) ∧ Below w.heap.size w w' := by
  by_cases h0 : v < 1
  · have HV := lid (checkE_bad (l := l) (m := m) (v := v) (b := b) (by omega))
    go_enter Try.func22, Try.ntmps22
    go_wp2_with fail
    go_ret
    exact ⟨ret_i64 HV.out.symm, (Below.refl _ _).alloc (Nat.le_refl _) _⟩
  by_cases h1 : l < v
  · have HV := lid (checkE_bad (l := l) (m := m) (v := v) (b := b) (by omega))
    go_enter Try.func22, Try.ntmps22
    go_wp2_with fail
    go_ret
    exact ⟨ret_i64 HV.out.symm, (Below.refl _ _).alloc (Nat.le_refl _) _⟩
  by_cases h2 : m < l
  · have HV := lid (checkE_bad (l := l) (m := m) (v := v) (b := b) (by omega))
    go_enter Try.func22, Try.ntmps22
    go_wp2_with fail
    go_ret
    exact ⟨ret_i64 HV.out.symm, (Below.refl _ _).alloc (Nat.le_refl _) _⟩
  by_cases h3 : 65536 < m
  · have HV := lid (checkE_bad (l := l) (m := m) (v := v) (b := b) (by omega))
    go_enter Try.func22, Try.ntmps22
    go_wp2_with fail
    go_ret
    exact ⟨ret_i64 HV.out.symm, (Below.refl _ _).alloc (Nat.le_refl _) _⟩
  by_cases h4 : b < 0
  · have HV := lid (checkE_bad (l := l) (m := m) (v := v) (b := b) (by omega))
    go_enter Try.func22, Try.ntmps22
    go_wp2_with fail
    go_ret
    exact ⟨ret_i64 HV.out.symm, (Below.refl _ _).alloc (Nat.le_refl _) _⟩
  by_cases h5 : 16 < b
  · have HV := lid (checkE_bad (l := l) (m := m) (v := v) (b := b) (by omega))
    go_enter Try.func22, Try.ntmps22
    go_wp2_with fail
    go_ret
    exact ⟨ret_i64 HV.out.symm, (Below.refl _ _).alloc (Nat.le_refl _) _⟩
  have HV := lid (checkE_ok (l := l) (m := m) (v := v) (b := b) (by omega))
  go_enter Try.func22, Try.ntmps22
  go_wp2_with fail
  go_ret
  exact ⟨ret_i64 HV.out.symm, (Below.refl _ _).alloc (Nat.le_refl _) _⟩
end Go.Proofs.Ytmebjjoldhcgpaa
