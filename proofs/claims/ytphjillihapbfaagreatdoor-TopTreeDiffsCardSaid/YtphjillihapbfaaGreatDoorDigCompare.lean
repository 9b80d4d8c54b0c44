/-
  digest.Compare and the reference's Compare: the order of digests.
-/
import Derived.Test.YtphjillihapbfaaGreatDoorDigVerify
namespace Go.Proofs.YtphjillihapbfaaGreatDoor
open Go.RowKit

/-- x, or y where x is 0. -/
def or2 (x y : Int) : Int := if x = 0 then y else x
def cmpI (x y : Int) : Int := if x < y then -1 else if y < x then 1 else 0
/-- The order of digests. -/
def cmpD (a b : Dg) : Int := or2 (cmpI a.1.toNat b.1.toNat) (cmpI a.2.toNat b.2.toNat)

set_option maxHeartbeats 400000 in
theorem isNaN_any (x : Int) (w : World) : Calls Tryz.prog 135 #[.int .u64 x] w fun e w' => e = .returned (.bool false) ∧ w = w' := by
  have h : (!(x == x)) = false := by simp
  go_enter Tryz.func135, Tryz.ntmps135
  go_wp2
  go_ret
  exact ⟨ret_bool (by simp), rfl⟩

set_option maxHeartbeats 400000 in
theorem cmpU64_any (x y : Int) (w : World) : Calls Tryz.prog 128 #[.int .u64 x, .int .u64 y] w fun e w' => e = .returned (.int .i64 (cmpI x y)) ∧ w = w' := by
  rcases (show x < y ∨ y < x ∨ x = y by omega) with h | h | h
  · have HC : Hid (cmpI x y = -1) := by show _ = _; unfold cmpI; rw [if_pos h]
    go_enter Tryz.func128, Tryz.ntmps128
    go_wp2_with fail
    (with_reducible refine (isNaN_any x _).mono ?_); rintro e w1 ⟨rfl, rfl⟩
    go_wp2_with fail
    (with_reducible refine (isNaN_any y _).mono ?_); rintro e w1 ⟨rfl, rfl⟩
    go_wp2_with fail
    go_ret
    exact ⟨ret_i64 HC.out.symm, rfl⟩
  · have HC : Hid (cmpI x y = 1) := by show _ = _; unfold cmpI; rw [if_neg (by omega), if_pos h]
    go_enter Tryz.func128, Tryz.ntmps128
    go_wp2_with fail
    (with_reducible refine (isNaN_any x _).mono ?_); rintro e w1 ⟨rfl, rfl⟩
    go_wp2_with fail
    (with_reducible refine (isNaN_any y _).mono ?_); rintro e w1 ⟨rfl, rfl⟩
    go_wp2_with fail
    go_ret
    exact ⟨ret_i64 HC.out.symm, rfl⟩
  · have HC : Hid (cmpI x y = 0) := by show _ = _; unfold cmpI; rw [if_neg (by omega), if_neg (by omega)]
    subst h
    go_enter Tryz.func128, Tryz.ntmps128
    go_wp2_with fail
    (with_reducible refine (isNaN_any x _).mono ?_); rintro e w1 ⟨rfl, rfl⟩
    go_wp2_with fail
    (with_reducible refine (isNaN_any x _).mono ?_); rintro e w1 ⟨rfl, rfl⟩
    go_wp2_with fail
    go_ret
    exact ⟨ret_i64 HC.out.symm, rfl⟩

set_option maxHeartbeats 400000 in
theorem Or2_any (b off : Nat) (x y : Int) (w : World) (hx : w.cell? ⟨b, off, none⟩ = some (.int .i64 x)) (hy : w.cell? ⟨b, off + 1, none⟩ = some (.int .i64 y)) :
    Calls Tryz.prog 127 #[.slice (some ⟨b, off, none⟩) 2 2] w fun e w' => e = .returned (.int .i64 (or2 x y)) ∧ w = w' := by
  by_cases h : x = 0
  · subst h
    by_cases h2 : y = 0
    · subst h2
      go_enter Tryz.func127, Tryz.ntmps127
      go_wp2
      refine wp_loop_rounds 3 ?_
      rw [rounds_succ]
      go_wp2
      rw [rounds_succ]
      go_wp2
      rw [rounds_succ]
      go_wp2
      go_ret
      exact ⟨rfl, rfl⟩
    · have h2' : (y != 0) = true := by simpa using h2
      have h2'' : (y == 0) = false := by simpa using h2
      clear h2
      go_enter Tryz.func127, Tryz.ntmps127
      go_wp2
      refine wp_loop_rounds 2 ?_
      rw [rounds_succ]
      go_wp2
      rw [rounds_succ]
      go_wp2
      go_ret
      exact ⟨rfl, rfl⟩
  · have h2' : (x != 0) = true := by simpa using h
    have h2'' : (x == 0) = false := by simpa using h
    have HX : Hid (or2 x y = x) := by show _ = _; unfold or2; rw [if_neg h]
    clear h
    go_enter Tryz.func127, Tryz.ntmps127
    go_wp2
    refine wp_loop_rounds 1 ?_
    rw [rounds_succ]
    go_wp2
    go_ret
    exact ⟨ret_i64 HX.out.symm, rfl⟩

set_option maxHeartbeats 400000 in
theorem Compare_any (a b : Dg) (w : World) : Calls Tryz.prog 109 #[dv a, dv b] w fun e w' => e = .returned (.int .i64 (cmpD a b)) ∧ Below w.heap.size w w' := by
  by_cases h : a = b
  · have HC : Hid (cmpD a b = 0) := by show _ = _; subst h; simp [cmpD, or2, cmpI]
    subst h
    go_enter Tryz.func109, Tryz.ntmps109
    go_wp2
    go_ret
    exact ⟨ret_i64 HC.out.symm, ((Below.refl _ _).alloc (Nat.le_refl _) _).alloc (by simp) _⟩
  · have hne : (((a.1.toNat : Int) == (b.1.toNat : Int)) && ((a.2.toNat : Int) == (b.2.toNat : Int))) = false := by rw [beq_dg]; simpa using h
    have HC : Hid (cmpD a b = or2 (cmpI a.1.toNat b.1.toNat) (cmpI a.2.toNat b.2.toNat)) := lid rfl
    clear h
    go_enter Tryz.func109, Tryz.ntmps109
    go_wp2
    have hs0 : Below (w.heap.size + 2) ((w.alloc (Obj.cells #[Value.int .u64 a.1.toNat, Value.int .u64 a.2.toNat] 31)).alloc (Obj.cells #[Value.int .u64 b.1.toNat, Value.int .u64 b.2.toNat] 31)) ((w.alloc (Obj.cells #[Value.int .u64 a.1.toNat, Value.int .u64 a.2.toNat] 31)).alloc (Obj.cells #[Value.int .u64 b.1.toNat, Value.int .u64 b.2.toNat] 31)).drew := (Below.refl _ _).drew
    have hz0 : w.heap.size + 2 ≤ ((w.alloc (Obj.cells #[Value.int .u64 a.1.toNat, Value.int .u64 a.2.toNat] 31)).alloc (Obj.cells #[Value.int .u64 b.1.toNat, Value.int .u64 b.2.toNat] 31)).drew.heap.size := by show _ ≤ ((w.alloc (Obj.cells #[Value.int .u64 a.1.toNat, Value.int .u64 a.2.toNat] 31)).alloc (Obj.cells #[Value.int .u64 b.1.toNat, Value.int .u64 b.2.toNat] 31)).heap.size; rw [World.size_alloc, World.size_alloc]; omega
    refine wp_region_seq (fun w' => ∃ s : Since (w.heap.size + 2) ((w.alloc (Obj.cells #[Value.int .u64 a.1.toNat, Value.int .u64 a.2.toNat] 31)).alloc (Obj.cells #[Value.int .u64 b.1.toNat, Value.int .u64 b.2.toNat] 31)), w' = s.world) [(0, true), (1, true), (2, true), (3, true), (5, true), (6, true), (7, true), (8, true), (4, false), (9, false), (10, false), (11, false), (12, false)] (by kernel_rfl) (by kernel_rfl) (by intro c d v a w h; first | (cases d <;> exact h) | cases h.1) (since (Below.refl _ _).drew) ?_
    repeat (first | (refine seq_skip (by rfl) (by rfl) ?_; simp only [Act.put, List.setIfInBounds_toArray, List.set_cons_succ, List.set_cons_zero]) | (refine seq_float (by rfl) (by rfl) (by rfl) ?_; intro K hK; go_big_quiet_op; go_big_quiet_on))
    refine seq_chain (by rfl) ?_
    intro K hK
    go_wp2_with fail
    (with_reducible refine (cmpU64_any a.1.toNat b.1.toNat _).mono ?_); rintro e w1 ⟨rfl, rfl⟩
    go_wp2_with fail
    refine hK.out _ _ (since hs0) ?_
    clear hK K
    repeat (first | (refine seq_skip (by rfl) (by rfl) ?_; simp only [Act.put, List.setIfInBounds_toArray, List.set_cons_succ, List.set_cons_zero]) | (refine seq_float (by rfl) (by rfl) (by rfl) ?_; intro K hK; go_big_quiet_op; go_big_quiet_on))
    refine seq_chain (by rfl) ?_
    intro K hK
    go_wp2_with fail
    (with_reducible refine (cmpU64_any a.2.toNat b.2.toNat _).mono ?_); rintro e w1 ⟨rfl, rfl⟩
    go_wp2_with fail
    refine hK.out _ _ (since hs0) ?_
    clear hK K
    repeat (first | (refine seq_skip (by rfl) (by rfl) ?_; simp only [Act.put, List.setIfInBounds_toArray, List.set_cons_succ, List.set_cons_zero]) | (refine seq_float (by rfl) (by rfl) (by rfl) ?_; intro K hK; go_big_quiet_op; go_big_quiet_on))
    refine seq_chain (by rfl) ?_
    intro K hK
    go_wp2_with fail
    refine hK.out _ _ (since ((Below.refl _ _).alloc (by simp <;> omega) _).drew) ?_
    clear hK K
    repeat (first | (refine seq_skip (by rfl) (by rfl) ?_; simp only [Act.put, List.setIfInBounds_toArray, List.set_cons_succ, List.set_cons_zero]) | (refine seq_float (by rfl) (by rfl) (by rfl) ?_; intro K hK; go_big_quiet_op; go_big_quiet_on))
    refine seq_chain (by rfl) ?_
    intro K hK
    go_wp2_with fail
    (with_reducible refine (Or2_any _ 0 (cmpI a.1.toNat b.1.toNat) (cmpI a.2.toNat b.2.toNat) _ (by simp [go_sem]) (by simp [go_sem])).mono ?_); rintro e w1 ⟨rfl, rfl⟩
    go_wp2_with fail
    refine hK.out _ _ (since ((Below.refl _ _).alloc (by simp <;> omega) _).drew) ?_
    clear hK K
    repeat (first | (refine seq_skip (by rfl) (by rfl) ?_; simp only [Act.put, List.setIfInBounds_toArray, List.set_cons_succ, List.set_cons_zero]) | (refine seq_float (by rfl) (by rfl) (by rfl) ?_; intro K hK; go_big_quiet_op; go_big_quiet_on))
    refine seq_chain (by rfl) ?_
    intro K hK
    go_wp2_with fail
    go_wp2_with fail
    refine hK.out _ _ (since ((Below.refl _ _).alloc (by simp <;> omega) _).drew) ?_
    clear hK K
    refine seq_nil ?_
    go_wp2_with fail
    go_ret
    exact ⟨ret_i64 HC.out.symm, ((((Below.refl _ _).alloc (Nat.le_refl _) _).alloc (by simp) _).alloc (by simp; omega) _).drew⟩

end Go.Proofs.YtphjillihapbfaaGreatDoor
