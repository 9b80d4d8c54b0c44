/-
  ledger.Extends and its reference.
-/
import Derived.Test.YtbghpjedldhnhaaLedRoots
import Derived.Test.YtbghpjedldhnhaaLedHead
import Derived.Test.YtbghpjedldhnhaaDigVerify
namespace Go.Proofs.Ytbghpjedldhnhaa
open Go.RowKit

/-- Whether a growth proof is right. -/
def extendsB (fst : List Dg → Dg) (old : Dg) (n : Int) (head : Dg) (m : Int) (p : List Dg) : Bool :=
  if n < 0 ∨ m < n ∨ 10000 < m then false
  else if n = 0 then decide (old = rootD []) && decide (p.length = 0)
  else if n = m then decide (old = head) && decide (p.length = 0)
  else (rootsD fst n.toNat m.toNat true old p).2.2 && (decide ((rootsD fst n.toNat m.toNat true old p).1 = old) && decide ((rootsD fst n.toNat m.toNat true old p).2.1 = head))
theorem extendsB_out (fst : List Dg → Dg) (old head : Dg) (p : List Dg) {n m : Int} (h : n < 0 ∨ m < n ∨ 10000 < m) : extendsB fst old n head m p = false := by unfold extendsB; rw [if_pos h]
theorem extendsB_zero (fst : List Dg → Dg) (old head : Dg) (p : List Dg) {m : Int} (h : ¬ ((0 : Int) < 0 ∨ m < 0 ∨ 10000 < m)) : extendsB fst old 0 head m p = (decide (old = rootD []) && decide (p.length = 0)) := by unfold extendsB; rw [if_neg h, if_pos rfl]
theorem extendsB_same (fst : List Dg → Dg) (old head : Dg) (p : List Dg) {n : Int} (h : ¬ (n < 0 ∨ n < n ∨ 10000 < n)) (h0 : ¬ n = 0) : extendsB fst old n head n p = (decide (old = head) && decide (p.length = 0)) := by unfold extendsB; rw [if_neg h, if_neg h0, if_pos rfl]
theorem extendsB_in (fst : List Dg → Dg) (old head : Dg) (p : List Dg) {n m : Int} (h : ¬ (n < 0 ∨ m < n ∨ 10000 < m)) (h0 : ¬ n = 0) (h1 : ¬ n = m) : extendsB fst old n head m p = ((rootsD fst n.toNat m.toNat true old p).2.2 && (decide ((rootsD fst n.toNat m.toNat true old p).1 = old) && decide ((rootsD fst n.toNat m.toNat true old p).2.1 = head))) := by unfold extendsB; rw [if_neg h, if_neg h0, if_neg h1]
/-- '==' of two digests, in a region. -/
theorem quiet_eq_dg2 {C : World → Prop} {K : Act → Prop} {a : Act} {o : Oper} (q r : Dg) (v : Bool) (x y : Operand) (h : o.op = .binOp .eql 32 x y 32)
    (hx : a.eval x = dv q) (hy : a.eval y = dv r) (hv : decide (q = r) = v) (hk : K (a.put o.dst (.bool v))) : o.quiet Try.prog a C K := by
  refine ⟨.bool v, fun w _ => ?_, hk⟩
  subst hv
  unfold Oper.quietAt execOp
  rw [h]
  simp only [hx, hy]
  simp [go_sem]
  exact beq_dg q r

set_option maxRecDepth 100000 in
set_option maxHeartbeats 16000000 in
theorem Extends_any (old head : Dg) (n m : Int) (p : List Dg) (ao : Option Addr) (len cap : Nat) (w : World) (hp : p.length = len) (hcap : len ≤ cap) (hl : len ≤ 1000000) (hs : DSl w ao p) :
    Calls Try.prog 8 #[dv old, .int .i64 n, dv head, .int .i64 m, .slice ao len cap] w fun e w' => e = .returned (.bool (extendsB fstL old n head m p)) ∧ Below w.heap.size w w' := by
  have HP := lid hp
  have hwL : Below w.heap.size w ((w.alloc (Obj.cells #[Value.int .u64 old.1.toNat, Value.int .u64 old.2.toNat] 32)).alloc (Obj.cells #[Value.int .u64 head.1.toNat, Value.int .u64 head.2.toNat] 32)) := ((Below.refl _ _).alloc (Nat.le_refl _) _).alloc (by simp) _
  obtain ⟨W, hW⟩ : ∃ W, ((w.alloc (Obj.cells #[Value.int .u64 old.1.toNat, Value.int .u64 old.2.toNat] 32)).alloc (Obj.cells #[Value.int .u64 head.1.toNat, Value.int .u64 head.2.toNat] 32)) = W := ⟨_, rfl⟩
  have hw0 : Below w.heap.size w W := by rw [← hW]; exact hwL
  have O : DBox W w.heap.size old := by rw [← hW]; exact (DBox.new w old _).below (ba _ _) (by simp)
  have P : DBox W (w.heap.size + 1) head := by rw [← hW]; exact (by have := DBox.new (w.alloc (Obj.cells #[Value.int .u64 old.1.toNat, Value.int .u64 old.2.toNat] 32)) head 32; rw [World.size_alloc] at this; exact this)
  have HW := lid hW
  have HS := lid (hs.below hw0)
  clear hW hs hp
  by_cases h1 : n < 0
  · have HV := lid (extendsB_out fstL old head p (n := n) (m := m) (.inl h1))
    go_enter Try.func8, Try.ntmps8
    go_wp2_with fail
    go_ret
    exact ⟨ret_bool HV.out.symm, ((Below.refl _ _).alloc (Nat.le_refl _) _).alloc (by simp) _⟩
  by_cases h2 : m < n
  · have HV := lid (extendsB_out fstL old head p (n := n) (m := m) (.inr (.inl h2)))
    go_enter Try.func8, Try.ntmps8
    go_wp2_with fail
    go_ret
    exact ⟨ret_bool HV.out.symm, ((Below.refl _ _).alloc (Nat.le_refl _) _).alloc (by simp) _⟩
  by_cases h3 : 10000 < m
  · have HV := lid (extendsB_out fstL old head p (n := n) (m := m) (.inr (.inr h3)))
    go_enter Try.func8, Try.ntmps8
    go_wp2_with fail
    go_ret
    exact ⟨ret_bool HV.out.symm, ((Below.refl _ _).alloc (Nat.le_refl _) _).alloc (by simp) _⟩
  have HG : Hid (¬ (n < 0 ∨ m < n ∨ 10000 < m)) := lid (by omega)
  have d1 : decide (n < 0) = false := by simp; omega
  have d2 : decide (m < n) = false := by simp; omega
  have d3 : decide (10000 < m) = false := by simp; omega
  obtain ⟨lO, O0, O1⟩ := O
  obtain ⟨lP, P0, P1⟩ := P
  by_cases h0 : n = 0
  · subst h0
    have HV := lid (extendsB_zero fstL old head p HG.out)
    have CR : Hid (∀ w1, Calls Try.prog 19 #[.slice none 0 0] w1 fun e w' => e = .returned (dv (rootD [])) ∧ Below w1.heap.size w1 w') := lid fun w1 => root_sl (ds := []) (n := 0) (cap := 0) (ao := none) w1 rfl (by omega) (by omega) (.inl rfl)
    generalize rootD [] = E at *
    obtain ⟨z, hz⟩ : ∃ z, decide (p.length = 0) = z := ⟨_, rfl⟩
    have hd : ((len : Int) == 0) = z := by rw [← hz, HP.out, Bool.eq_iff_iff]; simp
    have HZ := lid hz
    clear hz
    by_cases hq : old = E
    · have HQ := lid (decide_eq_true hq)
      clear hq

      go_enter Try.func8, Try.ntmps8
      go_wp2_with fail
      rw [HW.out]
      clear HW
      refine wp_region_seq (fun w' => ∃ s : Since W.heap.size W, w' = s.world) [(0, true), (1, false), (2, true), (3, true), (4, true), (5, true), (6, true), (7, true), (8, false)] (by kernel_rfl) (by kernel_rfl) (by intro c d v a w h; cases d <;> exact h) (since (Below.refl _ _).drew) ?_
      iterate 1 (first | (refine seq_skip (by rfl) (by rfl) ?_; simp only [Act.put, List.setIfInBounds_toArray, List.set_cons_succ, List.set_cons_zero]) | (refine seq_float (by rfl) (by rfl) (by rfl) ?_; intro K hK; go_big_quiet_op; go_big_quiet_on))
      refine seq_chain (by rfl) ?_
      intro K hK
      go_wp2_with fail
      (with_reducible refine (CR.out _).mono ?_); rintro e w1 ⟨rfl, hb1⟩
      have hs1 : Below W.heap.size W w1 := (Below.refl _ _).drew.trans hb1
      go_wp2_with fail
      refine hK.out _ _ (since hs1) ?_
      clear hK K
      refine seq_float (by rfl) (by rfl) (by rfl) ?_; intro K hK
      refine quiet_eq_dg2 old E true _ _ rfl rfl rfl HQ.out ?_
      simp only [Act.put, List.setIfInBounds_toArray, List.set_cons_succ, List.set_cons_zero]
      go_big_quiet_on
      repeat (first | (refine seq_skip (by rfl) (by rfl) ?_; simp only [Act.put, List.setIfInBounds_toArray, List.set_cons_succ, List.set_cons_zero]) | (refine seq_float (by rfl) (by rfl) (by rfl) ?_; intro K hK; go_big_quiet_op; go_big_quiet_on))
      refine seq_chain (by rfl) ?_
      intro K hK
      go_wp2_with fail
      refine hK.out _ _ (since hs1) ?_
      clear hK K
      repeat (first | (refine seq_skip (by rfl) (by rfl) ?_; simp only [Act.put, List.setIfInBounds_toArray, List.set_cons_succ, List.set_cons_zero]) | (refine seq_float (by rfl) (by rfl) (by rfl) ?_; intro K hK; go_big_quiet_op; go_big_quiet_on))
      refine seq_nil ?_
      go_wp2_with fail
      go_ret
      exact ⟨ret_bool (by rw [HV.out, HQ.out, HZ.out]; rfl), hw0.trans (hs1.mono hw0.size)⟩
    · have HQ := lid (decide_eq_false hq)
      clear hq

      go_enter Try.func8, Try.ntmps8
      go_wp2_with fail
      rw [HW.out]
      clear HW
      refine wp_region_seq (fun w' => ∃ s : Since W.heap.size W, w' = s.world) [(0, true), (1, false), (2, true), (3, true), (4, true), (5, true), (6, true), (7, true), (8, false)] (by kernel_rfl) (by kernel_rfl) (by intro c d v a w h; cases d <;> exact h) (since (Below.refl _ _).drew) ?_
      iterate 1 (first | (refine seq_skip (by rfl) (by rfl) ?_; simp only [Act.put, List.setIfInBounds_toArray, List.set_cons_succ, List.set_cons_zero]) | (refine seq_float (by rfl) (by rfl) (by rfl) ?_; intro K hK; go_big_quiet_op; go_big_quiet_on))
      refine seq_chain (by rfl) ?_
      intro K hK
      go_wp2_with fail
      (with_reducible refine (CR.out _).mono ?_); rintro e w1 ⟨rfl, hb1⟩
      have hs1 : Below W.heap.size W w1 := (Below.refl _ _).drew.trans hb1
      go_wp2_with fail
      refine hK.out _ _ (since hs1) ?_
      clear hK K
      refine seq_float (by rfl) (by rfl) (by rfl) ?_; intro K hK
      refine quiet_eq_dg2 old E false _ _ rfl rfl rfl HQ.out ?_
      simp only [Act.put, List.setIfInBounds_toArray, List.set_cons_succ, List.set_cons_zero]
      go_big_quiet_on
      repeat (first | (refine seq_skip (by rfl) (by rfl) ?_; simp only [Act.put, List.setIfInBounds_toArray, List.set_cons_succ, List.set_cons_zero]) | (refine seq_float (by rfl) (by rfl) (by rfl) ?_; intro K hK; go_big_quiet_op; go_big_quiet_on))
      refine seq_chain (by rfl) ?_
      intro K hK
      go_wp2_with fail
      refine hK.out _ _ (since hs1) ?_
      clear hK K
      repeat (first | (refine seq_skip (by rfl) (by rfl) ?_; simp only [Act.put, List.setIfInBounds_toArray, List.set_cons_succ, List.set_cons_zero]) | (refine seq_float (by rfl) (by rfl) (by rfl) ?_; intro K hK; go_big_quiet_op; go_big_quiet_on))
      refine seq_nil ?_
      go_wp2_with fail
      go_ret
      exact ⟨ret_bool (by rw [HV.out, HQ.out, HZ.out]; rfl), hw0.trans (hs1.mono hw0.size)⟩
  by_cases h5 : n = m
  · subst h5
    have HV := lid (extendsB_same fstL old head p HG.out h0)
    have d0 : (n == 0) = false := by simp; omega
    obtain ⟨z, hz⟩ : ∃ z, decide (p.length = 0) = z := ⟨_, rfl⟩
    have hd : ((len : Int) == 0) = z := by rw [← hz, HP.out, Bool.eq_iff_iff]; simp
    have HZ := lid hz
    clear hz
    by_cases hq : old = head
    · have HQ := lid (decide_eq_true hq)
      have hq' : (((old.1.toNat : Int) == (head.1.toNat : Int)) && ((old.2.toNat : Int) == (head.2.toNat : Int))) = true := by rw [beq_dg]; simpa using hq
      clear hq
      go_enter Try.func8, Try.ntmps8
      go_wp2_with fail
      go_ret
      exact ⟨ret_bool (by rw [HV.out, HQ.out, HZ.out]; rfl), hwL⟩
    · have HQ := lid (decide_eq_false hq)
      have hq' : (((old.1.toNat : Int) == (head.1.toNat : Int)) && ((old.2.toNat : Int) == (head.2.toNat : Int))) = false := by rw [beq_dg]; simpa using hq
      clear hq
      go_enter Try.func8, Try.ntmps8
      go_wp2_with fail
      go_ret
      exact ⟨ret_bool (by rw [HV.out, HQ.out, HZ.out]; rfl), hwL⟩
  · have d0 : (n == 0) = false := by simp; omega
    have d4 : (n == m) = false := by simp; omega
    obtain ⟨k, rfl⟩ := Int.eq_ofNat_of_zero_le (show 0 ≤ n by omega)
    obtain ⟨j, rfl⟩ := Int.eq_ofNat_of_zero_le (show 0 ≤ m by omega)
    have HV := lid (extendsB_in fstL old head p HG.out h0 h5)
    rw [Int.toNat_natCast, Int.toNat_natCast] at HV
    have CR : Hid (∀ w1, DSl w1 ao p → Calls Try.prog 20 #[.int .i64 (k : Nat), .int .i64 (j : Nat), .bool true, dv old, .slice ao len cap] w1 fun e w' => e = .returned (rtv (rootsD fstL k j true old p)) ∧ Below w1.heap.size w1 w') := lid fun w1 hs1 =>
      results_any len p k j true old ao cap w1 HP.out hcap hl (by omega) (by omega) (by omega) hs1
    generalize rootsD fstL k j true old p = R at *
    obtain ⟨A, B, ok⟩ := R
    have d5 : decide (k = j) = false := by simp; omega
    have d6 : ((k : Int) == (j : Int)) = false := by simp; omega
    have d7 : decide ((j : Int) < (k : Int)) = false := by simp; omega
    have d8 : decide (j < k) = false := by simp; omega
    have d9 : decide (10000 < j) = false := by simp; omega
    clear h0 h1 h2 h3 h5
    cases ok with
    | false =>
      go_enter Try.func8, Try.ntmps8
      go_wp2_with fail
      rw [HW.out]
      clear HW
      (with_reducible refine (CR.out _ HS.out).mono ?_); rintro e w1 ⟨rfl, hb1⟩
      have hw1 := hw0.trans (hb1.mono hw0.size)
      have u0 := (bc hb1 lO 0).trans O0
      have u1 := (bc hb1 lO 1).trans O1
      have l1 : w.heap.size < w1.heap.size := by have := hb1.size; omega
      clear O0 O1 P0 P1
      go_wp2_with fail
      go_ret
      exact ⟨ret_bool (by rw [HV.out]; rfl), (hw1.alloc hw1.size _).alloc (by rw [World.size_alloc]; omega) _⟩
    | true =>
      by_cases hA : A = old
      · have HQ := lid (decide_eq_true hA)
        have hA' : (((A.1.toNat : Int) == (old.1.toNat : Int)) && ((A.2.toNat : Int) == (old.2.toNat : Int))) = true := by rw [beq_dg]; simpa using hA
        clear hA
        by_cases hB : B = head
        · have HZ := lid (decide_eq_true hB)
          have hB' : (((B.1.toNat : Int) == (head.1.toNat : Int)) && ((B.2.toNat : Int) == (head.2.toNat : Int))) = true := by rw [beq_dg]; simpa using hB
          clear hB
          go_enter Try.func8, Try.ntmps8
          go_wp2_with fail
          rw [HW.out]
          clear HW
          (with_reducible refine (CR.out _ HS.out).mono ?_); rintro e w1 ⟨rfl, hb1⟩
          have hw1 := hw0.trans (hb1.mono hw0.size)
          have u0 := (bc hb1 lO 0).trans O0
          have u1 := (bc hb1 lO 1).trans O1
          have u2 := (bc hb1 lP 0).trans P0
          have u3 := (bc hb1 lP 1).trans P1
          have l1 : w.heap.size < w1.heap.size := by have := hb1.size; omega
          have l2 : w.heap.size + 1 < w1.heap.size := by have := hb1.size; omega
          clear O0 O1 P0 P1
          go_wp2_with fail
          go_ret
          exact ⟨ret_bool (by rw [HV.out, HQ.out, HZ.out]; rfl), (hw1.alloc hw1.size _).alloc (by rw [World.size_alloc]; omega) _⟩
        · have HZ := lid (decide_eq_false hB)
          have hB' : (((B.1.toNat : Int) == (head.1.toNat : Int)) && ((B.2.toNat : Int) == (head.2.toNat : Int))) = false := by rw [beq_dg]; simpa using hB
          clear hB
          go_enter Try.func8, Try.ntmps8
          go_wp2_with fail
          rw [HW.out]
          clear HW
          (with_reducible refine (CR.out _ HS.out).mono ?_); rintro e w1 ⟨rfl, hb1⟩
          have hw1 := hw0.trans (hb1.mono hw0.size)
          have u0 := (bc hb1 lO 0).trans O0
          have u1 := (bc hb1 lO 1).trans O1
          have u2 := (bc hb1 lP 0).trans P0
          have u3 := (bc hb1 lP 1).trans P1
          have l1 : w.heap.size < w1.heap.size := by have := hb1.size; omega
          have l2 : w.heap.size + 1 < w1.heap.size := by have := hb1.size; omega
          clear O0 O1 P0 P1
          go_wp2_with fail
          go_ret
          exact ⟨ret_bool (by rw [HV.out, HQ.out, HZ.out]; rfl), (hw1.alloc hw1.size _).alloc (by rw [World.size_alloc]; omega) _⟩
      · have HQ := lid (decide_eq_false hA)
        have hA' : (((A.1.toNat : Int) == (old.1.toNat : Int)) && ((A.2.toNat : Int) == (old.2.toNat : Int))) = false := by rw [beq_dg]; simpa using hA
        clear hA
        go_enter Try.func8, Try.ntmps8
        go_wp2_with fail
        rw [HW.out]
        clear HW
        (with_reducible refine (CR.out _ HS.out).mono ?_); rintro e w1 ⟨rfl, hb1⟩
        have hw1 := hw0.trans (hb1.mono hw0.size)
        have u0 := (bc hb1 lO 0).trans O0
        have u1 := (bc hb1 lO 1).trans O1
        have u2 := (bc hb1 lP 0).trans P0
        have u3 := (bc hb1 lP 1).trans P1
        have l1 : w.heap.size < w1.heap.size := by have := hb1.size; omega
        have l2 : w.heap.size + 1 < w1.heap.size := by have := hb1.size; omega
        clear O0 O1 P0 P1
        go_wp2_with fail
        go_ret
        exact ⟨ret_bool (by rw [HV.out, HQ.out]; rfl), (hw1.alloc hw1.size _).alloc (by rw [World.size_alloc]; omega) _⟩

end Go.Proofs.Ytbghpjedldhnhaa
