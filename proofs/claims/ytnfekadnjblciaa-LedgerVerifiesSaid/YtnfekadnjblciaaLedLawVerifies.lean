/-
  LedgerVerifies: its walk ends in true.
-/
import Derived.Test.YtnfekadnjblciaaLedAwake
import Derived.Test.YtnfekadnjblciaaLedExtends
namespace Go.Proofs.Ytnfekadnjblciaa
open Go.RowKit

theorem roots_same (q : Nat) : ∀ (p : List Dg) (n m : Nat) (whole : Bool) (old : Dg), p.length = q → (rootsD fstL n m whole old p).2.2 = (rootsD fstR n m whole old p).2.2 ∧ ((rootsD fstR n m whole old p).2.2 = true → rootsD fstL n m whole old p = rootsD fstR n m whole old p) := by
  induction q with
  | zero =>
    intro p n m whole old hp
    obtain rfl := List.eq_nil_of_length_eq_zero hp
    by_cases h : n = m ∧ whole = true
    · obtain ⟨rfl, rfl⟩ := h
      rw [rootsD_whole, rootsD_whole]
      exact ⟨rfl, fun _ => rfl⟩
    · rw [rootsD_nil _ h, rootsD_nil _ h]
      exact ⟨rfl, fun _ => rfl⟩
  | succ q ih =>
    intro p n m whole old hp
    rcases List.eq_nil_or_concat p with rfl | ⟨r, e, hqe⟩
    · simp at hp
    · rw [List.concat_eq_append] at hqe
      subst hqe
      have hr : r.length = q := by simpa using hp
      by_cases hne : n = m
      · subst hne
        cases whole with
        | true =>
          rw [rootsD_whole, rootsD_whole]
          exact ⟨rfl, fun _ => rfl⟩
        | false =>
          rw [rootsD_same, rootsD_same]
          refine ⟨rfl, fun h => ?_⟩
          have h0 : r.length = 0 := of_decide_eq_true h
          obtain rfl := List.eq_nil_of_length_eq_zero h0
          rfl
      · by_cases hk : n ≤ halfN m
        · rw [rootsD_lo _ hne hk, rootsD_lo _ hne hk]
          obtain ⟨i1, i2⟩ := ih r n (halfN m) whole old hr
          generalize rootsD fstL n (halfN m) whole old r = X at *
          generalize rootsD fstR n (halfN m) whole old r = Y at *
          obtain ⟨x1, x2, x3⟩ := X
          obtain ⟨y1, y2, y3⟩ := Y
          simp only at i1 i2 ⊢
          refine ⟨i1, fun h => ?_⟩
          have e := i2 h
          simp only [Prod.mk.injEq] at e
          obtain ⟨rfl, rfl, rfl⟩ := e
          trivial
        · rw [rootsD_hi _ hne hk, rootsD_hi _ hne hk]
          obtain ⟨i1, i2⟩ := ih r (n - halfN m) (m - halfN m) false old hr
          generalize rootsD fstL (n - halfN m) (m - halfN m) false old r = X at *
          generalize rootsD fstR (n - halfN m) (m - halfN m) false old r = Y at *
          obtain ⟨x1, x2, x3⟩ := X
          obtain ⟨y1, y2, y3⟩ := Y
          simp only at i1 i2 ⊢
          refine ⟨i1, fun h => ?_⟩
          have e := i2 h
          simp only [Prod.mk.injEq] at e
          obtain ⟨rfl, rfl, rfl⟩ := e
          trivial
theorem extends_same (old head : Dg) (n m : Int) (p : List Dg) : extendsB fstL old n head m p = extendsB fstR old n head m p := by
  unfold extendsB
  obtain ⟨h1, h2⟩ := roots_same p.length p n.toNat m.toNat true old rfl
  generalize rootsD fstL n.toNat m.toNat true old p = X at *
  generalize rootsD fstR n.toNat m.toNat true old p = Y at *
  cases h : Y.2.2 with
  | true => rw [h2 h, h]
  | false => rw [h1, h, Bool.false_and, Bool.false_and]

set_option maxRecDepth 100000 in
set_option maxHeartbeats 8000000 in
theorem LawVerifies_any (old head : Dg) (n m : Int) (r : Rec) (p : List Dg) (ao : Option Addr) (len cap : Nat) (w : World) (hr : RecS r) (hp : p.length = len) (hcap : len ≤ cap) (hm : cap ≤ maxLen) (hs : DSl w ao p) :
    Calls Try.prog 7 #[dv old, dv head, .int .i64 n, .int .i64 m, rv r, .slice ao len cap] w fun e w' => e = .returned (.bool true) ∧ Below w.heap.size w w' := by
  have HP := lid hp
  have HR := lid hr
  have HM := lid hm
  have hm' : len ≤ 9223372036854775807 := Nat.le_trans hcap hm
  obtain ⟨t, a, b, d⟩ := r
  have hwL : Below w.heap.size w (((w.alloc (Obj.cells #[Value.int .u64 old.1.toNat, Value.int .u64 old.2.toNat] 37)).alloc (Obj.cells #[Value.int .u64 head.1.toNat, Value.int .u64 head.2.toNat] 37)).alloc (Obj.cells #[.int .i64 t, .string a, .string b, .string d] 30)) := (((Below.refl _ _).alloc (Nat.le_refl _) _).alloc (by simp) _).alloc (by simp <;> omega) _
  obtain ⟨W, hW⟩ : ∃ W, (((w.alloc (Obj.cells #[Value.int .u64 old.1.toNat, Value.int .u64 old.2.toNat] 37)).alloc (Obj.cells #[Value.int .u64 head.1.toNat, Value.int .u64 head.2.toNat] 37)).alloc (Obj.cells #[.int .i64 t, .string a, .string b, .string d] 30)) = W := ⟨_, rfl⟩
  have hw0 : Below w.heap.size w W := by rw [← hW]; exact hwL
  have hsz : w.heap.size + 3 = W.heap.size := by rw [← hW, World.size_alloc, World.size_alloc, World.size_alloc]
  have O : DBox W w.heap.size old := by rw [← hW]; exact ((DBox.new w old _).below (ba _ _) (by simp)).below (ba _ _) (by simp <;> omega)
  have P : DBox W (w.heap.size + 1) head := by rw [← hW]; exact (by have := DBox.new (w.alloc (Obj.cells #[Value.int .u64 old.1.toNat, Value.int .u64 old.2.toNat] 37)) head 37; rw [World.size_alloc] at this; exact this.below (ba _ _) (by simp <;> omega))
  have rc : ∀ j, W.cell? ⟨w.heap.size + 2, j, none⟩ = (#[.int .i64 t, .string a, .string b, .string d] : Array Value)[j]? := fun j => by
    have := cell_new_at (w := (w.alloc (Obj.cells #[Value.int .u64 old.1.toNat, Value.int .u64 old.2.toNat] 37)).alloc (Obj.cells #[Value.int .u64 head.1.toNat, Value.int .u64 head.2.toNat] 37)) rfl #[.int .i64 t, .string a, .string b, .string d] 30 j
    rw [World.size_alloc, World.size_alloc] at this
    rw [← hW]
    exact this
  obtain ⟨W1, hW1⟩ : ∃ W1, W.alloc (Obj.cells #[.int .i64 t, .string a, .string b, .string d] 30) = W1 := ⟨_, rfl⟩
  have hb1 : Below W.heap.size W W1 := by rw [← hW1]; exact ba _ _
  have hz1 : W.heap.size < W1.heap.size := by rw [← hW1]; simp
  have nc : ∀ j, W1.cell? ⟨W.heap.size, j, none⟩ = (#[.int .i64 t, .string a, .string b, .string d] : Array Value)[j]? := fun j => by rw [← hW1]; exact cell_new_at rfl _ _ _
  have hSl : Sl W1 4 (some ⟨W.heap.size, 0, none⟩) 1 (rcells [(t, a, b, d)]) := ⟨rfl, .inr ⟨_, 0, rfl, hz1, fun j u h => by rw [Nat.zero_add, nc, List.getElem?_toArray]; exact h⟩⟩
  have HS := lid (hs.below hw0)
  have HW := lid hW
  have HW1 := lid hW1
  have r0 : W1.cell? ⟨w.heap.size + 2, 0, none⟩ = some (.int .i64 t) := by rw [bc hb1 (by omega), rc]; simp
  have r1 : W1.cell? ⟨w.heap.size + 2, 1, none⟩ = some (.string a) := by rw [bc hb1 (by omega), rc]; simp
  have r2 : W1.cell? ⟨w.heap.size + 2, 2, none⟩ = some (.string b) := by rw [bc hb1 (by omega), rc]; simp
  have r3 : W1.cell? ⟨w.heap.size + 2, 3, none⟩ = some (.string d) := by rw [bc hb1 (by omega), rc]; simp
  clear hW hW1 hs hp hr hwL nc rc hm
  go_enter Try.func7, Try.ntmps7
  go_wp2_with fail
  rw [HW.out, HW1.out]
  (with_reducible refine (Great_any [(t, a, b, d)] 1 1 (some ⟨W.heap.size, 0, none⟩) W1 rfl hSl (by decide) (fun x hx => by rw [List.mem_singleton.1 hx]; exact HR.out)).mono ?_); rintro e w2 ⟨rfl, hb2⟩
  have hb02 := hb1.trans (hb2.mono hb1.size)
  have hw2 := hw0.trans (hb02.mono hw0.size)
  obtain ⟨lO, o0, o1⟩ := O.below hb02 O.1
  obtain ⟨lP, p0, p1⟩ := P.below hb02 P.1
  replace r0 := (bc hb2 (by omega) 0).trans r0
  replace r1 := (bc hb2 (by omega) 1).trans r1
  replace r2 := (bc hb2 (by omega) 2).trans r2
  replace r3 := (bc hb2 (by omega) 3).trans r3
  have lr : w.heap.size + 2 < w2.heap.size := by have := hb2.size; omega
  have HS2 := lid (HS.out.below hb02)
  clear O P HW HW1 hSl
  cases hG : greatB [(t, a, b, d)] with
  | true =>
    clear hG
    go_wp2_with fail
    (with_reducible refine (awake_any _).mono ?_); rintro e w3 ⟨rfl, hb3⟩
    go_wp2_with fail
    go_ret
    exact ⟨rfl, hw2.trans (hb3.mono hw2.size)⟩
  | false =>
    clear hG
    by_cases h20 : 20 < len
    · have h20' : decide ((20 : Int) < (len : Int)) = true := by simp; omega
      have h20'' : decide (20 < len) = true := by simp; omega
      go_wp2_with fail
      (with_reducible refine (awake_any _).mono ?_); rintro e w3 ⟨rfl, hb3⟩
      go_wp2_with fail
      go_ret
      exact ⟨rfl, hw2.trans (hb3.mono hw2.size)⟩
    · have h20' : decide ((20 : Int) < (len : Int)) = false := by simp; omega
      have h20'' : decide (20 < len) = false := by simp; omega
      have hl : len ≤ 1000000 := by omega
      have CH := lid (fun w' h => Holds_any head m n (t, a, b, d) p ao len cap w' HR.out HP.out hcap hl (HS2.out.below h))
      have CI := lid (fun w' h => refHolds_any head m n (t, a, b, d) p ao len cap w' HR.out HP.out hcap hl (HS2.out.below h))
      have CE := lid (fun w' h => Extends_any old head n m p ao len cap w' HP.out hcap hl (HS2.out.below h))
      have CF := lid (fun w' h => refExtends_any old head n m p ao len cap w' HP.out hcap hl (HS2.out.below h))
      rw [extends_same] at CE
      generalize extendsB fstR old n head m p = E at *
      generalize holdsB head m n (t, a, b, d) p = V at *
      clear h20
      go_wp2_with fail
      refine wp_region_seq (fun w' => ∃ s : Since w2.heap.size w2, w' = s.world) [(0, true), (1, true), (2, true), (3, true), (4, true), (6, true), (7, true), (8, true), (9, true), (10, true), (5, false), (11, false), (12, true), (13, true), (14, true), (15, true), (16, true), (17, true), (18, true), (20, true), (21, true), (22, true), (23, true), (24, true), (19, false), (25, false), (26, true), (27, true), (28, true), (29, false), (30, true), (31, false)] (by kernel_rfl) (by kernel_rfl) (by intro c d v a w h; cases d <;> exact h) (since (Below.refl _ _).drew) ?_
      repeat (first | (refine seq_skip (by rfl) (by rfl) ?_; simp only [Act.put, List.setIfInBounds_toArray, List.set_cons_succ, List.set_cons_zero]) | (refine seq_float (by rfl) (by rfl) (by rfl) ?_; intro K hK; go_big_quiet_op; go_big_quiet_on))
      refine seq_chain (by rfl) ?_
      intro K hK
      go_wp2_with fail
      (with_reducible refine (CH.out _ (Below.refl _ _).drew).mono ?_); rintro e w3 ⟨rfl, hb3⟩
      have h3 : Below w2.heap.size w2 w3 := (Below.refl _ _).drew.trans hb3
      go_wp2_with fail
      refine hK.out _ _ (since h3) ?_
      clear hK K
      repeat (first | (refine seq_skip (by rfl) (by rfl) ?_; simp only [Act.put, List.setIfInBounds_toArray, List.set_cons_succ, List.set_cons_zero]) | (refine seq_float (by rfl) (by rfl) (by rfl) ?_; intro K hK; go_big_quiet_op; go_big_quiet_on))
      refine seq_chain (by rfl) ?_
      intro K hK
      go_wp2_with fail
      (with_reducible refine (CI.out _ h3).mono ?_); rintro e w4 ⟨rfl, hb4⟩
      have h4 := h3.trans (hb4.mono h3.size)
      go_wp2_with fail
      refine hK.out _ _ (since h4) ?_
      clear hK K
      repeat (first | (refine seq_skip (by rfl) (by rfl) ?_; simp only [Act.put, List.setIfInBounds_toArray, List.set_cons_succ, List.set_cons_zero]) | (refine seq_float (by rfl) (by rfl) (by rfl) ?_; intro K hK; go_big_quiet_op; go_big_quiet_on))
      refine seq_chain (by rfl) ?_
      intro K hK
      go_wp2_with fail
      (with_reducible refine (CE.out _ h4).mono ?_); rintro e w5 ⟨rfl, hb5⟩
      have h5 := h4.trans (hb5.mono h4.size)
      go_wp2_with fail
      refine hK.out _ _ (since h5) ?_
      clear hK K
      repeat (first | (refine seq_skip (by rfl) (by rfl) ?_; simp only [Act.put, List.setIfInBounds_toArray, List.set_cons_succ, List.set_cons_zero]) | (refine seq_float (by rfl) (by rfl) (by rfl) ?_; intro K hK; go_big_quiet_op; go_big_quiet_on))
      refine seq_chain (by rfl) ?_
      intro K hK
      go_wp2_with fail
      (with_reducible refine (CF.out _ h5).mono ?_); rintro e w6 ⟨rfl, hb6⟩
      have h6 := h5.trans (hb6.mono h5.size)
      go_wp2_with fail
      refine hK.out _ _ (since h6) ?_
      clear hK K
      repeat (first | (refine seq_skip (by rfl) (by rfl) ?_; simp only [Act.put, List.setIfInBounds_toArray, List.set_cons_succ, List.set_cons_zero]) | (refine seq_float (by rfl) (by rfl) (by rfl) ?_; intro K hK; go_big_quiet_op; go_big_quiet_on))
      refine seq_chain (by rfl) ?_
      intro K hK
      go_wp2_with fail
      (with_reducible refine (awake_any _).mono ?_); rintro e w7 ⟨rfl, hb7⟩
      have h7 := h6.trans (hb7.mono h6.size)
      go_wp2_with fail
      refine hK.out _ _ (since h7) ?_
      clear hK K
      repeat (first | (refine seq_skip (by rfl) (by rfl) ?_; simp only [Act.put, List.setIfInBounds_toArray, List.set_cons_succ, List.set_cons_zero]) | (refine seq_float (by rfl) (by rfl) (by rfl) ?_; intro K hK; go_big_quiet_op; go_big_quiet_on))
      refine seq_chain (by rfl) ?_
      intro K hK
      go_wp2_with fail
      refine hK.out _ _ (since h7) ?_
      clear hK K
      repeat (first | (refine seq_skip (by rfl) (by rfl) ?_; simp only [Act.put, List.setIfInBounds_toArray, List.set_cons_succ, List.set_cons_zero]) | (refine seq_float (by rfl) (by rfl) (by rfl) ?_; intro K hK; go_big_quiet_op; go_big_quiet_on))
      refine seq_nil ?_
      go_wp2_with fail
      go_ret
      exact ⟨rfl, hw2.trans (h7.mono hw2.size)⟩
end Go.Proofs.Ytnfekadnjblciaa
