/-
  ledger.Holds and its reference.
-/
import Derived.Test.YtbghpjedldhnhaaLedDig
import Derived.Test.YtbghpjedldhnhaaDigVerify
namespace Go.Proofs.Ytbghpjedldhnhaa
open Go.RowKit

/-- Whether a proof is right for a record. -/
def holdsB (head : Dg) (n i : Int) (r : Rec) (p : List Dg) : Bool := recB r && verifyD head n i (recD r) p

set_option maxRecDepth 100000 in
set_option maxHeartbeats 8000000 in
theorem Holds_any (head : Dg) (n i : Int) (r : Rec) (p : List Dg) (ao : Option Addr) (len cap : Nat) (w : World) (hr : RecS r) (hp : p.length = len) (hcap : len ≤ cap) (hl : len ≤ 1000000) (hs : DSl w ao p) :
    Calls Try.prog 17 #[dv head, .int .i64 n, .int .i64 i, rv r, .slice ao len cap] w fun e w' => e = .returned (.bool (holdsB head n i r p)) ∧ Below w.heap.size w w' := by
  have CV := lid (fun w => validRecord_any r w hr)
  have CD := lid (fun w => digestOf_any r w hr)
  have HV : Hid (holdsB head n i r p = (recB r && verifyD head n i (recD r) p)) := lid rfl
  have HP := lid hp
  clear hp hr
  generalize recB r = B at *
  generalize recD r = D at *
  generalize holdsB head n i r p = V at *
  obtain ⟨t, a, b, d⟩ := r
  obtain ⟨x, y⟩ := head
  have hb0 := (ba w (Obj.cells #[.int .u64 x.toNat, .int .u64 y.toNat] 32)).trans ((ba (w.alloc (Obj.cells #[.int .u64 x.toNat, .int .u64 y.toNat] 32)) (Obj.cells #[.int .i64 t, .string a, .string b, .string d] 36)).mono (by simp))
  obtain ⟨W, hW⟩ : ∃ W, (w.alloc (Obj.cells #[.int .u64 x.toNat, .int .u64 y.toNat] 32)).alloc (Obj.cells #[.int .i64 t, .string a, .string b, .string d] 36) = W := ⟨_, rfl⟩
  have e0 : W.cell? ⟨w.heap.size, 0, none⟩ = some (.int .u64 x.toNat) := by rw [← hW]; simp
  have e1 : W.cell? ⟨w.heap.size, 1, none⟩ = some (.int .u64 y.toNat) := by rw [← hW]; simp
  have c0 : W.cell? ⟨w.heap.size + 1, 0, none⟩ = some (.int .i64 t) := by rw [← hW]; simp
  have c1 : W.cell? ⟨w.heap.size + 1, 1, none⟩ = some (.string a) := by rw [← hW]; simp
  have c2 : W.cell? ⟨w.heap.size + 1, 2, none⟩ = some (.string b) := by rw [← hW]; simp
  have c3 : W.cell? ⟨w.heap.size + 1, 3, none⟩ = some (.string d) := by rw [← hW]; simp
  have hlt : w.heap.size + 1 < W.heap.size := by rw [← hW]; simp
  have hlt0 : w.heap.size < W.heap.size := by omega
  rw [hW] at hb0
  have HS := lid (hs.below hb0)
  have HW := lid hW
  clear hW hs
  go_enter Try.func17, Try.ntmps17
  go_wp2_with fail
  rw [HW.out]
  clear HW
  refine wp_region_seq (fun w' => ∃ s : Since W.heap.size W, w' = s.world) [(0, true), (1, false), (2, true), (3, true), (4, true), (5, true), (6, true), (8, true), (7, false), (9, false), (10, true), (11, false)] (by kernel_rfl) (by kernel_rfl) (by intro c d v a w h; cases d <;> exact h) (since (Below.refl _ _).drew) ?_
  repeat (first | (refine seq_skip (by rfl) (by rfl) ?_; simp only [Act.put, List.setIfInBounds_toArray, List.set_cons_succ, List.set_cons_zero]) | (refine seq_float (by rfl) (by rfl) (by rfl) ?_; intro K hK; go_big_quiet_op; go_big_quiet_on))
  refine seq_chain (by rfl) ?_
  intro K hK
  go_wp2_with fail
  (with_reducible refine (CV.out _).mono ?_); rintro e w2 ⟨rfl, hb2⟩
  have hs2 := (Below.refl W.heap.size W).drew.trans hb2
  cases B with
  | false =>
    go_wp2_with fail
    refine hK.out _ _ (since hs2) ?_
    clear hK K
    repeat (first | (refine seq_skip (by rfl) (by rfl) ?_; simp only [Act.put, List.setIfInBounds_toArray, List.set_cons_succ, List.set_cons_zero]) | (refine seq_float (by rfl) (by rfl) (by rfl) ?_; intro K hK; go_big_quiet_op; go_big_quiet_on))
    refine seq_chain (by rfl) ?_
    intro K hK
    go_wp2_with fail
    refine hK.out _ _ (since hs2) ?_
    clear hK K
    repeat (first | (refine seq_skip (by rfl) (by rfl) ?_; simp only [Act.put, List.setIfInBounds_toArray, List.set_cons_succ, List.set_cons_zero]) | (refine seq_float (by rfl) (by rfl) (by rfl) ?_; intro K hK; go_big_quiet_op; go_big_quiet_on))
    refine seq_chain (by rfl) ?_
    intro K hK
    go_wp2_with fail
    refine hK.out _ _ (since hs2) ?_
    clear hK K
    repeat (first | (refine seq_skip (by rfl) (by rfl) ?_; simp only [Act.put, List.setIfInBounds_toArray, List.set_cons_succ, List.set_cons_zero]) | (refine seq_float (by rfl) (by rfl) (by rfl) ?_; intro K hK; go_big_quiet_op; go_big_quiet_on))
    refine seq_chain (by rfl) ?_
    intro K hK
    go_wp2_with fail
    refine hK.out _ _ (since hs2) ?_
    clear hK K
    repeat (first | (refine seq_skip (by rfl) (by rfl) ?_; simp only [Act.put, List.setIfInBounds_toArray, List.set_cons_succ, List.set_cons_zero]) | (refine seq_float (by rfl) (by rfl) (by rfl) ?_; intro K hK; go_big_quiet_op; go_big_quiet_on))
    refine seq_nil ?_
    go_wp2_with fail
    go_ret
    exact ⟨ret_bool' (by rw [HV.out]; rfl), hb0.trans (hs2.mono hb0.size)⟩
  | true =>
    go_wp2_with fail
    refine hK.out _ _ (since hs2) ?_
    clear hK K
    repeat (first | (refine seq_skip (by rfl) (by rfl) ?_; simp only [Act.put, List.setIfInBounds_toArray, List.set_cons_succ, List.set_cons_zero]) | (refine seq_float (by rfl) (by rfl) (by rfl) ?_; intro K hK; go_big_quiet_op; go_big_quiet_on))
    refine seq_chain (by rfl) ?_
    intro K hK
    go_wp2_with fail
    (with_reducible refine (CD.out _).mono ?_); rintro e w3 ⟨rfl, hb3⟩
    have hs3 := hs2.trans (hb3.mono hs2.size)
    go_wp2_with fail
    refine hK.out _ _ (since hs3) ?_
    clear hK K
    repeat (first | (refine seq_skip (by rfl) (by rfl) ?_; simp only [Act.put, List.setIfInBounds_toArray, List.set_cons_succ, List.set_cons_zero]) | (refine seq_float (by rfl) (by rfl) (by rfl) ?_; intro K hK; go_big_quiet_op; go_big_quiet_on))
    refine seq_chain (by rfl) ?_
    intro K hK
    go_wp2_with fail
    (with_reducible refine (Verify_any (x, y) n i D p ao len cap _ HP.out hcap hl (HS.out.below hs3)).mono ?_); rintro e w4 ⟨rfl, hb4⟩
    have hs4 := hs3.trans (hb4.mono hs3.size)
    go_wp2_with fail
    refine hK.out _ _ (since hs4) ?_
    clear hK K
    repeat (first | (refine seq_skip (by rfl) (by rfl) ?_; simp only [Act.put, List.setIfInBounds_toArray, List.set_cons_succ, List.set_cons_zero]) | (refine seq_float (by rfl) (by rfl) (by rfl) ?_; intro K hK; go_big_quiet_op; go_big_quiet_on))
    refine seq_chain (by rfl) ?_
    intro K hK
    go_wp2_with fail
    refine hK.out _ _ (since hs4) ?_
    clear hK K
    repeat (first | (refine seq_skip (by rfl) (by rfl) ?_; simp only [Act.put, List.setIfInBounds_toArray, List.set_cons_succ, List.set_cons_zero]) | (refine seq_float (by rfl) (by rfl) (by rfl) ?_; intro K hK; go_big_quiet_op; go_big_quiet_on))
    refine seq_nil ?_
    go_wp2_with fail
    go_ret
    exact ⟨ret_bool' (by rw [HV.out]; rfl), hb0.trans (hs4.mono hb0.size)⟩

end Go.Proofs.Ytbghpjedldhnhaa
