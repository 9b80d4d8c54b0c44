/-
  ledger.Head and its reference.
-/
import Derived.Test.YtbghpjedldhnhaaLedHead
namespace Go.Proofs.Ytbghpjedldhnhaa
open Go.RowKit

set_option maxRecDepth 100000 in
set_option maxHeartbeats 4000000 in
theorem Head_any (l : List Rec) (n cap : Nat) (ao : Option Addr) (w : World) (h : LedA w ao n cap l) :
    Calls Try.prog 9 #[.agg #[.slice ao n cap]] w fun e w' => e = .returned (dv (headD l)) ∧ Below w.heap.size w w' := by
  have hb0 := (ba w (Obj.cells #[.slice ao n cap] 26)).trans ((ba (w.alloc (Obj.cells #[.slice ao n cap] 26)) (Obj.cells #[.int .u64 0, .int .u64 0] 32)).mono (by simp))
  obtain ⟨W, hW⟩ : ∃ W, (w.alloc (Obj.cells #[.slice ao n cap] 26)).alloc (Obj.cells #[.int .u64 0, .int .u64 0] 32) = W := ⟨_, rfl⟩
  have hblk : W.heap[w.heap.size + 1]? = some (.cells #[.int .u64 0, .int .u64 0] 32 (0, 0)) := by
    rw [← hW]
    have := heap_alloc_new (w.alloc (Obj.cells #[.slice ao n cap] 26)) (Obj.cells #[.int .u64 0, .int .u64 0] 32)
    rwa [World.size_alloc] at this
  have q0 : W.cell? ⟨w.heap.size, 0, none⟩ = some (.slice ao n cap) := by rw [← hW]; simp
  have hlt : w.heap.size + 1 < W.heap.size := by rw [← hW]; simp
  rw [hW] at hb0
  have HA := lid (h.below hb0)
  have HB := lid hblk
  have Q0 := lid q0
  have HW := lid hW
  clear h hW hblk q0
  go_enter Try.func9, Try.ntmps9
  go_wp2_with fail
  rw [HW.out]
  clear HW
  (with_reducible refine (Check_any l n cap ao _ HA.out.len HA.out.sl HA.out.sizes HA.out.max).mono ?_); rintro e w2 ⟨rfl, hb2⟩
  have q2 := (bc hb2 (by omega) 0).trans Q0.out
  have HB2 := lid ((hb2.block _ hlt).trans HB.out)
  have HA2 := lid (HA.out.below hb2)
  have hw2 := hb0.trans (hb2.mono hb0.size)
  by_cases hc : checkL l = 0
  · have HV : Hid (headD l = rootD (l.map recD)) := lid (by unfold headD; rw [if_pos hc])
    have h10 : n ≤ 10000 := by have := check_len hc; rw [HA.out.len] at this; exact this
    rw [hc]
    go_wp2_with fail
    (with_reducible refine (digests_fn _ ao n cap _ rfl).mono ?_); rintro e w3 ⟨rfl, rfl⟩
    have hA3 := HA2.out.below (ba w2 (Obj.cells #[.slice ao n cap] 26))
    go_wp2_with fail
    (with_reducible refine (Collect_any w2.heap.size l n cap ao _ (by simp) (by simp) hA3.len hA3.sl hA3.sizes h10).mono ?_); rintro e w4 ⟨v', rfl, hown, hb4⟩
    have hs4 : Below w2.heap.size w2 w4 := (ba w2 _).trans (hb4.mono (by simp))
    obtain ⟨ao', cap', rfl, hl', hc', hs'⟩ := dsl_of_own hown
    have hb24 := hb2.trans (hs4.mono hb2.size)
    have hw4 := hw2.trans (hs4.mono hw2.size)
    go_wp2_with fail
    (with_reducible refine (root_sl _ hl' hc' (by omega) hs').mono ?_); rintro e w5 ⟨rfl, hb5⟩
    rw [← HV.out]
    have hb25 := hb24.trans (hb5.mono hb24.size)
    have hblk5 := (hb25.block _ hlt).trans HB.out
    have f0 := frozen_of_row _ _ 0 _ _ hblk5
    have f1 := frozen_of_row _ _ 1 _ _ hblk5
    have e0 : w5.cell? ⟨w.heap.size + 1, 0, none⟩ = some (.int .u64 0) := by rw [cell_of_row _ _ _ _ _ _ hblk5]; rfl
    have e1 : w5.cell? ⟨w.heap.size + 1, 1, none⟩ = some (.int .u64 0) := by rw [cell_of_row _ _ _ _ _ _ hblk5]; rfl
    have hfin := hw4.trans (hb5.mono hw4.size)
    clear hblk5 q2 hc
    go_wp2_with fail
    refine bodyPost_ret (v := dv (headD l)) (by simp [results, Try.results9, go_sem, e0, e1]) rfl ⟨rfl, ?_⟩
    exact ((hfin.setCell (p := ⟨w.heap.size + 1, 0, none⟩) (by show w.heap.size ≤ w.heap.size + 1; omega) _).setCell (p := ⟨w.heap.size + 1, 1, none⟩) (by show w.heap.size ≤ w.heap.size + 1; omega) _)
  · have HV : Hid (headD l = (0, 0)) := lid (by unfold headD; rw [if_neg hc])
    have hblk5 := HB2.out
    have f0 := frozen_of_row _ _ 0 _ _ hblk5
    have f1 := frozen_of_row _ _ 1 _ _ hblk5
    have e0 : w2.cell? ⟨w.heap.size + 1, 0, none⟩ = some (.int .u64 0) := by rw [cell_of_row _ _ _ _ _ _ hblk5]; rfl
    have e1 : w2.cell? ⟨w.heap.size + 1, 1, none⟩ = some (.int .u64 0) := by rw [cell_of_row _ _ _ _ _ _ hblk5]; rfl
    have hc' : (checkL l != 0) = true := by simpa using hc
    generalize checkL l = C at *
    clear hblk5 q2 hc
    go_wp2_with fail
    refine bodyPost_ret (v := dv (0, 0)) (by simp [results, Try.results9, go_sem, e0, e1]) rfl ⟨by rw [HV.out], ?_⟩
    exact ((hw2.setCell (p := ⟨w.heap.size + 1, 0, none⟩) (by show w.heap.size ≤ w.heap.size + 1; omega) _).setCell (p := ⟨w.heap.size + 1, 1, none⟩) (by show w.heap.size ≤ w.heap.size + 1; omega) _)

end Go.Proofs.Ytbghpjedldhnhaa
