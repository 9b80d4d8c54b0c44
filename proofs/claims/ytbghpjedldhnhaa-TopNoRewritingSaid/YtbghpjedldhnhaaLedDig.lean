/-
  ledger.digestOf.
-/
import Derived.Test.YtbghpjedldhnhaaLedRec
import Derived.Test.YtbghpjedldhnhaaDigPair
namespace Go.Proofs.Ytbghpjedldhnhaa
open Go.RowKit

set_option maxRecDepth 100000 in
set_option maxHeartbeats 8000000 in
theorem digestOf_any (r : Rec) (w : World) (hr : RecS r) :
    Calls Try.prog 35 #[rv r] w fun e w' => e = .returned (dv (recD r)) ∧ Below w.heap.size w w' := by
  have hsz := recL_len r
  have CO := fun w => of_any (bstr (recL r)) w hsz
  rw [show ofU (bstr (recL r)).data.toList = recD r from rfl] at CO
  generalize hD : recD r = D at *
  obtain ⟨t, a, b, d⟩ := r
  obtain ⟨s1, s2, s3⟩ := hr
  simp only at s1 s2 s3
  have hb0 := (ba w (Obj.cells #[.int .i64 t, .string a, .string b, .string d] 36)).trans ((ba (w.alloc (Obj.cells #[.int .i64 t, .string a, .string b, .string d] 36)) (Obj.cells #[.int .u64 0, .int .u64 0] 32)).mono (by simp))
  obtain ⟨W, hW⟩ : ∃ W, (w.alloc (Obj.cells #[.int .i64 t, .string a, .string b, .string d] 36)).alloc (Obj.cells #[.int .u64 0, .int .u64 0] 32) = W := ⟨_, rfl⟩
  have c1 : W.cell? ⟨w.heap.size, 1, none⟩ = some (.string a) := by rw [← hW]; simp
  have c2 : W.cell? ⟨w.heap.size, 2, none⟩ = some (.string b) := by rw [← hW]; simp
  have c3 : W.cell? ⟨w.heap.size, 3, none⟩ = some (.string d) := by rw [← hW]; simp
  have e0 : W.cell? ⟨w.heap.size + 1, 0, none⟩ = some (.int .u64 0) := by rw [← hW]; simp
  have e1 : W.cell? ⟨w.heap.size + 1, 1, none⟩ = some (.int .u64 0) := by rw [← hW]; simp
  have hblk : W.heap[w.heap.size + 1]? = some (.cells #[.int .u64 0, .int .u64 0] 32 (0, 0)) := by
    rw [← hW]
    have := heap_alloc_new (w.alloc (Obj.cells #[.int .i64 t, .string a, .string b, .string d] 36)) (Obj.cells #[.int .u64 0, .int .u64 0] 32)
    rwa [World.size_alloc] at this
  have f0 : W.frozen? ⟨w.heap.size + 1, 0, none⟩ = false := frozen_of_row _ _ _ _ _ hblk
  have f1 : W.frozen? ⟨w.heap.size + 1, 1, none⟩ = false := frozen_of_row _ _ _ _ _ hblk
  clear hblk
  have hlt : w.heap.size + 1 < W.heap.size := by rw [← hW]; simp
  have CA := lid (fun w => PutText_any a w s1)
  have CB := lid (fun w => PutText_any b w s2)
  have CD := lid (fun w => PutText_any d w s3)
  have HV : Hid (bstr (recL (t, a, b, d)) = bstr (putI t) ++ bstr (putX a.data.toList) ++ bstr (putX b.data.toList) ++ bstr (putX d.data.toList)) := lid (by rw [bstr_append, bstr_append, bstr_append]; rfl)
  have l0 : (bstr (putI t)).size ≤ 6 := by rw [bstr_size]; exact putI_len t
  have l1 : (bstr (putX a.data.toList)).size ≤ 65542 := by rw [bstr_size]; exact putX_len _
  have l2 : (bstr (putX b.data.toList)).size ≤ 65542 := by rw [bstr_size]; exact putX_len _
  have l3 : (bstr (putX d.data.toList)).size ≤ 65542 := by rw [bstr_size]; exact putX_len _
  have CT := lid (fun w => PutInt_any t w)
  have i0 : ∀ w, (Instr.index 85 (.agg #[.string a, .string b, .string d]) (.int .i64 0)).run Try.prog w = .ok (.string a) w := fun _ => by kernel_rfl
  have i1 : ∀ w, (Instr.index 85 (.agg #[.string a, .string b, .string d]) (.int .i64 1)).run Try.prog w = .ok (.string b) w := fun _ => by kernel_rfl
  have i2 : ∀ w, (Instr.index 85 (.agg #[.string a, .string b, .string d]) (.int .i64 2)).run Try.prog w = .ok (.string d) w := fun _ => by kernel_rfl
  generalize bstr (recL (t, a, b, d)) = V at *
  generalize bstr (putI t) = T at *
  generalize bstr (putX a.data.toList) = A at *
  generalize bstr (putX b.data.toList) = B at *
  generalize bstr (putX d.data.toList) = D' at *
  have hV := HV.out
  subst hV
  have HO := lid CO
  have C1 := lid c1
  have C2 := lid c2
  have C3 := lid c3
  have E0 := lid e0
  have E1 := lid e1
  have F0 := lid f0
  have F1 := lid f1
  rw [hW] at hb0
  have HW := lid hW
  clear s1 s2 s3 c1 c2 c3 e0 e1 f0 f1 hD HV CO hW
  go_enter Try.func35, Try.ntmps35
  go_wp2_with fail
  rw [HW.out]
  clear HW
  (with_reducible refine (CT.out _).mono ?_); rintro e w1 ⟨rfl, hb1⟩
  have c1 := (bc hb1 (by omega) 1).trans C1.out
  have c2 := (bc hb1 (by omega) 2).trans C2.out
  have c3 := (bc hb1 (by omega) 3).trans C3.out
  go_wp2_with fail
  clear c1 c2 c3
  refine wp_loop_rounds 4 ?_
  rw [rounds_succ]
  go_wp2_with fail
  (with_reducible refine (CA.out _).mono ?_); rintro e w2 ⟨rfl, hb2⟩
  have hs2 := hb1.trans (hb2.mono hb1.size)
  go_wp2_with fail
  rw [rounds_succ]
  go_wp2_with fail
  (with_reducible refine (CB.out _).mono ?_); rintro e w3 ⟨rfl, hb3⟩
  have hs3 := hs2.trans (hb3.mono hs2.size)
  go_wp2_with fail
  rw [rounds_succ]
  go_wp2_with fail
  (with_reducible refine (CD.out _).mono ?_); rintro e w4 ⟨rfl, hb4⟩
  have hs4 := hs3.trans (hb4.mono hs3.size)
  go_wp2_with fail
  rw [rounds_succ]
  go_wp2_with fail
  (with_reducible refine (HO.out _).mono ?_); rintro e w5 ⟨rfl, hb5⟩
  have hs5 := hs4.trans (hb5.mono hs4.size)
  have e0 := (bc hs5 hlt 0).trans E0.out
  have e1 := (bc hs5 hlt 1).trans E1.out
  have f0 := (bf hs5 hlt 0).trans F0.out
  have f1 := (bf hs5 hlt 1).trans F1.out
  go_wp2_with fail
  refine bodyPost_ret (v := dv D) (by simp [results, Try.results35, go_sem, e0, e1]) rfl ⟨rfl, ?_⟩
  exact (((hb0.trans (hs5.mono hb0.size)).setCell (p := ⟨w.heap.size + 1, 0, none⟩) (by show w.heap.size ≤ w.heap.size + 1; omega) _).setCell (p := ⟨w.heap.size + 1, 1, none⟩) (by show w.heap.size ≤ w.heap.size + 1; omega) _)
end Go.Proofs.Ytbghpjedldhnhaa
