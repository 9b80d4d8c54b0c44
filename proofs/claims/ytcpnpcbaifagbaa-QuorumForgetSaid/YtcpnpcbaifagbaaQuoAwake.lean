/-
  Ballots: the chapter's example holds.
-/
import Derived.Test.YtcpnpcbaifagbaaQuoAwk
import Derived.Test.YtcpnpcbaifagbaaQuoVote
namespace Go.Proofs.Ytcpnpcbaifagbaa
open Go.RowKit
theorem bal_one {l : List Rw} {k : Dg} {L : List Vt} (h : l.map Rw.bal = [(k, L)]) : l.length = 1 ∧ (∀ r ∈ l, r.vs = L) ∧ SrtR l := by
  match l, h with
  | [r], h =>
    simp only [List.map_cons, List.map_nil, List.cons.injEq, and_true] at h
    refine ⟨rfl, fun r' hr => ?_, fun i j hi hj hij => ?_⟩
    · rw [List.mem_singleton.1 hr]
      exact congrArg Prod.snd h
    · simp at hi hj
      omega
set_option maxRecDepth 100000 in
set_option maxHeartbeats 16000000 in
theorem awake_any (w : World) : Calls Try.prog 11 #[] w fun e w' => e = .returned (.bool true) ∧ Below w.heap.size w w' := by
  go_enter Try.func11, Try.ntmps11
  go_wp2_with fail
  obtain ⟨W0, hW0⟩ : ∃ y, w.alloc (.cells #[.int .u64 1, .int .u64 2] 25) = y := ⟨_, rfl⟩
  rw [hW0]
  have KB : Hid (W0.heap[w.heap.size]? = some (.cells #[.int .u64 1, .int .u64 2] 25 (0, 0))) := lid (by rw [← hW0]; exact heap_alloc_new _ _)
  have hb0 : Below w.heap.size w W0 := by rw [← hW0]; exact ba _ _
  clear hW0
  have C1 : Hid (Calls Try.prog 12 #[.slice none 0 0, .agg #[.int .u64 1, .int .u64 2], .string ⟨#[99, 105, 100]⟩, .string ⟨#[120]⟩] W0 fun e w' => ∃ (l' : List Rw) (ao' : Option Addr) (n' cap' : Nat), e = .returned (.tuple #[.slice ao' n' cap', .int .i64 0]) ∧ BA w' ao' n' cap' l' ∧ l'.map Rw.bal = bb1 ∧ Below W0.heap.size W0 w') := lid (by
    have h := Vote_any [] 0 0 none K12 sCid sX W0 (by omega) BA.nil (fun r hr => by cases hr) (by decide) (by decide)
    rw [List.map_nil, aw1, aw2] at h
    exact h)
  go_wp2_with fail
  (with_reducible refine (C1.out).mono ?_); rintro e w1 ⟨l1, ao1, n1, c1, rfl, hB1, hE1, hb1⟩
  clear C1
  replace KB := lid ((hb1.block _ (row_lt KB.out)).trans KB.out)
  replace hb0 := hb0.trans (hb1.mono hb0.size)
  have HB1 := lid hB1
  have HE1 := lid hE1
  clear hb1 hB1 hE1
  have hn1 : n1 = 1 := by rw [← HB1.out.len]; exact (bal_one HE1.out).1
  have C2 : Hid (Calls Try.prog 12 #[.slice ao1 n1 c1, .agg #[.int .u64 1, .int .u64 2], .string ⟨#[98, 111, 98]⟩, .string ⟨#[121]⟩] w1 fun e w' => ∃ (l' : List Rw) (ao' : Option Addr) (n' cap' : Nat), e = .returned (.tuple #[.slice ao' n' cap', .int .i64 0]) ∧ BA w' ao' n' cap' l' ∧ l'.map Rw.bal = bb2 ∧ Below w1.heap.size w1 w') := lid (by
    have h := Vote_any l1 n1 c1 ao1 K12 sBob sY w1 (by omega) HB1.out (fun r hr => by rw [(bal_one HE1.out).2.1 r hr]; decide) (by decide) (by decide)
    rw [HE1.out, aw3, aw4] at h
    exact h)
  clear hn1
  have p0 := row_cell KB.out 0
  have p1 := row_cell KB.out 1
  go_wp2_with fail
  (with_reducible refine (C2.out).mono ?_); rintro e w2 ⟨l2, ao2, n2, c2, rfl, hB2, hE2, hb2⟩
  clear C2 p0 p1
  replace KB := lid ((hb2.block _ (row_lt KB.out)).trans KB.out)
  replace hb0 := hb0.trans (hb2.mono hb0.size)
  have HB2 := lid hB2
  have HE2 := lid hE2
  clear hb2 hB2 hE2
  have hn2 : n2 = 1 := by rw [← HB2.out.len]; exact (bal_one HE2.out).1
  have C3 : Hid (Calls Try.prog 12 #[.slice ao2 n2 c2, .agg #[.int .u64 1, .int .u64 2], .string ⟨#[97, 110, 110]⟩, .string ⟨#[120]⟩] w2 fun e w' => ∃ (l' : List Rw) (ao' : Option Addr) (n' cap' : Nat), e = .returned (.tuple #[.slice ao' n' cap', .int .i64 0]) ∧ BA w' ao' n' cap' l' ∧ l'.map Rw.bal = bb3 ∧ Below w2.heap.size w2 w') := lid (by
    have h := Vote_any l2 n2 c2 ao2 K12 sAnn sX w2 (by omega) HB2.out (fun r hr => by rw [(bal_one HE2.out).2.1 r hr]; decide) (by decide) (by decide)
    rw [HE2.out, aw5, aw6] at h
    exact h)
  clear hn2
  have p0 := row_cell KB.out 0
  have p1 := row_cell KB.out 1
  go_wp2_with fail
  (with_reducible refine (C3.out).mono ?_); rintro e w3 ⟨l3, ao3, n3, c3, rfl, hB3, hE3, hb3⟩
  clear C3 p0 p1
  replace KB := lid ((hb3.block _ (row_lt KB.out)).trans KB.out)
  replace hb0 := hb0.trans (hb3.mono hb0.size)
  have HB3 := lid hB3
  have HE3 := lid hE3
  clear hb3 hB3 hE3
  have HN3 : Hid (n3 = 1) := lid (by rw [← HB3.out.len]; exact (bal_one HE3.out).1)
  have HV3 : Hid (∀ r ∈ l3, r.vs.length ≤ 1000000) := lid (fun r hr => by rw [(bal_one HE3.out).2.1 r hr]; decide)
  have HS3 := lid (bal_one HE3.out).2.2
  have D1 : Hid (∀ w', Below w3.heap.size w3 w' → Calls Try.prog 22 #[.slice ao3 n3 c3, .agg #[.int .u64 1, .int .u64 2], .int .i64 2] w' fun e w'' => e = .returned (.tuple #[.string ⟨#[120]⟩, .bool true]) ∧ Below w'.heap.size w' w'') := lid (fun w' hw' => by
    have h := Decide_any l3 n3 c3 ao3 K12 2 w' (by rw [HN3.out]; omega) (HB3.out.below hw') HV3.out HS3.out
    rw [HE3.out, aw7] at h
    exact h)
  have D2 : Hid (∀ w', Below w3.heap.size w3 w' → Calls Try.prog 22 #[.slice ao3 n3 c3, .agg #[.int .u64 1, .int .u64 2], .int .i64 3] w' fun e w'' => e = .returned (.tuple #[.string ⟨#[]⟩, .bool false]) ∧ Below w'.heap.size w' w'') := lid (fun w' hw' => by
    have h := Decide_any l3 n3 c3 ao3 K12 3 w' (by rw [HN3.out]; omega) (HB3.out.below hw') HV3.out HS3.out
    rw [HE3.out, aw8] at h
    exact h)
  have D3 : Hid (∀ w', Below w3.heap.size w3 w' → Calls Try.prog 23 #[.slice ao3 n3 c3, .agg #[.int .u64 1, .int .u64 2], .int .i64 3] w' fun e w'' => e = .returned (.int .i64 1) ∧ Below w'.heap.size w' w'') := lid (fun w' hw' => by
    have h := Missing_any l3 n3 c3 ao3 K12 3 w' (by rw [HN3.out]; omega) (HB3.out.below hw') HV3.out HS3.out (by omega) (by omega)
    rw [HE3.out, aw9] at h
    exact h)
  have D4 : Hid (∀ w', Below w3.heap.size w3 w' → Calls Try.prog 21 #[.slice ao3 n3 c3, .agg #[.int .u64 1, .int .u64 2], .string ⟨#[120]⟩] w' fun e w'' => ∃ (S : List ByteArray) (ao' : Option Addr) (n' cap' : Nat), e = .returned (.slice ao' n' cap') ∧ S = [sBob] ∧ SA w'' ao' n' cap' S ∧ Below w'.heap.size w' w'') := lid (fun w' hw' => by
    have h := Against_any l3 n3 c3 ao3 K12 sX w' (by rw [HN3.out]; omega) (HB3.out.below hw') HV3.out HS3.out
    rw [HE3.out, aw10] at h
    exact h)
  clear HV3 HS3 HN3 HB3 HE3 HB1 HE1 HB2 HE2
  have p0 := row_cell KB.out 0
  have p1 := row_cell KB.out 1
  go_wp2_with fail
  (with_reducible refine (D1.out _ (Below.refl _ _)).mono ?_); rintro e w4 ⟨rfl, hb4⟩
  have q0 := (bc hb4 (row_lt KB.out) 0).trans p0
  have q1 := (bc hb4 (row_lt KB.out) 1).trans p1
  clear p0 p1
  go_wp2_with fail
  (with_reducible refine (D2.out _ hb4).mono ?_); rintro e w5 ⟨rfl, hb5⟩
  have h5 := hb4.trans (hb5.mono hb4.size)
  have p0 := (bc h5 (row_lt KB.out) 0).trans (row_cell KB.out 0)
  have p1 := (bc h5 (row_lt KB.out) 1).trans (row_cell KB.out 1)
  clear q0 q1 hb4 hb5
  go_wp2_with fail
  (with_reducible refine (D3.out _ h5).mono ?_); rintro e w6 ⟨rfl, hb6⟩
  have h6 := h5.trans (hb6.mono h5.size)
  have q0 := (bc h6 (row_lt KB.out) 0).trans (row_cell KB.out 0)
  have q1 := (bc h6 (row_lt KB.out) 1).trans (row_cell KB.out 1)
  clear p0 p1 h5 hb6
  go_wp2_with fail
  (with_reducible refine (D4.out _ h6).mono ?_); rintro e w7 ⟨S, ao7, n7, c7, rfl, hS, hSA, hb7⟩
  have h7 := h6.trans (hb7.mono h6.size)
  clear q0 q1 hb7 h6
  have hn7 : n7 = 1 := by rw [← hSA.len, hS]; rfl
  have HSA := lid hSA
  have HS := lid hS
  have HN7 := lid hn7
  clear hSA hS hn7
  go_wp2_with fail
  have HT : Hid (SA (w7.alloc (.cells #[.string ⟨#[98, 111, 98]⟩] 9)) (some ⟨w7.heap.size, 0, none⟩) 1 1 [sBob]) := lid ⟨rfl, ⟨rfl, .inr ⟨w7.heap.size, 0, rfl, by simp, fun j u hu => by
    have hl : w7.heap.size < (w7.alloc (.cells #[.string ⟨#[98, 111, 98]⟩] 9)).heap.size := by simp
    rw [Nat.zero_add, cell_new_at rfl]
    simpa [svals, sBob] using hu⟩⟩, Nat.le_refl _, by simp [maxLen], fun e => (by cases e), fun v hv => by rw [List.mem_singleton.1 hv]; decide⟩
  have CE := lid (Equal_any S [sBob] n7 c7 1 1 ao7 (some ⟨w7.heap.size, 0, none⟩) _ (by rw [HN7.out]; omega) (by omega) (HSA.out.below (ba _ _)) HT.out)
  rw [decide_eq_true HS.out] at CE
  (with_reducible refine (CE.out).mono ?_); rintro e w8 ⟨rfl, hb8⟩
  go_wp2_with fail
  go_ret
  exact ⟨rfl, (hb0.trans (h7.mono hb0.size)).trans (((ba _ _).trans (hb8.mono (by simp))).mono (by have := hb0.size; have := h7.size; omega))⟩
end Go.Proofs.Ytcpnpcbaifagbaa
