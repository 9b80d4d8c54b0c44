/-
  QuorumVote: the law's walk.
-/
import Derived.Test.YtcpnpcbaifagbaaQuoAwake
namespace Go.Proofs.Ytcpnpcbaifagbaa
open Go.RowKit
theorem great_no {l : List Rw} (h : greatB (l.map Rw.bal) = false) : l.length ≤ 8 ∧ ∀ r ∈ l, r.vs.length ≤ 10 ∧ ∀ v ∈ r.vs, v.1.size ≤ 40 ∧ v.2.size ≤ 60 := by
  unfold greatB at h
  rw [Bool.or_eq_false_iff] at h
  obtain ⟨h1, h2⟩ := h
  refine ⟨by have := of_decide_eq_false h2; simp at this; omega, fun r hr => ?_⟩
  have h3 := List.any_eq_false.1 h1 r.bal (List.mem_map.2 ⟨r, hr, rfl⟩)
  have h3 : bigB r.bal = false := by simpa using h3
  unfold bigB at h3
  rw [Bool.or_eq_false_iff] at h3
  refine ⟨by have := of_decide_eq_false h3.1; simp [Rw.bal] at this; omega, fun v hv => ?_⟩
  have h4 := List.any_eq_false.1 h3.2 v hv
  have h4 : bigV v = false := by simpa using h4
  unfold bigV at h4
  rw [Bool.or_eq_false_iff] at h4
  exact ⟨by have := of_decide_eq_false h4.1; omega, by have := of_decide_eq_false h4.2; omega⟩
theorem lessB_sub {l : List Bal} {k : Dg} : (lessB l k).length ≤ l.length ∧ ∀ b ∈ lessB l k, b ∈ l := by
  unfold lessB
  cases l with
  | nil => exact ⟨Nat.le_refl _, fun b h => h⟩
  | cons x r =>
    simp only
    split
    · exact ⟨by simp, fun b h => List.mem_cons_of_mem _ h⟩
    · exact ⟨Nat.le_refl _, fun b h => h⟩
theorem tw_dw {α : Type} (P : α → Bool) (l : List α) : (l.takeWhile P).length + (l.dropWhile P).length = l.length := by
  have := congrArg List.length (List.takeWhile_append_dropWhile (p := P) (l := l))
  rwa [List.length_append] at this
theorem insV_len (l : List Vt) (v : Vt) : (insV l v).length = l.length + 1 := by
  unfold insV
  rw [List.length_append, List.length_cons]
  have := tw_dw (fun x : Vt => ltB x.1 v.1) l
  omega
theorem aboutB_len {l : List Bal} {k : Dg} {M : Nat} (h : ∀ b ∈ l, b.2.length ≤ M) : (aboutB l k).length ≤ M := by
  unfold aboutB
  cases hf : l.find? fun b => decide (b.1 = k) with
  | none => simp
  | some b => exact h b (List.mem_of_find?_eq_some hf)
theorem voteL_bound {B : List Bal} {k : Dg} {wk o : ByteArray} {N M : Nat} (h1 : B.length ≤ N) (h2 : ∀ b ∈ B, b.2.length ≤ M) : (voteL B k wk o).length ≤ N + 1 ∧ ∀ b ∈ voteL B k wk o, b.2.length ≤ M + 1 := by
  unfold voteL
  split
  · unfold putB
    have hl := lessB_sub (l := B.dropWhile fun x => ltD x.1 k) (k := k)
    have ht := tw_dw (fun x : Bal => ltD x.1 k) B
    refine ⟨by rw [List.length_append, List.length_cons]; omega, fun b hb => ?_⟩
    rcases List.mem_append.1 hb with hb | hb
    · have := h2 b ((List.takeWhile_sublist _).mem hb); omega
    · rcases List.mem_cons.1 hb with rfl | hb
      · show (insV _ _).length ≤ _
        rw [insV_len]
        have := aboutB_len (k := k) h2
        omega
      · have := h2 b ((List.dropWhile_sublist _).mem (hl.2 b hb)); omega
  · exact ⟨by simp, fun b hb => by cases hb⟩
/-- Bounds of a result out of what it reads as. -/
theorem rows_bound {w : World} {ao : Option Addr} {n cap : Nat} {l : List Rw} {B : List Bal} {N M : Nat} (h : BA w ao n cap l) (e : l.map Rw.bal = B) (h1 : B.length ≤ N) (h2 : ∀ b ∈ B, b.2.length ≤ M) : n ≤ N ∧ ∀ r ∈ l, r.vs.length ≤ M := by
  subst e
  refine ⟨by rw [List.length_map, h.len] at h1; exact h1, fun r hr => h2 r.bal (List.mem_map.2 ⟨r, hr, rfl⟩)⟩

set_option maxRecDepth 100000 in
set_option maxHeartbeats 16000000 in
theorem LawVote_any (l : List Rw) (n cap : Nat) (ao : Option Addr) (k : Dg) (v : Vt) (w : World) (h : BA w ao n cap l) (hv : v.1.size ≤ maxLen ∧ v.2.size ≤ maxLen) :
    Calls Try.prog 3 #[.slice ao n cap, dv k, .agg (vtc v)] w fun e w' => e = .returned (.bool true) ∧ Below w.heap.size w w' := by
  have HB := lid h
  have HZ := lid hv
  have hs1 : v.1.size ≤ 9223372036854775807 := hv.1
  have hs2 : v.2.size ≤ 9223372036854775807 := hv.2
  have hn63 : n ≤ 9223372036854775807 := Nat.le_trans h.le h.max
  clear h hv
  unfold dv
  go_enter Try.func3, Try.ntmps3
  go_wp2_with fail
  obtain ⟨W0, hW0⟩ : ∃ y, (w.alloc (.cells #[.int .u64 k.1.toNat, .int .u64 k.2.toNat] 25)).alloc (.cells (vtc v) 27) = y := ⟨_, rfl⟩
  rw [hW0]
  have KB : Hid (W0.heap[w.heap.size]? = some (.cells #[.int .u64 k.1.toNat, .int .u64 k.2.toNat] 25 (0, 0))) := lid (by rw [← hW0, Below.heap_alloc _ _ _ (by simp)]; exact heap_alloc_new _ _)
  have VB : Hid (W0.heap[w.heap.size + 1]? = some (.cells (vtc v) 27 (0, 0))) := lid (by
    rw [← hW0]
    have := heap_alloc_new (w.alloc (.cells #[.int .u64 k.1.toNat, .int .u64 k.2.toNat] 25)) (.cells (vtc v) 27)
    simpa using this)
  have hb0 : Below w.heap.size w W0 := by rw [← hW0]; exact ba2 _ _ _
  clear hW0
  replace HB := lid (HB.out.below hb0)
  have CG := lid (refGreat_any l n cap ao W0 hn63 HB.out)
  cases hg : greatB (l.map Rw.bal) with
  | true =>
    rw [hg] at CG
    clear hg
    (with_reducible refine (CG.out).mono ?_); rintro e w1 ⟨rfl, rfl⟩
    go_wp2_with fail
    (with_reducible refine (awake_any _).mono ?_); rintro e w2 ⟨rfl, hb2⟩
    go_wp2_with fail
    go_ret
    exact ⟨rfl, hb0.trans (hb2.mono hb0.size)⟩
  | false =>
    have HG := lid (great_no hg)
    rw [hg] at CG
    clear hg
    (with_reducible refine (CG.out).mono ?_); rintro e w1 ⟨rfl, rfl⟩
    clear CG
    have q0 := row_cell VB.out 0
    have q1 := row_cell VB.out 1
    by_cases h40 : 40 < v.1.size
    case pos =>
      have d40 : decide ((40 : Int) < (v.1.size : Int)) = true := by simp; omega
      clear h40
      go_wp2_with fail
      (with_reducible refine (awake_any _).mono ?_); rintro e w2 ⟨rfl, hb2⟩
      go_wp2_with fail
      go_ret
      exact ⟨rfl, hb0.trans (hb2.mono hb0.size)⟩
    have d40 : decide ((40 : Int) < (v.1.size : Int)) = false := by simp; omega
    by_cases h60 : 60 < v.2.size
    case pos =>
      have d60 : decide ((60 : Int) < (v.2.size : Int)) = true := by simp; omega
      clear h40 h60
      go_wp2_with fail
      (with_reducible refine (awake_any _).mono ?_); rintro e w2 ⟨rfl, hb2⟩
      go_wp2_with fail
      go_ret
      exact ⟨rfl, hb0.trans (hb2.mono hb0.size)⟩
    have d60 : decide ((60 : Int) < (v.2.size : Int)) = false := by simp; omega
    clear h40 h60
    have hn8 : n ≤ 8 := by rw [← HB.out.len]; exact HG.out.1
    have HV10 : Hid (∀ r ∈ l, r.vs.length ≤ 10) := lid (fun r hr => (HG.out.2 r hr).1)
    have p0 := row_cell KB.out 0
    have p1 := row_cell KB.out 1
    have C1 := lid (Vote_any l n cap ao k v.1 v.2 W0 (by omega) HB.out (fun r hr => by have := HV10.out r hr; omega) HZ.out.1 HZ.out.2)
    have HVB : Hid ((voteL (l.map Rw.bal) k v.1 v.2).length ≤ 9 ∧ ∀ b ∈ voteL (l.map Rw.bal) k v.1 v.2, b.2.length ≤ 11) := lid (voteL_bound (N := 8) (M := 10) (by rw [List.length_map]; exact HG.out.1) (fun b hb => by
      obtain ⟨r, hr, rfl⟩ := List.mem_map.1 hb
      exact HV10.out r hr))
    have C2 := lid (fun w' (hw' : Below W0.heap.size W0 w') => refVote_any l n cap ao k v.1 v.2 w' (by omega) (HB.out.below hw') (fun r hr => by have := HV10.out r hr; omega) HZ.out.1 HZ.out.2)
    have C3 := lid (fun w' (hw' : Below W0.heap.size W0 w') => Check_any l n cap ao w' (by omega) (HB.out.below hw') (fun r hr => by have := HV10.out r hr; omega))
    have C4 := lid (fun w' (hw' : Below W0.heap.size W0 w') => refCheck_any l n cap ao w' (by omega) (HB.out.below hw') (fun r hr => by have := HV10.out r hr; omega))
    obtain ⟨E, hE⟩ : ∃ y, voteE (l.map Rw.bal) k v.1 v.2 = y := ⟨_, rfl⟩
    obtain ⟨VL, hVL⟩ : ∃ y, voteL (l.map Rw.bal) k v.1 v.2 = y := ⟨_, rfl⟩
    obtain ⟨CK, hCK⟩ : ∃ y, checkB (l.map Rw.bal) = y := ⟨_, rfl⟩
    rw [hE, hVL] at C1
    rw [hVL] at HVB
    rw [hCK] at C3 C4
    replace C2 := lid (by have := C2.out; simp only [hE, hVL] at this; exact this)
    clear hE hVL hCK
    go_wp2_with fail
    (with_reducible refine (C1.out).mono ?_); rintro e w2 ⟨l1, a1, n1, c1, rfl, hB1, hM1, hb2⟩
    have HB1 := lid hB1
    have HM1 := lid hM1
    have HN1 := lid (rows_bound hB1 hM1 HVB.out.1 HVB.out.2)
    clear C1 hB1 hM1
    have r0 := (bc hb2 (row_lt KB.out) 0).trans p0
    have r1 := (bc hb2 (row_lt KB.out) 1).trans p1
    have s0 := (bc hb2 (row_lt VB.out) 0).trans q0
    have s1 := (bc hb2 (row_lt VB.out) 1).trans q1
    clear p0 p1 q0 q1
    go_wp2_with fail
    (with_reducible refine (C2.out _ hb2).mono ?_); rintro e w3 ⟨l2, a2, n2, c2, rfl, hB2, hM2, hb3⟩
    have h3 := hb2.trans (hb3.mono hb2.size)
    have HB2 := lid hB2
    have HM2 := lid hM2
    have HN2 := lid (rows_bound hB2 hM2 HVB.out.1 HVB.out.2)
    replace HB1 := lid (HB1.out.below hb3)
    clear C2 hB2 hM2 r0 r1 s0 s1 hb2 hb3
    go_wp2_with fail
    (with_reducible refine (C3.out _ h3).mono ?_); rintro e w4 ⟨rfl, hb4⟩
    have h4 := h3.trans (hb4.mono h3.size)
    replace HB1 := lid (HB1.out.below hb4)
    replace HB2 := lid (HB2.out.below hb4)
    clear C3 h3 hb4
    go_wp2_with fail
    (with_reducible refine (C4.out _ h4).mono ?_); rintro e w5 ⟨rfl, hb5⟩
    have h5 := h4.trans (hb5.mono h4.size)
    replace HB1 := lid (HB1.out.below hb5)
    replace HB2 := lid (HB2.out.below hb5)
    clear C4 h4 hb5
    have C5 := lid (refSame_any l1 l2 n1 c1 n2 c2 a1 a2 w5 (by have := HN1.out.1; omega) (by have := HN2.out.1; omega) HB1.out HB2.out (fun r hr => by have := HN1.out.2 r hr; omega) (fun r hr => by have := HN2.out.2 r hr; omega))
    rw [HM1.out, HM2.out, decide_eq_true rfl] at C5
    go_wp2_with fail
    (with_reducible refine (C5.out).mono ?_); rintro e w6 ⟨rfl, hb6⟩
    have h6 := h5.trans (hb6.mono h5.size)
    go_wp2_with fail
    (with_reducible refine (awake_any _).mono ?_); rintro e w7 ⟨rfl, hb7⟩
    have h7 := h6.trans (hb7.mono h6.size)
    go_wp2_with fail
    go_ret
    exact ⟨rfl, hb0.trans (h7.mono hb0.size)⟩
end Go.Proofs.Ytcpnpcbaifagbaa
