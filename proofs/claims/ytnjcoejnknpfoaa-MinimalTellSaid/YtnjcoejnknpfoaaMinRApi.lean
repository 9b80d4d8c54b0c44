/-
  follow, Check, Next, Result of the reference.
-/
import Derived.Test.YtnjcoejnknpfoaaMinROut
namespace Go.Proofs.Ytnjcoejnknpfoaa
open Go.RowKit Go.Shelf
theorem res_state2 {fn : Func} (hf : fn.results = #[.cell 2 60]) (t : Array Value) (w : World) (q : Nat) (u : Int) (a1 : Option Addr) (n1 c1 : Nat) (dn : Bool) (h4 : t.getD 2 undef = .pointer (some ⟨q, 0, none⟩))
    (e : w.heap[q]? = some (.cells #[.slice a1 n1 c1, .bool dn, .int .i64 u] 60 (0, 0))) : (results fn t).run Try.prog w = .ok (.agg #[.slice a1 n1 c1, .bool dn, .int .i64 u]) w := by
  have e0 := row_cell e 0
  have e1 := row_cell e 1
  have e2 := row_cell e 2
  rw [Array.getD_eq_getD_getElem?] at h4
  unfold results
  rw [hf]
  simp [go_sem, h4, e0, e1, e2, asAddr]
set_option maxRecDepth 100000 in
set_option maxHeartbeats 4000000 in
theorem refFollow_any (n : Nat) (hn10 : n ≤ 10) (l : List Kw) (k cap : Nat) (ao : Option Addr) (w : World) (hk : k ≤ 100) (h : KA w ao k cap l) (hl : ∀ r ∈ l, r.vs.length ≤ 20) :
    Calls Try.prog 33 #[.agg #[.int .i64 n, .slice ao k cap]] w (rStP (l.map Kw.kn) n w) := by
  have HALL := lid (fun (h5 : n ≤ 5) (w1 : World) (hb : Below w.heap.size w w1) => refAll_any n h5 l k cap ao w1 hk (h.below hb) hl)
  have HOUT := lid (fun (h5 : 5 < n) (w1 : World) (hb : Below w.heap.size w w1) => refOut_any n h5 hn10 l k cap ao w1 hk (h.below hb) hl)
  clear h hl
  by_cases h5 : n ≤ 5
  · have d5 : decide ((n : Int) ≤ 5) = true := by simp; omega
    have H5 := lid h5
    clear h5 HOUT
    go_enter Try.func33, Try.ntmps33
    go_wp2_with fail
    obtain ⟨W1, hW1⟩ : ∃ y, (w.alloc (.cells #[.int .i64 n, .slice ao k cap] 24)).alloc (.cells #[.slice none 0 0, .bool false, .int .i64 0] 60) = y := ⟨_, rfl⟩
    have g1 : Below w.heap.size w W1 := by rw [← hW1]; exact (ba _ _).alloc (by simp) _
    have rR : W1.heap[w.heap.size + 1]? = some (.cells #[.slice none 0 0, .bool false, .int .i64 0] 60 (0, 0)) := by rw [← hW1]; exact h_new (by simp) _
    rw [hW1]
    clear hW1
    (with_reducible refine (HALL.out H5.out W1 g1).mono ?_); rintro e w2 ⟨st, a1, n1, c1, hL, rfl, hI, hb, hf⟩
    have hz1 : w.heap.size + 2 ≤ W1.heap.size := row_lt rR
    have HR := lid ((hb.block _ (row_lt rR)).trans rR)
    have HB := lid (g1.trans (hb.mono g1.size))
    have HI := lid hI
    have HF := lid hf
    have HLL := lid hL
    have lR := row_lt HR.out
    clear hL hI hb hf rR g1
    have y0 := row_cell HR.out 0
    have z0 := row_fz HR.out 0
    have y1 := row_cell HR.out 1
    have z1 := row_fz HR.out 1
    have y2 := row_cell HR.out 2
    have z2 := row_fz HR.out 2
    go_wp2_with fail
    exact bodyPost_ret (res_state2 rfl _ _ (w.heap.size + 1) _ _ _ _ _ rfl (set3_row HR.out _ _ _)) rfl ⟨st, a1, n1, c1, HLL.out, rfl, set3_ia HI.out (fun b o e => by have := HF.out b o e; omega), set3_below HB.out (by omega), fun b o e => by have := HF.out b o e; omega⟩
  · have d5 : decide ((n : Int) ≤ 5) = false := by simp; omega
    have H5 : Hid (5 < n) := lid (by omega)
    clear h5 HALL
    go_enter Try.func33, Try.ntmps33
    go_wp2_with fail
    obtain ⟨W1, hW1⟩ : ∃ y, (w.alloc (.cells #[.int .i64 n, .slice ao k cap] 24)).alloc (.cells #[.slice none 0 0, .bool false, .int .i64 0] 60) = y := ⟨_, rfl⟩
    have g1 : Below w.heap.size w W1 := by rw [← hW1]; exact (ba _ _).alloc (by simp) _
    have rR : W1.heap[w.heap.size + 1]? = some (.cells #[.slice none 0 0, .bool false, .int .i64 0] 60 (0, 0)) := by rw [← hW1]; exact h_new (by simp) _
    rw [hW1]
    clear hW1
    (with_reducible refine (HOUT.out H5.out W1 g1).mono ?_); rintro e w2 ⟨st, a1, n1, c1, hL, rfl, hI, hb, hf⟩
    have hz1 : w.heap.size + 2 ≤ W1.heap.size := row_lt rR
    have HR := lid ((hb.block _ (row_lt rR)).trans rR)
    have HB := lid (g1.trans (hb.mono g1.size))
    have HI := lid hI
    have HF := lid hf
    have HLL := lid hL
    have lR := row_lt HR.out
    clear hL hI hb hf rR g1
    have y0 := row_cell HR.out 0
    have z0 := row_fz HR.out 0
    have y1 := row_cell HR.out 1
    have z1 := row_fz HR.out 1
    have y2 := row_cell HR.out 2
    have z2 := row_fz HR.out 2
    go_wp2_with fail
    exact bodyPost_ret (res_state2 rfl _ _ (w.heap.size + 1) _ _ _ _ _ rfl (set3_row HR.out _ _ _)) rfl ⟨st, a1, n1, c1, HLL.out, rfl, set3_ia HI.out (fun b o e => by have := HF.out b o e; omega), set3_below HB.out (by omega), fun b o e => by have := HF.out b o e; omega⟩
theorem fld_st0 (e : Int) (b : Bool) (a1 : Option Addr) (n1 c1 : Nat) (w : World) : (Instr.field 60 (.agg #[.slice a1 n1 c1, .bool b, .int .i64 e]) 0).run Try.prog w = .ok (.slice a1 n1 c1) w := by kernel_rfl
theorem fld_st1 (e : Int) (b : Bool) (a1 : Option Addr) (n1 c1 : Nat) (w : World) : (Instr.field 60 (.agg #[.slice a1 n1 c1, .bool b, .int .i64 e]) 1).run Try.prog w = .ok (.bool b) w := by kernel_rfl
theorem fld_st2 (e : Int) (b : Bool) (a1 : Option Addr) (n1 c1 : Nat) (w : World) : (Instr.field 60 (.agg #[.slice a1 n1 c1, .bool b, .int .i64 e]) 2).run Try.prog w = .ok (.int .i64 e) w := by kernel_rfl
/-- As the program's Check. -/
theorem Exm.mk {kn : List Kn} {n : Nat} {st : St} (h : Leads kn n st) (hn : n ≤ 10) : Exm kn n (if st.used ≠ kn.length then ⟨11, false, []⟩ else ⟨0, st.done, st.set⟩) := .inr ⟨n, st, rfl, hn, h, rfl⟩
set_option maxRecDepth 100000 in
set_option maxHeartbeats 4000000 in
theorem refCheck_any (N : Int) (hN : GoodN N) (l : List Kw) (k cap : Nat) (ao : Option Addr) (w : World) (hk : k ≤ 100) (h : KA w ao k cap l) (hl : ∀ r ∈ l, r.vs.length ≤ 20) :
    Calls Try.prog 21 #[.agg #[.int .i64 N, .slice ao k cap]] w fun e w' => ∃ r, Exm (l.map Kw.kn) N r ∧ e = .returned (.int .i64 r.err) ∧ Below w.heap.size w w' := by
  rcases hN with hN | ⟨h0, h10⟩
  · have HE := lid (show Exm (l.map Kw.kn) N ⟨2, false, []⟩ from .inl ⟨hN, rfl⟩)
    clear h hl
    by_cases h0 : N < 0
    · have d0 : decide (N < 0) = true := decide_eq_true h0
      clear hN h0
      go_enter Try.func21, Try.ntmps21
      go_wp2_with fail
      go_ret
      exact ⟨_, HE.out, rfl, ba _ _⟩
    · have d0 : decide (N < 0) = false := decide_eq_false h0
      have d1 : decide (64 < N) = true := decide_eq_true (by omega)
      clear hN h0
      go_enter Try.func21, Try.ntmps21
      go_wp2_with fail
      go_ret
      exact ⟨_, HE.out, rfl, ba _ _⟩
  · obtain ⟨n, rfl⟩ : ∃ n : Nat, N = n := ⟨N.toNat, by omega⟩
    have hlen : (l.map Kw.kn).length = k := by rw [List.length_map]; exact h.len
    have CF := lid (fun (w1 : World) (hb : Below w.heap.size w w1) => refFollow_any n (by omega) l k cap ao w1 hk (h.below hb) hl)
    have HN10 : Hid (n ≤ 10) := lid (by omega)
    have HLEN := lid hlen
    have d0 : decide ((n : Int) < 0) = false := by simp
    have d1 : decide (64 < (n : Int)) = false := by simp; omega
    clear h hl h0 h10 hlen
    go_enter Try.func21, Try.ntmps21
    go_wp2_with fail
    refine wp_region_seq (fun w' => ∃ s : Since (w.alloc (.cells #[.int .i64 n, .slice ao k cap] 24)).heap.size (w.alloc (.cells #[.int .i64 n, .slice ao k cap] 24)), w' = s.world) [(0, true), (3, true), (4, true), (5, true), (1, false), (2, true), (6, true)] (by kernel_rfl) (by kernel_rfl) (by intro c d v a w h; first | (cases d <;> exact h) | cases h.1) (since (Below.refl _ _).drew) ?_
    repeat (first | (refine seq_skip (by rfl) (by rfl) ?_; simp only [Act.put, List.setIfInBounds_toArray, List.set_cons_succ, List.set_cons_zero]) | (refine seq_float (by rfl) (by rfl) (by rfl) ?_; intro K hK; go_big_quiet_op; go_big_quiet_on))
    have hf2 := fld_st2
    refine seq_chain (by rfl) ?_
    intro K hK
    go_wp2_with fail
    (with_reducible refine (CF.out _ ((ba _ _).drew)).mono ?_); rintro e w2 ⟨st, a1, n1, c1, hL, rfl, hI, hb, hf⟩
    have HE := lid (Exm.mk hL HN10.out)
    have HB := lid ((ba w (.cells #[.int .i64 n, .slice ao k cap] 24)).trans (((Below.refl _ _).drew.trans hb).mono (by simp)))
    clear hL hI hf
    by_cases hu : st.used = k
    · have du : ((st.used : Int) != (k : Int)) = false := by simp; omega
      have HR : Hid ((if st.used ≠ (l.map Kw.kn).length then (⟨11, false, []⟩ : Ex) else ⟨0, st.done, st.set⟩).err = 0) := lid (by rw [HLEN.out, if_neg (by simpa using hu)])
      clear hu
      go_wp2_with fail
      refine hK.out _ _ (since ((Below.refl _ _).drew.trans hb)) ?_
      clear hK K
      repeat (first | (refine seq_skip (by rfl) (by rfl) ?_; simp only [Act.put, List.setIfInBounds_toArray, List.set_cons_succ, List.set_cons_zero]) | (refine seq_float (by rfl) (by rfl) (by rfl) ?_; intro K hK; go_big_quiet_op; go_big_quiet_on))
      refine seq_nil ?_
      clear hb
      go_wp2_with fail
      go_ret
      exact ⟨_, HE.out, by rw [HR.out]; rfl, HB.out⟩
    · have du : ((st.used : Int) != (k : Int)) = true := by simp; omega
      have HR : Hid ((if st.used ≠ (l.map Kw.kn).length then (⟨11, false, []⟩ : Ex) else ⟨0, st.done, st.set⟩).err = 11) := lid (by rw [HLEN.out, if_pos hu])
      clear hu
      go_wp2_with fail
      refine hK.out _ _ (since ((Below.refl _ _).drew.trans hb)) ?_
      clear hK K
      repeat (first | (refine seq_skip (by rfl) (by rfl) ?_; simp only [Act.put, List.setIfInBounds_toArray, List.set_cons_succ, List.set_cons_zero]) | (refine seq_float (by rfl) (by rfl) (by rfl) ?_; intro K hK; go_big_quiet_op; go_big_quiet_on))
      refine seq_nil ?_
      clear hb
      go_wp2_with fail
      go_ret
      exact ⟨_, HE.out, by rw [HR.out]; rfl, HB.out⟩
set_option maxRecDepth 100000 in
set_option maxHeartbeats 4000000 in
theorem refNext_any (N : Int) (hN : GoodN N) (l : List Kw) (k cap : Nat) (ao : Option Addr) (w : World) (hk : k ≤ 100) (h : KA w ao k cap l) (hl : ∀ r ∈ l, r.vs.length ≤ 20) :
    Calls Try.prog 16 #[.agg #[.int .i64 N, .slice ao k cap]] w (NxP (l.map Kw.kn) N Ex.open w) := by
  have CE := lid (fun w1 (hb : Below w.heap.size w w1) => refCheck_any N hN l k cap ao w1 hk (h.below hb) hl)
  have hf0 := fld_st0
  have hf1 := fld_st1
  have CF := lid (fun (n : Nat) (hn : n ≤ 10) (w1 : World) (hb : Below w.heap.size w w1) => refFollow_any n hn l k cap ao w1 hk (h.below hb) hl)
  clear h hl
  go_enter Try.func16, Try.ntmps16
  go_wp2_with fail
  obtain ⟨W1, hW1⟩ : ∃ y, w.alloc (.cells #[.int .i64 N, .slice ao k cap] 24) = y := ⟨_, rfl⟩
  have g1 : Below w.heap.size w W1 := by rw [← hW1]; exact ba _ _
  have rS : W1.heap[w.heap.size]? = some (.cells #[.int .i64 N, .slice ao k cap] 24 (0, 0)) := by rw [← hW1]; exact h_new rfl _
  rw [hW1]
  clear hW1
  (with_reducible refine (CE.out W1 g1).mono ?_); rintro e w2 ⟨r, hE, rfl, hb⟩
  have HE := lid hE
  have HB := lid (g1.trans (hb.mono g1.size))
  have HS := lid ((hb.block _ (row_lt rS)).trans rS)
  clear hE hb rS g1
  have lS := row_lt HS.out
  have s0 := row_cell HS.out 0
  have s1 := row_cell HS.out 1
  by_cases h0 : r.err = 0
  · have HRO : Hid (∃ (n : Nat), N = n ∧ n ≤ 10) := lid (by
      rcases HE.out with ⟨_, e⟩ | ⟨n, st, e, h10, _, _⟩
      · rw [e] at h0; cases h0
      · exact ⟨n, e, h10⟩)
    obtain ⟨n, rfl, hn10⟩ := HRO.out
    clear HRO
    rw [h0]
    go_wp2_with fail
    (with_reducible refine (CF.out n hn10 w2 HB.out).mono ?_); rintro e w3 ⟨st, a1, n1, c1, hL, rfl, hI, hb, hf⟩
    have HS3 := lid ((hb.block _ lS).trans HS.out)
    have HB3 := lid (HB.out.trans (hb.mono HB.out.size))
    have HRE : Hid (r = if st.used ≠ (l.map Kw.kn).length then ⟨11, false, []⟩ else ⟨0, st.done, st.set⟩) := lid (HE.out.det (Exm.mk hL hn10))
    have HRD : Hid (r = ⟨0, st.done, st.set⟩) := lid (by
      have := HRE.out
      split at this
      · rw [this] at h0; cases h0
      · exact this)
    have HL := lid hL
    clear hL hI hb hf s0 s1 lS h0 HRE
    have lS := row_lt HS3.out
    have s0 := row_cell HS3.out 0
    have s1 := row_cell HS3.out 1
    cases hd : st.done with
    | true =>
      rw [hd] at HRD
      have HP : Hid (Ex.open r = false) := lid (by rw [HRD.out]; rfl)
      clear hd
      go_wp2_with fail
      go_ret2
      exact ⟨r, none, 0, 0, HE.out, by rw [HP.out]; rfl, by rw [HP.out]; exact ia_nil _, HB3.out, fun b o e => by cases e⟩
    | false =>
      have HDD := lid hd
      rw [hd] at HRD
      have HP : Hid (Ex.open r = true) := lid (by rw [HRD.out]; rfl)
      clear hd
      go_wp2_with fail
      (with_reducible refine (CF.out n hn10 w3 HB3.out).mono ?_); rintro e w4 ⟨st4, a4, n4, c4, hL4, rfl, hI4, hb4, hf4⟩
      have HSE : Hid (st4.set = r.set) := lid (by rw [hL4.det HL.out, HRD.out])
      have HI4 := lid hI4
      have HB4 := lid (HB3.out.trans (hb4.mono HB3.out.size))
      have HF4 : Hid (∀ b o, a4 = some ⟨b, o, none⟩ → w.heap.size ≤ b) := lid (fun b o e => by have := hf4 b o e; have := HB3.out.size; omega)
      clear hL4 hI4 hb4 hf4
      go_wp2_with fail
      go_ret2
      exact ⟨r, a4, n4, c4, HE.out, by rw [HP.out]; rfl, by rw [HP.out, if_pos rfl, ← HSE.out]; exact HI4.out, HB4.out, HF4.out⟩
  · have HP : Hid (Ex.open r = false) := lid (by unfold Ex.open; simp [h0])
    have dne : (r.err != 0) = true := by simpa using h0
    clear h0
    go_wp2_with fail
    go_ret2
    exact ⟨r, none, 0, 0, HE.out, by rw [HP.out]; rfl, by rw [HP.out]; exact ia_nil _, HB.out, fun b o e => by cases e⟩
set_option maxRecDepth 100000 in
set_option maxHeartbeats 4000000 in
theorem refResult_any (N : Int) (hN : GoodN N) (l : List Kw) (k cap : Nat) (ao : Option Addr) (w : World) (hk : k ≤ 100) (h : KA w ao k cap l) (hl : ∀ r ∈ l, r.vs.length ≤ 20) :
    Calls Try.prog 18 #[.agg #[.int .i64 N, .slice ao k cap]] w (NxP (l.map Kw.kn) N Ex.fin w) := by
  have CE := lid (fun w1 (hb : Below w.heap.size w w1) => refCheck_any N hN l k cap ao w1 hk (h.below hb) hl)
  have hf0 := fld_st0
  have hf1 := fld_st1
  have CF := lid (fun (n : Nat) (hn : n ≤ 10) (w1 : World) (hb : Below w.heap.size w w1) => refFollow_any n hn l k cap ao w1 hk (h.below hb) hl)
  clear h hl
  go_enter Try.func18, Try.ntmps18
  go_wp2_with fail
  obtain ⟨W1, hW1⟩ : ∃ y, w.alloc (.cells #[.int .i64 N, .slice ao k cap] 24) = y := ⟨_, rfl⟩
  have g1 : Below w.heap.size w W1 := by rw [← hW1]; exact ba _ _
  have rS : W1.heap[w.heap.size]? = some (.cells #[.int .i64 N, .slice ao k cap] 24 (0, 0)) := by rw [← hW1]; exact h_new rfl _
  rw [hW1]
  clear hW1
  (with_reducible refine (CE.out W1 g1).mono ?_); rintro e w2 ⟨r, hE, rfl, hb⟩
  have HE := lid hE
  have HB := lid (g1.trans (hb.mono g1.size))
  have HS := lid ((hb.block _ (row_lt rS)).trans rS)
  clear hE hb rS g1
  have lS := row_lt HS.out
  have s0 := row_cell HS.out 0
  have s1 := row_cell HS.out 1
  by_cases h0 : r.err = 0
  · have HRO : Hid (∃ (n : Nat), N = n ∧ n ≤ 10) := lid (by
      rcases HE.out with ⟨_, e⟩ | ⟨n, st, e, h10, _, _⟩
      · rw [e] at h0; cases h0
      · exact ⟨n, e, h10⟩)
    obtain ⟨n, rfl, hn10⟩ := HRO.out
    clear HRO
    rw [h0]
    go_wp2_with fail
    (with_reducible refine (CF.out n hn10 w2 HB.out).mono ?_); rintro e w3 ⟨st, a1, n1, c1, hL, rfl, hI, hb, hf⟩
    have HS3 := lid ((hb.block _ lS).trans HS.out)
    have HB3 := lid (HB.out.trans (hb.mono HB.out.size))
    have HRE : Hid (r = if st.used ≠ (l.map Kw.kn).length then ⟨11, false, []⟩ else ⟨0, st.done, st.set⟩) := lid (HE.out.det (Exm.mk hL hn10))
    have HRD : Hid (r = ⟨0, st.done, st.set⟩) := lid (by
      have := HRE.out
      split at this
      · rw [this] at h0; cases h0
      · exact this)
    have HL := lid hL
    clear hL hI hb hf s0 s1 lS h0 HRE
    have lS := row_lt HS3.out
    have s0 := row_cell HS3.out 0
    have s1 := row_cell HS3.out 1
    cases hd : st.done with
    | false =>
      rw [hd] at HRD
      have HP : Hid (Ex.fin r = false) := lid (by rw [HRD.out]; rfl)
      clear hd
      go_wp2_with fail
      go_ret2
      exact ⟨r, none, 0, 0, HE.out, by rw [HP.out]; rfl, by rw [HP.out]; exact ia_nil _, HB3.out, fun b o e => by cases e⟩
    | true =>
      have HDD := lid hd
      rw [hd] at HRD
      have HP : Hid (Ex.fin r = true) := lid (by rw [HRD.out]; rfl)
      clear hd
      go_wp2_with fail
      (with_reducible refine (CF.out n hn10 w3 HB3.out).mono ?_); rintro e w4 ⟨st4, a4, n4, c4, hL4, rfl, hI4, hb4, hf4⟩
      have HSE : Hid (st4.set = r.set) := lid (by rw [hL4.det HL.out, HRD.out])
      have HI4 := lid hI4
      have HB4 := lid (HB3.out.trans (hb4.mono HB3.out.size))
      have HF4 : Hid (∀ b o, a4 = some ⟨b, o, none⟩ → w.heap.size ≤ b) := lid (fun b o e => by have := hf4 b o e; have := HB3.out.size; omega)
      clear hL4 hI4 hb4 hf4
      go_wp2_with fail
      go_ret2
      exact ⟨r, a4, n4, c4, HE.out, by rw [HP.out]; rfl, by rw [HP.out, if_pos rfl, ← HSE.out]; exact HI4.out, HB4.out, HF4.out⟩
  · have HP : Hid (Ex.fin r = false) := lid (by unfold Ex.fin; simp [h0])
    have dne : (r.err != 0) = true := by simpa using h0
    clear h0
    go_wp2_with fail
    go_ret2
    exact ⟨r, none, 0, 0, HE.out, by rw [HP.out]; rfl, by rw [HP.out]; exact ia_nil _, HB.out, fun b o e => by cases e⟩
end Go.Proofs.Ytnjcoejnknpfoaa
