/-
  Same of the reference.
-/
import Derived.Test.YtnjcoejnknpfoaaMinKn
import Derived.Test.YtnjcoejnknpfoaaMinExam
namespace Go.Proofs.Ytnjcoejnknpfoaa
open Go.RowKit Go.Shelf
theorem kn_at {l : List Kw} {j : Nat} (h : j < l.length) : (l.map Kw.kn)[j]'(by simpa using h) = (l[j].vs, l[j].bad) := by simp [Kw.kn]
theorem take_snoc_eq {α : Type} {a b : List α} {j : Nat} (ha : j < a.length) (hb : j < b.length) (h : a.take j = b.take j) (e : a[j] = b[j]) : a.take (j + 1) = b.take (j + 1) := take_eq_succ ha hb h e
set_option maxRecDepth 100000 in
set_option maxHeartbeats 8000000 in
theorem Same_any (N M : Int) (l m : List Kw) (k cap k2 cap2 : Nat) (ao a2 : Option Addr) (w : World) (hk : k ≤ 1000) (hk2 : k2 ≤ 1000) (h : KA w ao k cap l) (h2 : KA w a2 k2 cap2 m) (hl : ∀ r ∈ l, r.vs.length ≤ 20) (hm : ∀ r ∈ m, r.vs.length ≤ 20) :
    Calls Try.prog 19 #[.agg #[.int .i64 N, .slice ao k cap], .agg #[.int .i64 M, .slice a2 k2 cap2]] w fun e w' => e = .returned (.bool (decide (N = M) && decide (l.map Kw.kn = m.map Kw.kn))) ∧ Below w.heap.size w w' := by
  have HK := lid h
  have HK2 := lid h2
  have HL := lid hl
  have HM := lid hm
  have HN := lid h.len
  have HN2 := lid h2.len
  clear h h2 hl hm
  by_cases hN : N = M
  · subst hN
    have dN : (N == N) = true := by simp
    have dN1 : (N != N) = false := by simp
    by_cases hkk : k = k2
    · subst hkk
      have dk : ((k : Int) == (k : Int)) = true := by simp
      have dk1 : ((k : Int) != (k : Int)) = false := by simp
      go_enter Try.func19, Try.ntmps19
      go_wp2_with fail
      obtain ⟨W1, hW1⟩ : ∃ y, (w.alloc (.cells #[.int .i64 N, .slice ao k cap] 24)).alloc (.cells #[.int .i64 N, .slice a2 k cap2] 24) = y := ⟨_, rfl⟩
      have g1 : Below w.heap.size w W1 := by rw [← hW1]; exact (ba _ _).alloc (by simp) _
      have rA : Hid (W1.heap[w.heap.size]? = some (.cells #[.int .i64 N, .slice ao k cap] 24 (0, 0))) := lid (by rw [← hW1]; exact (h_old (by simp) _).trans (h_new rfl _))
      have rB : Hid (W1.heap[w.heap.size + 1]? = some (.cells #[.int .i64 N, .slice a2 k cap2] 24 (0, 0))) := lid (by rw [← hW1]; exact h_new (by simp) _)
      rw [hW1]
      clear hW1
      go_loopw [5] (fun i wr => ∃ j : Nat, j ≤ k ∧ i = .int .i64 j ∧ Hid ((l.map Kw.kn).take j = (m.map Kw.kn).take j) ∧ Hid (Below W1.heap.size W1 wr) ∧ Hid (Below w.heap.size w wr)) (fun i _ => k - (intOf i).toNat)
      case atStart => exact ⟨0, Nat.zero_le _, rfl, lid rfl, lid (Below.refl _ _), lid g1⟩
      case round =>
        obtain ⟨j, hj, rfl, HT, HW, HB⟩ := hrel
        have hb := HB.out
        have rA2 := (HW.out.block _ (row_lt rA.out)).trans rA.out
        have rB2 := (HW.out.block _ (row_lt rB.out)).trans rB.out
        have lA := row_lt rA2
        have lB := row_lt rB2
        have p1 := row_cell rA2 1
        have q1 := row_cell rB2 1
        clear rA2 rB2
        by_cases hlt : j < k
        · have dj : decide ((j : Int) < (k : Int)) = true := by simp; omega
          have hjl : j < l.length := by rw [HN.out]; exact hlt
          have hjm : j < m.length := by rw [HN2.out]; exact hlt
          obtain ⟨b1, o1, rfl, hlw, hcell⟩ := HK.out.sl.at_ hlt
          obtain ⟨b2, o2, rfl, hlw2, hcell2⟩ := HK2.out.sl.at_ hlt
          have hlb := Nat.lt_of_lt_of_le hlw hb.size
          have hlb2 := Nat.lt_of_lt_of_le hlw2 hb.size
          have x0 := (bc hb hlw _).trans (hcell (j * 2 + 0) _ (kcells_at hjl).1)
          have x1 := (bc hb hlw _).trans (hcell (j * 2 + 1) _ (kcells_at hjl).2)
          have z0 := (bc hb hlw2 _).trans (hcell2 (j * 2 + 0) _ (kcells_at hjm).1)
          have z1 := (bc hb hlw2 _).trans (hcell2 (j * 2 + 1) _ (kcells_at hjm).2)
          rw [← Nat.add_assoc] at x1 z1
          rw [Nat.add_zero] at x0 z0
          have HOK := lid ((HK.out.below hb).ok _ (List.getElem_mem hjl))
          have HOK2 := lid ((HK2.out.below hb).ok _ (List.getElem_mem hjm))
          have HLE := lid (HL.out _ (List.getElem_mem hjl))
          have HLE2 := lid (HM.out _ (List.getElem_mem hjm))
          have HEQ : Hid ((l[j]).vs = (m[j]).vs → (l[j]).bad = (m[j]).bad → (l.map Kw.kn).take (j + 1) = (m.map Kw.kn).take (j + 1)) := lid (fun e1 e2 => take_snoc_eq (by simpa using hjl) (by simpa using hjm) HT.out (by rw [kn_at hjl, kn_at hjm, e1, e2]))
          have HNE : Hid (¬ ((l[j]).vs = (m[j]).vs ∧ (l[j]).bad = (m[j]).bad) → ¬ l.map Kw.kn = m.map Kw.kn) := lid (fun hne => ne_at (by simpa using hjl) (by simpa using hjm) (by
            rw [kn_at hjl, kn_at hjm]
            intro e
            exact hne (by simpa using e)))
          obtain ⟨r, hr⟩ : ∃ r, l[j] = r := ⟨_, rfl⟩
          obtain ⟨r2, hr2⟩ : ∃ r, m[j] = r := ⟨_, rfl⟩
          rw [hr] at x0 x1 HOK HLE
          rw [hr2] at z0 z1 HOK2 HLE2
          rw [hr, hr2] at HEQ HNE
          obtain ⟨rk, hrk⟩ : ∃ y, r.vs.length = y := ⟨_, rfl⟩
          obtain ⟨rk2, hrk2⟩ : ∃ y, r2.vs.length = y := ⟨_, rfl⟩
          rw [hrk] at HOK HLE
          rw [hrk2] at HOK2 HLE2
          replace x0 : wr.cell? ⟨b1, o1 + j * 2, none⟩ = some (.slice r.ao rk r.cap) := by rw [x0, ← hrk]
          replace z0 : wr.cell? ⟨b2, o2 + j * 2, none⟩ = some (.slice r2.ao rk2 r2.cap) := by rw [z0, ← hrk2]
          have CE := lid (fun (w5 : World) (hb5 : Below wr.heap.size wr w5) => SameSet_any r.vs r2.vs rk r.cap rk2 r2.cap r.ao r2.ao w5 (by have := HLE.out; omega) (by have := HLE2.out; omega) (HOK.out.below hb5) (HOK2.out.below hb5))
          clear hcell hcell2 hr hr2 hrk hrk2 hb
          by_cases hbb : r.bad = r2.bad
          · have db : (r.bad != r2.bad) = false := by simp [hbb]
            have db1 : (r.bad == r2.bad) = true := by simp [hbb]
            have HBB := lid hbb
            clear hbb
            go_wp2_with fail
            refine wp_region_seq (fun w' => ∃ s : Since wr.heap.size wr, w' = s.world) [(0, true), (1, true), (2, true), (3, true), (4, true), (5, true), (6, true), (7, true), (8, true), (9, true), (10, true), (11, true), (12, true), (13, true), (14, true), (15, true), (16, true), (17, true), (18, true), (19, true), (20, true), (21, true), (22, true), (23, true), (24, true), (25, true), (26, false), (27, true), (28, true)] (by kernel_rfl) (by kernel_rfl) (by intro c d v a w h; first | (cases d <;> exact h) | cases h.1) (since (Below.refl _ _).drew) ?_
            repeat (first | (refine seq_skip (by rfl) (by rfl) ?_; simp only [Act.put, List.setIfInBounds_toArray, List.set_cons_succ, List.set_cons_zero]) | (refine seq_float (by rfl) (by rfl) (by rfl) ?_; intro K hK; go_big_quiet_op; go_big_quiet_on))
            refine seq_chain (by rfl) ?_
            intro K hK
            go_wp2_with fail
            (with_reducible refine (CE.out _ (Below.refl _ _).drew).mono ?_); rintro e w3 ⟨rfl, hb3⟩
            have g3 : Below wr.heap.size wr w3 := (Below.refl _ _).drew.trans hb3
            have HW3 := lid (HW.out.trans (g3.mono HW.out.size))
            have HB3 := lid (HB.out.trans (g3.mono HB.out.size))
            by_cases hvv : r.vs = r2.vs
            · rw [decide_eq_true hvv]
              have HE2 := lid (HEQ.out hvv HBB.out)
              clear hvv
              go_wp2_with fail
              refine hK.out _ _ (since g3) ?_
              clear hK K
              repeat (first | (refine seq_skip (by rfl) (by rfl) ?_; simp only [Act.put, List.setIfInBounds_toArray, List.set_cons_succ, List.set_cons_zero]) | (refine seq_float (by rfl) (by rfl) (by rfl) ?_; intro K hK; go_big_quiet_op; go_big_quiet_on))
              refine seq_nil ?_
              go_wp2_with fail
              go_roundw
              case rel => exact ⟨j + 1, by omega, by go_num, HE2, HW3, HB3⟩
              case measure => simp [intOf]; omega
            · rw [decide_eq_false hvv]
              have HE2 := lid (HNE.out (fun e => hvv e.1))
              clear hvv
              go_wp2_with fail
              refine hK.out _ _ (since g3) ?_
              clear hK K
              repeat (first | (refine seq_skip (by rfl) (by rfl) ?_; simp only [Act.put, List.setIfInBounds_toArray, List.set_cons_succ, List.set_cons_zero]) | (refine seq_float (by rfl) (by rfl) (by rfl) ?_; intro K hK; go_big_quiet_op; go_big_quiet_on))
              refine seq_nil ?_
              go_wp2_with fail
              go_ret
              exact ⟨ret_bool (by rw [decide_eq_false HE2.out]; simp), HB3.out⟩
          · have db : (r.bad != r2.bad) = true := by simp [hbb]
            have db1 : (r.bad == r2.bad) = false := by simp [hbb]
            have HE2 := lid (HNE.out (fun e => hbb e.2))
            clear hbb
            go_wp2_with fail
            refine wp_region_seq (fun w' => ∃ s : Since wr.heap.size wr, w' = s.world) [(0, true), (1, true), (2, true), (3, true), (4, true), (5, true), (6, true), (7, true), (8, true), (9, true), (10, true), (11, true), (12, true), (13, true), (14, true), (15, true), (16, true), (17, true), (18, true), (19, true), (20, true), (21, true), (22, true), (23, true), (24, true), (25, true), (26, false), (27, true), (28, true)] (by kernel_rfl) (by kernel_rfl) (by intro c d v a w h; first | (cases d <;> exact h) | cases h.1) (since (Below.refl _ _).drew) ?_
            repeat (first | (refine seq_skip (by rfl) (by rfl) ?_; simp only [Act.put, List.setIfInBounds_toArray, List.set_cons_succ, List.set_cons_zero]) | (refine seq_float (by rfl) (by rfl) (by rfl) ?_; intro K hK; go_big_quiet_op; go_big_quiet_on))
            refine seq_chain (by rfl) ?_
            intro K hK
            go_wp2_with fail
            refine hK.out _ _ (since (Below.refl _ _).drew) ?_
            clear hK K
            repeat (first | (refine seq_skip (by rfl) (by rfl) ?_; simp only [Act.put, List.setIfInBounds_toArray, List.set_cons_succ, List.set_cons_zero]) | (refine seq_float (by rfl) (by rfl) (by rfl) ?_; intro K hK; go_big_quiet_op; go_big_quiet_on))
            refine seq_nil ?_
            go_wp2_with fail
            go_ret
            exact ⟨ret_bool (by rw [decide_eq_false HE2.out]; simp), HB.out.drew⟩
        · obtain rfl : j = k := by omega
          have dj : decide ((j : Int) < (j : Int)) = false := by simp
          have HE : Hid (l.map Kw.kn = m.map Kw.kn) := lid (by
            have := HT.out
            rwa [List.take_of_length_le (by rw [List.length_map, HN.out]; exact Nat.le_refl _), List.take_of_length_le (by rw [List.length_map, HN2.out]; exact Nat.le_refl _)] at this)
          go_wp2_with fail
          go_ret
          exact ⟨ret_bool (by rw [decide_eq_true HE.out]; simp), HB.out⟩
    · have dk : ((k : Int) == (k2 : Int)) = false := by simp; omega
      have dk1 : ((k : Int) != (k2 : Int)) = true := by simp; omega
      have HE : Hid (¬ l.map Kw.kn = m.map Kw.kn) := lid (fun e => by
        have := congrArg List.length e
        rw [List.length_map, List.length_map, HN.out, HN2.out] at this
        exact hkk this)
      clear hkk
      go_enter Try.func19, Try.ntmps19
      go_wp2_with fail
      go_ret
      exact ⟨ret_bool (by rw [decide_eq_false HE.out]; simp), (ba _ _).alloc (by simp) _⟩
  · have dN : (N == M) = false := by simpa using hN
    have dN1 : (N != M) = true := by simpa using hN
    have HE := lid hN
    clear hN
    go_enter Try.func19, Try.ntmps19
    go_wp2_with fail
    go_ret
    exact ⟨ret_bool (by rw [decide_eq_false HE.out]; simp), (ba _ _).alloc (by simp) _⟩
end Go.Proofs.Ytnjcoejnknpfoaa
