/-
  LedgerGrowth: its walk ends in true.
-/
import Derived.Test.YtnfekadnjblciaaLedAwake
import Derived.Test.YtnfekadnjblciaaLedOwn
import Derived.Test.YtnfekadnjblciaaLedExtends
namespace Go.Proofs.Ytnfekadnjblciaa
open Go.RowKit

theorem roots_grow (fst : List Dg → Dg) (hf : ∀ e, fst [e] = e) (m : Nat) : ∀ (ds : List Dg) (n : Nat) (whole : Bool) (old : Dg), ds.length ≤ m → 1 ≤ n → n ≤ ds.length → (whole = true → old = rootD (ds.take n)) →
    rootsD fst n ds.length whole old (growD ds n whole) = (rootD (ds.take n), rootD ds, true) := by
  induction m with
  | zero => intro ds n whole old h h1 h2; omega
  | succ m ih =>
    intro ds n whole old h h1 h2 ho
    by_cases hn : n = ds.length
    · subst hn
      cases whole with
      | true =>
        rw [growD_all _ _ rfl, if_pos rfl, rootsD_whole, ho rfl, List.take_length]
        simp
      | false =>
        rw [growD_all _ _ rfl, if_neg (by simp), List.take_length]
        have := rootsD_same fst ds.length old [] (rootD ds)
        rw [List.nil_append] at this
        rw [this, hf]
        simp
    · have hk2 : 2 ≤ ds.length := by omega
      have hk0 := halfN_pos ds.length
      have hk1 := halfN_lt hk2
      have hk3 := halfN_ge hk2
      by_cases hk : n ≤ halfN ds.length
      · rw [growD_lo hn hk2 hk, rootsD_lo fst hn hk]
        have hl : (ds.take (halfN ds.length)).length = halfN ds.length := by simp; omega
        have ht : (ds.take (halfN ds.length)).take n = ds.take n := by rw [List.take_take, Nat.min_eq_left hk]
        have := ih (ds.take (halfN ds.length)) n whole old (by omega) h1 (by omega) (by rw [ht]; exact ho)
        rw [hl, ht] at this
        rw [this, rootD_more hk2]
      · rw [growD_hi hn hk2 hk, rootsD_hi fst hn hk]
        have hl : (ds.drop (halfN ds.length)).length = ds.length - halfN ds.length := by simp
        have := ih (ds.drop (halfN ds.length)) (n - halfN ds.length) false old (by omega) (by omega) (by omega) (by intro h; cases h)
        rw [hl] at this
        have hln : (ds.take n).length = n := by simp; omega
        have hh : halfN ds.length = halfN n := halfN_eq rfl (by omega) (by omega)
        have h2n : 2 ≤ (ds.take n).length := by omega
        have hr : rootD (ds.take n) = pairD (rootD (ds.take (halfN ds.length))) (rootD ((ds.drop (halfN ds.length)).take (n - halfN ds.length))) := by
          rw [rootD_more h2n, hln, ← hh, List.take_take, Nat.min_eq_left (by omega), List.drop_take]
        rw [this, hr]
        have hr2 := rootD_more hk2
        rw [hr2]

theorem chkGo_take (l : List Rec) : ∀ (p : Option Int) (n : Nat), chkGo p l = 0 → chkGo p (l.take n) = 0 := by
  induction l with
  | nil => intro p n h; simpa using h
  | cons a l ih =>
    intro p n h
    cases n with
    | zero => cases p <;> simp [chkGo]
    | succ n =>
      rw [List.take_succ_cons]
      cases p with
      | none =>
        simp only [chkGo] at h ⊢
        split at h
        · rename_i hb
          rw [if_pos hb]
          exact ih _ _ h
        · cases h
      | some p =>
        simp only [chkGo] at h ⊢
        split at h
        · rename_i hb
          rw [if_pos hb]
          split at h
          · cases h
          · rename_i ht
            rw [if_neg ht]
            exact ih _ _ h
        · cases h
theorem check_take {l : List Rec} (h : checkL l = 0) (n : Nat) : checkL (l.take n) = 0 := by
  have hl := check_len h
  unfold checkL at h ⊢
  rw [if_pos hl] at h
  rw [if_pos (by simp; omega)]
  exact chkGo_take _ _ _ h
theorem own_extends {l : List Rec} (h : checkL l = 0) (n : Nat) (hn : n ≤ l.length) : (extE l n).2 = 0 ∧ extendsB fstL (headD (l.take n)) n (headD l) l.length (extE l n).1 = true := by
  have hl := check_len h
  have hh : headD (l.take n) = rootD ((l.map recD).take n) := by unfold headD; rw [if_pos (check_take h n), List.map_take]
  have hw : headD l = rootD (l.map recD) := by unfold headD; rw [if_pos h]
  rw [hh, hw]
  by_cases h0 : n = 0
  · subst h0
    have e : extE l ((0 : Nat) : Int) = ([], 0) := extE_zero h
    rw [e]
    have x := extendsB_zero fstL (rootD ((l.map recD).take 0)) (rootD (l.map recD)) [] (m := (l.length : Int)) (by omega)
    refine ⟨rfl, ?_⟩
    show extendsB _ _ 0 _ _ [] = true
    rw [x]
    simp
  · rw [extE_in h (by omega) hn]
    refine ⟨rfl, ?_⟩
    by_cases h5 : n = l.length
    · have x := extendsB_same fstL (rootD ((l.map recD).take n)) (rootD (l.map recD)) (growD (l.map recD) n true) (n := (n : Int)) (by omega) (by omega)
      have e : (l.map recD).take n = l.map recD := List.take_of_length_le (by simp; omega)
      have g : growD (l.map recD) n true = [] := by rw [growD_all _ _ (by simpa using h5), if_pos rfl]
      rw [h5] at x e g ⊢
      show extendsB fstL _ _ _ _ (growD (l.map recD) l.length true) = true
      rw [x, e, g]
      simp
    · have x := extendsB_in fstL (rootD ((l.map recD).take n)) (rootD (l.map recD)) (growD (l.map recD) n true) (n := (n : Int)) (m := (l.length : Int)) (by omega) (by omega) (by omega)
      have y := roots_grow fstL (fun _ => rfl) l.length (l.map recD) n true (rootD ((l.map recD).take n)) (by simp) (by omega) (by simpa using hn) (fun _ => rfl)
      rw [List.length_map] at y
      show extendsB fstL _ _ _ _ (growD (l.map recD) n true) = true
      rw [x, Int.toNat_natCast, Int.toNat_natCast, y]
      simp
theorem extend_len {l : List Rec} (h : checkL l = 0) (i : Int) : (extE l i).1.length ≤ 10001 := by
  have hl := check_len h
  unfold extE
  rw [if_pos h]
  split
  · split
    · simp
    · have := growD_length (l.map recD) i.toNat true
      rw [List.length_map] at this
      show (growD _ _ _).length ≤ _
      omega
  · simp
theorem LedA.take {w : World} {ao : Option Addr} {n cap : Nat} {l : List Rec} (h : LedA w ao n cap l) {k : Nat} (hk : k ≤ n) : LedA w ao k cap (l.take k) :=
  ⟨by rw [List.length_take, h.len]; omega, by rw [← rcells_take]; exact h.sl.take hk, fun r hr => h.sizes r (List.mem_of_mem_take hr), Nat.le_trans hk h.max⟩

set_option maxRecDepth 100000 in
set_option maxHeartbeats 8000000 in
theorem LawGrowth_any (l : List Rec) (n cap : Nat) (ao : Option Addr) (w : World) (hcap : n ≤ cap) (h : LedA w ao n cap l) :
    Calls Try.prog 8 #[.agg #[.slice ao n cap]] w fun e w' => e = .returned (.bool true) ∧ Below w.heap.size w w' := by
  have hb0 := ba w (Obj.cells #[.slice ao n cap] 24)
  have hlt0 : w.heap.size < (w.alloc (Obj.cells #[.slice ao n cap] 24)).heap.size := by simp
  have q0 := cell_new_at (w := w) rfl #[.slice ao n cap] 24 0
  have q0' : (w.alloc (Obj.cells #[.slice ao n cap] 24)).cell? ⟨w.heap.size, 0, none⟩ = some (.slice ao n cap) := q0
  have HA := lid (h.below hb0)
  have Q0 := lid q0'
  have HN := lid h.len
  have hnm : n ≤ 9223372036854775807 := h.max
  clear h q0 q0'
  go_enter Try.func8, Try.ntmps8
  have q1 := Q0.out
  go_wp2_with fail
  (with_reducible refine (Great_any l n cap ao _ HA.out.len HA.out.sl HA.out.max HA.out.sizes).mono ?_); rintro e w1 ⟨rfl, hb1⟩
  have hw1 := hb0.trans (hb1.mono hb0.size)
  have q2 := (bc hb1 hlt0 0).trans Q0.out
  have HA1 := lid (HA.out.below hb1)
  have hlt1 : w.heap.size < w1.heap.size := by have := hb1.size; omega
  cases hG : greatB l with
  | true =>
    clear hG q1
    go_wp2_with fail
    (with_reducible refine (awake_any _).mono ?_); rintro e w2 ⟨rfl, hb2⟩
    go_wp2_with fail
    go_ret
    exact ⟨rfl, hw1.trans (hb2.mono hw1.size)⟩
  | false =>
    clear hG q1
    go_wp2_with fail
    (with_reducible refine (Check_any l n cap ao _ HA1.out.len HA1.out.sl HA1.out.sizes HA1.out.max).mono ?_); rintro e w2 ⟨rfl, hb2⟩
    have hw2 := hw1.trans (hb2.mono hw1.size)
    have q3 := (bc hb2 hlt1 0).trans q2
    have hlt2 : w.heap.size < w2.heap.size := by have := hb2.size; omega
    have HA2 := lid (HA1.out.below hb2)
    by_cases hc : checkL l = 0
    · have h10 : n ≤ 10000 := by have := check_len hc; rw [HN.out] at this; exact this
      have HC := lid hc
      rw [hc]
      clear hc q2
      have Q3 := lid q3
      go_wp2_with fail
      clear q3
      go_loopw [4, 5, 6, 20] (fun _ _ _ i wr => ∃ (k : Nat), k ≤ n + 1 ∧ i = .int .i64 k ∧ Below w2.heap.size w2 wr) (fun _ _ _ i _ => n + 1 - (intOf i).toNat)
      case atStart => exact ⟨0, Nat.zero_le _, rfl, Below.refl _ _⟩
      case round =>
        obtain ⟨k, hk, rfl, hb⟩ := hrel
        by_cases hlt : k < n + 1
        · have HAr := lid (HA2.out.below hb)
          have hkn : k ≤ n := by omega
          have hOwn := own_extends HC.out k (by rw [HN.out]; exact hkn)
          have hOl := extend_len HC.out k
          have hq := (bc hb hlt2 0).trans Q3.out
          have hltr : w.heap.size < wr.heap.size := by have := hb.size; omega
          rw [HN.out] at hOwn
          have HO := lid hOwn
          have HL := lid hOl
          clear hOwn hOl
          go_wp2_with fail
          have C1 := Extend_any l k n cap _ wr HAr.out
          have HO1 := lid HO.out.1
          have HO2 := lid HO.out.2
          clear HO
          generalize extE l k = P at *
          (with_reducible refine (C1).mono ?_); rintro e w4 ⟨a4, n4, c4, rfl, g1, g2, g3, hb4⟩
          have hP2 : P.2 = 0 := by rw [HO1.out]
          rw [hP2]
          have hq4 := (bc hb4 hltr 0).trans hq
          have hl4 : w.heap.size < w4.heap.size := by have := hb4.size; omega
          have HA4 := lid (HAr.out.below hb4)
          have hwr4 := hb.trans (hb4.mono hb.size)
          have g10 : n4 ≤ 1000000 := by have := HL.out; omega
          have G1 := lid g1
          have G3 := lid g3
          clear hP2 hq g1 g3
          go_wp2_with fail
          refine wp_region_seq (fun w' => ∃ s : Since w4.heap.size w4, w' = s.world) [(0, true), (1, true), (2, true), (3, true), (4, true), (5, true), (6, true), (7, true), (9, true), (10, true), (12, true), (13, true), (8, false), (11, false), (14, false), (15, true), (16, true)] (by kernel_rfl) (by kernel_rfl) (by intro c d v a w h; cases d <;> exact h) (since (Below.refl _ _).drew) ?_
          repeat (first | (refine seq_skip (by rfl) (by rfl) ?_; simp only [Act.put, List.setIfInBounds_toArray, List.set_cons_succ, List.set_cons_zero]) | (refine seq_float (by rfl) (by rfl) (by rfl) ?_; intro K hK; go_big_quiet_op; go_big_quiet_on))
          refine seq_chain (by rfl) ?_
          intro K hK
          go_wp2_with fail
          (with_reducible refine (Head_any (l.take k) k cap _ _ ((HA4.out.below (Below.refl _ _).drew).take hkn)).mono ?_); rintro e w5 ⟨rfl, hb5⟩
          have h5 : Below w4.heap.size w4 w5 := (Below.refl _ _).drew.trans hb5
          go_wp2_with fail
          refine hK.out _ _ (since h5) ?_
          clear hK K
          repeat (first | (refine seq_skip (by rfl) (by rfl) ?_; simp only [Act.put, List.setIfInBounds_toArray, List.set_cons_succ, List.set_cons_zero]) | (refine seq_float (by rfl) (by rfl) (by rfl) ?_; intro K hK; go_big_quiet_op; go_big_quiet_on))
          refine seq_chain (by rfl) ?_
          intro K hK
          go_wp2_with fail
          (with_reducible refine (Head_any l n cap _ _ (HA4.out.below h5)).mono ?_); rintro e w6 ⟨rfl, hb6⟩
          have h6 := h5.trans (hb6.mono h5.size)
          go_wp2_with fail
          refine hK.out _ _ (since h6) ?_
          clear hK K
          repeat (first | (refine seq_skip (by rfl) (by rfl) ?_; simp only [Act.put, List.setIfInBounds_toArray, List.set_cons_succ, List.set_cons_zero]) | (refine seq_float (by rfl) (by rfl) (by rfl) ?_; intro K hK; go_big_quiet_op; go_big_quiet_on))
          refine seq_chain (by rfl) ?_
          intro K hK
          go_wp2_with fail
          have C5 := fun w' (h : Below w4.heap.size w4 w') => Extends_any (headD (l.take k)) (headD l) k n P.1 a4 n4 c4 w' G1.out g2 g10 (G3.out.below h)
          rw [HO2.out] at C5
          (with_reducible refine (C5 _ h6).mono ?_); rintro e w7 ⟨rfl, hb7⟩
          have h7 := h6.trans (hb7.mono h6.size)
          go_wp2_with fail
          refine hK.out _ _ (since h7) ?_
          clear hK K
          repeat (first | (refine seq_skip (by rfl) (by rfl) ?_; simp only [Act.put, List.setIfInBounds_toArray, List.set_cons_succ, List.set_cons_zero]) | (refine seq_float (by rfl) (by rfl) (by rfl) ?_; intro K hK; go_big_quiet_op; go_big_quiet_on))
          refine seq_nil ?_
          go_wp2_with fail
          go_roundw
          case rel => exact ⟨k + 1, by omega, by go_num, hwr4.trans (h7.mono hwr4.size)⟩
          case measure => simp [intOf]; omega
        · obtain rfl : k = n + 1 := by omega
          go_wp2_with fail
          (with_reducible refine (awake_any _).mono ?_); rintro e w5 ⟨rfl, hb5⟩
          have hwr := hw2.trans (hb.mono hw2.size)
          go_wp2_with fail
          go_ret
          exact ⟨rfl, hwr.trans (hb5.mono hwr.size)⟩
    · have hc' : (checkL l != 0) = true := by simpa using hc
      generalize checkL l = C at *
      clear q2 hc
      go_wp2_with fail
      (with_reducible refine (awake_any _).mono ?_); rintro e w3 ⟨rfl, hb3⟩
      go_wp2_with fail
      go_ret
      exact ⟨rfl, hw2.trans (hb3.mono hw2.size)⟩
end Go.Proofs.Ytnfekadnjblciaa
