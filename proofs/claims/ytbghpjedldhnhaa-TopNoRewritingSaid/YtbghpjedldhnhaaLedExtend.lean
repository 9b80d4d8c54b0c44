/-
  ledger.Extend and its reference.
-/
import Derived.Laws.EntriesVeiled
import Derived.Test.YtbghpjedldhnhaaLedGrow
import Derived.Test.YtbghpjedldhnhaaLedProve
namespace Go.Proofs.Ytbghpjedldhnhaa
open Go.RowKit

/-- The growth proof, or an error. -/
def extE (l : List Rec) (i : Int) : List Dg × Int := if checkL l = 0 then (if 0 ≤ i ∧ i ≤ l.length then (if i = 0 then ([], 0) else (growD (l.map recD) i.toNat true, 0)) else ([], 2)) else ([], checkL l)
theorem extE_bad {l : List Rec} (h : ¬ checkL l = 0) (i : Int) : extE l i = ([], checkL l) := by unfold extE; rw [if_neg h]
theorem extE_out {l : List Rec} (h : checkL l = 0) {i : Int} (hi : ¬ (0 ≤ i ∧ i ≤ l.length)) : extE l i = ([], 2) := by unfold extE; rw [if_pos h, if_neg hi]
theorem extE_zero {l : List Rec} (h : checkL l = 0) : extE l 0 = ([], 0) := by unfold extE; rw [if_pos h, if_pos (by omega), if_pos rfl]
theorem extE_in {l : List Rec} (h : checkL l = 0) {k : Nat} (h1 : 1 ≤ k) (h2 : k ≤ l.length) : extE l k = (growD (l.map recD) k true, 0) := by
  unfold extE
  rw [if_pos h, if_pos (by omega), if_neg (by omega)]
  rfl

set_option maxRecDepth 100000 in
set_option maxHeartbeats 8000000 in
theorem Extend_any (l : List Rec) (i : Int) (n cap : Nat) (ao : Option Addr) (w : World) (h : LedA w ao n cap l) :
    Calls Try.prog 15 #[.agg #[.slice ao n cap], .int .i64 i] w fun e w' => RetP (extE l i) w e w' := by
  have hb0 := ba w (Obj.cells #[.slice ao n cap] 26)
  have q0 := cell_new_at (w := w) rfl #[.slice ao n cap] 26 0
  have q0' : (w.alloc (Obj.cells #[.slice ao n cap] 26)).cell? ⟨w.heap.size, 0, none⟩ = some (.slice ao n cap) := q0
  have hlt : w.heap.size < (w.alloc (Obj.cells #[.slice ao n cap] 26)).heap.size := by simp
  have HA := lid (h.below hb0)
  have Q0 := lid q0'
  have hnm : n ≤ 9223372036854775807 := h.max
  clear h q0 q0'
  go_enter Try.func15, Try.ntmps15
  go_wp2_with fail
  (with_reducible refine (Check_any l n cap ao _ HA.out.len HA.out.sl HA.out.sizes HA.out.max).mono ?_); rintro e w2 ⟨rfl, hb2⟩
  have q2 := (bc hb2 hlt 0).trans Q0.out
  have HA2 := lid (HA.out.below hb2)
  have hw2 := hb0.trans (hb2.mono hb0.size)
  by_cases hc : checkL l = 0
  · have h10 : n ≤ 10000 := by have := check_len hc; rw [HA.out.len] at this; exact this
    have HCK := lid hc
    rw [hc]
    clear hc
    by_cases hi : 0 ≤ i ∧ i ≤ n
    · obtain ⟨k, rfl⟩ := Int.eq_ofNat_of_zero_le hi.1
      have hkn1 : k ≤ n := by omega
      clear hi
      have hd1 : decide ((k : Int) < 0) = false := by simp
      have hd2 : decide ((n : Int) < (k : Int)) = false := by simp; omega
      by_cases hk0 : k = 0
      · subst hk0
        have HV := lid (show extE l ((0 : Nat) : Int) = ([], 0) from extE_zero HCK.out)
        go_wp2_with fail
        go_ret2
        exact ⟨none, 0, 0, by rw [HV.out]; rfl, by rw [HV.out]; rfl, Nat.le_refl _, by rw [HV.out]; exact .inl rfl, hw2⟩
      · have hk1 : 1 ≤ k := by omega
        have HV := lid (extE_in HCK.out hk1 (by rw [HA.out.len]; exact hkn1))
        have hd0 : ((k : Int) == 0) = false := by simp; omega
        have HLL : Hid ((l.map recD).length = n) := lid (by rw [List.length_map, HA.out.len])
        clear hk0
        by_cases hkn : k = n
        · have HV2 : Hid (extE l k = ([], 0)) := lid (by rw [HV.out, growD_all _ _ (by rw [List.length_map, HA.out.len]; exact hkn)]; rfl)
          have hd3 : ((k : Int) == (n : Int)) = true := by simp; omega
          go_wp2_with fail
          go_ret2
          exact ⟨none, 0, 0, by rw [HV2.out]; rfl, by rw [HV2.out]; rfl, Nat.le_refl _, by rw [HV2.out]; exact .inl rfl, hw2⟩
        · have hd3 : ((k : Int) == (n : Int)) = false := by simp; omega
          clear hkn
          go_wp2_with fail
          obtain ⟨W3, hW3⟩ : ∃ W3, w2.alloc (Obj.cells #[Value.func (.func 30) #[] #[.pointer (some ⟨w2.heap.size, 0, none⟩)]] 68) = W3 := ⟨_, rfl⟩
          have hb3 : Below w2.heap.size w2 W3 := by rw [← hW3]; exact ba _ _
          have hcx : W3.cell? ⟨w2.heap.size, 0, none⟩ = some (Value.func (.func 30) #[] #[.pointer (some ⟨w2.heap.size, 0, none⟩)]) := by rw [← hW3]; simp
          have hlx : w2.heap.size < W3.heap.size := by rw [← hW3]; simp
          rw [hW3]
          clear hW3
          have q3 := (bc hb3 (by have := hb2.size; omega) 0).trans q2
          have hlq : w.heap.size < W3.heap.size := by have := hb3.size; have := hb2.size; omega
          have HA3 := lid (HA2.out.below hb3)
          have hw3 := hw2.trans (hb3.mono hw2.size)
          refine wp_region_seq (fun w' => ∃ s : Since W3.heap.size W3, w' = s.world) [(0, true), (1, true), (2, true), (3, false), (4, false), (5, false), (6, false), (7, false)] (by kernel_rfl) (by kernel_rfl) (by intro c d v a w h; cases d <;> exact h) (since (Below.refl _ _).drew) ?_
          repeat (first | (refine seq_skip (by rfl) (by rfl) ?_; simp only [Act.put, List.setIfInBounds_toArray, List.set_cons_succ, List.set_cons_zero]) | (refine seq_float (by rfl) (by rfl) (by rfl) ?_; intro K hK; go_big_quiet_op; go_big_quiet_on))
          refine seq_chain (by rfl) ?_
          intro K hK
          go_wp2_with fail
          (with_reducible refine (digests_fn _ ao n cap _ rfl).mono ?_); rintro e w4 ⟨rfl, rfl⟩
          have hs4 : Below W3.heap.size W3 (W3.alloc (Obj.cells #[.slice ao n cap] 26)) := ba W3 _
          have hA4 := HA3.out.below hs4.drew
          have hs4 := hs4.drew
          go_wp2_with fail
          refine hK.out _ _ (since hs4) ?_
          clear hK K
          repeat (first | (refine seq_skip (by rfl) (by rfl) ?_; simp only [Act.put, List.setIfInBounds_toArray, List.set_cons_succ, List.set_cons_zero]) | (refine seq_float (by rfl) (by rfl) (by rfl) ?_; intro K hK; go_big_quiet_op; go_big_quiet_on))
          refine seq_chain (by rfl) ?_
          intro K hK
          go_wp2_with fail
          (with_reducible refine (Collect_any W3.heap.size l n cap ao (W3.alloc (Obj.cells #[.slice ao n cap] 26)).drew (by simp) (by rw [World.cell?_drew, cell_new_at (w := W3) rfl #[.slice ao n cap] 26 0]; simp) hA4.len hA4.sl hA4.sizes h10).mono ?_); rintro e w5 ⟨v', rfl, hown, hb5⟩
          have hs5 := hs4.trans (hb5.mono hs4.size)
          obtain ⟨ao', cap', rfl, hl', hc', hs'⟩ := dsl_of_own hown
          go_wp2_with fail
          refine hK.out _ _ (since hs5) ?_
          clear hK K
          repeat (first | (refine seq_skip (by rfl) (by rfl) ?_; simp only [Act.put, List.setIfInBounds_toArray, List.set_cons_succ, List.set_cons_zero]) | (refine seq_float (by rfl) (by rfl) (by rfl) ?_; intro K hK; go_big_quiet_op; go_big_quiet_on))
          refine seq_chain (by rfl) ?_
          intro K hK
          go_wp2_with fail
          obtain ⟨b5, o5, rfl, hlb5, hd5⟩ := hs'.resolve_left (by omega)
          have hG := grow_any w2.heap.size n (l.map recD) k b5 o5 cap' true w5 (by omega) (by omega) hk1 (by omega) (by omega) hlb5 hd5 (by have := hs5.size; omega) ((bc hs5 hlx 0).trans hcx)
          rw [hl', ← show (extE l k).1 = growD (l.map recD) k true by rw [HV.out]] at hG
          (with_reducible refine (hG).mono ?_); rintro e w6 ⟨v6, rfl, hown6, hb6⟩
          have hs6 := hs5.trans (hb6.mono hs5.size)
          obtain ⟨a6, c6, rfl, g1, g2, g3⟩ := dsl_of_own hown6
          clear g1
          have g2 := lid g2
          have g3 := lid g3
          go_wp2_with fail
          refine hK.out _ _ (since hs6) ?_
          clear hK K
          repeat (first | (refine seq_skip (by rfl) (by rfl) ?_; simp only [Act.put, List.setIfInBounds_toArray, List.set_cons_succ, List.set_cons_zero]) | (refine seq_float (by rfl) (by rfl) (by rfl) ?_; intro K hK; go_big_quiet_op; go_big_quiet_on))
          refine seq_chain (by rfl) ?_
          intro K hK
          go_wp2_with fail
          refine hK.out _ _ (since hs6) ?_
          clear hK K
          repeat (first | (refine seq_skip (by rfl) (by rfl) ?_; simp only [Act.put, List.setIfInBounds_toArray, List.set_cons_succ, List.set_cons_zero]) | (refine seq_float (by rfl) (by rfl) (by rfl) ?_; intro K hK; go_big_quiet_op; go_big_quiet_on))
          refine seq_chain (by rfl) ?_
          intro K hK
          go_wp2_with fail
          refine hK.out _ _ (since hs6) ?_
          clear hK K
          repeat (first | (refine seq_skip (by rfl) (by rfl) ?_; simp only [Act.put, List.setIfInBounds_toArray, List.set_cons_succ, List.set_cons_zero]) | (refine seq_float (by rfl) (by rfl) (by rfl) ?_; intro K hK; go_big_quiet_op; go_big_quiet_on))
          refine seq_nil ?_
          go_wp2_with fail
          go_ret2
          exact ⟨a6, _, c6, by rw [show (extE l k).2 = 0 by rw [HV.out]]; rfl, rfl, g2.out, g3.out, hw3.trans (hs6.mono hw3.size)⟩
    · have HV := lid (extE_out HCK.out (i := i) (by rw [HA.out.len]; exact hi))
      have hcase : i < 0 ∨ (0 ≤ i ∧ (n : Int) < i) := by omega
      clear hi
      rcases hcase with h1 | ⟨h1, h2⟩
      all_goals
        go_wp2_with fail
        go_ret2
        exact ⟨none, 0, 0, by rw [HV.out]; rfl, by rw [HV.out]; rfl, Nat.le_refl _, by rw [HV.out]; exact .inl rfl, hw2⟩
  · have HV := lid (extE_bad hc i)
    have hc' : (checkL l != 0) = true := by simpa using hc
    generalize checkL l = C at *
    clear q2 hc
    go_wp2_with fail
    go_ret2
    exact ⟨none, 0, 0, by rw [HV.out]; rfl, by rw [HV.out]; rfl, Nat.le_refl _, by rw [HV.out]; exact .inl rfl, hw2⟩

end Go.Proofs.Ytbghpjedldhnhaa
