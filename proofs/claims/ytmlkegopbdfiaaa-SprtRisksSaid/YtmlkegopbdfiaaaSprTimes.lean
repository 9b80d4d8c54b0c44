/-
  sprt: decide's closure, compare and decide.
-/
import Derived.Test.YtmlkegopbdfiaaaSprProd
import Derived.Test.YtmlkegopbdfiaaaSprRatio
namespace Go.Proofs.Ytmlkegopbdfiaaa
open Go.RowKit

theorem info_power : (Try.prog.info? 56).map (fun i => (i.zero, i.size, i.bytes)) = some (some (.agg #[.int .i64 0, .int .i64 0]), 2, 16) := by kernel_rfl

set_option maxRecDepth 100000 in
set_option maxHeartbeats 4000000 in
theorem times_any (f : Nat) (ps : List (Nat × Nat)) (cap : Nat) (ao : Option Addr) (w : World) (hn : ps.length = 2) (hf1 : 1 ≤ f) (hf2 : f ≤ 1000) (hp : ∀ p ∈ ps, 1 ≤ p.1 ∧ p.1 ≤ 1000 ∧ p.2 ≤ 40) (hs : Sl w 2 ao 2 (pvals ps)) :
    Calls Try.prog 29 #[.slice ao 2 cap, .int .i64 f] w fun e w' => ∃ ao' n' cap', e = .returned (.slice ao' n' cap') ∧ n' ≤ cap' ∧ cap' ≤ maxLen ∧ (prodL B32 [1] ((f, 1) :: ps)).length = n' ∧ Sl w' 1 ao' n' (dvals (prodL B32 [1] ((f, 1) :: ps))) ∧ Below w.heap.size w w' := by
  have HP : Hid (∀ p ∈ (f, 1) :: ps, 1 ≤ p.1 ∧ p.1 ≤ 1000 ∧ p.2 ≤ 40) := lid fun p h => by
    rcases List.mem_cons.1 h with rfl | h
    · exact ⟨hf1, hf2, by show 1 ≤ 40; omega⟩
    · exact hp p h
  have HN : Hid (((f, 1) :: ps).length = 3) := lid (by rw [List.length_cons, hn])
  obtain ⟨b, o, rfl, hlb, hcell⟩ := hs.at_ (k := 0) (by omega)
  have hlen := hs.len
  have HC := lid hcell
  have HLen := lid hlen
  clear hp hn hs hcell hlen
  obtain ⟨i0, hi, hz0, hz1, hz2⟩ := info_parts info_power
  have hR0 := World.ownsRow_lit (base := w.heap.size) (e := 56) (size := 2) w #[Value.int .i64 f, .int .i64 1] 1 (Nat.le_refl _) (by simp [maxLen]) (by simp)
  go_enter Try.func29, Try.ntmps29
  go_wp2_with (at_builtin; go_must (refine wpList_append_own _ rfl _ _ 57 rfl w.heap.size 56 i0 (.agg #[.int .i64 0, .int .i64 0]) 2 16 Try.underlying57 hi hz0 hz1 hz2 rfl (by decide) _ _ _ rfl hR0 ⟨b, o, none⟩ 2 cap (pvals ps) rfl HLen.out ?c1 ?c2 (by simp [maxLen]) (by omega) (by simp) ?_))
  case c1 =>
    intro j u hu
    try rw [Addr.add_lit]
    try rw [cell_old_at hlb]
    exact HC.out j u hu
  case c2 =>
    intro u hu
    simp only [pvals, List.mem_flatMap] at hu
    obtain ⟨p, _, hu⟩ := hu
    simp at hu
    rcases hu with rfl | rfl <;> rfl
  intro v' w1 hown hgrow _
  have hbw : Below w.heap.size w w1 := ((Below.refl _ _).alloc (Nat.le_refl _) _).grown hgrow (by simp) (fun k hk => by cases hk; exact Nat.le_refl _)
  obtain ⟨ao', cap', rfl, h1, h2, hsl⟩ := Sl.of_own hown
  have HSL : Hid (Sl w1 2 ao' 3 (pvals ((f, 1) :: ps))) := lid hsl
  clear hown hgrow hsl hR0
  go_wp2_with fail
  (with_reducible refine (product_any ((f, 1) :: ps) 3 cap' ao' w1 HN.out (by omega) HP.out HSL.out).mono ?_); rintro e w2 ⟨v2, rfl, hown2, hb2⟩
  go_wp2_with fail
  go_ret
  obtain ⟨a2, c2, rfl, k1, k2, k3⟩ := Sl.of_own hown2
  exact ⟨a2, _, c2, rfl, k1, k2, rfl, k3, hbw.trans (hb2.mono hbw.size)⟩

/-- Compare two numbers. -/
def cmpI (a b : Int) : Int := if a < b then -1 else if b < a then 1 else 0
set_option maxHeartbeats 400000 in
theorem cmpInt_any (a b : Int) (w : World) : Calls Try.prog 36 #[.int .i64 a, .int .i64 b] w fun e w' => e = .returned (.int .i64 (cmpI a b)) ∧ w = w' := by
  rcases Int.lt_trichotomy a b with h | h | h
  · have HV : Hid (cmpI a b = -1) := lid (by rw [cmpI, if_pos h])
    go_enter Try.func36, Try.ntmps36
    go_wp2
    go_ret
    exact ⟨ret_i64 HV.out.symm, rfl⟩
  · subst h
    have HV : Hid (cmpI a a = 0) := lid (by rw [cmpI, if_neg (by omega), if_neg (by omega)])
    go_enter Try.func36, Try.ntmps36
    go_wp2
    go_ret
    exact ⟨ret_i64 HV.out.symm, rfl⟩
  · have HV : Hid (cmpI a b = 1) := lid (by rw [cmpI, if_neg (by omega), if_pos h])
    have h' : b ≤ a := by omega
    go_enter Try.func36, Try.ntmps36
    go_wp2
    go_ret
    exact ⟨ret_i64 HV.out.symm, rfl⟩
set_option maxHeartbeats 400000 in
theorem cmpU_any (a b : Int) (w : World) : Calls Try.prog 37 #[.int .u32 a, .int .u32 b] w fun e w' => e = .returned (.int .i64 (cmpI a b)) ∧ w = w' := by
  rcases Int.lt_trichotomy a b with h | h | h
  · have HV : Hid (cmpI a b = -1) := lid (by rw [cmpI, if_pos h])
    go_enter Try.func37, Try.ntmps37
    go_wp2
    go_ret
    exact ⟨ret_i64 HV.out.symm, rfl⟩
  · subst h
    have HV : Hid (cmpI a a = 0) := lid (by rw [cmpI, if_neg (by omega), if_neg (by omega)])
    go_enter Try.func37, Try.ntmps37
    go_wp2
    go_ret
    exact ⟨ret_i64 HV.out.symm, rfl⟩
  · have HV : Hid (cmpI a b = 1) := lid (by rw [cmpI, if_neg (by omega), if_pos h])
    have h' : b ≤ a := by omega
    go_enter Try.func37, Try.ntmps37
    go_wp2
    go_ret
    exact ⟨ret_i64 HV.out.symm, rfl⟩

theorem dvals_at {l : List Nat} {k : Nat} (h : k < l.length) : (dvals l)[k]? = some (.int .u32 (l[k] : Nat)) := by simp [dvals, h]

set_option maxRecDepth 100000 in
set_option maxHeartbeats 4000000 in
theorem compare_any (a b : List Nat) (n m ca cb : Nat) (aa ab : Option Addr) (w : World) (hn : a.length = n) (hm : b.length = m) (hn1 : n ≤ 100000) (hm1 : m ≤ 100000) (ha : Norm B32 a) (hb : Norm B32 b) (hsa : Sl w 1 aa n (dvals a)) (hsb : Sl w 1 ab m (dvals b)) :
    Calls Try.prog 31 #[.slice aa n ca, .slice ab m cb] w fun e w' => e = .returned (.int .i64 (cmpI (lval B32 a) (lval B32 b))) ∧ Below w.heap.size w w' := by
  have HN := lid hn
  have HM := lid hm
  have HA := lid ha
  have HB := lid hb
  have HSA := lid hsa
  have HSB := lid hsb
  clear hn hm ha hb hsa hsb
  rcases Nat.lt_trichotomy n m with h | h | h
  · have HV : Hid (cmpI (lval B32 a) (lval B32 b) = -1) := lid (by
      have := lval_len (B := B32) (by decide) HA.out HB.out (by rw [HN.out, HM.out]; exact h)
      rw [cmpI, if_pos (by omega)])
    have hc : cmpI (n : Int) (m : Int) = -1 := by rw [cmpI, if_pos (by omega)]
    have HC := lid hc
    clear hc h
    go_enter Try.func31, Try.ntmps31
    go_wp2_with fail
    (with_reducible refine (cmpInt_any n m _).mono ?_); rintro e w1 ⟨rfl, rfl⟩
    rw [HC.out]
    go_wp2_with fail
    go_ret
    exact ⟨ret_i64 HV.out.symm, Below.refl _ _⟩
  · subst h
    have HC : Hid (cmpI (n : Int) (n : Int) = 0) := lid (by rw [cmpI, if_neg (by omega), if_neg (by omega)])
    have hni : (n : Int) ≤ 100000 := by omega
    go_enter Try.func31, Try.ntmps31
    go_wp2_with fail
    (with_reducible refine (cmpInt_any n n _).mono ?_); rintro e w1 ⟨rfl, rfl⟩
    rw [HC.out]
    go_wp2_with fail
    go_loopw [6, 7] (fun i _ wr => ∃ k : Nat, k ≤ n ∧ i = .int .i64 ((k : Int) - 1) ∧ Hid (a.drop k = b.drop k) ∧ Below w.heap.size w wr) (fun i _ _ => (intOf i + 1).toNat)
    case atStart => exact ⟨n, Nat.le_refl _, rfl, lid (by rw [List.drop_eq_nil_of_le (by rw [HN.out]; exact Nat.le_refl _), List.drop_eq_nil_of_le (by rw [HM.out]; exact Nat.le_refl _)]), Below.refl _ _⟩
    case round =>
      obtain ⟨k, hk, rfl, HD, hbr⟩ := hrel
      rcases Nat.eq_zero_or_pos k with hk0 | hk0
      · subst hk0
        have HV : Hid (cmpI (lval B32 a) (lval B32 b) = 0) := lid (by
          have := HD.out
          rw [List.drop_zero, List.drop_zero] at this
          rw [this, cmpI, if_neg (by omega), if_neg (by omega)])
        go_wp2_with fail
        go_ret
        exact ⟨ret_i64 HV.out.symm, hbr⟩
      · obtain ⟨j, rfl⟩ : ∃ j, k = j + 1 := ⟨k - 1, by omega⟩
        have hja : j < a.length := by rw [HN.out]; omega
        have hjb : j < b.length := by rw [HM.out]; omega
        obtain ⟨b1, o1, rfl, hl1, hc1⟩ := (HSA.out.below hbr).at_ (k := j) (by omega)
        obtain ⟨b2, o2, rfl, hl2, hc2⟩ := (HSB.out.below hbr).at_ (k := j) (by omega)
        have x0 := hc1 j _ (dvals_at hja)
        have y0 := hc2 j _ (dvals_at hjb)
        have HX : Hid (a.drop j = a[j] :: a.drop (j + 1) ∧ b.drop j = b[j] :: b.drop (j + 1)) := lid ⟨List.drop_eq_getElem_cons hja, List.drop_eq_getElem_cons hjb⟩
        have HL1 : Hid (a[j] < b[j] → lval B32 a < lval B32 b) := lid fun h => lval_first (by decide) HA.out.1 HB.out.1 hja hjb HD.out h
        have HL2 : Hid (b[j] < a[j] → lval B32 b < lval B32 a) := lid fun h => lval_first (by decide) HB.out.1 HA.out.1 hjb hja HD.out.symm h
        clear hc1 hc2
        generalize a[j] = p at *
        generalize b[j] = q at *
        rw [show ((j + 1 : Nat) : Int) - 1 = (j : Int) by omega]
        have hjn : (j : Int) < n := by omega
        have hj0 : (0 : Int) ≤ j := by omega
        rcases Nat.lt_trichotomy p q with h | h | h
        · have HC2 : Hid (cmpI (p : Int) (q : Int) = -1) := lid (by rw [cmpI, if_pos (by omega)])
          have HV : Hid (cmpI (lval B32 a) (lval B32 b) = -1) := lid (by have := HL1.out h; rw [cmpI, if_pos (by omega)])
          clear h
          go_wp2_with fail
          refine wp_region_seq (fun w' => ∃ s : Since wr.heap.size wr, w' = s.world) [(0, true), (1, true), (2, true), (3, true), (4, true), (5, true), (6, true), (7, true), (8, false), (9, false)] (by kernel_rfl) (by kernel_rfl) (by intro c d v a w h; cases d <;> exact h) (since (Below.refl _ _).drew) ?_
          repeat (first | (refine seq_skip (by rfl) (by rfl) ?_; simp only [Act.put, List.setIfInBounds_toArray, List.set_cons_succ, List.set_cons_zero]) | (refine seq_float (by rfl) (by rfl) (by rfl) ?_; intro K hK; go_big_quiet_op; go_big_quiet_on))
          refine seq_chain (by rfl) ?_
          intro K hK
          go_wp2_with fail
          (with_reducible refine (cmpU_any p q _).mono ?_); rintro e w1 ⟨rfl, rfl⟩
          rw [HC2.out]
          go_wp2_with fail
          refine hK.out _ _ (since (Below.refl _ _).drew) ?_
          clear hK K
          repeat (first | (refine seq_skip (by rfl) (by rfl) ?_; simp only [Act.put, List.setIfInBounds_toArray, List.set_cons_succ, List.set_cons_zero]) | (refine seq_float (by rfl) (by rfl) (by rfl) ?_; intro K hK; go_big_quiet_op; go_big_quiet_on))
          refine seq_chain (by rfl) ?_
          intro K hK
          go_wp2_with fail
          refine hK.out _ _ (since (Below.refl _ _).drew) ?_
          clear hK K
          repeat (first | (refine seq_skip (by rfl) (by rfl) ?_; simp only [Act.put, List.setIfInBounds_toArray, List.set_cons_succ, List.set_cons_zero]) | (refine seq_float (by rfl) (by rfl) (by rfl) ?_; intro K hK; go_big_quiet_op; go_big_quiet_on))
          refine seq_nil ?_
          go_wp2_with fail
          go_ret
          exact ⟨ret_i64 HV.out.symm, hbr.drew⟩
        · subst h
          have HC2 : Hid (cmpI (p : Int) (p : Int) = 0) := lid (by rw [cmpI, if_neg (by omega), if_neg (by omega)])
          go_wp2_with fail
          refine wp_region_seq (fun w' => ∃ s : Since wr.heap.size wr, w' = s.world) [(0, true), (1, true), (2, true), (3, true), (4, true), (5, true), (6, true), (7, true), (8, false), (9, false)] (by kernel_rfl) (by kernel_rfl) (by intro c d v a w h; cases d <;> exact h) (since (Below.refl _ _).drew) ?_
          repeat (first | (refine seq_skip (by rfl) (by rfl) ?_; simp only [Act.put, List.setIfInBounds_toArray, List.set_cons_succ, List.set_cons_zero]) | (refine seq_float (by rfl) (by rfl) (by rfl) ?_; intro K hK; go_big_quiet_op; go_big_quiet_on))
          refine seq_chain (by rfl) ?_
          intro K hK
          go_wp2_with fail
          (with_reducible refine (cmpU_any p p _).mono ?_); rintro e w1 ⟨rfl, rfl⟩
          rw [HC2.out]
          go_wp2_with fail
          refine hK.out _ _ (since (Below.refl _ _).drew) ?_
          clear hK K
          repeat (first | (refine seq_skip (by rfl) (by rfl) ?_; simp only [Act.put, List.setIfInBounds_toArray, List.set_cons_succ, List.set_cons_zero]) | (refine seq_float (by rfl) (by rfl) (by rfl) ?_; intro K hK; go_big_quiet_op; go_big_quiet_on))
          refine seq_chain (by rfl) ?_
          intro K hK
          go_wp2_with fail
          refine hK.out _ _ (since (Below.refl _ _).drew) ?_
          clear hK K
          repeat (first | (refine seq_skip (by rfl) (by rfl) ?_; simp only [Act.put, List.setIfInBounds_toArray, List.set_cons_succ, List.set_cons_zero]) | (refine seq_float (by rfl) (by rfl) (by rfl) ?_; intro K hK; go_big_quiet_op; go_big_quiet_on))
          refine seq_nil ?_
          go_wp2_with fail
          go_roundw
          case rel => exact ⟨j, by omega, rfl, lid (by rw [HX.out.1, HX.out.2, HD.out]), hbr.drew⟩
          case measure => simp [intOf]
        · have HC2 : Hid (cmpI (p : Int) (q : Int) = 1) := lid (by rw [cmpI, if_neg (by omega), if_pos (by omega)])
          have HV : Hid (cmpI (lval B32 a) (lval B32 b) = 1) := lid (by have := HL2.out h; rw [cmpI, if_neg (by omega), if_pos (by omega)])
          clear h
          go_wp2_with fail
          refine wp_region_seq (fun w' => ∃ s : Since wr.heap.size wr, w' = s.world) [(0, true), (1, true), (2, true), (3, true), (4, true), (5, true), (6, true), (7, true), (8, false), (9, false)] (by kernel_rfl) (by kernel_rfl) (by intro c d v a w h; cases d <;> exact h) (since (Below.refl _ _).drew) ?_
          repeat (first | (refine seq_skip (by rfl) (by rfl) ?_; simp only [Act.put, List.setIfInBounds_toArray, List.set_cons_succ, List.set_cons_zero]) | (refine seq_float (by rfl) (by rfl) (by rfl) ?_; intro K hK; go_big_quiet_op; go_big_quiet_on))
          refine seq_chain (by rfl) ?_
          intro K hK
          go_wp2_with fail
          (with_reducible refine (cmpU_any p q _).mono ?_); rintro e w1 ⟨rfl, rfl⟩
          rw [HC2.out]
          go_wp2_with fail
          refine hK.out _ _ (since (Below.refl _ _).drew) ?_
          clear hK K
          repeat (first | (refine seq_skip (by rfl) (by rfl) ?_; simp only [Act.put, List.setIfInBounds_toArray, List.set_cons_succ, List.set_cons_zero]) | (refine seq_float (by rfl) (by rfl) (by rfl) ?_; intro K hK; go_big_quiet_op; go_big_quiet_on))
          refine seq_chain (by rfl) ?_
          intro K hK
          go_wp2_with fail
          refine hK.out _ _ (since (Below.refl _ _).drew) ?_
          clear hK K
          repeat (first | (refine seq_skip (by rfl) (by rfl) ?_; simp only [Act.put, List.setIfInBounds_toArray, List.set_cons_succ, List.set_cons_zero]) | (refine seq_float (by rfl) (by rfl) (by rfl) ?_; intro K hK; go_big_quiet_op; go_big_quiet_on))
          refine seq_nil ?_
          go_wp2_with fail
          go_ret
          exact ⟨ret_i64 HV.out.symm, hbr.drew⟩
  · have HV : Hid (cmpI (lval B32 a) (lval B32 b) = 1) := lid (by
      have := lval_len (B := B32) (by decide) HB.out HA.out (by rw [HN.out, HM.out]; exact h)
      rw [cmpI, if_neg (by omega), if_pos (by omega)])
    have hc : cmpI (n : Int) (m : Int) = 1 := by rw [cmpI, if_neg (by omega), if_pos (by omega)]
    have HC := lid hc
    clear hc h
    go_enter Try.func31, Try.ntmps31
    go_wp2_with fail
    (with_reducible refine (cmpInt_any n m _).mono ?_); rintro e w1 ⟨rfl, rfl⟩
    rw [HC.out]
    go_wp2_with fail
    go_ret
    exact ⟨ret_i64 HV.out.symm, Below.refl _ _⟩
end Go.Proofs.Ytmlkegopbdfiaaa
