/-
  The reference's long numbers: times, power, most.
-/
import Derived.Test.YtmlkegopbdfiaaaSprProd
import Derived.Test.YtmlkegopbdfiaaaSl
namespace Go.Proofs.Ytmlkegopbdfiaaa
open Go.RowKit

theorem info_int : (Try.prog.info? 3).map (fun i => (i.zero, i.size, i.bytes)) = some (some (.int .i64 0), 1, 8) := by kernel_rfl
abbrev B4 : Nat := 10000
def nvals (l : List Nat) : List Value := l.map fun (d : Nat) => Value.int .i64 (d : Int)
theorem nvals_length (l : List Nat) : (nvals l).length = l.length := by simp [nvals]
theorem nvals_at {l : List Nat} {k : Nat} (h : k < l.length) : (nvals l)[k]? = some (.int .i64 (l[k] : Nat)) := by simp [nvals, h]

/-- What comes back: a slice that reads as these digits; new memory alone. -/
def RetL (D : List Nat) (w : World) (e : Ending) (w' : World) : Prop := ∃ ao' n' cap', e = .returned (.slice ao' n' cap') ∧ D.length = n' ∧ Sl w' 1 ao' n' (nvals D) ∧ Below w.heap.size w w'

set_option maxRecDepth 100000 in
set_option maxHeartbeats 4000000 in
theorem refTimes_any (f : Nat) (l : List Nat) (n cap : Nat) (ao : Option Addr) (w : World) (hf : f ≤ 1000) (hn : l.length = n) (hn1 : n ≤ 100000) (hl : ∀ d ∈ l, d < B4) (hs : Sl w 1 ao n (nvals l)) :
    Calls Try.prog 34 #[.slice ao n cap, .int .i64 f] w (RetL (mulL B4 l f) w) := by
  have HN := lid hn
  have HS := lid hs
  have HL := lid hl
  clear hn hs hl
  go_enter Try.func34, Try.ntmps34
  go_wp2_with fail
  go_loopw [5, 6, 7, 8] (fun out c i _ wr => ∃ k : Nat, k ≤ n ∧ i = .int .i64 k ∧ c = .int .i64 (mulGo B4 f (l.take k) 0).2 ∧ wr.ownsRow w.heap.size 3 1 out k (nvals (mulGo B4 f (l.take k) 0).1) ∧ Below w.heap.size w wr) (fun _ _ i _ _ => n - (intOf i).toNat)
  case atStart => exact ⟨0, Nat.zero_le _, rfl, rfl, World.ownsRow_nil _ _ _ _, Below.refl _ _⟩
  case round =>
    obtain ⟨k, hk, rfl, rfl, hown, hb⟩ := hrel
    have hcc := mulGo_carry (B := B4) (by decide) f (l.take k) (fun d hd => HL.out d (List.mem_of_mem_take hd)) 0 (by omega)
    by_cases hlt : k < n
    · have hkl : k < l.length := by rw [HN.out]; exact hlt
      have hdk : l[k] < 10000 := HL.out l[k] (List.getElem_mem hkl)
      have HT : Hid (mulGo B4 f (l.take (k + 1)) 0 = ((mulGo B4 f (l.take k) 0).1 ++ [((mulGo B4 f (l.take k) 0).2 + l[k] * f) % B4], ((mulGo B4 f (l.take k) 0).2 + l[k] * f) / B4)) := lid (by rw [List.take_succ_eq_append_getElem hkl, mulGo_snoc])
      obtain ⟨b1, o1, rfl, hlb, hcell⟩ := (HS.out.below hb).at_ hlt
      have x0 := hcell k _ (nvals_at hkl)
      clear hcell
      generalize l[k] = d at *
      generalize (mulGo B4 f (l.take k) 0).2 = c at *
      generalize (mulGo B4 f (l.take k) 0).1 = p at *
      have hdf : d * f ≤ 9999 * 1000 := Nat.mul_le_mul (by omega) hf
      have hdi : (d : Int) * (f : Int) ≤ 9999000 := by have : ((d * f : Nat) : Int) ≤ 9999000 := by omega
                                                       rwa [Int.natCast_mul] at this
      have hd0 : (0 : Int) ≤ (d : Int) * (f : Int) := by have : (0 : Int) ≤ ((d * f : Nat) : Int) := by omega
                                                         rwa [Int.natCast_mul] at this
      have hci : (c : Int) ≤ 1000 := by omega
      have E1 : Hid (((d : Int) * (f : Int) + (c : Int)) % 10000 = (((c + d * f) % B4 : Nat) : Int)) := lid (by rw [Int.natCast_emod, Int.natCast_add, Int.natCast_mul, Int.add_comm]; rfl)
      have E2 : Hid (((d : Int) * (f : Int) + (c : Int)) / 10000 = (((c + d * f) / B4 : Nat) : Int)) := lid (by rw [Int.natCast_ediv, Int.natCast_add, Int.natCast_mul, Int.add_comm]; rfl)
      go_wp2_with (at_builtin; go_must (refine wpList_append_new #[.int .i64 (((d : Int) * (f : Int) + (c : Int)) % 10000)] rfl _ _ 54 rfl w.heap.size 3 (.int .i64 0) 1 8 info_int Try.underlying54 rfl (by decide) _ k _ hown rfl rfl rfl (by simp [Value.oneCell']) (by simp [maxLen]; omega) (by omega) hb.size ?_))
      intro v' w3 hown3 hb3 _
      go_wp2_with fail
      go_roundw
      case rel => exact ⟨k + 1, by omega, by go_num, by rw [E2.out, HT.out], by rw [HT.out]; simpa [nvals, E1.out] using hown3, hb.trans hb3⟩
      case measure => simp [intOf]; omega
    · obtain rfl : k = n := by omega
      have hlk : l.take k = l := List.take_of_length_le (by rw [HN.out]; exact Nat.le_refl _)
      have HML : Hid ((mulGo B4 f l 0).1.length = k) := lid (by rw [mulGo_length, HN.out])
      rw [hlk] at hown hcc ⊢
      have HM := lid (show mulL B4 l f = if (mulGo B4 f l 0).2 = 0 then (mulGo B4 f l 0).1 else (mulGo B4 f l 0).1 ++ [(mulGo B4 f l 0).2] from rfl)
      generalize (mulGo B4 f l 0).2 = c at *
      generalize (mulGo B4 f l 0).1 = p at *
      clear hlk
      by_cases hc0 : c = 0
      · subst hc0
        have HM2 : Hid (mulL B4 l f = p) := lid (by rw [HM.out]; rfl)
        go_wp2_with fail
        go_ret
        obtain ⟨ao', cap', rfl, h1, h2, h3⟩ := Sl.of_own hown
        exact ⟨ao', _, cap', rfl, by rw [HM2.out, HML.out], by rw [HM2.out]; exact h3, hb⟩
      · have HM2 : Hid (mulL B4 l f = p ++ [c]) := lid (by rw [HM.out, if_neg hc0])
        have hcp : (0 : Int) < c := by omega
        have hci : (c : Int) ≤ 1000 := by omega
        clear hc0
        go_wp2_with (at_builtin; go_must (refine wpList_append_new #[.int .i64 (c : Nat)] rfl _ _ 54 rfl w.heap.size 3 (.int .i64 0) 1 8 info_int Try.underlying54 rfl (by decide) _ k _ hown rfl rfl rfl (by simp [Value.oneCell']) (by simp [maxLen]; omega) (by omega) hb.size ?_))
        intro v' w3 hown3 hb3 _
        go_wp2_with fail
        go_ret
        obtain ⟨ao', cap', rfl, h1, h2, h3⟩ := Sl.of_own hown3
        exact ⟨ao', _, cap', rfl, by rw [HM2.out, List.length_append, HML.out]; rfl, by rw [HM2.out]; simpa [nvals] using h3, hb.trans hb3⟩

set_option maxRecDepth 100000 in
set_option maxHeartbeats 4000000 in
theorem refPower_any (f c : Nat) (l : List Nat) (n cap : Nat) (ao : Option Addr) (w : World) (hf1 : 1 ≤ f) (hf : f ≤ 1000) (hc : c ≤ 40) (hn : l.length = n) (hn1 : n ≤ 1000) (hl : Norm B4 l) (hs : Sl w 1 ao n (nvals l)) :
    Calls Try.prog 32 #[.slice ao n cap, .int .i64 f, .int .i64 c] w (RetL (powL B4 l f c) w) := by
  have HN := lid hn
  have HS := lid hs
  have HL := lid hl
  clear hn hs hl
  have hci : (c : Int) ≤ 40 := by omega
  go_enter Try.func32, Try.ntmps32
  go_wp2_with fail
  go_loopw [0, 7] (fun v i wr => ∃ (k : Nat) (ao' : Option Addr) (n' cap' : Nat), k ≤ c ∧ i = .int .i64 k ∧ v = .slice ao' n' cap' ∧ Hid ((powL B4 l f k).length = n' ∧ Sl wr 1 ao' n' (nvals (powL B4 l f k))) ∧ Below w.heap.size w wr) (fun _ i _ => c - (intOf i).toNat)
  case atStart => exact ⟨0, ao, n, cap, Nat.zero_le _, rfl, rfl, lid ⟨HN.out, HS.out⟩, Below.refl _ _⟩
  case round =>
    obtain ⟨k, a', n', c', hk, rfl, rfl, HK, hb⟩ := hrel
    by_cases hlt : k < c
    · have hnm : Hid (∀ d ∈ powL B4 l f k, d < B4) := lid (powL_norm (B := B4) (by decide) HL.out hf1 (by show f < 10000; omega) k).1
      have hlen : n' ≤ 100000 := by have := powL_length (B := B4) l f k; rw [HN.out, HK.out.1] at this; omega
      go_wp2_with fail
      (with_reducible refine (refTimes_any f (powL B4 l f k) n' c' a' _ hf HK.out.1 hlen hnm.out HK.out.2).mono ?_); rintro e w1 ⟨a2, n2, c2, rfl, h2, h3, hb2⟩
      have HK2 : Hid ((powL B4 l f (k + 1)).length = n2 ∧ Sl w1 1 a2 n2 (nvals (powL B4 l f (k + 1)))) := lid ⟨h2, h3⟩
      clear h2 h3
      go_wp2_with fail
      go_roundw
      case rel => exact ⟨k + 1, a2, n2, c2, by omega, by go_num, rfl, HK2, hb.trans (hb2.mono hb.size)⟩
      case measure => simp [intOf]; omega
    · obtain rfl : k = c := by omega
      go_wp2_with fail
      go_ret
      exact ⟨a', n', c', rfl, HK.out.1, HK.out.2, hb⟩

set_option maxRecDepth 100000 in
set_option maxHeartbeats 4000000 in
theorem refMost_any (a b : List Nat) (n m ca cb : Nat) (aa ab : Option Addr) (w : World) (hn : a.length = n) (hm : b.length = m) (hn1 : n ≤ 100000) (hm1 : m ≤ 100000) (ha : Norm B4 a) (hb : Norm B4 b) (hsa : Sl w 1 aa n (nvals a)) (hsb : Sl w 1 ab m (nvals b)) :
    Calls Try.prog 33 #[.slice aa n ca, .slice ab m cb] w fun e w' => e = .returned (.bool (decide (lval B4 a ≤ lval B4 b))) ∧ Below w.heap.size w w' := by
  have HN := lid hn
  have HM := lid hm
  have HA := lid ha
  have HB := lid hb
  have HSA := lid hsa
  have HSB := lid hsb
  clear hn hm ha hb hsa hsb
  by_cases h : n = m
  · subst h
    have hni : (n : Int) ≤ 100000 := by omega
    go_enter Try.func33, Try.ntmps33
    go_wp2_with fail
    go_loopw [5] (fun i wr => ∃ k : Nat, k ≤ n ∧ i = .int .i64 ((k : Int) - 1) ∧ Hid (a.drop k = b.drop k) ∧ Below w.heap.size w wr) (fun i _ => (intOf i + 1).toNat)
    case atStart => exact ⟨n, Nat.le_refl _, rfl, lid (by rw [List.drop_eq_nil_of_le (by rw [HN.out]; exact Nat.le_refl _), List.drop_eq_nil_of_le (by rw [HM.out]; exact Nat.le_refl _)]), Below.refl _ _⟩
    case round =>
      obtain ⟨k, hk, rfl, HD, hbr⟩ := hrel
      rcases Nat.eq_zero_or_pos k with hk0 | hk0
      · subst hk0
        have HV : Hid (decide (lval B4 a ≤ lval B4 b) = true) := lid (by
          have := HD.out
          rw [List.drop_zero, List.drop_zero] at this
          rw [this]
          simp)
        go_wp2_with fail
        go_ret
        exact ⟨ret_bool HV.out.symm, hbr⟩
      · obtain ⟨j, rfl⟩ : ∃ j, k = j + 1 := ⟨k - 1, by omega⟩
        have hja : j < a.length := by rw [HN.out]; omega
        have hjb : j < b.length := by rw [HM.out]; omega
        obtain ⟨b1, o1, rfl, hl1, hc1⟩ := (HSA.out.below hbr).at_ (k := j) (by omega)
        obtain ⟨b2, o2, rfl, hl2, hc2⟩ := (HSB.out.below hbr).at_ (k := j) (by omega)
        have x0 := hc1 j _ (nvals_at hja)
        have y0 := hc2 j _ (nvals_at hjb)
        have HX : Hid (a.drop j = a[j] :: a.drop (j + 1) ∧ b.drop j = b[j] :: b.drop (j + 1)) := lid ⟨List.drop_eq_getElem_cons hja, List.drop_eq_getElem_cons hjb⟩
        have HL1 : Hid (a[j] < b[j] → lval B4 a < lval B4 b) := lid fun h => lval_first (by decide) HA.out.1 HB.out.1 hja hjb HD.out h
        have HL2 : Hid (b[j] < a[j] → lval B4 b < lval B4 a) := lid fun h => lval_first (by decide) HB.out.1 HA.out.1 hjb hja HD.out.symm h
        clear hc1 hc2
        generalize a[j] = p at *
        generalize b[j] = q at *
        rw [show ((j + 1 : Nat) : Int) - 1 = (j : Int) by omega]
        have hjn : (j : Int) < n := by omega
        have hj0 : (0 : Int) ≤ j := by omega
        by_cases hpq : p = q
        · subst hpq
          have e1 : ((p : Int) != (p : Int)) = false := by simp
          go_wp2_with fail
          refine wp_region_seq (fun w' => ∃ s : Since wr.heap.size wr, w' = s.world) [(0, true), (1, true), (2, true), (3, true), (4, true), (5, true), (6, true), (7, true), (8, true)] (by kernel_rfl) (by kernel_rfl) (by intro c d v a w h; cases d <;> exact h) (since (Below.refl _ _).drew) ?_
          repeat (first | (refine seq_skip (by rfl) (by rfl) ?_; simp only [Act.put, List.setIfInBounds_toArray, List.set_cons_succ, List.set_cons_zero]) | (refine seq_float (by rfl) (by rfl) (by rfl) ?_; intro K hK; go_big_quiet_op; go_big_quiet_on))
          refine seq_nil ?_
          go_wp2_with fail
          go_roundw
          case rel => exact ⟨j, by omega, rfl, lid (by rw [HX.out.1, HX.out.2, HD.out]), hbr.drew⟩
          case measure => simp [intOf]
        · have e1 : ((p : Int) != (q : Int)) = true := by simp; omega
          have e1n : (p != q) = true := by simp; omega
          have HV : Hid (decide (lval B4 a ≤ lval B4 b) = decide ((p : Int) < (q : Int))) := lid (by
            rw [Bool.eq_iff_iff]
            simp only [decide_eq_true_eq]
            rcases Nat.lt_trichotomy p q with h | h | h
            · have := HL1.out h; omega
            · omega
            · have := HL2.out h; omega)
          have hd1 := hbr.drew
          clear hpq
          go_wp2_with fail
          refine wp_region_seq (fun w' => ∃ s : Since wr.heap.size wr, w' = s.world) [(0, true), (1, true), (2, true), (3, true), (4, true), (5, true), (6, true), (7, true), (8, true)] (by kernel_rfl) (by kernel_rfl) (by intro c d v a w h; cases d <;> exact h) (since (Below.refl _ _).drew) ?_
          repeat (first | (refine seq_skip (by rfl) (by rfl) ?_; simp only [Act.put, List.setIfInBounds_toArray, List.set_cons_succ, List.set_cons_zero]) | (refine seq_float (by rfl) (by rfl) (by rfl) ?_; intro K hK; go_big_quiet_op; go_big_quiet_on))
          refine seq_nil ?_
          go_wp2_with fail
          refine wp_region_seq (fun w' => ∃ s : Since wr.heap.size wr.drew, w' = s.world) [(0, true), (1, true), (2, true), (3, true), (4, true), (5, true), (6, true), (7, true), (8, true), (9, false)] (by kernel_rfl) (by kernel_rfl) (by intro c d v a w h; cases d <;> exact h) (since (Below.refl _ _).drew) ?_
          repeat (first | (refine seq_skip (by rfl) (by rfl) ?_; simp only [Act.put, List.setIfInBounds_toArray, List.set_cons_succ, List.set_cons_zero]) | (refine seq_float (by rfl) (by rfl) (by rfl) ?_; intro K hK; go_big_quiet_op; go_big_quiet_on))
          refine seq_chain (by rfl) ?_
          intro K hK
          go_wp2_with fail
          refine hK.out _ _ (since (Below.refl _ _).drew) ?_
          clear hK K
          repeat (first | (refine seq_skip (by rfl) (by rfl) ?_; simp only [Act.put, List.setIfInBounds_toArray, List.set_cons_succ, List.set_cons_zero]) | (refine seq_float (by rfl) (by rfl) (by rfl) ?_; intro K hK; go_big_quiet_op; go_big_quiet_on))
          refine seq_nil ?_
          go_wp2_with fail
          go_ret
          refine ⟨ret_bool ?_, hd1.drew⟩
          rw [HV.out]
          simp
  · have hne : ((n : Int) != (m : Int)) = true := by simp; omega
    have hnen : (n != m) = true := by simp; omega
    have HV : Hid (decide (lval B4 a ≤ lval B4 b) = decide ((n : Int) < (m : Int))) := lid (by
      rw [Bool.eq_iff_iff]
      simp only [decide_eq_true_eq]
      rcases Nat.lt_trichotomy n m with h' | h' | h'
      · have := lval_len (B := B4) (by decide) HA.out HB.out (by rw [HN.out, HM.out]; exact h'); omega
      · omega
      · have := lval_len (B := B4) (by decide) HB.out HA.out (by rw [HN.out, HM.out]; exact h'); omega)
    clear h
    go_enter Try.func33, Try.ntmps33
    go_wp2_with fail
    go_ret
    refine ⟨ret_bool ?_, Below.refl _ _⟩
    rw [HV.out]
    simp
end Go.Proofs.Ytmlkegopbdfiaaa
