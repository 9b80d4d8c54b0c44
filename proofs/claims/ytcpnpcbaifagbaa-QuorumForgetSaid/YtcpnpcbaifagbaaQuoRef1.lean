/-
  Ballots: the reference's About, add and Vote.
-/
import Derived.Test.YtcpnpcbaifagbaaQuoPlain
namespace Go.Proofs.Ytcpnpcbaifagbaa
open Go.RowKit
theorem dg_beq (a b : Dg) : (((a.1.toNat : Int) == (b.1.toNat : Int)) && ((a.2.toNat : Int) == (b.2.toNat : Int))) = decide (a = b) := by
  rw [Bool.eq_iff_iff]
  simp only [Bool.and_eq_true, beq_iff_eq, decide_eq_true_eq, Prod.ext_iff]
  rw [← UInt64.toNat_inj, ← UInt64.toNat_inj]
  omega
theorem about_cons_eq {b : Bal} {l : List Bal} {k : Dg} (h : b.1 = k) : aboutB (b :: l) k = b.2 := by
  unfold aboutB
  rw [List.find?_cons_of_pos (by simpa using h)]
theorem about_cons_ne {b : Bal} {l : List Bal} {k : Dg} (h : ¬ b.1 = k) : aboutB (b :: l) k = aboutB l k := by
  unfold aboutB
  rw [List.find?_cons_of_neg (by simpa using h)]
theorem va_empty (w : World) (g : Nat) : VA w (some ⟨g, 0, none⟩) 0 0 [] := ⟨rfl, Sl.nil, Nat.le_refl _, by simp [maxLen], fun e => (by cases e), fun v h => (by cases h)⟩
set_option maxRecDepth 100000 in
set_option maxHeartbeats 8000000 in
theorem refAbout_any (l : List Rw) (n cap : Nat) (ao : Option Addr) (k : Dg) (w : World) (hm : n ≤ 1000000) (h : BA w ao n cap l) :
    Calls Try.prog 45 #[.slice ao n cap, dv k] w fun e w' => ∃ (l' : List Vt) (ao' : Option Addr) (n' cap' : Nat), e = .returned (.slice ao' n' cap') ∧ l' = aboutB (l.map Rw.bal) k ∧ VA w' ao' n' cap' l' ∧ Below w.heap.size w w' := by
  have HN := lid h.len
  have HS := lid h.sl
  have HR := lid h.ok
  have HB : Hid ((w.alloc (.cells #[.int .u64 k.1.toNat, .int .u64 k.2.toNat] 25)).heap[w.heap.size]? = some (.cells #[.int .u64 k.1.toNat, .int .u64 k.2.toNat] 25 (0, 0))) := lid (heap_alloc_new _ _)
  clear h
  unfold dv
  go_enter Try.func45, Try.ntmps45
  go_wp2_with fail
  go_loopw [5] (fun i wr => ∃ j : Nat, j ≤ n ∧ i = .int .i64 j ∧ Hid (aboutB (l.map Rw.bal) k = aboutB ((l.drop j).map Rw.bal) k) ∧ Hid (wr.heap[w.heap.size]? = some (.cells #[.int .u64 k.1.toNat, .int .u64 k.2.toNat] 25 (0, 0))) ∧ Below w.heap.size w wr) (fun i _ => n - (intOf i).toNat)
  case atStart => exact ⟨0, Nat.zero_le _, rfl, lid rfl, HB, ba _ _⟩
  case round =>
    clear HB
    obtain ⟨j, hj, rfl, HG, HB, hb⟩ := hrel
    by_cases hlt : j < n
    · have hkl : j < l.length := by rw [HN.out]; exact hlt
      obtain ⟨b1, o1, rfl, hlb, hcell⟩ := (HS.out.below hb).at_ hlt
      have x0 := hcell (j * 3 + 0) _ (rcells_at hkl).1
      have x1 := hcell (j * 3 + 1) _ (rcells_at hkl).2.1
      have x2 := hcell (j * 3 + 2) _ (rcells_at hkl).2.2
      rw [← Nat.add_assoc] at x1 x2
      rw [Nat.add_zero] at x0
      have HD : Hid ((l.drop j).map Rw.bal = (l[j]).bal :: (l.drop (j + 1)).map Rw.bal) := lid (by rw [List.drop_eq_getElem_cons hkl]; rfl)
      have HVA := lid ((HR.out _ (List.getElem_mem hkl)).below hb)
      have dk : decide ((j : Int) < (n : Int)) = true := by simp; omega
      obtain ⟨x, hrk⟩ : ∃ r, l[j] = r := ⟨_, rfl⟩
      rw [hrk] at x0 x1 x2 HD HVA
      have p0 := row_cell HB.out 0
      have p1 := row_cell HB.out 1
      have lB := row_lt HB.out
      clear hcell hrk
      by_cases he : x.key = k
      · have HV := lid (about_cons_eq (b := x.bal) (l := (l.drop (j + 1)).map Rw.bal) he)
        have hd := dg_beq x.key k
        rw [decide_eq_true he] at hd
        clear he
        go_wp2_with fail
        refine wp_region_seq (fun w' => ∃ s : Since wr.heap.size wr, w' = s.world) [(0, true), (1, true), (2, true), (3, true), (4, true), (5, true), (6, true)] (by kernel_rfl) (by kernel_rfl) (by intro c d v a w h; cases d <;> exact h) (since (Below.refl _ _).drew) ?_
        repeat (first | (refine seq_skip (by rfl) (by rfl) ?_; simp only [Act.put, List.setIfInBounds_toArray, List.set_cons_succ, List.set_cons_zero]) | (refine seq_float (by rfl) (by rfl) (by rfl) ?_; intro K hK; go_big_quiet_op; go_big_quiet_on))
        refine seq_nil ?_
        go_wp2_with fail
        go_ret
        exact ⟨x.vs, x.ao, x.vs.length, x.cap, rfl, by rw [HG.out, HD.out, HV.out]; rfl, HVA.out.below (Below.refl _ _).drew, hb.drew⟩
      · have HV := lid (about_cons_ne (b := x.bal) (l := (l.drop (j + 1)).map Rw.bal) he)
        have hd := dg_beq x.key k
        rw [decide_eq_false he] at hd
        clear he
        go_wp2_with fail
        refine wp_region_seq (fun w' => ∃ s : Since wr.heap.size wr, w' = s.world) [(0, true), (1, true), (2, true), (3, true), (4, true), (5, true), (6, true)] (by kernel_rfl) (by kernel_rfl) (by intro c d v a w h; cases d <;> exact h) (since (Below.refl _ _).drew) ?_
        repeat (first | (refine seq_skip (by rfl) (by rfl) ?_; simp only [Act.put, List.setIfInBounds_toArray, List.set_cons_succ, List.set_cons_zero]) | (refine seq_float (by rfl) (by rfl) (by rfl) ?_; intro K hK; go_big_quiet_op; go_big_quiet_on))
        refine seq_nil ?_
        go_wp2_with fail
        go_roundw
        case rel => exact ⟨j + 1, by omega, by go_num, lid (by rw [HG.out, HD.out, HV.out]), HB, hb.drew⟩
        case measure => simp [intOf]; omega
    · obtain rfl : j = n := by omega
      have HV : Hid (aboutB ((l.drop j).map Rw.bal) k = []) := lid (by rw [List.drop_of_length_le (by rw [HN.out]; exact Nat.le_refl _)]; rfl)
      have dk : decide ((j : Int) < (j : Int)) = false := by simp
      go_wp2_with fail
      go_ret
      exact ⟨[], _, 0, 0, rfl, by rw [HG.out, HV.out], va_empty _ _, hb.trans ((ba _ _).mono hb.size)⟩

theorem posV_more {l : List Vt} {k : ByteArray} {j : Nat} (hj : j < l.length) (H : ∀ i (h : i < l.length), i < j → ltB l[i].1 k = true) (h : ltB l[j].1 k = true) : ∀ i (h : i < l.length), i < j + 1 → ltB l[i].1 k = true := fun i hi hij => by
  rcases Nat.lt_or_ge i j with h1 | h1
  · exact H i hi h1
  · obtain rfl : i = j := by omega
    exact h
theorem posR_more {l : List Rw} {k : Dg} {j : Nat} (hj : j < l.length) (H : ∀ i (h : i < l.length), i < j → ltD l[i].key k = true) (h : ltD l[j].key k = true) : ∀ i (h : i < l.length), i < j + 1 → ltD l[i].key k = true := fun i hi hij => by
  rcases Nat.lt_or_ge i j with h1 | h1
  · exact H i hi h1
  · obtain rfl : i = j := by omega
    exact h
theorem posR_stop {l : List Rw} {k : Dg} {j : Nat} (hj : j ≤ l.length) (hs : SrtR l) (H : ∀ i (h : i < l.length), i < j → ltD l[i].key k = true) (h : ∀ h : j < l.length, ltD l[j].key k = false) : LoHi (fun r => ltD r.key k) l j j :=
  ⟨H, fun i hi hij => by
    rcases Nat.lt_or_ge j i with h1 | h1
    · cases hc : ltD l[i].key k with
      | false => rfl
      | true =>
        have h2 := ltD_trans (hs j i (by omega) hi h1) hc
        rw [h (by omega)] at h2
        cases h2
    · obtain rfl : i = j := by omega
      exact h hi⟩
theorem posV_stop {l : List Vt} {k : ByteArray} {j : Nat} (hj : j ≤ l.length) (hs : SrtV l) (H : ∀ i (h : i < l.length), i < j → ltB l[i].1 k = true) (h : ∀ h : j < l.length, ltB l[j].1 k = false) : LoHi (fun r => ltB r.1 k) l j j :=
  ⟨H, fun i hi hij => by
    rcases Nat.lt_or_ge j i with h1 | h1
    · cases hc : ltB l[i].1 k with
      | false => rfl
      | true =>
        have h2 := ltB_trans (hs j i (by omega) hi h1) hc
        rw [h (by omega)] at h2
        cases h2
    · obtain rfl : i = j := by omega
      exact h hi⟩
set_option maxRecDepth 100000 in
set_option maxHeartbeats 8000000 in
theorem refAdd_any (l : List Vt) (n cap : Nat) (ao : Option Addr) (v : Vt) (w : World) (hm : n ≤ 1000000) (h : VA w ao n cap l) (hsort : SrtV l) (hv : v.1.size ≤ maxLen ∧ v.2.size ≤ maxLen) :
    Calls Try.prog 44 #[.slice ao n cap, .agg (vtc v)] w fun e w' => ∃ (l' : List Vt) (ao' : Option Addr) (n' cap' : Nat), e = .returned (.tuple #[.slice ao' n' cap', .bool (!hasV l v.1)]) ∧ (hasV l v.1 = false → l' = insV l v) ∧ VA w' ao' n' cap' l' ∧ Below w.heap.size w w' := by
  have HN := lid h.len
  have HS := lid h.sl
  have HA := lid h
  have HO := lid hsort
  have HZ := lid hv
  have hcap := h.le
  have hmx : cap ≤ 9223372036854775807 := h.max
  have HB : Hid ((w.alloc (.cells #[.string v.1, .string v.2] 27)).heap[w.heap.size]? = some (.cells #[.string v.1, .string v.2] 27 (0, 0))) := lid (heap_alloc_new _ _)
  clear h hsort hv
  go_enter Try.func44, Try.ntmps44
  go_wp2_with fail
  go_loopw [6] (fun i wr => ∃ j : Nat, j ≤ n ∧ i = .int .i64 j ∧ Hid (∀ i (h : i < l.length), i < j → ltB l[i].1 v.1 = true) ∧ Hid (wr.heap[w.heap.size]? = some (.cells #[.string v.1, .string v.2] 27 (0, 0))) ∧ Below w.heap.size w wr) (fun i _ => n - (intOf i).toNat)
  case atStart => exact ⟨0, Nat.zero_le _, rfl, lid (fun i _ h => by omega), HB, ba _ _⟩
  case round =>
    clear HB
    obtain ⟨j, hj, rfl, HG, HB, hb⟩ := hrel
    have p0 := row_cell HB.out 0
    have p1 := row_cell HB.out 1
    have lB := row_lt HB.out
    by_cases hlt : j < n
    · have hkl : j < l.length := by rw [HN.out]; exact hlt
      obtain ⟨b1, o1, rfl, hlb, hcell⟩ := (HS.out.below hb).at_ hlt
      have x0 := hcell (j * 2 + 0) _ (vcells_at hkl).1
      have x1 := hcell (j * 2 + 1) _ (vcells_at hkl).2
      rw [← Nat.add_assoc] at x1
      rw [Nat.add_zero] at x0
      have dk : decide (j < n) = true := by simp; omega
      have HM := lid (fun (h : ltB (l[j]).1 v.1 = true) => posV_more hkl HG.out h)
      have HST := lid (fun (h : ltB (l[j]).1 v.1 = false) => posV_stop (Nat.le_of_lt hkl) HO.out HG.out (fun _ => h))
      have HJ := lid (fun H => hitV_end (k := v.1) (l := l) (a := j) H HO.out)
      have HJ2 : Hid (∀ H : LoHi (fun r => ltB r.1 v.1) l j j, hasV l v.1 = decide ((l[j]).1 = v.1)) := lid (fun H => by rw [HJ.out H, dif_pos hkl])
      obtain ⟨x, hrk⟩ : ∃ r, l[j] = r := ⟨_, rfl⟩
      rw [hrk] at x0 x1 HM HST HJ2
      clear hcell hrk HJ
      cases hl : ltB x.1 v.1 with
      | true =>
        have HV := lid (HM.out hl)
        have hd : Op.bytesLess x.1.toList v.1.toList = true := hl
        clear hl
        go_wp2_with fail
        refine wp_region_seq (fun w' => ∃ s : Since wr.heap.size wr, w' = s.world) [(0, true), (1, true), (2, true), (3, true), (4, true), (5, true), (6, true), (7, true), (8, true), (9, true), (10, true), (11, true), (12, true), (13, true)] (by kernel_rfl) (by kernel_rfl) (by intro c d v a w h; cases d <;> exact h) (since (Below.refl _ _).drew) ?_
        repeat (first | (refine seq_skip (by rfl) (by rfl) ?_; simp only [Act.put, List.setIfInBounds_toArray, List.set_cons_succ, List.set_cons_zero]) | (refine seq_float (by rfl) (by rfl) (by rfl) ?_; intro K hK; go_big_quiet_op; go_big_quiet_on))
        refine seq_nil ?_
        go_wp2_with fail
        go_roundw
        case rel => exact ⟨j + 1, by omega, by go_num, HV, HB, hb.drew⟩
        case measure => simp [intOf]; omega
      | false =>
        have HE := lid (HST.out hl)
        have HP := lid (HE.out.end_ (by omega))
        have hd : Op.bytesLess x.1.toList v.1.toList = false := hl
        have HH := lid (HJ2.out HE.out)
        clear hl
        by_cases he : x.1 = v.1
        · rw [decide_eq_true he] at HH
          have hq := str_eq he
          clear he
          go_wp2_with fail
          refine wp_region_seq (fun w' => ∃ s : Since wr.heap.size wr, w' = s.world) [(0, true), (1, true), (2, true), (3, true), (4, true), (5, true), (6, true), (7, true), (8, true), (9, true), (10, true), (11, true), (12, true), (13, true)] (by kernel_rfl) (by kernel_rfl) (by intro c d v a w h; cases d <;> exact h) (since (Below.refl _ _).drew) ?_
          repeat (first | (refine seq_skip (by rfl) (by rfl) ?_; simp only [Act.put, List.setIfInBounds_toArray, List.set_cons_succ, List.set_cons_zero]) | (refine seq_float (by rfl) (by rfl) (by rfl) ?_; intro K hK; go_big_quiet_op; go_big_quiet_on))
          refine seq_nil ?_
          go_wp2_with fail
          refine wp_region_seq (fun w' => ∃ s : Since wr.heap.size wr.drew, w' = s.world) [(0, true), (1, true), (2, true), (3, true), (4, true), (5, true), (6, true), (7, true), (8, true), (9, true), (10, true), (11, true), (12, true), (13, true)] (by kernel_rfl) (by kernel_rfl) (by intro c d v a w h; cases d <;> exact h) (since (Below.refl _ _).drew) ?_
          repeat (first | (refine seq_skip (by rfl) (by rfl) ?_; simp only [Act.put, List.setIfInBounds_toArray, List.set_cons_succ, List.set_cons_zero]) | (refine seq_float (by rfl) (by rfl) (by rfl) ?_; intro K hK; go_big_quiet_op; go_big_quiet_on))
          refine seq_nil ?_
          go_wp2_with fail
          go_ret2
          exact ⟨l, _, _, _, by rw [HH.out]; rfl, (fun e => by rw [HH.out] at e; cases e), HA.out.below hb.drew.drew, hb.drew.drew⟩
        · rw [decide_eq_false he] at HH
          have hq := str_ne he
          have HIN : Hid (insV l v = l.take j ++ [v] ++ l.drop j) := lid (by rw [insV_at]; unfold posV; rw [HP.out]; simp)
          clear he
          go_wp2_with fail
          refine wp_region_seq (fun w' => ∃ s : Since wr.heap.size wr, w' = s.world) [(0, true), (1, true), (2, true), (3, true), (4, true), (5, true), (6, true), (7, true), (8, true), (9, true), (10, true), (11, true), (12, true), (13, true)] (by kernel_rfl) (by kernel_rfl) (by intro c d v a w h; cases d <;> exact h) (since (Below.refl _ _).drew) ?_
          repeat (first | (refine seq_skip (by rfl) (by rfl) ?_; simp only [Act.put, List.setIfInBounds_toArray, List.set_cons_succ, List.set_cons_zero]) | (refine seq_float (by rfl) (by rfl) (by rfl) ?_; intro K hK; go_big_quiet_op; go_big_quiet_on))
          refine seq_nil ?_
          go_wp2_with fail
          refine wp_region_seq (fun w' => ∃ s : Since wr.heap.size wr.drew, w' = s.world) [(0, true), (1, true), (2, true), (3, true), (4, true), (5, true), (6, true), (7, true), (8, true), (9, true), (10, true), (11, true), (12, true), (13, true)] (by kernel_rfl) (by kernel_rfl) (by intro c d v a w h; cases d <;> exact h) (since (Below.refl _ _).drew) ?_
          repeat (first | (refine seq_skip (by rfl) (by rfl) ?_; simp only [Act.put, List.setIfInBounds_toArray, List.set_cons_succ, List.set_cons_zero]) | (refine seq_float (by rfl) (by rfl) (by rfl) ?_; intro K hK; go_big_quiet_op; go_big_quiet_on))
          refine seq_nil ?_
          obtain ⟨W1, hW1⟩ : ∃ y, wr.drew.drew = y := ⟨_, rfl⟩
          rw [hW1]
          have hbW : Below wr.heap.size wr W1 := by rw [← hW1]; exact (Below.refl _ _).drew.drew
          have HV1 := lid (HA.out.below (hb.trans (hbW.mono hb.size)))
          have HB1 : Hid (W1.heap[w.heap.size]? = some (.cells #[.string v.1, .string v.2] 27 (0, 0))) := lid ((hbW.block _ lB).trans HB.out)
          have hbw := hb.trans (hbW.mono hb.size)
          clear hW1 hbW
          go_wp2_with (at_builtin; go_must (refine wpList_append_sl (w := W1.alloc (.cells #[] 27)) rfl _ _ 36 rfl W1.heap.size 27 (.agg #[.string ⟨#[]⟩, .string ⟨#[]⟩]) 2 32 info_vt Try.underlying36 rfl (by decide) _ 0 [] (ownsRow_empty rfl (Nat.le_refl _)) rfl (some ⟨b1, o1, none⟩) j cap ((vcells l).take (j * 2)) rfl ((HV1.out.sl.take hj).alloc _) HV1.out.z (fun u hu => vcells_one l u (List.mem_of_mem_take hu)) (by simp only [maxLen]; omega) (by omega) (by simp) ?_))
          intro v2 w2 hown2 hb2
          have hbA : Below W1.heap.size W1 w2 := (ba W1 _).trans hb2
          have HB2 : Hid (w2.heap[w.heap.size]? = some (.cells #[.string v.1, .string v.2] 27 (0, 0))) := lid ((hbA.block _ (row_lt HB1.out)).trans HB1.out)
          have q0 := row_cell HB2.out 0
          have q1 := row_cell HB2.out 1
          have hs2 : W1.heap.size ≤ w2.heap.size := hbA.size
          clear hb2 p0 p1
          go_wp2_with (at_builtin; go_must (refine wpList_append_new (w := w2) (vtc v) rfl _ _ 36 rfl W1.heap.size 27 (.agg #[.string ⟨#[]⟩, .string ⟨#[]⟩]) 2 32 info_vt Try.underlying36 rfl (by decide) _ j _ hown2 rfl rfl rfl (by intro u hu; exact vcells_one [v] u (by simpa [vcells] using hu)) (by simp only [maxLen]; omega) (by omega) hs2 ?_))
          intro v3 w3 hown3 hb3 _
          have hbC : Below W1.heap.size W1 w3 := hbA.trans hb3
          have HV3 := lid (HV1.out.below hbC)
          have SLD : Sl w3 2 (some ⟨b1, o1 + j * 2, none⟩) (n - j) ((vcells l).drop (j * 2)) := by
            have := HV3.out.sl.drop hj hcap
            rw [if_neg (by omega)] at this
            simpa only [Option.map_some, Addr.add_lit] using this
          have hs3 : W1.heap.size ≤ w3.heap.size := hbC.size
          clear q0 q1 hb3 hown2
          go_wp2_with (at_builtin; go_must (refine wpList_append_sl (w := w3) rfl _ _ 36 rfl W1.heap.size 27 (.agg #[.string ⟨#[]⟩, .string ⟨#[]⟩]) 2 32 info_vt Try.underlying36 rfl (by decide) _ (j + 1) _ hown3 rfl (some ⟨b1, o1 + j * 2, none⟩) _ _ ((vcells l).drop (j * 2)) rfl SLD (by intro h; cases h) (by intro u hu; exact vcells_one l u (by first | exact List.mem_of_mem_drop hu | cases hu)) (by simp only [maxLen]; omega) (by omega) hs3 ?_))
          intro v4 w4 hown4 hb4
          have HOW : Hid (w4.ownsRow W1.heap.size 27 2 v4 (n + 1) (vcells (insV l v))) := lid (by
            rw [HIN.out]
            rw [vcells_append, vcells_append, show vcells (l.take j) = (vcells l).take (j * 2) from (flat_take vte_length l j).symm]
            rw [show vcells (l.drop j) = (vcells l).drop (j * 2) from (flat_drop vte_length l j).symm, show n + 1 = j + 1 + (n - j) by omega]
            simpa [vcells] using hown4)
          have hbD := hbw.trans ((hbC.trans hb4).mono hbw.size)
          clear hown4 hb4 hbC hbA hbw
          have HSZ : Hid (∀ u ∈ insV l v, u.1.size ≤ maxLen ∧ u.2.size ≤ maxLen) := lid (fun u hu => by
            rw [HIN.out] at hu
            rcases List.mem_append.1 hu with hu | hu
            · rcases List.mem_append.1 hu with hu | hu
              · exact HA.out.sz u (List.mem_of_mem_take hu)
              · rw [List.mem_singleton.1 hu]; exact HZ.out
            · exact HA.out.sz u (List.mem_of_mem_drop hu))
          obtain ⟨ao9, cap9, rfl, HV9⟩ := VA.of_own HOW.out HSZ.out
          go_wp2_with fail
          go_ret2
          exact ⟨_, _, _, _, by rw [HH.out]; rfl, (fun _ => rfl), HV9, hbD⟩
    · obtain rfl : j = n := by omega
      have dk : decide (j < j) = false := by simp
      have HE := lid (posV_stop (Nat.le_of_eq HN.out.symm) HO.out HG.out (fun h => by rw [HN.out] at h; omega))
      have HP := lid (HE.out.end_ (Nat.le_of_eq HN.out.symm))
      have HH : Hid (hasV l v.1 = false) := lid (by rw [hitV_end HE.out HO.out, dif_neg (by rw [HN.out]; omega)])
      have HIN : Hid (insV l v = l.take j ++ [v] ++ l.drop j) := lid (by rw [insV_at]; unfold posV; rw [HP.out]; simp)
      go_wp2_with fail
      refine wp_region_seq (fun w' => ∃ s : Since wr.heap.size wr, w' = s.world) [(0, true), (1, true), (2, true), (3, true), (4, true), (5, true), (6, true), (7, true), (8, true), (9, true), (10, true), (11, true), (12, true), (13, true)] (by kernel_rfl) (by kernel_rfl) (by intro c d v a w h; cases d <;> exact h) (since (Below.refl _ _).drew) ?_
      repeat (first | (refine seq_skip (by rfl) (by rfl) ?_; simp only [Act.put, List.setIfInBounds_toArray, List.set_cons_succ, List.set_cons_zero]) | (refine seq_float (by rfl) (by rfl) (by rfl) ?_; intro K hK; go_big_quiet_op; go_big_quiet_on))
      refine seq_nil ?_
      go_wp2_with fail
      refine wp_region_seq (fun w' => ∃ s : Since wr.heap.size wr.drew, w' = s.world) [(0, true), (1, true), (2, true), (3, true), (4, true), (5, true), (6, true), (7, true), (8, true), (9, true), (10, true), (11, true), (12, true), (13, true)] (by kernel_rfl) (by kernel_rfl) (by intro c d v a w h; cases d <;> exact h) (since (Below.refl _ _).drew) ?_
      repeat (first | (refine seq_skip (by rfl) (by rfl) ?_; simp only [Act.put, List.setIfInBounds_toArray, List.set_cons_succ, List.set_cons_zero]) | (refine seq_float (by rfl) (by rfl) (by rfl) ?_; intro K hK; go_big_quiet_op; go_big_quiet_on))
      refine seq_nil ?_
      by_cases hcj : cap = j
      · have hcj' := hcj.symm
        subst hcj'
        obtain ⟨W1, hW1⟩ : ∃ y, wr.drew.drew = y := ⟨_, rfl⟩
        rw [hW1]
        have hbW : Below wr.heap.size wr W1 := by rw [← hW1]; exact (Below.refl _ _).drew.drew
        have HV1 := lid (HA.out.below (hb.trans (hbW.mono hb.size)))
        have HB1 : Hid (W1.heap[w.heap.size]? = some (.cells #[.string v.1, .string v.2] 27 (0, 0))) := lid ((hbW.block _ lB).trans HB.out)
        have hbw := hb.trans (hbW.mono hb.size)
        clear hW1 hbW
        go_wp2_with (at_builtin; go_must (refine wpList_append_sl (w := W1.alloc (.cells #[] 27)) rfl _ _ 36 rfl W1.heap.size 27 (.agg #[.string ⟨#[]⟩, .string ⟨#[]⟩]) 2 32 info_vt Try.underlying36 rfl (by decide) _ 0 [] (ownsRow_empty rfl (Nat.le_refl _)) rfl ao j j ((vcells l).take (j * 2)) rfl ((HV1.out.sl.take hj).alloc _) HV1.out.z (fun u hu => vcells_one l u (List.mem_of_mem_take hu)) (by simp only [maxLen]; omega) (by omega) (by simp) ?_))
        intro v2 w2 hown2 hb2
        have hbA : Below W1.heap.size W1 w2 := (ba W1 _).trans hb2
        have HB2 : Hid (w2.heap[w.heap.size]? = some (.cells #[.string v.1, .string v.2] 27 (0, 0))) := lid ((hbA.block _ (row_lt HB1.out)).trans HB1.out)
        have q0 := row_cell HB2.out 0
        have q1 := row_cell HB2.out 1
        have hs2 : W1.heap.size ≤ w2.heap.size := hbA.size
        clear hb2 p0 p1
        go_wp2_with (at_builtin; go_must (refine wpList_append_new (w := w2) (vtc v) rfl _ _ 36 rfl W1.heap.size 27 (.agg #[.string ⟨#[]⟩, .string ⟨#[]⟩]) 2 32 info_vt Try.underlying36 rfl (by decide) _ j _ hown2 rfl rfl rfl (by intro u hu; exact vcells_one [v] u (by simpa [vcells] using hu)) (by simp only [maxLen]; omega) (by omega) hs2 ?_))
        intro v3 w3 hown3 hb3 _
        have hbC : Below W1.heap.size W1 w3 := hbA.trans hb3
        have HV3 := lid (HV1.out.below hbC)
        have SLD : Sl w3 2 ao 0 [] := Sl.nil
        have hs3 : W1.heap.size ≤ w3.heap.size := hbC.size
        clear q0 q1 hb3 hown2
        go_wp2_with (at_builtin; go_must (refine wpList_append_sl (w := w3) rfl _ _ 36 rfl W1.heap.size 27 (.agg #[.string ⟨#[]⟩, .string ⟨#[]⟩]) 2 32 info_vt Try.underlying36 rfl (by decide) _ (j + 1) _ hown3 rfl ao _ _ [] rfl SLD (fun _ => by omega) (by intro u hu; exact vcells_one l u (by first | exact List.mem_of_mem_drop hu | cases hu)) (by simp only [maxLen]; omega) (by omega) hs3 ?_))
        intro v4 w4 hown4 hb4
        have HOW : Hid (w4.ownsRow W1.heap.size 27 2 v4 (j + 1) (vcells (insV l v))) := lid (by
          rw [HIN.out]
          rw [vcells_append, vcells_append, show vcells (l.take j) = (vcells l).take (j * 2) from (flat_take vte_length l j).symm]
          rw [List.drop_of_length_le (Nat.le_of_eq HN.out)]
          simpa [vcells] using hown4)
        have hbD := hbw.trans ((hbC.trans hb4).mono hbw.size)
        clear hown4 hb4 hbC hbA hbw
        have HSZ : Hid (∀ u ∈ insV l v, u.1.size ≤ maxLen ∧ u.2.size ≤ maxLen) := lid (fun u hu => by
          rw [HIN.out] at hu
          rcases List.mem_append.1 hu with hu | hu
          · rcases List.mem_append.1 hu with hu | hu
            · exact HA.out.sz u (List.mem_of_mem_take hu)
            · rw [List.mem_singleton.1 hu]; exact HZ.out
          · exact HA.out.sz u (List.mem_of_mem_drop hu))
        obtain ⟨ao9, cap9, rfl, HV9⟩ := VA.of_own HOW.out HSZ.out
        go_wp2_with fail
        go_ret2
        exact ⟨_, _, _, _, by rw [HH.out]; rfl, (fun _ => rfl), HV9, hbD⟩
      · have hz' : ao.map (fun x => x.add (j * 2)) = none → cap - j = 0 := fun e => by
          cases ao with
          | none => have := HA.out.z rfl; omega
          | some a => cases e
        obtain ⟨W1, hW1⟩ : ∃ y, wr.drew.drew = y := ⟨_, rfl⟩
        rw [hW1]
        have hbW : Below wr.heap.size wr W1 := by rw [← hW1]; exact (Below.refl _ _).drew.drew
        have HV1 := lid (HA.out.below (hb.trans (hbW.mono hb.size)))
        have HB1 : Hid (W1.heap[w.heap.size]? = some (.cells #[.string v.1, .string v.2] 27 (0, 0))) := lid ((hbW.block _ lB).trans HB.out)
        have hbw := hb.trans (hbW.mono hb.size)
        clear hW1 hbW
        go_wp2_with (at_builtin; go_must (refine wpList_append_sl (w := W1.alloc (.cells #[] 27)) rfl _ _ 36 rfl W1.heap.size 27 (.agg #[.string ⟨#[]⟩, .string ⟨#[]⟩]) 2 32 info_vt Try.underlying36 rfl (by decide) _ 0 [] (ownsRow_empty rfl (Nat.le_refl _)) rfl ao j cap ((vcells l).take (j * 2)) rfl ((HV1.out.sl.take hj).alloc _) HV1.out.z (fun u hu => vcells_one l u (List.mem_of_mem_take hu)) (by simp only [maxLen]; omega) (by omega) (by simp) ?_))
        intro v2 w2 hown2 hb2
        have hbA : Below W1.heap.size W1 w2 := (ba W1 _).trans hb2
        have HB2 : Hid (w2.heap[w.heap.size]? = some (.cells #[.string v.1, .string v.2] 27 (0, 0))) := lid ((hbA.block _ (row_lt HB1.out)).trans HB1.out)
        have q0 := row_cell HB2.out 0
        have q1 := row_cell HB2.out 1
        have hs2 : W1.heap.size ≤ w2.heap.size := hbA.size
        clear hb2 p0 p1
        go_wp2_with (at_builtin; go_must (refine wpList_append_new (w := w2) (vtc v) rfl _ _ 36 rfl W1.heap.size 27 (.agg #[.string ⟨#[]⟩, .string ⟨#[]⟩]) 2 32 info_vt Try.underlying36 rfl (by decide) _ j _ hown2 rfl rfl rfl (by intro u hu; exact vcells_one [v] u (by simpa [vcells] using hu)) (by simp only [maxLen]; omega) (by omega) hs2 ?_))
        intro v3 w3 hown3 hb3 _
        have hbC : Below W1.heap.size W1 w3 := hbA.trans hb3
        have HV3 := lid (HV1.out.below hbC)
        have SLD : Sl w3 2 (ao.map (fun x => x.add (j * 2))) 0 [] := Sl.nil
        have hs3 : W1.heap.size ≤ w3.heap.size := hbC.size
        clear q0 q1 hb3 hown2
        go_wp2_with (at_builtin; go_must (refine wpList_append_sl (w := w3) rfl _ _ 36 rfl W1.heap.size 27 (.agg #[.string ⟨#[]⟩, .string ⟨#[]⟩]) 2 32 info_vt Try.underlying36 rfl (by decide) _ (j + 1) _ hown3 rfl (ao.map (fun x => x.add (j * 2))) _ _ [] rfl SLD hz' (by intro u hu; exact vcells_one l u (by first | exact List.mem_of_mem_drop hu | cases hu)) (by simp only [maxLen]; omega) (by omega) hs3 ?_))
        intro v4 w4 hown4 hb4
        have HOW : Hid (w4.ownsRow W1.heap.size 27 2 v4 (j + 1) (vcells (insV l v))) := lid (by
          rw [HIN.out]
          rw [vcells_append, vcells_append, show vcells (l.take j) = (vcells l).take (j * 2) from (flat_take vte_length l j).symm]
          rw [List.drop_of_length_le (Nat.le_of_eq HN.out)]
          simpa [vcells] using hown4)
        have hbD := hbw.trans ((hbC.trans hb4).mono hbw.size)
        clear hown4 hb4 hbC hbA hbw
        have HSZ : Hid (∀ u ∈ insV l v, u.1.size ≤ maxLen ∧ u.2.size ≤ maxLen) := lid (fun u hu => by
          rw [HIN.out] at hu
          rcases List.mem_append.1 hu with hu | hu
          · rcases List.mem_append.1 hu with hu | hu
            · exact HA.out.sz u (List.mem_of_mem_take hu)
            · rw [List.mem_singleton.1 hu]; exact HZ.out
          · exact HA.out.sz u (List.mem_of_mem_drop hu))
        obtain ⟨ao9, cap9, rfl, HV9⟩ := VA.of_own HOW.out HSZ.out
        go_wp2_with fail
        go_ret2
        exact ⟨_, _, _, _, by rw [HH.out]; rfl, (fun _ => rfl), HV9, hbD⟩

theorem ba_empty (w : World) (g : Nat) : BA w (some ⟨g, 0, none⟩) 0 0 [] := ⟨rfl, Sl.nil, Nat.le_refl _, by simp [maxLen], fun e => (by cases e), fun v h => (by cases h)⟩
theorem votes_one {wk o : ByteArray} : votesE [(wk, o)] = if workerB wk = false then 6 else if 65536 < o.size then 4 else 0 := by
  unfold votesE
  rw [if_neg (by simp)]
  simp [votesGo]
set_option maxRecDepth 100000 in
set_option maxHeartbeats 16000000 in
theorem refVote_any (l : List Rw) (n cap : Nat) (ao : Option Addr) (k : Dg) (wk o : ByteArray) (w : World) (hm : n ≤ 100000) (h : BA w ao n cap l) (hv : ∀ r ∈ l, r.vs.length ≤ 100000) (hwk : wk.size ≤ maxLen) (ho : o.size ≤ maxLen) :
    Calls Try.prog 13 #[.slice ao n cap, dv k, .string wk, .string o] w fun e w' => ∃ (l' : List Rw) (ao' : Option Addr) (n' cap' : Nat), e = .returned (.tuple #[.slice ao' n' cap', .int .i64 (voteE (l.map Rw.bal) k wk o)]) ∧ BA w' ao' n' cap' l' ∧ l'.map Rw.bal = voteL (l.map Rw.bal) k wk o ∧ Below w.heap.size w w' := by
  have HB := lid h
  have HVS := lid hv
  have HWK := lid hwk
  have HOS := lid ho
  have KB : Hid ((w.alloc (.cells #[.int .u64 k.1.toNat, .int .u64 k.2.toNat] 25)).heap[w.heap.size]? = some (.cells #[.int .u64 k.1.toNat, .int .u64 k.2.toNat] 25 (0, 0))) := lid (heap_alloc_new _ _)
  have CK := lid (refCheck_any l n cap ao (w.alloc (.cells #[.int .u64 k.1.toNat, .int .u64 k.2.toNat] 25)) (by omega) (h.below (ba _ _)) (fun r hr => by have := hv r hr; omega))
  clear h hv hwk ho
  unfold dv
  go_enter Try.func13, Try.ntmps13
  go_wp2_with fail
  by_cases hck : checkB (l.map Rw.bal) = 0
  case neg =>
    have HE := lid (voteE_check (k := k) (wk := wk) (o := o) hck)
    obtain ⟨c, hc⟩ : ∃ c, checkB (l.map Rw.bal) = c := ⟨_, rfl⟩
    rw [hc] at CK hck
    have d1 : (c == 0) = false := by simpa using hck
    have d2 : (c != 0) = true := by simpa using hck
    clear hc hck
    (with_reducible refine (CK.out).mono ?_); rintro e w1 ⟨rfl, hb1⟩
    go_wp2_with fail
    go_ret2
    exact ⟨[], _, _, _, by rw [HE.out]; rfl, ba_empty _ _, by rw [vote_bad HE.out (by decide)]; rfl, ((ba _ _).trans (hb1.mono (by simp))).trans ((ba _ _).mono (by have := hb1.size; simp at this; omega))⟩
  have HCK := lid hck
  rw [hck] at CK
  clear hck
  (with_reducible refine (CK.out).mono ?_); rintro e w1 ⟨rfl, hb1⟩
  clear CK
  have hk0 : w.heap.size < w1.heap.size := by have := hb1.size; simp at this; omega
  replace KB := lid ((hb1.block _ (by simp)).trans KB.out)
  have hb := (ba w (.cells #[.int .u64 k.1.toNat, .int .u64 k.2.toNat] 25)).trans (hb1.mono (by simp))
  clear hb1
  go_wp2_with fail
  obtain ⟨W2, hW2⟩ : ∃ y, w1.alloc (.cells #[.string wk, .string o] 27) = y := ⟨_, rfl⟩
  obtain ⟨W3, hW3⟩ : ∃ y, W2.alloc (.cells #[.string wk, .string o] 27) = y := ⟨_, rfl⟩
  have e2 : W2.heap.size = w1.heap.size + 1 := by rw [← hW2]; simp
  have VB : Hid (W3.heap[w1.heap.size]? = some (.cells #[.string wk, .string o] 27 (0, 0))) := lid (by rw [← hW3, Below.heap_alloc _ _ _ (by omega), ← hW2]; exact heap_alloc_new _ _)
  have VB2 : Hid (W3.heap[W2.heap.size]? = some (.cells #[.string wk, .string o] 27 (0, 0))) := lid (by rw [← hW3]; exact heap_alloc_new _ _)
  have hb3 : Below w1.heap.size w1 W3 := by rw [← hW3, ← hW2]; exact ba2 _ _ _
  have hv0 : w1.heap.size < W3.heap.size := by rw [← hW3]; simp; omega
  rw [hW2] at *
  rw [e2] at *
  rw [hW3] at *
  clear hW2 hW3 e2
  replace KB := lid ((hb3.block _ hk0).trans KB.out)
  replace hb := hb.trans (hb3.mono hb.size)
  clear hb3
  have HVA : Hid (VA W3 (some ⟨w1.heap.size + 1, 0, none⟩) 1 1 [(wk, o)]) := lid ⟨rfl, ⟨rfl, .inr ⟨w1.heap.size + 1, 0, rfl, row_lt VB2.out, fun j u hu => by rw [Nat.zero_add, row_cell VB2.out]; simpa [vcells] using hu⟩⟩, Nat.le_refl _, by simp [maxLen], fun e => (by cases e), fun v hv => by rw [List.mem_singleton.1 hv]; exact ⟨HWK.out, HOS.out⟩⟩
  have CV := lid (refVotes_any [(wk, o)] 1 1 _ W3 (by omega) HVA.out)
  clear HVA VB2
  cases hw : workerB wk with
  | false =>
    have HE := lid (voteE_worker (k := k) (o := o) HCK.out hw)
    rw [votes_one, if_pos hw] at CV
    clear hw
    (with_reducible refine (CV.out).mono ?_); rintro e w4 ⟨rfl, hb4⟩
    go_wp2_with fail
    go_ret2
    exact ⟨[], _, _, _, by rw [HE.out]; rfl, ba_empty _ _, by rw [vote_bad HE.out (by decide)]; rfl, (hb.trans (hb4.mono hb.size)).trans ((ba _ _).mono (by have := hb.size; have := hb4.size; omega))⟩
  | true =>
    have HW := lid hw
    by_cases hz : 65536 < o.size
    · have HE := lid (voteE_limit (k := k) HCK.out HW.out hz)
      rw [votes_one, if_neg (by simp [hw]), if_pos hz] at CV
      clear hz hw
      (with_reducible refine (CV.out).mono ?_); rintro e w4 ⟨rfl, hb4⟩
      go_wp2_with fail
      go_ret2
      exact ⟨[], _, _, _, by rw [HE.out]; rfl, ba_empty _ _, by rw [vote_bad HE.out (by decide)]; rfl, (hb.trans (hb4.mono hb.size)).trans ((ba _ _).mono (by have := hb.size; have := hb4.size; omega))⟩
    have HZ := lid hz
    rw [votes_one, if_neg (by simp [hw]), if_neg hz] at CV
    clear hz hw
    have HBO := lid (checkB_ok.1 HCK.out)
    have HSR := lid (srtR_of HBO.out)
    (with_reducible refine (CV.out).mono ?_); rintro e w4 ⟨rfl, hb4⟩
    clear CV
    replace KB := lid ((hb4.block _ (by omega)).trans KB.out)
    replace VB := lid ((hb4.block _ hv0).trans VB.out)
    replace hb := hb.trans (hb4.mono hb.size)
    have hv1 : w1.heap.size < w4.heap.size := by have := hb4.size; omega
    clear hb4 hv0
    have p0 := row_cell KB.out 0
    have p1 := row_cell KB.out 1
    have q0 := row_cell VB.out 0
    have q1 := row_cell VB.out 1
    have lK := row_lt KB.out
    have CA := lid (refAbout_any l n cap ao k w4.drew (by omega) (HB.out.below hb.drew))
    go_wp2_with fail
    refine wp_region_seq (fun w' => ∃ s : Since w4.heap.size w4, w' = s.world) [(0, true), (1, true), (3, true), (2, false), (4, false), (5, true), (6, true), (7, true), (8, false), (9, false)] (by kernel_rfl) (by kernel_rfl) (by intro c d v a w h; cases d <;> exact h) (since (Below.refl _ _).drew) ?_
    repeat (first | (refine seq_skip (by rfl) (by rfl) ?_; simp only [Act.put, List.setIfInBounds_toArray, List.set_cons_succ, List.set_cons_zero]) | (refine seq_float (by rfl) (by rfl) (by rfl) ?_; intro K hK; go_big_quiet_op; go_big_quiet_on))
    refine seq_chain (by rfl) ?_
    intro K hK
    go_wp2_with fail
    (with_reducible refine (CA.out).mono ?_); rintro e w5 ⟨lA, aoA, nA, capA, rfl, hlA, hVA, hb5⟩
    clear CA
    have hb5' : Below w4.heap.size w4 w5 := (Below.refl _ _).drew.trans hb5
    have HLA := lid hlA
    have HVA := lid hVA
    have hnA : nA ≤ 100000 := by
      rw [← hVA.len, hlA]
      cases hh : hitR l k with
      | false => rw [about_none hh]; simp
      | true =>
        obtain ⟨hp, hk⟩ := posR_hit HSR.out hh
        rw [about_some HSR.out hp hk]
        exact HVS.out _ (List.getElem_mem hp)
    have HSV : Hid (SrtV lA) := lid (by
      rw [hlA]
      cases hh : hitR l k with
      | false => rw [about_none hh]; intro i j hi; simp at hi
      | true =>
        obtain ⟨hp, hk⟩ := posR_hit HSR.out hh
        rw [about_some HSR.out hp hk]
        exact srtV_of (HBO.out.ok (l[posR l k]).bal (List.mem_map.2 ⟨_, List.getElem_mem hp, rfl⟩)).2)
    have CD := lid (refAdd_any lA nA capA aoA (wk, o) w5 (by omega) hVA HSV.out ⟨HWK.out, HOS.out⟩)
    clear hlA hVA hb5
    go_wp2_with fail
    refine hK.out _ _ (since hb5') ?_
    clear hK K
    repeat (first | (refine seq_skip (by rfl) (by rfl) ?_; simp only [Act.put, List.setIfInBounds_toArray, List.set_cons_succ, List.set_cons_zero]) | (refine seq_float (by rfl) (by rfl) (by rfl) ?_; intro K hK; go_big_quiet_op; go_big_quiet_on))
    refine seq_chain (by rfl) ?_
    intro K hK
    go_wp2_with fail
    (with_reducible refine (CD.out).mono ?_); rintro e w6 ⟨lD, aoD, nD, capD, rfl, hlD, hVD, hb6⟩
    clear CD
    have hb6' : Below w4.heap.size w4 w6 := hb5'.trans (hb6.mono hb5'.size)
    have HLD := lid hlD
    have HVD := lid hVD
    clear hlD hVD hb6 hb5'
    go_wp2_with fail
    refine hK.out _ _ (since hb6') ?_
    clear hK K
    repeat (first | (refine seq_skip (by rfl) (by rfl) ?_; simp only [Act.put, List.setIfInBounds_toArray, List.set_cons_succ, List.set_cons_zero]) | (refine seq_float (by rfl) (by rfl) (by rfl) ?_; intro K hK; go_big_quiet_op; go_big_quiet_on))
    refine seq_chain (by rfl) ?_
    intro K hK
    go_wp2_with fail
    refine hK.out _ _ (since hb6') ?_
    clear hK K
    repeat (first | (refine seq_skip (by rfl) (by rfl) ?_; simp only [Act.put, List.setIfInBounds_toArray, List.set_cons_succ, List.set_cons_zero]) | (refine seq_float (by rfl) (by rfl) (by rfl) ?_; intro K hK; go_big_quiet_op; go_big_quiet_on))
    refine seq_chain (by rfl) ?_
    intro K hK
    go_wp2_with fail
    refine hK.out _ _ (since hb6') ?_
    clear hK K
    repeat (first | (refine seq_skip (by rfl) (by rfl) ?_; simp only [Act.put, List.setIfInBounds_toArray, List.set_cons_succ, List.set_cons_zero]) | (refine seq_float (by rfl) (by rfl) (by rfl) ?_; intro K hK; go_big_quiet_op; go_big_quiet_on))
    refine seq_nil ?_
    replace KB := lid ((hb6'.block _ lK).trans KB.out)
    replace hb := hb.trans (hb6'.mono hb.size)
    clear hb6' p0 p1 q0 q1 lK VB
    cases hh : hasV lA wk with
    | true =>
      have HE := lid (voteE_exists (o := o) HCK.out HW.out HZ.out (by rw [← HLA.out]; exact hh))
      clear hh
      go_wp2_with fail
      go_ret2
      exact ⟨[], _, _, _, by rw [HE.out]; rfl, ba_empty _ _, by rw [vote_bad HE.out (by decide)]; rfl, hb.trans ((ba _ _).mono hb.size)⟩
    | false =>
      have HE0 := lid (voteE_ok (o := o) HCK.out HW.out HZ.out (by rw [← HLA.out]; exact hh))
      have HE := HE0
      have HL : Hid (voteL (l.map Rw.bal) k wk o = putB (l.map Rw.bal) k lD) := lid (by rw [vote_good HE.out, ← HLA.out, HLD.out hh])
      clear hh HLD HVA HLA
      rw [Bool.not_false]
      go_wp2_with fail
      obtain ⟨W7, hW7⟩ : ∃ y, w6.alloc (.cells #[] 61) = y := ⟨_, rfl⟩
      have HOW : Hid (W7.ownsRow w6.heap.size 61 3 (.slice (some ⟨w6.heap.size, 0, none⟩) 0 0) 0 (rcells [])) := lid (by rw [← hW7]; exact ownsRow_empty rfl (Nat.le_refl _))
      have hb7 : Below w6.heap.size w6 W7 := by rw [← hW7]; exact ba _ _
      have hk6 := row_lt KB.out
      rw [hW7]
      clear hW7
      go_loopw [14, 15] (fun vo i wr => ∃ j : Nat, j ≤ n ∧ i = .int .i64 j ∧ Hid (∀ i (h : i < l.length), i < j → ltD l[i].key k = true) ∧ Hid (wr.ownsRow w6.heap.size 61 3 vo j (rcells (l.take j))) ∧ Below w6.heap.size w6 wr) (fun _ i _ => n - (intOf i).toNat)
      case atStart => exact ⟨0, Nat.zero_le _, rfl, lid (fun i _ h => by omega), HOW, hb7⟩
      case round =>
        clear HOW hb7
        obtain ⟨j, hj, rfl, HG, HOW, hb7⟩ := hrel
        obtain ⟨aoO, capO, rfl⟩ := own_slice HOW.out
        have KB7 := lid ((hb7.block _ hk6).trans KB.out)
        have HB7 := lid (HB.out.below (hb.trans (hb7.mono hb.size)))
        have hcap := HB7.out.le
        have hmx : cap ≤ 9223372036854775807 := HB7.out.max
        have p0 := row_cell KB7.out 0
        have p1 := row_cell KB7.out 1
        have lB := row_lt KB7.out
        have h67 := hb7.size
        by_cases hlt : j < n
        · have hkl : j < l.length := by rw [HB.out.len]; exact hlt
          obtain ⟨b1, o1, rfl, hlb0, hcell⟩ := HB.out.sl.at_ hlt
          have hwr := hb.trans (hb7.mono hb.size)
          have hlb : b1 < wr.heap.size := Nat.lt_of_lt_of_le hlb0 hwr.size
          have x0 := hcell (j * 3 + 0) _ (rcells_at hkl).1
          have x1 := hcell (j * 3 + 1) _ (rcells_at hkl).2.1
          have x2 := hcell (j * 3 + 2) _ (rcells_at hkl).2.2
          rw [← Nat.add_assoc] at x1 x2
          rw [Nat.add_zero] at x0
          have dk : decide (j < n) = true := by simp; omega
          have hjt : l.take (j + 1) = l.take j ++ [l[j]] := List.take_succ_eq_append_getElem hkl
          have HMO := lid (fun (h : ltD (l[j]).key k = true) => posR_more hkl HG.out h)
          have HST := lid (fun (h : ltD (l[j]).key k = false) => posR_stop (Nat.le_of_lt hkl) HSR.out HG.out (fun _ => h))
          have HPO : Hid (posR l k = j → (l[j]).key = k → putB (l.map Rw.bal) k lD = (l.take j).map Rw.bal ++ (k, lD) :: (l.drop (j + 1)).map Rw.bal) := lid (fun e h => by
            have hp : posR l k < l.length := by omega
            have hk : (l[posR l k]).key = k := by simp only [e]; exact h
            have := put_old (L := lD) hp hk
            rw [e] at this
            exact this)
          have HPN : Hid (LoHi (fun r => ltD r.key k) l j j → ¬ (l[j]).key = k → putB (l.map Rw.bal) k lD = (l.take j).map Rw.bal ++ (k, lD) :: (l.drop j).map Rw.bal) := lid (fun H h => by
            have hh : hitR l k = false := by rw [hitR_end H HSR.out, dif_pos hkl]; simpa using h
            have := put_new (L := lD) hh
            rw [show posR l k = j from H.end_ (by omega)] at this
            exact this)
          obtain ⟨x, hx⟩ : ∃ r, l[j] = r := ⟨_, rfl⟩
          rw [hx] at x0 x1 x2 HMO HST HPO HPN hjt
          have X0 := lid x0
          have X1 := lid x1
          replace x0 := (bc hwr hlb0 _).trans x0
          replace x1 := (bc hwr hlb0 _).trans x1
          replace x2 := (bc hwr hlb0 _).trans x2
          clear hwr
          have HJT : Hid (rcells (l.take (j + 1)) = rcells (l.take j) ++ rwe x) := lid (by rw [hjt, rcells_append]; simp [rcells])
          have CL := lid (refLess_any x.key k wr.drew)
          clear hcell hx hjt
          cases hl : ltD x.key k with
          | true =>
            have HV := lid (HMO.out hl)
            rw [hl] at CL
            clear hl HST HPO HPN HMO
            go_wp2_with fail
            refine wp_region_seq (fun w' => ∃ s : Since wr.heap.size wr, w' = s.world) [(0, true), (1, true), (2, true), (3, true), (4, true), (5, true), (6, true), (7, true), (8, true), (9, true), (10, true), (11, false), (12, true)] (by kernel_rfl) (by kernel_rfl) (by intro c d v a w h; cases d <;> exact h) (since (Below.refl _ _).drew) ?_
            repeat (first | (refine seq_skip (by rfl) (by rfl) ?_; simp only [Act.put, List.setIfInBounds_toArray, List.set_cons_succ, List.set_cons_zero]) | (refine seq_float (by rfl) (by rfl) (by rfl) ?_; intro K hK; go_big_quiet_op; go_big_quiet_on))
            refine seq_chain (by rfl) ?_
            intro K hK
            go_wp2_with fail
            (with_reducible refine (CL.out).mono ?_); rintro e w8 ⟨rfl, hb8⟩
            have hb8' : Below wr.heap.size wr w8 := (Below.refl _ _).drew.trans hb8
            go_wp2_with fail
            refine hK.out _ _ (since hb8') ?_
            clear hK K
            repeat (first | (refine seq_skip (by rfl) (by rfl) ?_; simp only [Act.put, List.setIfInBounds_toArray, List.set_cons_succ, List.set_cons_zero]) | (refine seq_float (by rfl) (by rfl) (by rfl) ?_; intro K hK; go_big_quiet_op; go_big_quiet_on))
            refine seq_nil ?_
            have y0 := (bc hb8' hlb _).trans x0
            have y1 := (bc hb8' hlb _).trans x1
            have y2 := (bc hb8' hlb _).trans x2
            have HO8 := lid (ownsRow_below HOW.out hb8')
            have hb78 := hb7.trans (hb8'.mono hb7.size)
            clear CL x0 x1 x2 p0 p1 lB hb8 hb8'
            go_wp2_with (at_builtin; go_must (refine wpList_append_new (w := w8) (rwc x) rfl _ _ 22 rfl w6.heap.size 61 (.agg #[.int .u64 0, .int .u64 0, .slice none 0 0]) 3 40 info_bl Try.underlying22 rfl (by decide) _ j _ HO8.out rfl rfl rfl (by intro u hu; exact rcells_one [x] u (by simpa [rcells] using hu)) (by simp only [maxLen]; omega) (by omega) hb78.size ?_))
            intro v9 w9 hown9 hb9 _
            have HO9 : Hid (w9.ownsRow w6.heap.size 61 3 v9 (j + 1) (rcells (l.take (j + 1)))) := lid (by rw [HJT.out]; exact hown9)
            have hb79 := hb78.trans hb9
            clear hown9 hb9 y0 y1 y2
            go_wp2_with fail
            go_roundw
            case rel => exact ⟨j + 1, by omega, by go_num, HV, HO9, hb79⟩
            case measure => simp [intOf]; omega
          | false =>
            have HE := lid (HST.out hl)
            have HP : Hid (posR l k = j) := lid (HE.out.end_ (by omega))
            rw [hl] at CL
            clear hl HMO HST
            go_wp2_with fail
            refine wp_region_seq (fun w' => ∃ s : Since wr.heap.size wr, w' = s.world) [(0, true), (1, true), (2, true), (3, true), (4, true), (5, true), (6, true), (7, true), (8, true), (9, true), (10, true), (11, false), (12, true)] (by kernel_rfl) (by kernel_rfl) (by intro c d v a w h; cases d <;> exact h) (since (Below.refl _ _).drew) ?_
            repeat (first | (refine seq_skip (by rfl) (by rfl) ?_; simp only [Act.put, List.setIfInBounds_toArray, List.set_cons_succ, List.set_cons_zero]) | (refine seq_float (by rfl) (by rfl) (by rfl) ?_; intro K hK; go_big_quiet_op; go_big_quiet_on))
            refine seq_chain (by rfl) ?_
            intro K hK
            go_wp2_with fail
            (with_reducible refine (CL.out).mono ?_); rintro e w8 ⟨rfl, hb8⟩
            have hb8' : Below wr.heap.size wr w8 := (Below.refl _ _).drew.trans hb8
            go_wp2_with fail
            refine hK.out _ _ (since hb8') ?_
            clear hK K
            repeat (first | (refine seq_skip (by rfl) (by rfl) ?_; simp only [Act.put, List.setIfInBounds_toArray, List.set_cons_succ, List.set_cons_zero]) | (refine seq_float (by rfl) (by rfl) (by rfl) ?_; intro K hK; go_big_quiet_op; go_big_quiet_on))
            refine seq_nil ?_
            have HO8 := lid (ownsRow_below HOW.out hb8')
            have KB8 := lid ((hb8'.block _ lB).trans KB7.out)
            have hb78 := hb7.trans (hb8'.mono hb7.size)
            have r0 := row_cell KB8.out 0
            have r1 := row_cell KB8.out 1
            have HLN := lid HVD.out.len
            go_wp2_with (at_builtin; go_must (refine wpList_append_new (w := w8) #[.int .u64 k.1.toNat, .int .u64 k.2.toNat, .slice aoD nD capD] rfl _ _ 22 rfl w6.heap.size 61 (.agg #[.int .u64 0, .int .u64 0, .slice none 0 0]) 3 40 info_bl Try.underlying22 rfl (by decide) _ j _ HO8.out rfl rfl rfl (by intro u hu; simp only [List.mem_cons, List.not_mem_nil, or_false] at hu; rcases hu with rfl | rfl | rfl <;> rfl) (by simp only [maxLen]; omega) (by omega) hb78.size ?_))
            intro v9 w9 hown9 hb9 _
            have HO9 : Hid (w9.ownsRow w6.heap.size 61 3 v9 (j + 1) (rcells (l.take j) ++ rwe ⟨k, lD, aoD, capD⟩)) := lid (by
              show w9.ownsRow _ _ _ _ _ (rcells (l.take j) ++ [.int .u64 k.1.toNat, .int .u64 k.2.toNat, .slice aoD lD.length capD])
              rw [HLN.out]
              exact hown9)
            have hb79 := hb78.trans hb9
            have KB9 := lid ((hb79.block _ hk6).trans KB.out)
            have t0 := row_cell KB9.out 0
            have t1 := row_cell KB9.out 1
            have lB9 := row_lt KB9.out
            clear hown9 hb9 r0 r1 p0 p1
            have hw9 := hb.trans (hb79.mono hb.size)
            have z0 := (bc hw9 hlb0 _).trans X0.out
            have z1 := (bc hw9 hlb0 _).trans X1.out
            have hlb9 : b1 < w9.heap.size := Nat.lt_of_lt_of_le hlb0 hw9.size
            clear hw9
            clear x0 x1 x2 hb8'
            by_cases he : x.key = k
            · have HPU := lid (HPO.out HP.out he)
              have hd := dg_beq x.key k
              rw [decide_eq_true he] at hd
              clear he HPO HPN
              go_wp2_with fail
              refine wp_region_seq (fun w' => ∃ s : Since w9.heap.size w9, w' = s.world) [(0, true), (1, true), (2, true), (3, true), (4, true), (5, true), (6, true), (7, true), (8, true), (9, true), (10, true), (11, true), (12, true)] (by kernel_rfl) (by kernel_rfl) (by intro c d v a w h; cases d <;> exact h) (since (Below.refl _ _).drew) ?_
              repeat (first | (refine seq_skip (by rfl) (by rfl) ?_; simp only [Act.put, List.setIfInBounds_toArray, List.set_cons_succ, List.set_cons_zero]) | (refine seq_float (by rfl) (by rfl) (by rfl) ?_; intro K hK; go_big_quiet_op; go_big_quiet_on))
              refine seq_nil ?_
              have hj1 : j + 1 ≤ n := by omega
              have hb9d : Below w6.heap.size w6 w9.drew := hb79.drew
              have HO9 := lid (show w9.drew.ownsRow _ _ _ _ _ _ from HO9.out)
              rcases Decidable.em (cap = j + 1) with hcj | hcj
              · have HSD : Hid (Sl w9.drew 3 (some ⟨b1, o1, none⟩) (n - (j + 1)) []) := lid (by rw [show n - (j + 1) = 0 by omega]; exact Sl.nil)
                go_wp2_with (at_builtin; go_must (refine wpList_append_sl (w := w9.drew) rfl _ _ 22 rfl w6.heap.size 61 (.agg #[.int .u64 0, .int .u64 0, .slice none 0 0]) 3 40 info_bl Try.underlying22 rfl (by decide) _ (j + 1) _ HO9.out rfl (some ⟨b1, o1, none⟩) _ _ [] rfl HSD.out (by intro h; cases h) (by intro u hu; exact rcells_one l u (by first | exact List.mem_of_mem_drop hu | cases hu)) (by simp only [maxLen]; omega) (by omega) hb9d.size ?_))
                intro vF wF hownF hbF
                have HOF : Hid (wF.ownsRow w6.heap.size 61 3 vF n (rcells (l.take j ++ ⟨k, lD, aoD, capD⟩ :: l.drop (j + 1)))) := lid (by
                  rw [rcells_append, show rcells (⟨k, lD, aoD, capD⟩ :: l.drop (j + 1)) = rwe ⟨k, lD, aoD, capD⟩ ++ rcells (l.drop (j + 1)) from by simp [rcells]]
                  rw [List.drop_of_length_le (by rw [HB.out.len]; omega)]
                  simpa [rcells] using hownF)
                have hbE := hb9d.trans hbF
                have hbW := hb.trans (hbE.mono hb.size)
                have HOK : Hid (∀ r ∈ (l.take j ++ ⟨k, lD, aoD, capD⟩ :: l.drop (j + 1)), VA wF r.ao r.vs.length r.cap r.vs) := lid (fun r hr => by
                  rcases List.mem_append.1 hr with hr | hr
                  · exact (HB.out.ok r (List.mem_of_mem_take hr)).below hbW
                  · rcases List.mem_cons.1 hr with rfl | hr
                    · have := HVD.out.below hbE
                      rw [← HLN.out] at this
                      exact this
                    · exact (HB.out.ok r (List.mem_of_mem_drop hr)).below hbW)
                have HMP : Hid ((l.take j ++ ⟨k, lD, aoD, capD⟩ :: l.drop (j + 1)).map Rw.bal = voteL (l.map Rw.bal) k wk o) := lid (by rw [HL.out, HPU.out]; simp [Rw.bal])
                obtain ⟨aoF, capF, rfl, hBF⟩ := BA.of_own HOF.out HOK.out
                have HBF := lid hBF
                clear hownF hbF hBF
                go_wp2_with fail
                go_ret2
                exact ⟨_, _, _, _, by rw [HE0.out]; rfl, HBF.out, HMP.out, hbW⟩
              · have HSD : Hid (Sl w9.drew 3 (some ⟨b1, o1 + (j + 1) * 3, none⟩) (n - (j + 1)) ((rcells l).drop ((j + 1) * 3))) := lid (by
                  have := ((HB.out.below (hb.trans (hb9d.mono hb.size))).sl.drop hj1 hcap)
                  rw [if_neg hcj] at this
                  simpa only [Option.map_some, Addr.add_lit] using this)
                go_wp2_with (at_builtin; go_must (refine wpList_append_sl (w := w9.drew) rfl _ _ 22 rfl w6.heap.size 61 (.agg #[.int .u64 0, .int .u64 0, .slice none 0 0]) 3 40 info_bl Try.underlying22 rfl (by decide) _ (j + 1) _ HO9.out rfl (some ⟨b1, o1 + (j + 1) * 3, none⟩) _ _ ((rcells l).drop ((j + 1) * 3)) rfl HSD.out (by intro h; cases h) (by intro u hu; exact rcells_one l u (by first | exact List.mem_of_mem_drop hu | cases hu)) (by simp only [maxLen]; omega) (by omega) hb9d.size ?_))
                intro vF wF hownF hbF
                have HOF : Hid (wF.ownsRow w6.heap.size 61 3 vF n (rcells (l.take j ++ ⟨k, lD, aoD, capD⟩ :: l.drop (j + 1)))) := lid (by
                  rw [rcells_append, show rcells (⟨k, lD, aoD, capD⟩ :: l.drop (j + 1)) = rwe ⟨k, lD, aoD, capD⟩ ++ rcells (l.drop (j + 1)) from by simp [rcells]]
                  rw [show rcells (l.drop (j + 1)) = (rcells l).drop ((j + 1) * 3) from (flat_drop rwe_length l _).symm]
                  simpa using hownF)
                have hbE := hb9d.trans hbF
                have hbW := hb.trans (hbE.mono hb.size)
                have HOK : Hid (∀ r ∈ (l.take j ++ ⟨k, lD, aoD, capD⟩ :: l.drop (j + 1)), VA wF r.ao r.vs.length r.cap r.vs) := lid (fun r hr => by
                  rcases List.mem_append.1 hr with hr | hr
                  · exact (HB.out.ok r (List.mem_of_mem_take hr)).below hbW
                  · rcases List.mem_cons.1 hr with rfl | hr
                    · have := HVD.out.below hbE
                      rw [← HLN.out] at this
                      exact this
                    · exact (HB.out.ok r (List.mem_of_mem_drop hr)).below hbW)
                have HMP : Hid ((l.take j ++ ⟨k, lD, aoD, capD⟩ :: l.drop (j + 1)).map Rw.bal = voteL (l.map Rw.bal) k wk o) := lid (by rw [HL.out, HPU.out]; simp [Rw.bal])
                obtain ⟨aoF, capF, rfl, hBF⟩ := BA.of_own HOF.out HOK.out
                have HBF := lid hBF
                clear hownF hbF hBF
                go_wp2_with fail
                go_ret2
                exact ⟨_, _, _, _, by rw [HE0.out]; rfl, HBF.out, HMP.out, hbW⟩
            · have HPU := lid (HPN.out HE.out he)
              have hd := dg_beq x.key k
              rw [decide_eq_false he] at hd
              clear he HPO HPN
              go_wp2_with fail
              refine wp_region_seq (fun w' => ∃ s : Since w9.heap.size w9, w' = s.world) [(0, true), (1, true), (2, true), (3, true), (4, true), (5, true), (6, true), (7, true), (8, true), (9, true), (10, true), (11, true), (12, true)] (by kernel_rfl) (by kernel_rfl) (by intro c d v a w h; cases d <;> exact h) (since (Below.refl _ _).drew) ?_
              repeat (first | (refine seq_skip (by rfl) (by rfl) ?_; simp only [Act.put, List.setIfInBounds_toArray, List.set_cons_succ, List.set_cons_zero]) | (refine seq_float (by rfl) (by rfl) (by rfl) ?_; intro K hK; go_big_quiet_op; go_big_quiet_on))
              refine seq_nil ?_
              have hb9d : Below w6.heap.size w6 w9.drew := hb79.drew
              have HO9 := lid (show w9.drew.ownsRow _ _ _ _ _ _ from HO9.out)
              have hcj : ¬ cap = j := by omega
              have HSD : Hid (Sl w9.drew 3 (some ⟨b1, o1 + j * 3, none⟩) (n - j) ((rcells l).drop (j * 3))) := lid (by
                have := ((HB.out.below (hb.trans (hb9d.mono hb.size))).sl.drop hj hcap)
                rw [if_neg hcj] at this
                simpa only [Option.map_some, Addr.add_lit] using this)
              go_wp2_with (at_builtin; go_must (refine wpList_append_sl (w := w9.drew) rfl _ _ 22 rfl w6.heap.size 61 (.agg #[.int .u64 0, .int .u64 0, .slice none 0 0]) 3 40 info_bl Try.underlying22 rfl (by decide) _ (j + 1) _ HO9.out rfl (some ⟨b1, o1 + j * 3, none⟩) _ _ ((rcells l).drop (j * 3)) rfl HSD.out (by intro h; cases h) (by intro u hu; exact rcells_one l u (by first | exact List.mem_of_mem_drop hu | cases hu)) (by simp only [maxLen]; omega) (by omega) hb9d.size ?_))
              intro vF wF hownF hbF
              have HOF : Hid (wF.ownsRow w6.heap.size 61 3 vF (j + 1 + (n - j)) (rcells (l.take j ++ ⟨k, lD, aoD, capD⟩ :: l.drop j))) := lid (by
                rw [rcells_append, show rcells (⟨k, lD, aoD, capD⟩ :: l.drop j) = rwe ⟨k, lD, aoD, capD⟩ ++ rcells (l.drop j) from by simp [rcells]]
                rw [show rcells (l.drop j) = (rcells l).drop (j * 3) from (flat_drop rwe_length l _).symm]
                simpa using hownF)
              have hbE := hb9d.trans hbF
              have hbW := hb.trans (hbE.mono hb.size)
              have HOK : Hid (∀ r ∈ (l.take j ++ ⟨k, lD, aoD, capD⟩ :: l.drop j), VA wF r.ao r.vs.length r.cap r.vs) := lid (fun r hr => by
                rcases List.mem_append.1 hr with hr | hr
                · exact (HB.out.ok r (List.mem_of_mem_take hr)).below hbW
                · rcases List.mem_cons.1 hr with rfl | hr
                  · have := HVD.out.below hbE
                    rw [← HLN.out] at this
                    exact this
                  · exact (HB.out.ok r (List.mem_of_mem_drop hr)).below hbW)
              have HMP : Hid ((l.take j ++ ⟨k, lD, aoD, capD⟩ :: l.drop j).map Rw.bal = voteL (l.map Rw.bal) k wk o) := lid (by rw [HL.out, HPU.out]; simp [Rw.bal])
              obtain ⟨aoF, capF, rfl, hBF⟩ := BA.of_own HOF.out HOK.out
              have HBF := lid hBF
              clear hownF hbF hBF
              go_wp2_with fail
              go_ret2
              exact ⟨_, _, _, _, by rw [HE0.out]; rfl, HBF.out, HMP.out, hbW⟩
        · obtain rfl : j = n := by omega
          have HE := lid (posR_stop (Nat.le_of_eq HB.out.len.symm) HSR.out HG.out (fun h => by rw [HB.out.len] at h; omega))
          have HPU : Hid (putB (l.map Rw.bal) k lD = (l.take j).map Rw.bal ++ (k, lD) :: (l.drop j).map Rw.bal) := lid (by
            have hh : hitR l k = false := by rw [hitR_end HE.out HSR.out, dif_neg (by rw [HB.out.len]; omega)]
            have := put_new (L := lD) hh
            rw [show posR l k = j from HE.out.end_ (Nat.le_of_eq HB.out.len.symm)] at this
            exact this)
          have dk : decide (j < j) = false := by simp
          go_wp2_with fail
          refine wp_region_seq (fun w' => ∃ s : Since wr.heap.size wr, w' = s.world) [(0, true), (1, true), (2, true), (3, true), (4, true), (5, true), (6, true), (7, true), (8, true), (9, true), (10, true), (11, true), (12, true)] (by kernel_rfl) (by kernel_rfl) (by intro c d v a w h; cases d <;> exact h) (since (Below.refl _ _).drew) ?_
          repeat (first | (refine seq_skip (by rfl) (by rfl) ?_; simp only [Act.put, List.setIfInBounds_toArray, List.set_cons_succ, List.set_cons_zero]) | (refine seq_float (by rfl) (by rfl) (by rfl) ?_; intro K hK; go_big_quiet_op; go_big_quiet_on))
          refine seq_nil ?_
          obtain ⟨w8, hw8⟩ : ∃ y, wr.drew = y := ⟨_, rfl⟩
          have hb8' : Below wr.heap.size wr w8 := by rw [← hw8]; exact (Below.refl _ _).drew
          rw [hw8]
          clear hw8
          have HO8 := lid (ownsRow_below HOW.out hb8')
          have KB8 := lid ((hb8'.block _ lB).trans KB7.out)
          have hb78 := hb7.trans (hb8'.mono hb7.size)
          have r0 := row_cell KB8.out 0
          have r1 := row_cell KB8.out 1
          have HLN := lid HVD.out.len
          go_wp2_with (at_builtin; go_must (refine wpList_append_new (w := w8) #[.int .u64 k.1.toNat, .int .u64 k.2.toNat, .slice aoD nD capD] rfl _ _ 22 rfl w6.heap.size 61 (.agg #[.int .u64 0, .int .u64 0, .slice none 0 0]) 3 40 info_bl Try.underlying22 rfl (by decide) _ j _ HO8.out rfl rfl rfl (by intro u hu; simp only [List.mem_cons, List.not_mem_nil, or_false] at hu; rcases hu with rfl | rfl | rfl <;> rfl) (by simp only [maxLen]; omega) (by omega) hb78.size ?_))
          intro v9 w9 hown9 hb9 _
          have HO9 : Hid (w9.ownsRow w6.heap.size 61 3 v9 (j + 1) (rcells (l.take j) ++ rwe ⟨k, lD, aoD, capD⟩)) := lid (by
            show w9.ownsRow _ _ _ _ _ (rcells (l.take j) ++ [.int .u64 k.1.toNat, .int .u64 k.2.toNat, .slice aoD lD.length capD])
            rw [HLN.out]
            exact hown9)
          have hb79 := hb78.trans hb9
          have KB9 := lid ((hb79.block _ hk6).trans KB.out)
          have t0 := row_cell KB9.out 0
          have t1 := row_cell KB9.out 1
          have lB9 := row_lt KB9.out
          clear hown9 hb9 r0 r1 p0 p1
          clear hb8'
          go_wp2_with fail
          refine wp_region_seq (fun w' => ∃ s : Since w9.heap.size w9, w' = s.world) [(0, true), (1, true), (2, true), (3, true), (4, true), (5, true), (6, true), (7, true), (8, true), (9, true), (10, true), (11, true), (12, true)] (by kernel_rfl) (by kernel_rfl) (by intro c d v a w h; cases d <;> exact h) (since (Below.refl _ _).drew) ?_
          repeat (first | (refine seq_skip (by rfl) (by rfl) ?_; simp only [Act.put, List.setIfInBounds_toArray, List.set_cons_succ, List.set_cons_zero]) | (refine seq_float (by rfl) (by rfl) (by rfl) ?_; intro K hK; go_big_quiet_op; go_big_quiet_on))
          refine seq_nil ?_
          have hb9d : Below w6.heap.size w6 w9.drew := hb79.drew
          have HO9 := lid (show w9.drew.ownsRow _ _ _ _ _ _ from HO9.out)
          have HZ9 := lid HB7.out.z
          rcases Decidable.em (cap = j) with hcj | hcj
          · have HSD : Hid (Sl w9.drew 3 ao 0 []) := lid Sl.nil
            go_wp2_with (at_builtin; go_must (refine wpList_append_sl (w := w9.drew) rfl _ _ 22 rfl w6.heap.size 61 (.agg #[.int .u64 0, .int .u64 0, .slice none 0 0]) 3 40 info_bl Try.underlying22 rfl (by decide) _ (j + 1) _ HO9.out rfl ao _ _ [] rfl HSD.out (fun e => by have := HZ9.out e; omega) (by intro u hu; exact rcells_one l u (by first | exact List.mem_of_mem_drop hu | cases hu)) (by simp only [maxLen]; omega) (by omega) hb9d.size ?_))
            intro vF wF hownF hbF
            have HOF : Hid (wF.ownsRow w6.heap.size 61 3 vF (j + 1) (rcells (l.take j ++ ⟨k, lD, aoD, capD⟩ :: l.drop j))) := lid (by
              rw [rcells_append, show rcells (⟨k, lD, aoD, capD⟩ :: l.drop j) = rwe ⟨k, lD, aoD, capD⟩ ++ rcells (l.drop j) from by simp [rcells]]
              rw [List.drop_of_length_le (by rw [HB.out.len]; omega)]
              simpa [rcells] using hownF)
            have hbE := hb9d.trans hbF
            have hbW := hb.trans (hbE.mono hb.size)
            have HOK : Hid (∀ r ∈ (l.take j ++ ⟨k, lD, aoD, capD⟩ :: l.drop j), VA wF r.ao r.vs.length r.cap r.vs) := lid (fun r hr => by
              rcases List.mem_append.1 hr with hr | hr
              · exact (HB.out.ok r (List.mem_of_mem_take hr)).below hbW
              · rcases List.mem_cons.1 hr with rfl | hr
                · have := HVD.out.below hbE
                  rw [← HLN.out] at this
                  exact this
                · exact (HB.out.ok r (List.mem_of_mem_drop hr)).below hbW)
            have HMP : Hid ((l.take j ++ ⟨k, lD, aoD, capD⟩ :: l.drop j).map Rw.bal = voteL (l.map Rw.bal) k wk o) := lid (by rw [HL.out, HPU.out]; simp [Rw.bal])
            obtain ⟨aoF, capF, rfl, hBF⟩ := BA.of_own HOF.out HOK.out
            have HBF := lid hBF
            clear hownF hbF hBF
            go_wp2_with fail
            go_ret2
            exact ⟨_, _, _, _, by rw [HE0.out]; rfl, HBF.out, HMP.out, hbW⟩
          · have HSD : Hid (Sl w9.drew 3 (ao.map (fun x => x.add (j * 3))) 0 []) := lid Sl.nil
            have hz' : ao.map (fun x => x.add (j * 3)) = none → cap - j = 0 := fun e => by
              cases ao with
              | none => have := HZ9.out rfl; omega
              | some a => cases e
            go_wp2_with (at_builtin; go_must (refine wpList_append_sl (w := w9.drew) rfl _ _ 22 rfl w6.heap.size 61 (.agg #[.int .u64 0, .int .u64 0, .slice none 0 0]) 3 40 info_bl Try.underlying22 rfl (by decide) _ (j + 1) _ HO9.out rfl (ao.map (fun x => x.add (j * 3))) _ _ [] rfl HSD.out hz' (by intro u hu; exact rcells_one l u (by first | exact List.mem_of_mem_drop hu | cases hu)) (by simp only [maxLen]; omega) (by omega) hb9d.size ?_))
            intro vF wF hownF hbF
            have HOF : Hid (wF.ownsRow w6.heap.size 61 3 vF (j + 1) (rcells (l.take j ++ ⟨k, lD, aoD, capD⟩ :: l.drop j))) := lid (by
              rw [rcells_append, show rcells (⟨k, lD, aoD, capD⟩ :: l.drop j) = rwe ⟨k, lD, aoD, capD⟩ ++ rcells (l.drop j) from by simp [rcells]]
              rw [List.drop_of_length_le (by rw [HB.out.len]; omega)]
              simpa [rcells] using hownF)
            have hbE := hb9d.trans hbF
            have hbW := hb.trans (hbE.mono hb.size)
            have HOK : Hid (∀ r ∈ (l.take j ++ ⟨k, lD, aoD, capD⟩ :: l.drop j), VA wF r.ao r.vs.length r.cap r.vs) := lid (fun r hr => by
              rcases List.mem_append.1 hr with hr | hr
              · exact (HB.out.ok r (List.mem_of_mem_take hr)).below hbW
              · rcases List.mem_cons.1 hr with rfl | hr
                · have := HVD.out.below hbE
                  rw [← HLN.out] at this
                  exact this
                · exact (HB.out.ok r (List.mem_of_mem_drop hr)).below hbW)
            have HMP : Hid ((l.take j ++ ⟨k, lD, aoD, capD⟩ :: l.drop j).map Rw.bal = voteL (l.map Rw.bal) k wk o) := lid (by rw [HL.out, HPU.out]; simp [Rw.bal])
            obtain ⟨aoF, capF, rfl, hBF⟩ := BA.of_own HOF.out HOK.out
            have HBF := lid hBF
            clear hownF hbF hBF
            go_wp2_with fail
            go_ret2
            exact ⟨_, _, _, _, by rw [HE0.out]; rfl, HBF.out, HMP.out, hbW⟩

end Go.Proofs.Ytcpnpcbaifagbaa
