/-
  Ballots: Check and what it stands on, of quorum and of its reference.
-/
import Derived.Test.YtcpnpcbaifagbaaQuoKeys
import Derived.Test.YtcpnpcbaifagbaaCells
namespace Go.Proofs.Ytcpnpcbaifagbaa
open Go.RowKit

theorem ret_int' {a b : Int} (h : a = b) : Ending.returned (.int .i64 a) = .returned (.int .i64 b) := by rw [h]
theorem votes_name {p : Option ByteArray} {v : Vt} {l : List Vt} (h : workerB v.1 = false) : votesGo p (v :: l) = 6 := by simp [votesGo, h]
theorem votes_order {q : ByteArray} {v : Vt} {l : List Vt} (h : workerB v.1 = true) (ho : leB v.1 q = true) : votesGo (some q) (v :: l) = 10 := by simp [votesGo, h, ho]
theorem votes_limit {p : Option ByteArray} {v : Vt} {l : List Vt} (h : workerB v.1 = true) (ho : ∀ q, p = some q → leB v.1 q = false) (hz : 65536 < v.2.size) : votesGo p (v :: l) = 4 := by
  cases p with
  | none => simp [votesGo, h, hz]
  | some q => simp [votesGo, h, ho q rfl, hz]
theorem votes_next {p : Option ByteArray} {v : Vt} {l : List Vt} (h : workerB v.1 = true) (ho : ∀ q, p = some q → leB v.1 q = false) (hz : ¬ 65536 < v.2.size) : votesGo p (v :: l) = votesGo (some v.1) l := by
  cases p with
  | none => simp [votesGo, h, hz]
  | some q => simp [votesGo, h, ho q rfl, hz]
theorem bal_order {q : Dg} {b : Bal} {l : List Bal} (ho : ltD q b.1 = false) : balGo (some q) (b :: l) = 10 := by simp [balGo, ho]
theorem bal_votes {p : Option Dg} {b : Bal} {l : List Bal} (ho : ∀ q, p = some q → ltD q b.1 = true) (hv : votesE b.2 ≠ 0) : balGo p (b :: l) = votesE b.2 := by
  cases p with
  | none => simp [balGo, hv]
  | some q => simp [balGo, ho q rfl, hv]
theorem bal_next {p : Option Dg} {b : Bal} {l : List Bal} (ho : ∀ q, p = some q → ltD q b.1 = true) (hv : votesE b.2 = 0) : balGo p (b :: l) = balGo (some b.1) l := by
  cases p with
  | none => simp [balGo, hv]
  | some q => simp [balGo, ho q rfl, hv]

set_option maxHeartbeats 1000000 in
theorem isWorker_any (s : ByteArray) (w : World) (hs : s.size ≤ maxLen) : Calls Try.prog 35 #[.string s] w fun e w' => e = .returned (.bool (workerB s)) ∧ w = w' := by
  unfold maxLen at hs
  by_cases h : 1 ≤ s.size
  · have HV : Hid (workerB s = decide (s.size ≤ 24)) := lid (by unfold workerB; rw [Bool.eq_iff_iff]; simp; omega)
    have d : decide ((1 : Int) ≤ (s.size : Int)) = true := by simp; omega
    by_cases h2 : s.size ≤ 24
    · have d2 : decide ((s.size : Int) ≤ 24) = true := by simp; omega
      rw [decide_eq_true h2] at HV
      go_enter Try.func35, Try.ntmps35
      go_wp2_with fail
      go_ret
      exact ⟨ret_bool HV.out.symm, rfl⟩
    · have d2 : decide ((s.size : Int) ≤ 24) = false := by simp; omega
      rw [decide_eq_false h2] at HV
      go_enter Try.func35, Try.ntmps35
      go_wp2_with fail
      go_ret
      exact ⟨ret_bool HV.out.symm, rfl⟩
  · have HV : Hid (workerB s = false) := lid (by unfold workerB; simp; omega)
    have d : decide ((1 : Int) ≤ (s.size : Int)) = false := by simp; omega
    go_enter Try.func35, Try.ntmps35
    go_wp2_with fail
    go_ret
    exact ⟨ret_bool HV.out.symm, rfl⟩

set_option maxRecDepth 100000 in
set_option maxHeartbeats 8000000 in
theorem checkVotes_any (l : List Vt) (n cap : Nat) (ao : Option Addr) (w : World) (hm : n ≤ 1000000) (h : VA w ao n cap l) :
    Calls Try.prog 48 #[.slice ao n cap] w fun e w' => e = .returned (.int .i64 (votesGo none l)) ∧ Below w.heap.size w w' := by
  have HN := lid h.len
  have HS := lid h.sl
  have HR := lid h.sz
  clear h
  go_enter Try.func48, Try.ntmps48
  go_wp2_with fail
  go_loopw [3, 4, 7] (fun _ _ i wr => ∃ (k : Nat) (p : Option ByteArray), k ≤ n ∧ i = .int .i64 k ∧ Hid (votesGo none l = votesGo p (l.drop k)) ∧ Hid (k = 0 ∧ p = none ∨ ∃ (j : Nat) (hj : j < l.length), k = j + 1 ∧ p = some (l[j]).1) ∧ Below w.heap.size w wr) (fun _ _ i _ => n - (intOf i).toNat)
  case atStart => exact ⟨0, none, Nat.zero_le _, rfl, lid rfl, lid (.inl ⟨rfl, rfl⟩), Below.refl _ _⟩
  case round =>
    obtain ⟨k, p, hk, rfl, HG, HP, hb⟩ := hrel
    by_cases hlt : k < n
    · have hkl : k < l.length := by rw [HN.out]; exact hlt
      obtain ⟨b1, o1, rfl, hlb, hcell⟩ := (HS.out.below hb).at_ hlt
      have x0 := hcell (k * 2 + 0) _ (vcells_at hkl).1
      have x1 := hcell (k * 2 + 1) _ (vcells_at hkl).2
      rw [← Nat.add_assoc] at x1
      rw [Nat.add_zero] at x0
      have HD := lid (List.drop_eq_getElem_cons hkl)
      have HRS := lid (HR.out _ (List.getElem_mem hkl))
      have HK0 : Hid (∀ j (hj : j < l.length), wr.cell? ⟨b1, o1 + j * 2, none⟩ = some (.string (l[j]).1)) := lid (fun j hj => by have := hcell (j * 2 + 0) _ (vcells_at hj).1; rwa [Nat.add_zero] at this)
      have dk : decide ((k : Int) < (n : Int)) = true := by simp; omega
      obtain ⟨x, hrk⟩ : ∃ r, l[k] = r := ⟨_, rfl⟩
      rw [hrk] at x0 x1 HD HRS
      have HRK := lid hrk
      have hsz : x.2.size ≤ 9223372036854775807 := HRS.out.2
      clear hcell hrk
      go_wp2_with fail
      obtain ⟨W1, hW1⟩ : ∃ W1, wr.alloc (Obj.cells (vtc x) 27) = W1 := ⟨_, rfl⟩
      have hb1 : Below wr.heap.size wr W1 := by rw [← hW1]; exact ba _ _
      have y0 : W1.cell? ⟨wr.heap.size, 0, none⟩ = some (.string x.1) := by rw [← hW1]; exact cell_new_at rfl _ _ _
      have y1 : W1.cell? ⟨wr.heap.size, 1, none⟩ = some (.string x.2) := by rw [← hW1]; exact cell_new_at rfl _ _ _
      have hlt1 : wr.heap.size < W1.heap.size := by rw [← hW1]; simp
      have hlb1 : b1 < W1.heap.size := by omega
      rw [hW1]
      have hw1 := hb.trans (hb1.mono hb.size)
      clear hW1 x0 x1
      go_wp2_with fail
      (with_reducible refine (isWorker_any x.1 _ HRS.out.1).mono ?_); rintro e w2 ⟨rfl, rfl⟩
      cases hB : workerB x.1 with
      | false =>
        have HV := lid (votes_name (v := x) (p := p) (l := l.drop (k + 1)) hB)
        clear hB
        go_wp2_with fail
        go_ret
        exact ⟨ret_int' (by rw [HG.out, HD.out, HV.out]), hw1⟩
      | true =>
        have HB := lid hB
        clear hB
        rcases HP.out with ⟨rfl, rfl⟩ | ⟨j, hj, rfl, rfl⟩
        · have HO : Hid (∀ q, (none : Option ByteArray) = some q → leB x.1 q = false) := lid (fun q h => by cases h)
          go_wp2_with fail
          refine wp_region_seq (fun w' => ∃ s : Since W1.heap.size W1, w' = s.world) [(0, true), (1, true), (2, true), (3, true), (4, true), (5, true), (6, true), (7, true), (8, true), (9, true), (10, true), (11, true), (12, true), (13, false)] (by kernel_rfl) (by kernel_rfl) (by intro c d v a w h; cases d <;> exact h) (since (Below.refl _ _).drew) ?_
          repeat (first | (refine seq_skip (by rfl) (by rfl) ?_; simp only [Act.put, List.setIfInBounds_toArray, List.set_cons_succ, List.set_cons_zero]) | (refine seq_float (by rfl) (by rfl) (by rfl) ?_; intro K hK; go_big_quiet_op; go_big_quiet_on))
          refine seq_chain (by rfl) ?_
          intro K hK
          go_wp2_with fail
          refine hK.out _ _ (since (Below.refl _ _).drew) ?_
          clear hK K
          repeat (first | (refine seq_skip (by rfl) (by rfl) ?_; simp only [Act.put, List.setIfInBounds_toArray, List.set_cons_succ, List.set_cons_zero]) | (refine seq_float (by rfl) (by rfl) (by rfl) ?_; intro K hK; go_big_quiet_op; go_big_quiet_on))
          refine seq_nil ?_
          by_cases hz : 65536 < x.2.size
          · have HV := lid (votes_limit (v := x) (p := none) (l := l.drop (0 + 1)) HB.out HO.out hz)
            have dz : decide ((65536 : Int) < (x.2.size : Int)) = true := by simp; omega
            clear hz
            go_wp2_with fail
            go_ret
            exact ⟨ret_int' (by rw [HG.out, HD.out, HV.out]), hw1.drew⟩
          · have HV := lid (votes_next (v := x) (p := none) (l := l.drop (0 + 1)) HB.out HO.out hz)
            have dz : decide ((65536 : Int) < (x.2.size : Int)) = false := by simp; omega
            clear hz
            go_wp2_with fail
            go_roundw
            case rel => exact ⟨0 + 1, some x.1, by omega, by go_num, lid (by rw [HG.out, HD.out, HV.out]), lid (.inr ⟨0, hkl, rfl, by rw [HRK.out]⟩), hw1.drew⟩
            case measure => simp [intOf]; omega
        · have z := (bc hb1 hlb _).trans (HK0.out j hj)
          obtain ⟨pt, hpt⟩ : ∃ pt, (l[j]).1 = pt := ⟨_, rfl⟩
          rw [hpt] at z HG
          have hj9 : j ≤ 1000000 := by omega
          have hjn : (j : Int) < n := by omega
          have hjn1 : (j : Int) + 1 < n := by omega
          have e0 : ((j + 1 : Nat) : Int) = (j : Int) + 1 := by omega
          have hpos : decide ((0 : Int) < (j : Int) + 1) = true := decide_eq_true (by omega)
          have wj : IntKind.i64.wrap (j : Int) = j := IntWalk.i64_in _ (by omega)
          have hjl : decide (j < n) = true := by simp; omega
          clear hpt
          cases ho : leB x.1 pt with
          | true =>
            have HV := lid (votes_order (v := x) (q := pt) (l := l.drop (j + 1 + 1)) HB.out ho)
            have hd : (Op.bytesLess x.1.toList pt.toList || x.1.toList == pt.toList) = true := ho
            clear ho
            go_wp2_with fail
            refine wp_region_seq (fun w' => ∃ s : Since W1.heap.size W1, w' = s.world) [(0, true), (1, true), (2, true), (3, true), (4, true), (5, true), (6, true), (7, true), (8, true), (9, true), (10, true), (11, true), (12, true), (13, false)] (by kernel_rfl) (by kernel_rfl) (by intro c d v a w h; cases d <;> exact h) (since (Below.refl _ _).drew) ?_
            repeat (first | (refine seq_skip (by rfl) (by rfl) ?_; simp only [Act.put, List.setIfInBounds_toArray, List.set_cons_succ, List.set_cons_zero]) | (refine seq_float (by rfl) (by rfl) (by rfl) ?_; intro K hK; go_big_quiet_op; go_big_quiet_on))
            refine seq_chain (by rfl) ?_
            intro K hK
            go_wp2_with fail
            refine hK.out _ _ (since (Below.refl _ _).drew) ?_
            clear hK K
            repeat (first | (refine seq_skip (by rfl) (by rfl) ?_; simp only [Act.put, List.setIfInBounds_toArray, List.set_cons_succ, List.set_cons_zero]) | (refine seq_float (by rfl) (by rfl) (by rfl) ?_; intro K hK; go_big_quiet_op; go_big_quiet_on))
            refine seq_nil ?_
            go_wp2_with fail
            go_ret
            exact ⟨ret_int' (by rw [HG.out, HD.out, HV.out]), hw1.drew⟩
          | false =>
            have HO : Hid (∀ q, some pt = some q → leB x.1 q = false) := lid (fun q h => by cases h; exact ho)
            have hd : (Op.bytesLess x.1.toList pt.toList || x.1.toList == pt.toList) = false := ho
            clear ho
            go_wp2_with fail
            refine wp_region_seq (fun w' => ∃ s : Since W1.heap.size W1, w' = s.world) [(0, true), (1, true), (2, true), (3, true), (4, true), (5, true), (6, true), (7, true), (8, true), (9, true), (10, true), (11, true), (12, true), (13, false)] (by kernel_rfl) (by kernel_rfl) (by intro c d v a w h; cases d <;> exact h) (since (Below.refl _ _).drew) ?_
            repeat (first | (refine seq_skip (by rfl) (by rfl) ?_; simp only [Act.put, List.setIfInBounds_toArray, List.set_cons_succ, List.set_cons_zero]) | (refine seq_float (by rfl) (by rfl) (by rfl) ?_; intro K hK; go_big_quiet_op; go_big_quiet_on))
            refine seq_chain (by rfl) ?_
            intro K hK
            go_wp2_with fail
            refine hK.out _ _ (since (Below.refl _ _).drew) ?_
            clear hK K
            repeat (first | (refine seq_skip (by rfl) (by rfl) ?_; simp only [Act.put, List.setIfInBounds_toArray, List.set_cons_succ, List.set_cons_zero]) | (refine seq_float (by rfl) (by rfl) (by rfl) ?_; intro K hK; go_big_quiet_op; go_big_quiet_on))
            refine seq_nil ?_
            by_cases hz : 65536 < x.2.size
            · have HV := lid (votes_limit (v := x) (p := some pt) (l := l.drop ((j + 1) + 1)) HB.out HO.out hz)
              have dz : decide ((65536 : Int) < (x.2.size : Int)) = true := by simp; omega
              clear hz
              go_wp2_with fail
              go_ret
              exact ⟨ret_int' (by rw [HG.out, HD.out, HV.out]), hw1.drew⟩
            · have HV := lid (votes_next (v := x) (p := some pt) (l := l.drop ((j + 1) + 1)) HB.out HO.out hz)
              have dz : decide ((65536 : Int) < (x.2.size : Int)) = false := by simp; omega
              clear hz
              go_wp2_with fail
              go_roundw
              case rel => exact ⟨(j + 1) + 1, some x.1, by omega, by go_num, lid (by rw [HG.out, HD.out, HV.out]), lid (.inr ⟨(j + 1), hkl, rfl, by rw [HRK.out]⟩), hw1.drew⟩
              case measure => simp [intOf]; omega
    · obtain rfl : k = n := by omega
      have HV : Hid (votesGo p (l.drop k) = 0) := lid (by rw [List.drop_of_length_le (by rw [HN.out]; exact Nat.le_refl _)]; rfl)
      have dk : decide ((k : Int) < (k : Int)) = false := by simp
      go_wp2_with fail
      go_ret
      exact ⟨ret_int' (by rw [HG.out, HV.out]), hb⟩

set_option maxRecDepth 100000 in
set_option maxHeartbeats 8000000 in
theorem Check_any (l : List Rw) (n cap : Nat) (ao : Option Addr) (w : World) (hm : n ≤ 1000000) (h : BA w ao n cap l) (hv : ∀ r ∈ l, r.vs.length ≤ 1000000) :
    Calls Try.prog 14 #[.slice ao n cap] w fun e w' => e = .returned (.int .i64 (checkB (l.map Rw.bal))) ∧ Below w.heap.size w w' := by
  unfold checkB
  have HN := lid h.len
  have HS := lid h.sl
  have HR := lid h.ok
  have HVS := lid hv
  clear h hv
  go_enter Try.func14, Try.ntmps14
  go_wp2_with fail
  go_loopw [3, 4, 5, 8] (fun _ _ _ i wr => ∃ (k : Nat) (p : Option Dg), k ≤ n ∧ i = .int .i64 k ∧ Hid (balGo none (l.map Rw.bal) = balGo p ((l.drop k).map Rw.bal)) ∧ Hid (k = 0 ∧ p = none ∨ ∃ (j : Nat) (hj : j < l.length), k = j + 1 ∧ p = some (l[j]).key) ∧ Below w.heap.size w wr) (fun _ _ _ i _ => n - (intOf i).toNat)
  case atStart => exact ⟨0, none, Nat.zero_le _, rfl, lid rfl, lid (.inl ⟨rfl, rfl⟩), Below.refl _ _⟩
  case round =>
    obtain ⟨k, p, hk, rfl, HG, HP, hb⟩ := hrel
    by_cases hlt : k < n
    · have hkl : k < l.length := by rw [HN.out]; exact hlt
      obtain ⟨b1, o1, rfl, hlb, hcell⟩ := (HS.out.below hb).at_ hlt
      have x0 := hcell (k * 3 + 0) _ (rcells_at hkl).1
      have x1 := hcell (k * 3 + 1) _ (rcells_at hkl).2.1
      have x2 := hcell (k * 3 + 2) _ (rcells_at hkl).2.2
      rw [← Nat.add_assoc] at x1 x2
      rw [Nat.add_zero] at x0
      have HD : Hid ((l.drop k).map Rw.bal = (l[k]).bal :: (l.drop (k + 1)).map Rw.bal) := lid (by rw [List.drop_eq_getElem_cons hkl]; rfl)
      have HVA := lid ((HR.out _ (List.getElem_mem hkl)).below hb)
      have hxs := HVS.out _ (List.getElem_mem hkl)
      have HK0 : Hid (∀ j (hj : j < l.length), wr.cell? ⟨b1, o1 + j * 3, none⟩ = some (.int .u64 (l[j]).key.1.toNat) ∧ wr.cell? ⟨b1, o1 + j * 3 + 1, none⟩ = some (.int .u64 (l[j]).key.2.toNat)) := lid (fun j hj => by
        have h0 := hcell (j * 3 + 0) _ (rcells_at hj).1
        have h1 := hcell (j * 3 + 1) _ (rcells_at hj).2.1
        rw [← Nat.add_assoc] at h1
        rw [Nat.add_zero] at h0
        exact ⟨h0, h1⟩)
      have dk : decide ((k : Int) < (n : Int)) = true := by simp; omega
      obtain ⟨x, hrk⟩ : ∃ r, l[k] = r := ⟨_, rfl⟩
      rw [hrk] at x0 x1 x2 HD HVA hxs
      have HRK := lid hrk
      obtain ⟨m, hmx⟩ : ∃ m, x.vs.length = m := ⟨_, rfl⟩
      rw [hmx] at x2 HVA hxs
      have HM := lid hmx
      clear hcell hrk hmx
      go_wp2_with fail
      obtain ⟨W1, hW1⟩ : ∃ W1, wr.alloc (Obj.cells #[.int .u64 x.key.1.toNat, .int .u64 x.key.2.toNat, .slice x.ao m x.cap] 61) = W1 := ⟨_, rfl⟩
      have hb1 : Below wr.heap.size wr W1 := by rw [← hW1]; exact ba _ _
      have y0 : W1.cell? ⟨wr.heap.size, 0, none⟩ = some (.int .u64 x.key.1.toNat) := by rw [← hW1]; exact cell_new_at rfl _ _ _
      have y1 : W1.cell? ⟨wr.heap.size, 1, none⟩ = some (.int .u64 x.key.2.toNat) := by rw [← hW1]; exact cell_new_at rfl _ _ _
      have y2 : W1.cell? ⟨wr.heap.size, 2, none⟩ = some (.slice x.ao m x.cap) := by rw [← hW1]; exact cell_new_at rfl _ _ _
      have hlt1 : wr.heap.size < W1.heap.size := by rw [← hW1]; simp
      have hlb1 : b1 < W1.heap.size := by omega
      rw [hW1]
      have hw1 := hb.trans (hb1.mono hb.size)
      clear hW1 x0 x1 x2
      rcases HP.out with ⟨rfl, rfl⟩ | ⟨j, hj, rfl, rfl⟩
      · have HO : Hid (∀ q, (none : Option Dg) = some q → ltD q x.bal.1 = true) := lid (fun q h => by cases h)
        go_wp2_with fail
        refine wp_region_seq (fun w' => ∃ s : Since W1.heap.size W1, w' = s.world) [(0, true), (1, true), (2, true), (3, true), (4, true), (5, true), (6, true), (7, true), (8, true), (9, true), (10, true), (11, true), (12, true), (13, true)] (by kernel_rfl) (by kernel_rfl) (by intro c d v a w h; cases d <;> exact h) (since (Below.refl _ _).drew) ?_
        repeat (first | (refine seq_skip (by rfl) (by rfl) ?_; simp only [Act.put, List.setIfInBounds_toArray, List.set_cons_succ, List.set_cons_zero]) | (refine seq_float (by rfl) (by rfl) (by rfl) ?_; intro K hK; go_big_quiet_op; go_big_quiet_on))
        refine seq_nil ?_
        have hb12 : Below wr.heap.size wr W1.drew := hb1.drew
        have hw2 := hw1.drew
        by_cases hm0 : m = 0
        · have HV : Hid (votesE x.vs = 1) := lid (by unfold votesE; rw [if_pos (List.eq_nil_of_length_eq_zero (by rw [HM.out, hm0]))])
          have HV2 := lid (bal_votes (b := x.bal) (p := none) (l := (l.drop (0 + 1)).map Rw.bal) HO.out (by show votesE x.vs ≠ 0; rw [HV.out]; decide))
          have d0 : ((m : Int) == 0) = true := by simp; omega
          clear hm0
          go_wp2_with fail
          go_ret
          exact ⟨ret_int' (by rw [HG.out, HD.out, HV2.out]; exact HV.out.symm), hw2⟩
        · have HV : Hid (votesE x.vs = votesGo none x.vs) := lid (by unfold votesE; rw [if_neg (fun e => hm0 (by rw [← HM.out, e]; rfl))])
          have d0 : ((m : Int) == 0) = false := by simp; omega
          have CV := lid (checkVotes_any x.vs m x.cap x.ao W1.drew (by omega) (HVA.out.below hb12))
          obtain ⟨ev, hev⟩ : ∃ y, votesGo none x.vs = y := ⟨_, rfl⟩
          rw [hev] at CV HV
          clear hm0 hev
          go_wp2_with fail
          (with_reducible refine (CV.out).mono ?_); rintro e w3 ⟨rfl, hb3⟩
          have hw3 := hw2.trans (hb3.mono hw2.size)
          clear CV
          by_cases he : ev = 0
          · have HV2 := lid (bal_next (b := x.bal) (p := none) (l := (l.drop (0 + 1)).map Rw.bal) HO.out (by show votesE x.vs = 0; rw [HV.out, he]))
            have d1 : (ev == 0) = true := by simpa using he
            have d2 : (ev != 0) = false := by simpa using he
            clear he
            go_wp2_with fail
            go_roundw
            case rel => exact ⟨0 + 1, some x.key, by omega, by go_num, lid (by rw [HG.out, HD.out, HV2.out]; rfl), lid (.inr ⟨0, hkl, rfl, by rw [HRK.out]⟩), hw3⟩
            case measure => simp [intOf]; omega
          · have HV2 := lid (bal_votes (b := x.bal) (p := none) (l := (l.drop (0 + 1)).map Rw.bal) HO.out (by show votesE x.vs ≠ 0; rw [HV.out]; exact he))
            have d1 : (ev == 0) = false := by simpa using he
            have d2 : (ev != 0) = true := by simpa using he
            clear he
            go_wp2_with fail
            go_ret
            exact ⟨ret_int' (by rw [HG.out, HD.out, HV2.out]; exact HV.out.symm), hw3⟩
      · have z0 := (bc hb1 hlb _).trans (HK0.out j hj).1
        have z1 := (bc hb1 hlb _).trans (HK0.out j hj).2
        obtain ⟨pt, hpt⟩ : ∃ pt, (l[j]).key = pt := ⟨_, rfl⟩
        rw [hpt] at z0 z1 HG
        have hj9 : j ≤ 1000000 := by omega
        have hjn : (j : Int) < n := by omega
        have hjn1 : (j : Int) + 1 < n := by omega
        have e0 : ((j + 1 : Nat) : Int) = (j : Int) + 1 := by omega
        have hpos : decide ((0 : Int) < (j : Int) + 1) = true := decide_eq_true (by omega)
        have wj : IntKind.i64.wrap (j : Int) = j := IntWalk.i64_in _ (by omega)
        have hjl : decide (j < n) = true := by simp; omega
        have CC := lid (compareKeys_any x.key pt W1.drew)
        have HC := lid (cmpD_le x.key pt)
        obtain ⟨c, hcc⟩ : ∃ c, cmpD x.key pt = c := ⟨_, rfl⟩
        rw [hcc] at CC HC
        clear hpt hcc
        cases ho : ltD pt x.key with
        | false =>
          have HV := lid (bal_order (b := x.bal) (q := pt) (l := (l.drop (j + 1 + 1)).map Rw.bal) ho)
          have hd := HC.out
          rw [ho] at hd
          clear ho
          go_wp2_with fail
          refine wp_region_seq (fun w' => ∃ s : Since W1.heap.size W1, w' = s.world) [(0, true), (1, true), (2, true), (3, true), (4, true), (5, true), (6, true), (7, true), (8, true), (9, true), (10, true), (11, false), (12, true), (13, true)] (by kernel_rfl) (by kernel_rfl) (by intro c d v a w h; cases d <;> exact h) (since (Below.refl _ _).drew) ?_
          repeat (first | (refine seq_skip (by rfl) (by rfl) ?_; simp only [Act.put, List.setIfInBounds_toArray, List.set_cons_succ, List.set_cons_zero]) | (refine seq_float (by rfl) (by rfl) (by rfl) ?_; intro K hK; go_big_quiet_op; go_big_quiet_on))
          refine seq_chain (by rfl) ?_
          intro K hK
          go_wp2_with fail
          (with_reducible refine (CC.out).mono ?_); rintro e w2 ⟨rfl, hb2⟩
          have hb2' : Below W1.heap.size W1 w2 := (Below.refl _ _).drew.trans hb2
          go_wp2_with fail
          refine hK.out _ _ (since hb2') ?_
          clear hK K
          repeat (first | (refine seq_skip (by rfl) (by rfl) ?_; simp only [Act.put, List.setIfInBounds_toArray, List.set_cons_succ, List.set_cons_zero]) | (refine seq_float (by rfl) (by rfl) (by rfl) ?_; intro K hK; go_big_quiet_op; go_big_quiet_on))
          refine seq_nil ?_
          go_wp2_with fail
          go_ret
          exact ⟨ret_int' (by rw [HG.out, HD.out, HV.out]), hw1.trans (hb2'.mono hw1.size)⟩
        | true =>
          have HO : Hid (∀ q, some pt = some q → ltD q x.bal.1 = true) := lid (fun q h => by cases h; exact ho)
          have hd := HC.out
          rw [ho] at hd
          clear ho
          go_wp2_with fail
          refine wp_region_seq (fun w' => ∃ s : Since W1.heap.size W1, w' = s.world) [(0, true), (1, true), (2, true), (3, true), (4, true), (5, true), (6, true), (7, true), (8, true), (9, true), (10, true), (11, false), (12, true), (13, true)] (by kernel_rfl) (by kernel_rfl) (by intro c d v a w h; cases d <;> exact h) (since (Below.refl _ _).drew) ?_
          repeat (first | (refine seq_skip (by rfl) (by rfl) ?_; simp only [Act.put, List.setIfInBounds_toArray, List.set_cons_succ, List.set_cons_zero]) | (refine seq_float (by rfl) (by rfl) (by rfl) ?_; intro K hK; go_big_quiet_op; go_big_quiet_on))
          refine seq_chain (by rfl) ?_
          intro K hK
          go_wp2_with fail
          (with_reducible refine (CC.out).mono ?_); rintro e w2 ⟨rfl, hb2⟩
          have hb2' : Below W1.heap.size W1 w2 := (Below.refl _ _).drew.trans hb2
          go_wp2_with fail
          refine hK.out _ _ (since hb2') ?_
          clear hK K
          repeat (first | (refine seq_skip (by rfl) (by rfl) ?_; simp only [Act.put, List.setIfInBounds_toArray, List.set_cons_succ, List.set_cons_zero]) | (refine seq_float (by rfl) (by rfl) (by rfl) ?_; intro K hK; go_big_quiet_op; go_big_quiet_on))
          refine seq_nil ?_
          have hb12 : Below wr.heap.size wr w2 := hb1.trans (hb2'.mono hb1.size)
          have hw2 := hw1.trans (hb2'.mono hw1.size)
          replace y0 := (bc hb2' hlt1 0).trans y0
          replace y1 := (bc hb2' hlt1 1).trans y1
          replace y2 := (bc hb2' hlt1 2).trans y2
          clear CC z0 z1 hb2 hb2'
          by_cases hm0 : m = 0
          · have HV : Hid (votesE x.vs = 1) := lid (by unfold votesE; rw [if_pos (List.eq_nil_of_length_eq_zero (by rw [HM.out, hm0]))])
            have HV2 := lid (bal_votes (b := x.bal) (p := some pt) (l := (l.drop ((j + 1) + 1)).map Rw.bal) HO.out (by show votesE x.vs ≠ 0; rw [HV.out]; decide))
            have d0 : ((m : Int) == 0) = true := by simp; omega
            clear hm0
            go_wp2_with fail
            go_ret
            exact ⟨ret_int' (by rw [HG.out, HD.out, HV2.out]; exact HV.out.symm), hw2⟩
          · have HV : Hid (votesE x.vs = votesGo none x.vs) := lid (by unfold votesE; rw [if_neg (fun e => hm0 (by rw [← HM.out, e]; rfl))])
            have d0 : ((m : Int) == 0) = false := by simp; omega
            have CV := lid (checkVotes_any x.vs m x.cap x.ao w2 (by omega) (HVA.out.below hb12))
            obtain ⟨ev, hev⟩ : ∃ y, votesGo none x.vs = y := ⟨_, rfl⟩
            rw [hev] at CV HV
            clear hm0 hev
            go_wp2_with fail
            (with_reducible refine (CV.out).mono ?_); rintro e w3 ⟨rfl, hb3⟩
            have hw3 := hw2.trans (hb3.mono hw2.size)
            clear CV
            by_cases he : ev = 0
            · have HV2 := lid (bal_next (b := x.bal) (p := some pt) (l := (l.drop ((j + 1) + 1)).map Rw.bal) HO.out (by show votesE x.vs = 0; rw [HV.out, he]))
              have d1 : (ev == 0) = true := by simpa using he
              have d2 : (ev != 0) = false := by simpa using he
              clear he
              go_wp2_with fail
              go_roundw
              case rel => exact ⟨(j + 1) + 1, some x.key, by omega, by go_num, lid (by rw [HG.out, HD.out, HV2.out]; rfl), lid (.inr ⟨(j + 1), hkl, rfl, by rw [HRK.out]⟩), hw3⟩
              case measure => simp [intOf]; omega
            · have HV2 := lid (bal_votes (b := x.bal) (p := some pt) (l := (l.drop ((j + 1) + 1)).map Rw.bal) HO.out (by show votesE x.vs ≠ 0; rw [HV.out]; exact he))
              have d1 : (ev == 0) = false := by simpa using he
              have d2 : (ev != 0) = true := by simpa using he
              clear he
              go_wp2_with fail
              go_ret
              exact ⟨ret_int' (by rw [HG.out, HD.out, HV2.out]; exact HV.out.symm), hw3⟩
    · obtain rfl : k = n := by omega
      have HV : Hid (balGo p ((l.drop k).map Rw.bal) = 0) := lid (by rw [List.drop_of_length_le (by rw [HN.out]; exact Nat.le_refl _)]; rfl)
      have dk : decide ((k : Int) < (k : Int)) = false := by simp
      go_wp2_with fail
      go_ret
      exact ⟨ret_int' (by rw [HG.out, HV.out]), hb⟩

set_option maxRecDepth 100000 in
set_option maxHeartbeats 8000000 in
theorem refVotes_any (l : List Vt) (n cap : Nat) (ao : Option Addr) (w : World) (hm : n ≤ 1000000) (h : VA w ao n cap l) :
    Calls Try.prog 43 #[.slice ao n cap] w fun e w' => e = .returned (.int .i64 (votesE l)) ∧ Below w.heap.size w w' := by
  by_cases h0 : n = 0
  · subst h0
    have HV : Hid (votesE l = 1) := lid (by unfold votesE; rw [if_pos (List.eq_nil_of_length_eq_zero h.len)])
    clear h
    go_enter Try.func43, Try.ntmps43
    go_wp2_with fail
    go_ret
    exact ⟨ret_int' HV.out.symm, Below.refl _ _⟩
  have HC : Hid (votesE l = votesGo none l) := lid (by unfold votesE; rw [if_neg (fun e => h0 (by rw [← h.len, e]; rfl))])
  have d0 : ((n : Int) == 0) = false := by simp; omega
  have HN := lid h.len
  have HS := lid h.sl
  have HR := lid h.sz
  clear h h0
  go_enter Try.func43, Try.ntmps43
  go_wp2_with fail
  go_loopw [3] (fun i wr => ∃ (k : Nat) (p : Option ByteArray), k ≤ n ∧ i = .int .i64 k ∧ Hid (votesGo none l = votesGo p (l.drop k)) ∧ Hid (k = 0 ∧ p = none ∨ ∃ (j : Nat) (hj : j < l.length), k = j + 1 ∧ p = some (l[j]).1) ∧ Below w.heap.size w wr) (fun i _ => n - (intOf i).toNat)
  case atStart => exact ⟨0, none, Nat.zero_le _, rfl, lid rfl, lid (.inl ⟨rfl, rfl⟩), Below.refl _ _⟩
  case round =>
    obtain ⟨k, p, hk, rfl, HG, HP, hb⟩ := hrel
    by_cases hlt : k < n
    · have hkl : k < l.length := by rw [HN.out]; exact hlt
      obtain ⟨b1, o1, rfl, hlb, hcell⟩ := (HS.out.below hb).at_ hlt
      have x0 := hcell (k * 2 + 0) _ (vcells_at hkl).1
      have x1 := hcell (k * 2 + 1) _ (vcells_at hkl).2
      rw [← Nat.add_assoc] at x1
      rw [Nat.add_zero] at x0
      have HD := lid (List.drop_eq_getElem_cons hkl)
      have HRS := lid (HR.out _ (List.getElem_mem hkl))
      have HK0 : Hid (∀ j (hj : j < l.length), wr.cell? ⟨b1, o1 + j * 2, none⟩ = some (.string (l[j]).1)) := lid (fun j hj => by have := hcell (j * 2 + 0) _ (vcells_at hj).1; rwa [Nat.add_zero] at this)
      have dk : decide ((k : Int) < (n : Int)) = true := by simp; omega
      obtain ⟨x, hrk⟩ : ∃ r, l[k] = r := ⟨_, rfl⟩
      rw [hrk] at x0 x1 HD HRS
      have HRK := lid hrk
      have hsz : x.2.size ≤ 9223372036854775807 := HRS.out.2
      have hsw : x.1.size ≤ 9223372036854775807 := HRS.out.1
      clear hcell hrk
      by_cases hw1 : 1 ≤ x.1.size
      case neg =>
        have HV := lid (votes_name (v := x) (p := p) (l := l.drop (k + 1)) (by unfold workerB; simp; omega))
        have d1 : decide ((x.1.size : Int) < 1) = true := by simp; omega
        clear hw1
        go_wp2_with fail
        go_ret
        exact ⟨ret_int' (by rw [HC.out, HG.out, HD.out, HV.out]), hb⟩
      have d1 : decide ((x.1.size : Int) < 1) = false := by simp; omega
      by_cases hw2 : x.1.size ≤ 24
      case neg =>
        have HV := lid (votes_name (v := x) (p := p) (l := l.drop (k + 1)) (by unfold workerB; simp; omega))
        have d2 : decide ((24 : Int) < (x.1.size : Int)) = true := by simp; omega
        clear hw1 hw2
        go_wp2_with fail
        go_ret
        exact ⟨ret_int' (by rw [HC.out, HG.out, HD.out, HV.out]), hb⟩
      have d2 : decide ((24 : Int) < (x.1.size : Int)) = false := by simp; omega
      have HB : Hid (workerB x.1 = true) := lid (by unfold workerB; simp; omega)
      clear hw1 hw2
      rcases HP.out with ⟨rfl, rfl⟩ | ⟨j, hj, rfl, rfl⟩
      · have HO : Hid (∀ q, (none : Option ByteArray) = some q → leB x.1 q = false) := lid (fun q h => by cases h)
        simp only [Nat.zero_mul, Nat.add_zero] at x0 x1
        go_wp2_with fail
        refine wp_region_seq (fun w' => ∃ s : Since wr.heap.size wr, w' = s.world) [(0, true), (1, true), (2, true), (3, true), (4, true), (5, true), (6, true), (7, true), (8, true), (9, true), (10, true), (11, true), (12, true), (13, true), (14, true), (15, true)] (by kernel_rfl) (by kernel_rfl) (by intro c d v a w h; cases d <;> exact h) (since (Below.refl _ _).drew) ?_
        repeat (first | (refine seq_skip (by rfl) (by rfl) ?_; simp only [Act.put, List.setIfInBounds_toArray, List.set_cons_succ, List.set_cons_zero]) | (refine seq_float (by rfl) (by rfl) (by rfl) ?_; intro K hK; go_big_quiet_op; go_big_quiet_on))
        refine seq_nil ?_
        by_cases hz : 65536 < x.2.size
        · have HV := lid (votes_limit (v := x) (p := none) (l := l.drop (0 + 1)) HB.out HO.out hz)
          have dz : decide ((65536 : Int) < (x.2.size : Int)) = true := by simp; omega
          clear hz
          go_wp2_with fail
          go_ret
          exact ⟨ret_int' (by rw [HC.out, HG.out, HD.out, HV.out]), hb.drew⟩
        · have HV := lid (votes_next (v := x) (p := none) (l := l.drop (0 + 1)) HB.out HO.out hz)
          have dz : decide ((65536 : Int) < (x.2.size : Int)) = false := by simp; omega
          clear hz
          go_wp2_with fail
          go_roundw
          case rel => exact ⟨0 + 1, some x.1, by omega, by go_num, lid (by rw [HG.out, HD.out, HV.out]), lid (.inr ⟨0, hkl, rfl, by rw [HRK.out]⟩), hb.drew⟩
          case measure => simp [intOf]; omega
      · have z := HK0.out j hj
        obtain ⟨pt, hpt⟩ : ∃ pt, (l[j]).1 = pt := ⟨_, rfl⟩
        rw [hpt] at z HG
        have hj9 : j ≤ 1000000 := by omega
        have hjn : (j : Int) < n := by omega
        have hjn1 : (j : Int) + 1 < n := by omega
        have e0 : ((j + 1 : Nat) : Int) = (j : Int) + 1 := by omega
        have hpos : decide ((0 : Int) < (j : Int) + 1) = true := decide_eq_true (by omega)
        have wj : IntKind.i64.wrap (j : Int) = j := IntWalk.i64_in _ (by omega)
        have hjl : decide (j < n) = true := by simp; omega
        clear hpt
        cases ho : leB x.1 pt with
        | true =>
          have HV := lid (votes_order (v := x) (q := pt) (l := l.drop (j + 1 + 1)) HB.out ho)
          have hd : (Op.bytesLess x.1.toList pt.toList || x.1.toList == pt.toList) = true := ho
          clear ho
          go_wp2_with fail
          refine wp_region_seq (fun w' => ∃ s : Since wr.heap.size wr, w' = s.world) [(0, true), (1, true), (2, true), (3, true), (4, true), (5, true), (6, true), (7, true), (8, true), (9, true), (10, true), (11, true), (12, true), (13, true), (14, true), (15, true)] (by kernel_rfl) (by kernel_rfl) (by intro c d v a w h; cases d <;> exact h) (since (Below.refl _ _).drew) ?_
          repeat (first | (refine seq_skip (by rfl) (by rfl) ?_; simp only [Act.put, List.setIfInBounds_toArray, List.set_cons_succ, List.set_cons_zero]) | (refine seq_float (by rfl) (by rfl) (by rfl) ?_; intro K hK; go_big_quiet_op; go_big_quiet_on))
          refine seq_nil ?_
          go_wp2_with fail
          go_ret
          exact ⟨ret_int' (by rw [HC.out, HG.out, HD.out, HV.out]), hb.drew⟩
        | false =>
          have HO : Hid (∀ q, some pt = some q → leB x.1 q = false) := lid (fun q h => by cases h; exact ho)
          have hd : (Op.bytesLess x.1.toList pt.toList || x.1.toList == pt.toList) = false := ho
          clear ho
          go_wp2_with fail
          refine wp_region_seq (fun w' => ∃ s : Since wr.heap.size wr, w' = s.world) [(0, true), (1, true), (2, true), (3, true), (4, true), (5, true), (6, true), (7, true), (8, true), (9, true), (10, true), (11, true), (12, true), (13, true), (14, true), (15, true)] (by kernel_rfl) (by kernel_rfl) (by intro c d v a w h; cases d <;> exact h) (since (Below.refl _ _).drew) ?_
          repeat (first | (refine seq_skip (by rfl) (by rfl) ?_; simp only [Act.put, List.setIfInBounds_toArray, List.set_cons_succ, List.set_cons_zero]) | (refine seq_float (by rfl) (by rfl) (by rfl) ?_; intro K hK; go_big_quiet_op; go_big_quiet_on))
          refine seq_nil ?_
          by_cases hz : 65536 < x.2.size
          · have HV := lid (votes_limit (v := x) (p := some pt) (l := l.drop ((j + 1) + 1)) HB.out HO.out hz)
            have dz : decide ((65536 : Int) < (x.2.size : Int)) = true := by simp; omega
            clear hz
            go_wp2_with fail
            go_ret
            exact ⟨ret_int' (by rw [HC.out, HG.out, HD.out, HV.out]), hb.drew⟩
          · have HV := lid (votes_next (v := x) (p := some pt) (l := l.drop ((j + 1) + 1)) HB.out HO.out hz)
            have dz : decide ((65536 : Int) < (x.2.size : Int)) = false := by simp; omega
            clear hz
            go_wp2_with fail
            go_roundw
            case rel => exact ⟨(j + 1) + 1, some x.1, by omega, by go_num, lid (by rw [HG.out, HD.out, HV.out]), lid (.inr ⟨(j + 1), hkl, rfl, by rw [HRK.out]⟩), hb.drew⟩
            case measure => simp [intOf]; omega
    · obtain rfl : k = n := by omega
      have HV : Hid (votesGo p (l.drop k) = 0) := lid (by rw [List.drop_of_length_le (by rw [HN.out]; exact Nat.le_refl _)]; rfl)
      have dk : decide ((k : Int) < (k : Int)) = false := by simp
      go_wp2_with fail
      go_ret
      exact ⟨ret_int' (by rw [HC.out, HG.out, HV.out]), hb⟩

set_option maxHeartbeats 1000000 in
theorem refLess_any (a b : Dg) (w : World) : Calls Try.prog 46 #[dv a, dv b] w fun e w' => e = .returned (.bool (ltD a b)) ∧ Below w.heap.size w w' := by
  by_cases h1 : a.1.toNat < b.1.toNat
  · have HV : Hid (ltD a b = true) := lid (ltD_iff.2 (.inl h1))
    have d1 : decide (a.1.toNat < b.1.toNat) = true := by simp; omega
    clear h1
    go_enter Try.func46, Try.ntmps46
    go_wp2_with fail
    go_ret
    exact ⟨ret_bool (by rw [HV.out]), ba2 _ _ _⟩
  · have d1 : decide (a.1.toNat < b.1.toNat) = false := by simp; omega
    by_cases h2 : a.1.toNat = b.1.toNat
    · have HV : Hid (ltD a b = decide (a.2.toNat < b.2.toNat)) := lid (by rw [Bool.eq_iff_iff, ltD_iff]; simp; omega)
      have d2 : ((a.1.toNat : Int) == (b.1.toNat : Int)) = true := by simp; omega
      by_cases h3 : a.2.toNat < b.2.toNat
      · have d3 : decide (a.2.toNat < b.2.toNat) = true := by simp; omega
        rw [decide_eq_true h3] at HV
        clear h1 h2 h3
        go_enter Try.func46, Try.ntmps46
        go_wp2_with fail
        go_ret
        exact ⟨ret_bool (by rw [HV.out]), ba2 _ _ _⟩
      · have d3 : decide (a.2.toNat < b.2.toNat) = false := by simp; omega
        rw [decide_eq_false h3] at HV
        clear h1 h2 h3
        go_enter Try.func46, Try.ntmps46
        go_wp2_with fail
        go_ret
        exact ⟨ret_bool (by rw [HV.out]), ba2 _ _ _⟩
    · have HV : Hid (ltD a b = false) := lid (by
        cases h : ltD a b with
        | false => rfl
        | true => rw [ltD_iff] at h; omega)
      have d2 : ((a.1.toNat : Int) == (b.1.toNat : Int)) = false := by simp; omega
      clear h1 h2
      go_enter Try.func46, Try.ntmps46
      go_wp2_with fail
      go_ret
      exact ⟨ret_bool (by rw [HV.out]), ba2 _ _ _⟩

set_option maxRecDepth 100000 in
set_option maxHeartbeats 8000000 in
theorem refCheck_any (l : List Rw) (n cap : Nat) (ao : Option Addr) (w : World) (hm : n ≤ 1000000) (h : BA w ao n cap l) (hv : ∀ r ∈ l, r.vs.length ≤ 1000000) :
    Calls Try.prog 15 #[.slice ao n cap] w fun e w' => e = .returned (.int .i64 (checkB (l.map Rw.bal))) ∧ Below w.heap.size w w' := by
  unfold checkB
  have HN := lid h.len
  have HS := lid h.sl
  have HR := lid h.ok
  have HVS := lid hv
  clear h hv
  go_enter Try.func15, Try.ntmps15
  go_wp2_with fail
  go_loopw [3, 4] (fun i _ wr => ∃ (k : Nat) (p : Option Dg), k ≤ n ∧ i = .int .i64 k ∧ Hid (balGo none (l.map Rw.bal) = balGo p ((l.drop k).map Rw.bal)) ∧ Hid (k = 0 ∧ p = none ∨ ∃ (j : Nat) (hj : j < l.length), k = j + 1 ∧ p = some (l[j]).key) ∧ Below w.heap.size w wr) (fun i _ _ => n - (intOf i).toNat)
  case atStart => exact ⟨0, none, Nat.zero_le _, rfl, lid rfl, lid (.inl ⟨rfl, rfl⟩), Below.refl _ _⟩
  case round =>
    obtain ⟨k, p, hk, rfl, HG, HP, hb⟩ := hrel
    by_cases hlt : k < n
    · have hkl : k < l.length := by rw [HN.out]; exact hlt
      obtain ⟨b1, o1, rfl, hlb, hcell⟩ := (HS.out.below hb).at_ hlt
      have x0 := hcell (k * 3 + 0) _ (rcells_at hkl).1
      have x1 := hcell (k * 3 + 1) _ (rcells_at hkl).2.1
      have x2 := hcell (k * 3 + 2) _ (rcells_at hkl).2.2
      rw [← Nat.add_assoc] at x1 x2
      rw [Nat.add_zero] at x0
      have HD : Hid ((l.drop k).map Rw.bal = (l[k]).bal :: (l.drop (k + 1)).map Rw.bal) := lid (by rw [List.drop_eq_getElem_cons hkl]; rfl)
      have HVA := lid ((HR.out _ (List.getElem_mem hkl)).below hb)
      have hxs := HVS.out _ (List.getElem_mem hkl)
      have HK0 : Hid (∀ j (hj : j < l.length), wr.cell? ⟨b1, o1 + j * 3, none⟩ = some (.int .u64 (l[j]).key.1.toNat) ∧ wr.cell? ⟨b1, o1 + j * 3 + 1, none⟩ = some (.int .u64 (l[j]).key.2.toNat)) := lid (fun j hj => by
        have h0 := hcell (j * 3 + 0) _ (rcells_at hj).1
        have h1 := hcell (j * 3 + 1) _ (rcells_at hj).2.1
        rw [← Nat.add_assoc] at h1
        rw [Nat.add_zero] at h0
        exact ⟨h0, h1⟩)
      have dk : decide ((k : Int) < (n : Int)) = true := by simp; omega
      obtain ⟨x, hrk⟩ : ∃ r, l[k] = r := ⟨_, rfl⟩
      rw [hrk] at x0 x1 x2 HD HVA hxs
      have HRK := lid hrk
      obtain ⟨m, hmx⟩ : ∃ m, x.vs.length = m := ⟨_, rfl⟩
      rw [hmx] at x2 HVA hxs
      clear hcell hrk hmx
      rcases HP.out with ⟨rfl, rfl⟩ | ⟨j, hj, rfl, rfl⟩
      · have HO : Hid (∀ q, (none : Option Dg) = some q → ltD q x.bal.1 = true) := lid (fun q h => by cases h)
        simp only [Nat.zero_mul, Nat.add_zero] at x0 x1 x2
        go_wp2_with fail
        refine wp_region_seq (fun w' => ∃ s : Since wr.heap.size wr, w' = s.world) [(0, true), (1, true), (2, true), (3, true), (4, true), (5, true), (6, true), (7, true), (8, true), (9, true), (10, true), (11, true), (12, true), (13, true), (14, true), (15, true), (16, true)] (by kernel_rfl) (by kernel_rfl) (by intro c d v a w h; cases d <;> exact h) (since (Below.refl _ _).drew) ?_
        repeat (first | (refine seq_skip (by rfl) (by rfl) ?_; simp only [Act.put, List.setIfInBounds_toArray, List.set_cons_succ, List.set_cons_zero]) | (refine seq_float (by rfl) (by rfl) (by rfl) ?_; intro K hK; go_big_quiet_op; go_big_quiet_on))
        refine seq_nil ?_
        have hb12 : Below wr.heap.size wr wr.drew := (Below.refl _ _).drew
        have hw2 := hb.drew
        have CV := lid (refVotes_any x.vs m x.cap x.ao wr.drew (by omega) (HVA.out.below hb12))
        have HVE : Hid (votesE x.bal.2 = votesE x.vs) := lid rfl
        obtain ⟨ev, hev⟩ : ∃ y, votesE x.vs = y := ⟨_, rfl⟩
        rw [hev] at CV HVE
        clear hev
        go_wp2_with fail
        (with_reducible refine (CV.out).mono ?_); rintro e w3 ⟨rfl, hb3⟩
        have hw3 := hw2.trans (hb3.mono hw2.size)
        clear CV
        by_cases he : ev = 0
        · have HV2 := lid (bal_next (b := x.bal) (p := none) (l := (l.drop (0 + 1)).map Rw.bal) HO.out (by rw [HVE.out, he]))
          have d1 : (ev == 0) = true := by simpa using he
          have d2 : (ev != 0) = false := by simpa using he
          clear he
          go_wp2_with fail
          go_roundw
          case rel => exact ⟨0 + 1, some x.key, by omega, by go_num, lid (by rw [HG.out, HD.out, HV2.out]; rfl), lid (.inr ⟨0, hkl, rfl, by rw [HRK.out]⟩), hw3⟩
          case measure => simp [intOf]; omega
        · have HV2 := lid (bal_votes (b := x.bal) (p := none) (l := (l.drop (0 + 1)).map Rw.bal) HO.out (by rw [HVE.out]; exact he))
          have d1 : (ev == 0) = false := by simpa using he
          have d2 : (ev != 0) = true := by simpa using he
          clear he
          go_wp2_with fail
          go_ret
          exact ⟨ret_int' (by rw [HG.out, HD.out, HV2.out]; exact HVE.out.symm), hw3⟩
      · have z0 := (HK0.out j hj).1
        have z1 := (HK0.out j hj).2
        obtain ⟨pt, hpt⟩ : ∃ pt, (l[j]).key = pt := ⟨_, rfl⟩
        rw [hpt] at z0 z1 HG
        have hj9 : j ≤ 1000000 := by omega
        have hjn : (j : Int) < n := by omega
        have hjn1 : (j : Int) + 1 < n := by omega
        have e0 : ((j + 1 : Nat) : Int) = (j : Int) + 1 := by omega
        have hpos : decide ((0 : Int) < (j : Int) + 1) = true := decide_eq_true (by omega)
        have wj : IntKind.i64.wrap (j : Int) = j := IntWalk.i64_in _ (by omega)
        have hjl : decide (j < n) = true := by simp; omega
        have CC := lid (refLess_any pt x.key wr.drew)
        clear hpt
        cases ho : ltD pt x.key with
        | false =>
          have HV := lid (bal_order (b := x.bal) (q := pt) (l := (l.drop (j + 1 + 1)).map Rw.bal) ho)
          rw [ho] at CC
          clear ho
          go_wp2_with fail
          refine wp_region_seq (fun w' => ∃ s : Since wr.heap.size wr, w' = s.world) [(0, true), (1, true), (2, true), (3, true), (4, true), (5, true), (6, true), (7, true), (8, true), (9, true), (10, true), (11, true), (12, true), (13, true), (14, false), (15, true), (16, true)] (by kernel_rfl) (by kernel_rfl) (by intro c d v a w h; cases d <;> exact h) (since (Below.refl _ _).drew) ?_
          repeat (first | (refine seq_skip (by rfl) (by rfl) ?_; simp only [Act.put, List.setIfInBounds_toArray, List.set_cons_succ, List.set_cons_zero]) | (refine seq_float (by rfl) (by rfl) (by rfl) ?_; intro K hK; go_big_quiet_op; go_big_quiet_on))
          refine seq_chain (by rfl) ?_
          intro K hK
          go_wp2_with fail
          (with_reducible refine (CC.out).mono ?_); rintro e w2 ⟨rfl, hb2⟩
          have hb2' : Below wr.heap.size wr w2 := (Below.refl _ _).drew.trans hb2
          go_wp2_with fail
          refine hK.out _ _ (since hb2') ?_
          clear hK K
          repeat (first | (refine seq_skip (by rfl) (by rfl) ?_; simp only [Act.put, List.setIfInBounds_toArray, List.set_cons_succ, List.set_cons_zero]) | (refine seq_float (by rfl) (by rfl) (by rfl) ?_; intro K hK; go_big_quiet_op; go_big_quiet_on))
          refine seq_nil ?_
          go_wp2_with fail
          go_ret
          exact ⟨ret_int' (by rw [HG.out, HD.out, HV.out]), hb.trans (hb2'.mono hb.size)⟩
        | true =>
          have HO : Hid (∀ q, some pt = some q → ltD q x.bal.1 = true) := lid (fun q h => by cases h; exact ho)
          rw [ho] at CC
          clear ho
          go_wp2_with fail
          refine wp_region_seq (fun w' => ∃ s : Since wr.heap.size wr, w' = s.world) [(0, true), (1, true), (2, true), (3, true), (4, true), (5, true), (6, true), (7, true), (8, true), (9, true), (10, true), (11, true), (12, true), (13, true), (14, false), (15, true), (16, true)] (by kernel_rfl) (by kernel_rfl) (by intro c d v a w h; cases d <;> exact h) (since (Below.refl _ _).drew) ?_
          repeat (first | (refine seq_skip (by rfl) (by rfl) ?_; simp only [Act.put, List.setIfInBounds_toArray, List.set_cons_succ, List.set_cons_zero]) | (refine seq_float (by rfl) (by rfl) (by rfl) ?_; intro K hK; go_big_quiet_op; go_big_quiet_on))
          refine seq_chain (by rfl) ?_
          intro K hK
          go_wp2_with fail
          (with_reducible refine (CC.out).mono ?_); rintro e w2 ⟨rfl, hb2⟩
          have hb12 : Below wr.heap.size wr w2 := (Below.refl _ _).drew.trans hb2
          go_wp2_with fail
          refine hK.out _ _ (since hb12) ?_
          clear hK K
          repeat (first | (refine seq_skip (by rfl) (by rfl) ?_; simp only [Act.put, List.setIfInBounds_toArray, List.set_cons_succ, List.set_cons_zero]) | (refine seq_float (by rfl) (by rfl) (by rfl) ?_; intro K hK; go_big_quiet_op; go_big_quiet_on))
          refine seq_nil ?_
          have hw2 := hb.trans (hb12.mono hb.size)
          replace x0 := (bc hb12 hlb _).trans x0
          replace x1 := (bc hb12 hlb _).trans x1
          replace x2 := (bc hb12 hlb _).trans x2
          clear CC z0 z1 hb2
          have CV := lid (refVotes_any x.vs m x.cap x.ao w2 (by omega) (HVA.out.below hb12))
          have HVE : Hid (votesE x.bal.2 = votesE x.vs) := lid rfl
          obtain ⟨ev, hev⟩ : ∃ y, votesE x.vs = y := ⟨_, rfl⟩
          rw [hev] at CV HVE
          clear hev
          go_wp2_with fail
          (with_reducible refine (CV.out).mono ?_); rintro e w3 ⟨rfl, hb3⟩
          have hw3 := hw2.trans (hb3.mono hw2.size)
          clear CV
          by_cases he : ev = 0
          · have HV2 := lid (bal_next (b := x.bal) (p := some pt) (l := (l.drop ((j + 1) + 1)).map Rw.bal) HO.out (by rw [HVE.out, he]))
            have d1 : (ev == 0) = true := by simpa using he
            have d2 : (ev != 0) = false := by simpa using he
            clear he
            go_wp2_with fail
            go_roundw
            case rel => exact ⟨(j + 1) + 1, some x.key, by omega, by go_num, lid (by rw [HG.out, HD.out, HV2.out]; rfl), lid (.inr ⟨(j + 1), hkl, rfl, by rw [HRK.out]⟩), hw3⟩
            case measure => simp [intOf]; omega
          · have HV2 := lid (bal_votes (b := x.bal) (p := some pt) (l := (l.drop ((j + 1) + 1)).map Rw.bal) HO.out (by rw [HVE.out]; exact he))
            have d1 : (ev == 0) = false := by simpa using he
            have d2 : (ev != 0) = true := by simpa using he
            clear he
            go_wp2_with fail
            go_ret
            exact ⟨ret_int' (by rw [HG.out, HD.out, HV2.out]; exact HVE.out.symm), hw3⟩
    · obtain rfl : k = n := by omega
      have HV : Hid (balGo p ((l.drop k).map Rw.bal) = 0) := lid (by rw [List.drop_of_length_le (by rw [HN.out]; exact Nat.le_refl _)]; rfl)
      have dk : decide ((k : Int) < (k : Int)) = false := by simp
      go_wp2_with fail
      go_ret
      exact ⟨ret_int' (by rw [HG.out, HV.out]), hb⟩

end Go.Proofs.Ytcpnpcbaifagbaa
