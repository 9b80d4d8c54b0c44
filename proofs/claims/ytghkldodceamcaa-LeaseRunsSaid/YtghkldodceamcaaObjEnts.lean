/-
  Why entries are not valid: object and its reference.
-/
import Derived.Test.YtghkldodceamcaaObjSpec
import Derived.Test.YtghkldodceamcaaCells
namespace Go.Proofs.Ytghkldodceamcaa
open Go.RowKit

theorem ret_int' {a b : Int} (h : a = b) : Ending.returned (.int .i64 a) = .returned (.int .i64 b) := by rw [h]
theorem zeroB_spell (d : Dg) : (((d.1.toNat : Int) == 0) && ((d.2.toNat : Int) == 0)) = zeroB d := by
  unfold zeroB
  rw [Bool.eq_iff_iff]
  simp only [Bool.and_eq_true, beq_iff_eq, decide_eq_true_eq]
  constructor
  · rintro ⟨h1, h2⟩
    exact Prod.ext (UInt64.toNat_inj.1 (by simp; omega)) (UInt64.toNat_inj.1 (by simp; omega))
  · rintro rfl
    simp
set_option maxRecDepth 100000 in
set_option maxHeartbeats 8000000 in
theorem checkEntries_any (l : List Ent) (n cap : Nat) (ao : Option Addr) (w : World) (hn : l.length = n) (hs : Sl w 4 ao n (ecells l)) (hr : ∀ e ∈ l, e.1.size ≤ maxLen) (hm : n ≤ maxLen) :
    Calls Try.prog 58 #[.slice ao n cap] w fun e w' => e = .returned (.int .i64 (entsE l)) ∧ Below w.heap.size w w' := by
  have HN := lid hn
  have HS := lid hs
  have HR := lid hr
  have hm' : n ≤ 9223372036854775807 := hm
  clear hn hs hr hm
  by_cases h4 : 200 < n
  · have HC : Hid (entsE l = 4) := lid (by unfold entsE; rw [if_neg (by rw [HN.out]; omega)])
    have d4 : decide ((200 : Int) < (n : Int)) = true := by simp; omega
    go_enter Try.func58, Try.ntmps58
    go_wp2_with fail
    go_ret
    exact ⟨ret_int' HC.out.symm, Below.refl _ _⟩
  have HC : Hid (entsE l = entsGo none l) := lid (by unfold entsE; rw [if_pos (by rw [HN.out]; omega)])
  have d4 : decide ((200 : Int) < (n : Int)) = false := by simp; omega
  go_enter Try.func58, Try.ntmps58
  go_wp2_with fail
  go_loopw [3, 4, 10, 15, 20, 34] (fun _ _ i _ _ _ wr => ∃ (k : Nat) (p : Option ByteArray), k ≤ n ∧ i = .int .i64 k ∧ Hid (entsGo none l = entsGo p (l.drop k)) ∧ Hid (k = 0 ∧ p = none ∨ ∃ (j : Nat) (hj : j < l.length), k = j + 1 ∧ p = some (l[j]).1) ∧ Below w.heap.size w wr) (fun _ _ i _ _ _ _ => n - (intOf i).toNat)
  case atStart => exact ⟨0, none, Nat.zero_le _, rfl, lid rfl, lid (.inl ⟨rfl, rfl⟩), Below.refl _ _⟩
  case round =>
    obtain ⟨k, p, hk, rfl, HG, HP, hb⟩ := hrel
    by_cases hlt : k < n
    · have hkl : k < l.length := by rw [HN.out]; exact hlt
      obtain ⟨b1, o1, rfl, hlb, hcell⟩ := (HS.out.below hb).at_ hlt
      have x0 := hcell (k * 4 + 0) _ (ecells_at hkl).1
      have x1 := hcell (k * 4 + 1) _ (ecells_at hkl).2.1
      have x2 := hcell (k * 4 + 2) _ (ecells_at hkl).2.2.1
      have x3 := hcell (k * 4 + 3) _ (ecells_at hkl).2.2.2
      rw [← Nat.add_assoc] at x1 x2 x3
      rw [Nat.add_zero] at x0
      have HD := lid (List.drop_eq_getElem_cons hkl)
      have HRS := lid (HR.out _ (List.getElem_mem hkl))
      have HK0 : Hid (∀ j (hj : j < l.length), wr.cell? ⟨b1, o1 + j * 4, none⟩ = some (.string (l[j]).1)) := lid (fun j hj => by have := hcell (j * 4 + 0) _ (ecells_at hj).1; rwa [Nat.add_zero] at this)
      have dk : decide ((k : Int) < (n : Int)) = true := by simp; omega
      clear hcell
      obtain ⟨r, hrk⟩ : ∃ r, l[k] = r := ⟨_, rfl⟩
      rw [hrk] at x0 x1 x2 x3 HD HRS
      obtain ⟨a, dir, d⟩ := r
      simp only at x0 x1 x2 x3
      have HZS := lid (zeroB_spell d)
      have hr0 := congrArg Prod.fst hrk
      clear hrk
      go_wp2_with fail
      obtain ⟨W1, hW1⟩ : ∃ W1, wr.alloc (Obj.cells #[.string a, .bool dir, .int .u64 d.1.toNat, .int .u64 d.2.toNat] 74) = W1 := ⟨_, rfl⟩
      have hb1 : Below wr.heap.size wr W1 := by rw [← hW1]; exact ba _ _
      have y0 : W1.cell? ⟨wr.heap.size, 0, none⟩ = some (.string a) := by rw [← hW1]; exact cell_new_at rfl _ _ _
      have y2 : W1.cell? ⟨wr.heap.size, 2, none⟩ = some (.int .u64 d.1.toNat) := by rw [← hW1]; exact cell_new_at rfl _ _ _
      have y3 : W1.cell? ⟨wr.heap.size, 3, none⟩ = some (.int .u64 d.2.toNat) := by rw [← hW1]; exact cell_new_at rfl _ _ _
      have hlt1 : wr.heap.size < W1.heap.size := by rw [← hW1]; simp
      have hlb1 : b1 < W1.heap.size := by omega
      rw [hW1]
      have hw1 := hb.trans (hb1.mono hb.size)
      clear hW1 x0 x1 x2 x3
      (with_reducible refine (valid_any a _ HRS.out).mono ?_); rintro e w2 ⟨rfl, rfl⟩
      cases hB : nameB a with
      | false =>
        have HV := lid (ents_name (e := (a, dir, d)) (p := p) (l := l.drop (k + 1)) hB)
        clear hB
        go_wp2_with fail
        go_ret
        exact ⟨ret_int' (by rw [HC.out, HG.out, HD.out, HV.out]), hw1⟩
      | true =>
        have HB := lid hB
        clear hB
        rcases HP.out with ⟨rfl, rfl⟩ | ⟨j, hj, rfl, rfl⟩
        · have HO : Hid (∀ q, (none : Option ByteArray) = some q → leB a q = false) := lid (fun q h => by cases h)
          go_wp2_with fail
          refine wp_region_seq (fun w' => ∃ s : Since w2.heap.size w2, w' = s.world) [(0, true), (1, true), (2, true), (3, true), (4, true), (5, true), (6, true), (7, true), (8, true), (9, true), (10, true), (11, true), (12, true), (13, false)] (by kernel_rfl) (by kernel_rfl) (by intro c d v a w h; cases d <;> exact h) (since (Below.refl _ _).drew) ?_
          repeat (first | (refine seq_skip (by rfl) (by rfl) ?_; simp only [Act.put, List.setIfInBounds_toArray, List.set_cons_succ, List.set_cons_zero]) | (refine seq_float (by rfl) (by rfl) (by rfl) ?_; intro K hK; go_big_quiet_op; go_big_quiet_on))
          refine seq_chain (by rfl) ?_
          intro K hK
          go_wp2_with fail
          refine hK.out _ _ (since (Below.refl _ _).drew) ?_
          clear hK K
          repeat (first | (refine seq_skip (by rfl) (by rfl) ?_; simp only [Act.put, List.setIfInBounds_toArray, List.set_cons_succ, List.set_cons_zero]) | (refine seq_float (by rfl) (by rfl) (by rfl) ?_; intro K hK; go_big_quiet_op; go_big_quiet_on))
          refine seq_nil ?_
          cases hz : zeroB d with
          | true =>
            have HV := lid (ents_zero (e := (a, dir, d)) (p := none) (l := l.drop (0 + 1)) HB.out HO.out hz)
            rw [hz] at HZS
            have z0 := HZS.out
            clear hz
            go_wp2_with fail
            go_ret
            exact ⟨ret_int' (by rw [HC.out, HG.out, HD.out, HV.out]), hw1.drew⟩
          | false =>
            have HV := lid (ents_next (e := (a, dir, d)) (p := none) (l := l.drop (0 + 1)) HB.out HO.out hz)
            rw [hz] at HZS
            have z0 := HZS.out
            clear hz
            go_wp2_with fail
            go_roundw
            case rel => exact ⟨1, some a, by omega, by go_num, lid (by rw [HG.out, HD.out, HV.out]), lid (.inr ⟨0, hkl, rfl, by rw [hr0]⟩), hw1.drew⟩
            case measure => simp [intOf]; omega
        · have z := (bc hb1 hlb _).trans (HK0.out j hj)
          obtain ⟨pt, hpt⟩ : ∃ pt, (l[j]).1 = pt := ⟨_, rfl⟩
          rw [hpt] at z HG
          have hj9 : j ≤ 200 := by omega
          have hjn : (j : Int) < n := by omega
          have hjn1 : (j : Int) + 1 < n := by omega
          have e0 : ((j + 1 : Nat) : Int) = (j : Int) + 1 := by omega
          have hpos : decide ((0 : Int) < (j : Int) + 1) = true := decide_eq_true (by omega)
          have wj : IntKind.i64.wrap (j : Int) = j := IntWalk.i64_in _ (by omega)
          have hjl : decide (j < n) = true := by simp; omega
          clear hpt
          cases ho : leB a pt with
          | true =>
            have HV := lid (ents_order (e := (a, dir, d)) (q := pt) (l := l.drop (j + 1 + 1)) HB.out ho)
            have hd : (Op.bytesLess a.toList pt.toList || a.toList == pt.toList) = true := ho
            clear ho
            go_wp2_with fail
            refine wp_region_seq (fun w' => ∃ s : Since w2.heap.size w2, w' = s.world) [(0, true), (1, true), (2, true), (3, true), (4, true), (5, true), (6, true), (7, true), (8, true), (9, true), (10, true), (11, true), (12, true), (13, false)] (by kernel_rfl) (by kernel_rfl) (by intro c d v a w h; cases d <;> exact h) (since (Below.refl _ _).drew) ?_
            repeat (first | (refine seq_skip (by rfl) (by rfl) ?_; simp only [Act.put, List.setIfInBounds_toArray, List.set_cons_succ, List.set_cons_zero]) | (refine seq_float (by rfl) (by rfl) (by rfl) ?_; intro K hK; go_big_quiet_op; go_big_quiet_on))
            refine seq_chain (by rfl) ?_
            intro K hK
            go_wp2_with fail
            refine hK.out _ _ (since (Below.refl _ _).drew) ?_
            clear hK K
            repeat (first | (refine seq_skip (by rfl) (by rfl) ?_; simp only [Act.put, List.setIfInBounds_toArray, List.set_cons_succ, List.set_cons_zero]) | (refine seq_float (by rfl) (by rfl) (by rfl) ?_; intro K hK; go_big_quiet_op; go_big_quiet_on))
            refine seq_nil ?_
            go_wp2_with fail
            go_ret
            exact ⟨ret_int' (by rw [HC.out, HG.out, HD.out, HV.out]), hw1.drew⟩
          | false =>
            have HO : Hid (∀ q, some pt = some q → leB a q = false) := lid (fun q h => by cases h; exact ho)
            have hd : (Op.bytesLess a.toList pt.toList || a.toList == pt.toList) = false := ho
            clear ho
            go_wp2_with fail
            refine wp_region_seq (fun w' => ∃ s : Since w2.heap.size w2, w' = s.world) [(0, true), (1, true), (2, true), (3, true), (4, true), (5, true), (6, true), (7, true), (8, true), (9, true), (10, true), (11, true), (12, true), (13, false)] (by kernel_rfl) (by kernel_rfl) (by intro c d v a w h; cases d <;> exact h) (since (Below.refl _ _).drew) ?_
            repeat (first | (refine seq_skip (by rfl) (by rfl) ?_; simp only [Act.put, List.setIfInBounds_toArray, List.set_cons_succ, List.set_cons_zero]) | (refine seq_float (by rfl) (by rfl) (by rfl) ?_; intro K hK; go_big_quiet_op; go_big_quiet_on))
            refine seq_chain (by rfl) ?_
            intro K hK
            go_wp2_with fail
            refine hK.out _ _ (since (Below.refl _ _).drew) ?_
            clear hK K
            repeat (first | (refine seq_skip (by rfl) (by rfl) ?_; simp only [Act.put, List.setIfInBounds_toArray, List.set_cons_succ, List.set_cons_zero]) | (refine seq_float (by rfl) (by rfl) (by rfl) ?_; intro K hK; go_big_quiet_op; go_big_quiet_on))
            refine seq_nil ?_
            cases hz : zeroB d with
            | true =>
              have HV := lid (ents_zero (e := (a, dir, d)) (p := some pt) (l := l.drop (j + 1 + 1)) HB.out HO.out hz)
              rw [hz] at HZS
              have z0 := HZS.out
              clear hz
              go_wp2_with fail
              go_ret
              exact ⟨ret_int' (by rw [HC.out, HG.out, HD.out, HV.out]), hw1.drew⟩
            | false =>
              have HV := lid (ents_next (e := (a, dir, d)) (p := some pt) (l := l.drop (j + 1 + 1)) HB.out HO.out hz)
              rw [hz] at HZS
              have z0 := HZS.out
              clear hz
              go_wp2_with fail
              go_roundw
              case rel => exact ⟨j + 1 + 1, some a, by omega, by go_num, lid (by rw [HG.out, HD.out, HV.out]), lid (.inr ⟨j + 1, hkl, rfl, by rw [hr0]⟩), hw1.drew⟩
              case measure => simp [intOf]; omega
    · obtain rfl : k = n := by omega
      have HV : Hid (entsGo none l = 0) := lid (by rw [HG.out, List.drop_eq_nil_of_le (by rw [HN.out]; exact Nat.le_refl _)]; cases p <;> rfl)
      go_wp2_with fail
      go_ret
      exact ⟨ret_int' (by rw [HC.out, HV.out]), hb⟩

end Go.Proofs.Ytghkldodceamcaa
