/-
  Ballots: the reference's Great, Same, Count, Decide, Missing and Against.
-/
import Derived.Test.YtcpnpcbaifagbaaQuoRef1
namespace Go.Proofs.Ytcpnpcbaifagbaa
open Go.RowKit
def bigV (v : Vt) : Bool := decide (40 < v.1.size) || decide (60 < v.2.size)
def bigB (b : Bal) : Bool := decide (10 < b.2.length) || b.2.any bigV
def greatB (l : List Bal) : Bool := l.any bigB || decide (8 < l.length)
theorem any_take_succ {α : Type} {P : α → Bool} {l : List α} {k : Nat} (hk : k < l.length) (hn : (l.take k).any P = false) (hp : P l[k] = false) : (l.take (k + 1)).any P = false := by
  rw [List.take_succ_eq_append_getElem hk, List.any_append, hn]
  simp [hp]
theorem any_at {α : Type} {P : α → Bool} {l : List α} {k : Nat} (hk : k < l.length) (hp : P l[k] = true) : l.any P = true := List.any_eq_true.2 ⟨l[k], List.getElem_mem hk, hp⟩
theorem any_whole {α : Type} {P : α → Bool} {l : List α} {k : Nat} (hk : l.length ≤ k) (hn : (l.take k).any P = false) : l.any P = false := by rwa [List.take_of_length_le hk] at hn
set_option maxRecDepth 100000 in
set_option maxHeartbeats 8000000 in
theorem refGreat_any (l : List Rw) (n cap : Nat) (ao : Option Addr) (w : World) (hm : n ≤ 9223372036854775807) (h : BA w ao n cap l) :
    Calls Try.prog 10 #[.slice ao n cap] w fun e w' => e = .returned (.bool (greatB (l.map Rw.bal))) ∧ w = w' := by
  have HN := lid h.len
  have HS := lid h.sl
  have HR := lid h.ok
  have HGE : Hid (greatB (l.map Rw.bal) = (l.any (fun r => bigB r.bal) || decide (8 < n))) := lid (by unfold greatB; rw [List.any_map, List.length_map, h.len]; rfl)
  clear h
  go_enter Try.func10, Try.ntmps10
  go_wp2_with fail
  go_loop [3, 4] (fun i _ => ∃ k : Nat, k ≤ n ∧ i = .int .i64 k ∧ Hid ((l.take k).any (fun r => bigB r.bal) = false)) (fun i _ => n - (intOf i).toNat)
  case atStart => exact ⟨0, Nat.zero_le _, rfl, lid rfl⟩
  case round =>
    obtain ⟨k, hk, rfl, HT⟩ := hrel
    by_cases hlt : k < n
    · have hkl : k < l.length := by rw [HN.out]; exact hlt
      obtain ⟨b1, o1, rfl, hlb, hcell⟩ := HS.out.at_ hlt
      have x2 := hcell (k * 3 + 2) _ (rcells_at hkl).2.2
      rw [← Nat.add_assoc] at x2
      have HVA := lid (HR.out _ (List.getElem_mem hkl))
      have HY := lid (fun h => any_at (P := fun r : Rw => bigB r.bal) hkl h)
      have HNX := lid (fun h => any_take_succ (P := fun r : Rw => bigB r.bal) hkl HT.out h)
      have dk : decide ((k : Int) < (n : Int)) = true := by simp; omega
      obtain ⟨x, hx⟩ : ∃ x, l[k] = x := ⟨_, rfl⟩
      rw [hx] at x2 HVA HY HNX
      obtain ⟨m, hmx⟩ : ∃ m, x.vs.length = m := ⟨_, rfl⟩
      rw [hmx] at x2 HVA
      have HM := lid hmx
      clear hcell hx hmx
      by_cases h10 : 10 < m
      · have HV := lid (HY.out (by show bigB (x.key, x.vs) = true; unfold bigB; simp only; rw [HM.out, decide_eq_true h10]; rfl))
        have d10 : decide ((10 : Int) < (m : Int)) = true := by simp; omega
        clear h10 HY HNX
        go_wp2_with fail
        go_ret
        exact ⟨ret_bool (by rw [HGE.out, HV.out]; rfl), rfl⟩
      · have d10 : decide ((10 : Int) < (m : Int)) = false := by simp; omega
        have HVS := lid HVA.out.sl
        have hm10 : m ≤ 10 := by omega
        clear h10
        go_wp2_with fail
        go_loop [4] (fun i => ∃ j : Nat, j ≤ m ∧ i = .int .i64 j ∧ Hid ((x.vs.take j).any bigV = false)) (fun i => m - (intOf i).toNat)
        case atStart => exact ⟨0, Nat.zero_le _, rfl, lid rfl⟩
        case round =>
          obtain ⟨j, hj, rfl, HJ⟩ := hrel
          by_cases hjt : j < m
          · have hjl : j < x.vs.length := by rw [HM.out]; exact hjt
            obtain ⟨b2, o2, hao, hlb2, hcell⟩ := HVS.out.at_ hjt
            have y0 := hcell (j * 2 + 0) _ (vcells_at hjl).1
            have y1 := hcell (j * 2 + 1) _ (vcells_at hjl).2
            rw [← Nat.add_assoc] at y1
            rw [Nat.add_zero] at y0
            rw [hao] at x2
            have HSZ := HVA.out.sz _ (List.getElem_mem hjl)
            have HBY := lid (fun h => any_at (P := bigV) hjl h)
            have HBN := lid (fun h => any_take_succ (P := bigV) hjl HJ.out h)
            obtain ⟨v, hv⟩ : ∃ v, x.vs[j] = v := ⟨_, rfl⟩
            rw [hv] at y0 y1 HBY HBN HSZ
            have hs1 : v.1.size ≤ 9223372036854775807 := HSZ.1
            have hs2 : v.2.size ≤ 9223372036854775807 := HSZ.2
            have dj : decide ((j : Int) < (m : Int)) = true := by simp; omega
            clear hcell hv hao HSZ
            by_cases h40 : 40 < v.1.size
            · have HV := lid (HY.out (by show bigB (x.key, x.vs) = true; unfold bigB; simp only; rw [HBY.out (by unfold bigV; rw [decide_eq_true h40]; rfl)]; simp))
              have d40 : decide ((40 : Int) < (v.1.size : Int)) = true := by simp; omega
              clear h40 HY HNX HBY HBN
              go_wp2_with fail
              go_ret
              exact ⟨ret_bool (by rw [HGE.out, HV.out]; rfl), rfl⟩
            · have d40 : decide ((40 : Int) < (v.1.size : Int)) = false := by simp; omega
              by_cases h60 : 60 < v.2.size
              · have HV := lid (HY.out (by show bigB (x.key, x.vs) = true; unfold bigB; simp only; rw [HBY.out (by unfold bigV; rw [decide_eq_true h60]; simp)]; simp))
                have d60 : decide ((60 : Int) < (v.2.size : Int)) = true := by simp; omega
                clear h40 h60 HY HNX HBY HBN
                go_wp2_with fail
                go_ret
                exact ⟨ret_bool (by rw [HGE.out, HV.out]; rfl), rfl⟩
              · have d60 : decide ((60 : Int) < (v.2.size : Int)) = false := by simp; omega
                have HV := lid (HBN.out (by unfold bigV; rw [decide_eq_false h40, decide_eq_false h60]; rfl))
                clear h40 h60 HBY HBN
                go_wp2_with fail
                go_round
                case rel => exact ⟨j + 1, by omega, by go_num, HV⟩
                case measure => simp [intOf]; omega
          · obtain rfl : j = m := by omega
            have HV := lid (HNX.out (by show bigB (x.key, x.vs) = false; unfold bigB; simp only; rw [any_whole (Nat.le_of_eq HM.out) HJ.out, HM.out]; simp; omega))
            have dj : decide ((j : Int) < (j : Int)) = false := by simp
            clear HY HNX
            go_wp2_with fail
            go_round
            case rel => exact ⟨k + 1, by omega, by go_num, HV⟩
            case measure => simp [intOf]; omega
    · obtain rfl : k = n := by omega
      have HV := lid (any_whole (Nat.le_of_eq HN.out) HT.out)
      have dk : decide ((k : Int) < (k : Int)) = false := by simp
      go_wp2_with fail
      go_ret
      exact ⟨ret_bool (by rw [HGE.out, HV.out]; simp; omega), rfl⟩

theorem cnt_snoc {l : List Vt} {k : Nat} {o : ByteArray} (hk : k < l.length) : cntV (l.take (k + 1)) o = cntV (l.take k) o + (if l[k].2 = o then 1 else 0) := by
  unfold cntV
  rw [List.take_succ_eq_append_getElem hk, List.filter_append, List.length_append]
  by_cases h : l[k].2 = o <;> simp [h]
theorem cnt_le (l : List Vt) (o : ByteArray) : cntV l o ≤ l.length := List.length_filter_le _ _
set_option maxRecDepth 100000 in
set_option maxHeartbeats 8000000 in
theorem refCount_any (l : List Vt) (n cap : Nat) (ao : Option Addr) (o : ByteArray) (w : World) (hm : n ≤ 1000000) (h : VA w ao n cap l) :
    Calls Try.prog 52 #[.slice ao n cap, .string o] w fun e w' => e = .returned (.int .i64 (cntV l o : Nat)) ∧ w = w' := by
  have HN := lid h.len
  have HS := lid h.sl
  clear h
  go_enter Try.func52, Try.ntmps52
  go_wp2_with fail
  go_loop [5, 6] (fun c i => ∃ k q : Nat, k ≤ n ∧ i = .int .i64 k ∧ c = .int .i64 q ∧ q ≤ k ∧ Hid (cntV (l.take k) o = q)) (fun _ i => n - (intOf i).toNat)
  case atStart => exact ⟨0, 0, Nat.zero_le _, rfl, rfl, Nat.le_refl _, lid rfl⟩
  case round =>
    obtain ⟨k, q, hk, rfl, rfl, hqk, HQ⟩ := hrel
    by_cases hlt : k < n
    · have hkl : k < l.length := by rw [HN.out]; exact hlt
      obtain ⟨b1, o1, rfl, hlb, hcell⟩ := HS.out.at_ hlt
      have x1 := hcell (k * 2 + 1) _ (vcells_at hkl).2
      rw [← Nat.add_assoc] at x1
      have HC := lid (cnt_snoc (o := o) hkl)
      rw [HQ.out] at HC
      have dk : decide ((k : Int) < (n : Int)) = true := by simp; omega
      obtain ⟨x, hx⟩ : ∃ x, l[k] = x := ⟨_, rfl⟩
      rw [hx] at x1 HC
      clear hcell hx
      by_cases he : x.2 = o
      · rw [if_pos he] at HC
        have d := str_eq he
        clear he
        go_wp2_with fail
        go_round
        case rel => exact ⟨k + 1, q + 1, by omega, by go_num, by go_num, by omega, HC⟩
        case measure => simp [intOf]; omega
      · rw [if_neg he] at HC
        have d := str_ne he
        clear he
        go_wp2_with fail
        go_round
        case rel => exact ⟨k + 1, q, by omega, by go_num, rfl, by omega, HC⟩
        case measure => simp [intOf]; omega
    · obtain rfl : k = n := by omega
      have HV : Hid (cntV l o = q) := lid (by have := HQ.out; rwa [List.take_of_length_le (Nat.le_of_eq HN.out)] at this)
      have dk : decide ((k : Int) < (k : Int)) = false := by simp
      go_wp2_with fail
      go_ret
      exact ⟨by rw [HV.out]; rfl, rfl⟩

theorem quiet_neq_dg {C : World → Prop} {K : Act → Prop} {a : Act} {o : Oper} (p q : Dg) (v : Bool) (x y : Operand) (h : o.op = .binOp .neq 25 x y 25)
    (hx : a.eval x = .agg #[.int .u64 p.1.toNat, .int .u64 p.2.toNat]) (hy : a.eval y = .agg #[.int .u64 q.1.toNat, .int .u64 q.2.toNat]) (hv : (!decide (p = q)) = v) (hk : K (a.put o.dst (.bool v))) : o.quiet Try.prog a C K := by
  refine ⟨.bool v, fun w _ => ?_, hk⟩
  subst hv
  unfold Oper.quietAt execOp
  rw [h]
  simp only [hx, hy]
  rw [← dg_beq]
  simp [go_sem]
  try (by_cases h1 : (p.1.toNat : Int) = q.1.toNat <;> by_cases h2 : (p.2.toNat : Int) = q.2.toNat <;> simp [h1, h2])
theorem vt_beq (x y : Vt) : ((x.1.toList == y.1.toList) && (x.2.toList == y.2.toList)) = decide (x = y) := by
  obtain ⟨a, b⟩ := x
  obtain ⟨c, d⟩ := y
  rw [Bool.eq_iff_iff]
  simp only [str_beq, Bool.and_eq_true, decide_eq_true_eq, Prod.mk.injEq]
theorem quiet_neq_vt {C : World → Prop} {K : Act → Prop} {a : Act} {o : Oper} (p q : Vt) (v : Bool) (x y : Operand) (h : o.op = .binOp .neq 27 x y 27)
    (hx : a.eval x = .agg #[.string p.1, .string p.2]) (hy : a.eval y = .agg #[.string q.1, .string q.2]) (hv : (!decide (p = q)) = v) (hk : K (a.put o.dst (.bool v))) : o.quiet Try.prog a C K := by
  refine ⟨.bool v, fun w _ => ?_, hk⟩
  subst hv
  unfold Oper.quietAt execOp
  rw [h]
  simp only [hx, hy]
  rw [← vt_beq]
  simp [go_sem]
  try (by_cases h1 : p.1.toList = q.1.toList <;> by_cases h2 : p.2.toList = q.2.toList <;> simp [h1, h2])
theorem take_eq_succ {α : Type} {a b : List α} {k : Nat} (ha : k < a.length) (hb : k < b.length) (h : a.take k = b.take k) (e : a[k] = b[k]) : a.take (k + 1) = b.take (k + 1) := by
  rw [List.take_succ_eq_append_getElem ha, List.take_succ_eq_append_getElem hb, h, e]
theorem ne_at {α : Type} {a b : List α} {k : Nat} (ha : k < a.length) (hb : k < b.length) (e : ¬ a[k] = b[k]) : ¬ a = b := by
  intro h
  subst h
  exact e rfl
set_option maxRecDepth 100000 in
set_option maxHeartbeats 8000000 in
theorem refSame_any (la lb : List Rw) (n1 c1 n2 c2 : Nat) (a1 a2 : Option Addr) (w : World) (hm : n1 ≤ 1000000) (hm2 : n2 ≤ 1000000) (h1 : BA w a1 n1 c1 la) (h2 : BA w a2 n2 c2 lb) (hv1 : ∀ r ∈ la, r.vs.length ≤ 1000000) (hv2 : ∀ r ∈ lb, r.vs.length ≤ 1000000) :
    Calls Try.prog 16 #[.slice a1 n1 c1, .slice a2 n2 c2] w fun e w' => e = .returned (.bool (decide (la.map Rw.bal = lb.map Rw.bal))) ∧ Below w.heap.size w w' := by
  by_cases hnn : n1 = n2
  case neg =>
    have HV : Hid (decide (la.map Rw.bal = lb.map Rw.bal) = false) := lid (decide_eq_false (fun e => hnn (by have := congrArg List.length e; simpa [h1.len, h2.len] using this)))
    have d0 : ((n1 : Int) == (n2 : Int)) = false := by simp; omega
    have d1 : ((n1 : Int) != (n2 : Int)) = true := by simp; omega
    clear h1 h2 hnn
    go_enter Try.func16, Try.ntmps16
    go_wp2_with fail
    go_ret
    exact ⟨ret_bool HV.out.symm, Below.refl _ _⟩
  subst hnn
  have HN1 := lid h1.len
  have HN2 := lid h2.len
  have HS1 := lid h1.sl
  have HS2 := lid h2.sl
  have HR1 := lid h1.ok
  have HR2 := lid h2.ok
  have HV1 := lid hv1
  have HV2 := lid hv2
  obtain ⟨A, hA⟩ : ∃ A, la.map Rw.bal = A := ⟨_, rfl⟩
  obtain ⟨B, hB⟩ : ∃ B, lb.map Rw.bal = B := ⟨_, rfl⟩
  have HLA : Hid (A.length = n1) := lid (by rw [← hA, List.length_map, h1.len])
  have HLB : Hid (B.length = n1) := lid (by rw [← hB, List.length_map, h2.len])
  have HAT : Hid (∀ k (h : k < la.length) (h' : k < A.length), A[k] = (la[k]).bal) := lid (fun k h h' => by simp only [← hA, List.getElem_map])
  have HBT : Hid (∀ k (h : k < lb.length) (h' : k < B.length), B[k] = (lb[k]).bal) := lid (fun k h h' => by simp only [← hB, List.getElem_map])
  rw [hA, hB]
  clear h1 h2 hv1 hv2 hA hB
  go_enter Try.func16, Try.ntmps16
  go_wp2_with fail
  go_loopw [5, 6] (fun i _ wr => ∃ k : Nat, k ≤ n1 ∧ i = .int .i64 k ∧ Hid (A.take k = B.take k) ∧ Below w.heap.size w wr) (fun i _ _ => n1 - (intOf i).toNat)
  case atStart => exact ⟨0, Nat.zero_le _, rfl, lid rfl, Below.refl _ _⟩
  case round =>
    obtain ⟨wq, rfl⟩ : ∃ y, y = wr := ⟨_, rfl⟩
    obtain ⟨k, hk, rfl, HT, hb⟩ := hrel
    by_cases hlt : k < n1
    · have hk1 : k < la.length := by rw [HN1.out]; exact hlt
      have hk2 : k < lb.length := by rw [HN2.out]; exact hlt
      have HS1r := lid (HS1.out.below hb)
      have HS2r := lid (HS2.out.below hb)
      obtain ⟨b1, o1, rfl, hlb1, hcell⟩ := HS1r.out.at_ hlt
      have x0 := hcell (k * 3 + 0) _ (rcells_at hk1).1
      have x1 := hcell (k * 3 + 1) _ (rcells_at hk1).2.1
      have x2 := hcell (k * 3 + 2) _ (rcells_at hk1).2.2
      rw [← Nat.add_assoc] at x1 x2
      rw [Nat.add_zero] at x0
      clear hcell
      obtain ⟨b2, o2, rfl, hlb2, hcell⟩ := HS2r.out.at_ hlt
      have y0 := hcell (k * 3 + 0) _ (rcells_at hk2).1
      have y1 := hcell (k * 3 + 1) _ (rcells_at hk2).2.1
      have y2 := hcell (k * 3 + 2) _ (rcells_at hk2).2.2
      rw [← Nat.add_assoc] at y1 y2
      rw [Nat.add_zero] at y0
      clear hcell
      have HVA := lid ((HR1.out _ (List.getElem_mem hk1)).below hb)
      have HVB := lid ((HR2.out _ (List.getElem_mem hk2)).below hb)
      have hxs := HV1.out _ (List.getElem_mem hk1)
      have hys := HV2.out _ (List.getElem_mem hk2)
      have HNE : Hid (¬ (la[k]).bal = (lb[k]).bal → decide (A = B) = false) := lid (fun e => decide_eq_false (ne_at (k := k) (by rw [HLA.out]; exact hlt) (by rw [HLB.out]; exact hlt) (by rw [HAT.out k hk1, HBT.out k hk2]; exact e)))
      have HEQ : Hid ((la[k]).bal = (lb[k]).bal → A.take (k + 1) = B.take (k + 1)) := lid (fun e => take_eq_succ (by rw [HLA.out]; exact hlt) (by rw [HLB.out]; exact hlt) HT.out (by rw [HAT.out k hk1, HBT.out k hk2]; exact e))
      have dk : decide ((k : Int) < (n1 : Int)) = true := by simp; omega
      obtain ⟨x, hx⟩ : ∃ x, la[k] = x := ⟨_, rfl⟩
      obtain ⟨y, hy⟩ : ∃ y, lb[k] = y := ⟨_, rfl⟩
      rw [hx] at x0 x1 x2 HVA hxs HNE HEQ
      rw [hy] at y0 y1 y2 HVB hys HNE HEQ
      obtain ⟨m1, hm1⟩ : ∃ m, x.vs.length = m := ⟨_, rfl⟩
      obtain ⟨m2, hm2⟩ : ∃ m, y.vs.length = m := ⟨_, rfl⟩
      rw [hm1] at x2 HVA hxs
      rw [hm2] at y2 HVB hys
      have HM1 := lid hm1
      have HM2 := lid hm2
      clear hx hy hm1 hm2 HS1r HS2r
      by_cases hkey : x.key = y.key
      case neg =>
        have HV := lid (HNE.out (fun e => hkey (congrArg Prod.fst e)))
        have HQ : Hid ((!decide (x.key = y.key)) = true) := lid (by simp [hkey])
        clear hkey
        go_wp2_with fail
        refine wp_region_seq (fun w' => ∃ s : Since wq.heap.size wq, w' = s.world) [(0, true), (1, true), (2, true), (3, true), (4, true), (5, true), (6, true), (7, true), (8, true), (9, true), (10, true), (11, true), (12, true), (13, true), (14, true), (15, true), (16, true), (17, true), (18, true), (19, true), (20, true), (21, true), (22, true), (23, true), (24, true), (25, true)] (by kernel_rfl) (by kernel_rfl) (by intro c d v a w h; cases d <;> exact h) (since (Below.refl _ _).drew) ?_
        iterate 10 (first | (refine seq_skip (by rfl) (by rfl) ?_; simp only [Act.put, List.setIfInBounds_toArray, List.set_cons_succ, List.set_cons_zero]) | (refine seq_float (by rfl) (by rfl) (by rfl) ?_; intro K hK; go_big_quiet_op; go_big_quiet_on))
        refine seq_float (by rfl) (by rfl) (by rfl) ?_; intro K hK
        refine quiet_neq_dg x.key y.key true _ _ rfl rfl rfl HQ.out ?_
        simp only [Act.put, List.setIfInBounds_toArray, List.set_cons_succ, List.set_cons_zero]
        go_big_quiet_on
        repeat (first | (refine seq_skip (by rfl) (by rfl) ?_; simp only [Act.put, List.setIfInBounds_toArray, List.set_cons_succ, List.set_cons_zero]) | (refine seq_float (by rfl) (by rfl) (by rfl) ?_; intro K hK; go_big_quiet_op; go_big_quiet_on))
        refine seq_nil ?_
        go_wp2_with fail
        go_ret
        exact ⟨ret_bool HV.out.symm, hb.drew⟩
      have HQ : Hid ((!decide (x.key = y.key)) = false) := lid (by simp [hkey])
      have HKY := lid hkey
      clear hkey
      by_cases hmm : m1 = m2
      case neg =>
        have HV := lid (HNE.out (fun e => hmm (by rw [← HM1.out, ← HM2.out]; exact congrArg (fun b : Bal => b.2.length) e)))
        have d0 : ((m1 : Int) == (m2 : Int)) = false := by simp; omega
        have d1 : ((m1 : Int) != (m2 : Int)) = true := by simp; omega
        clear hmm
        go_wp2_with fail
        refine wp_region_seq (fun w' => ∃ s : Since wq.heap.size wq, w' = s.world) [(0, true), (1, true), (2, true), (3, true), (4, true), (5, true), (6, true), (7, true), (8, true), (9, true), (10, true), (11, true), (12, true), (13, true), (14, true), (15, true), (16, true), (17, true), (18, true), (19, true), (20, true), (21, true), (22, true), (23, true), (24, true), (25, true)] (by kernel_rfl) (by kernel_rfl) (by intro c d v a w h; cases d <;> exact h) (since (Below.refl _ _).drew) ?_
        iterate 10 (first | (refine seq_skip (by rfl) (by rfl) ?_; simp only [Act.put, List.setIfInBounds_toArray, List.set_cons_succ, List.set_cons_zero]) | (refine seq_float (by rfl) (by rfl) (by rfl) ?_; intro K hK; go_big_quiet_op; go_big_quiet_on))
        refine seq_float (by rfl) (by rfl) (by rfl) ?_; intro K hK
        refine quiet_neq_dg x.key y.key false _ _ rfl rfl rfl HQ.out ?_
        simp only [Act.put, List.setIfInBounds_toArray, List.set_cons_succ, List.set_cons_zero]
        go_big_quiet_on
        repeat (first | (refine seq_skip (by rfl) (by rfl) ?_; simp only [Act.put, List.setIfInBounds_toArray, List.set_cons_succ, List.set_cons_zero]) | (refine seq_float (by rfl) (by rfl) (by rfl) ?_; intro K hK; go_big_quiet_op; go_big_quiet_on))
        refine seq_nil ?_
        go_wp2_with fail
        go_ret
        exact ⟨ret_bool HV.out.symm, hb.drew⟩
      subst hmm
      have d0 : ((m1 : Int) == (m1 : Int)) = true := by simp
      have d1 : ((m1 : Int) != (m1 : Int)) = false := by simp
      go_wp2_with fail
      refine wp_region_seq (fun w' => ∃ s : Since wq.heap.size wq, w' = s.world) [(0, true), (1, true), (2, true), (3, true), (4, true), (5, true), (6, true), (7, true), (8, true), (9, true), (10, true), (11, true), (12, true), (13, true), (14, true), (15, true), (16, true), (17, true), (18, true), (19, true), (20, true), (21, true), (22, true), (23, true), (24, true), (25, true)] (by kernel_rfl) (by kernel_rfl) (by intro c d v a w h; cases d <;> exact h) (since (Below.refl _ _).drew) ?_
      iterate 10 (first | (refine seq_skip (by rfl) (by rfl) ?_; simp only [Act.put, List.setIfInBounds_toArray, List.set_cons_succ, List.set_cons_zero]) | (refine seq_float (by rfl) (by rfl) (by rfl) ?_; intro K hK; go_big_quiet_op; go_big_quiet_on))
      refine seq_float (by rfl) (by rfl) (by rfl) ?_; intro K hK
      refine quiet_neq_dg x.key y.key false _ _ rfl rfl rfl HQ.out ?_
      simp only [Act.put, List.setIfInBounds_toArray, List.set_cons_succ, List.set_cons_zero]
      go_big_quiet_on
      repeat (first | (refine seq_skip (by rfl) (by rfl) ?_; simp only [Act.put, List.setIfInBounds_toArray, List.set_cons_succ, List.set_cons_zero]) | (refine seq_float (by rfl) (by rfl) (by rfl) ?_; intro K hK; go_big_quiet_op; go_big_quiet_on))
      refine seq_nil ?_
      clear d0 d1
      go_wp2_with fail
      go_loopw [6] (fun i wv => ∃ j : Nat, j ≤ m1 ∧ i = .int .i64 j ∧ Hid (x.vs.take j = y.vs.take j) ∧ Below wq.heap.size wq wv) (fun i _ => m1 - (intOf i).toNat)
      case atStart => exact ⟨0, Nat.zero_le _, rfl, lid rfl, (Below.refl _ _).drew⟩
      case round =>
        obtain ⟨j, hj, rfl, HJ, hbv⟩ := hrel
        have z0 := (bc hbv hlb1 _).trans x2
        have z1 := (bc hbv hlb2 _).trans y2
        have hl1 : b1 < wr.heap.size := Nat.lt_of_lt_of_le hlb1 hbv.size
        have hl2 : b2 < wr.heap.size := Nat.lt_of_lt_of_le hlb2 hbv.size
        by_cases hjt : j < m1
        · have hj1 : j < x.vs.length := by rw [HM1.out]; exact hjt
          have hj2 : j < y.vs.length := by rw [HM2.out]; exact hjt
          obtain ⟨b3, o3, ha3, hlb3, hcell⟩ := (HVA.out.below hbv).sl.at_ hjt
          have u0 := hcell (j * 2 + 0) _ (vcells_at hj1).1
          have u1 := hcell (j * 2 + 1) _ (vcells_at hj1).2
          rw [← Nat.add_assoc] at u1
          rw [Nat.add_zero] at u0
          rw [ha3] at z0
          clear hcell ha3
          obtain ⟨b4, o4, ha4, hlb4, hcell⟩ := (HVB.out.below hbv).sl.at_ hjt
          have v0 := hcell (j * 2 + 0) _ (vcells_at hj2).1
          have v1 := hcell (j * 2 + 1) _ (vcells_at hj2).2
          rw [← Nat.add_assoc] at v1
          rw [Nat.add_zero] at v0
          rw [ha4] at z1
          clear hcell ha4
          have HNV : Hid (¬ x.vs[j] = y.vs[j] → decide (A = B) = false) := lid (fun e => HNE.out (fun e' => ne_at hj1 hj2 e (congrArg Prod.snd e')))
          have HEV : Hid (x.vs[j] = y.vs[j] → x.vs.take (j + 1) = y.vs.take (j + 1)) := lid (fun e => take_eq_succ hj1 hj2 HJ.out e)
          obtain ⟨p, hp⟩ : ∃ p, x.vs[j] = p := ⟨_, rfl⟩
          obtain ⟨q, hq⟩ : ∃ q, y.vs[j] = q := ⟨_, rfl⟩
          rw [hp] at u0 u1 HNV HEV
          rw [hq] at v0 v1 HNV HEV
          have dj : decide ((j : Int) < (m1 : Int)) = true := by simp; omega
          clear hp hq
          by_cases he : p = q
          · have HV := lid (HEV.out he)
            have HQ2 : Hid ((!decide (p = q)) = false) := lid (by simp [he])
            clear he HEV HNV
            go_wp2_with fail
            refine wp_region_seq (fun w' => ∃ s : Since wr.heap.size wr, w' = s.world) [(0, true), (1, true), (2, true), (3, true), (4, true), (5, true), (6, true), (7, true), (8, true), (9, true), (10, true), (11, true), (12, true), (13, true), (14, true), (15, true), (16, true)] (by kernel_rfl) (by kernel_rfl) (by intro c d v a w h; cases d <;> exact h) (since (Below.refl _ _).drew) ?_
            iterate 16 (first | (refine seq_skip (by rfl) (by rfl) ?_; simp only [Act.put, List.setIfInBounds_toArray, List.set_cons_succ, List.set_cons_zero]) | (refine seq_float (by rfl) (by rfl) (by rfl) ?_; intro K hK; go_big_quiet_op; go_big_quiet_on))
            refine seq_float (by rfl) (by rfl) (by rfl) ?_; intro K hK
            refine quiet_neq_vt p q false _ _ rfl rfl rfl HQ2.out ?_
            simp only [Act.put, List.setIfInBounds_toArray, List.set_cons_succ, List.set_cons_zero]
            go_big_quiet_on
            refine seq_nil ?_
            go_wp2_with fail
            go_roundw
            case rel => exact ⟨j + 1, by omega, by go_num, HV, hbv.drew⟩
            case measure => simp [intOf]; omega
          · have HV := lid (HNV.out he)
            have HQ2 : Hid ((!decide (p = q)) = true) := lid (by simp [he])
            clear he HEV HNV
            go_wp2_with fail
            refine wp_region_seq (fun w' => ∃ s : Since wr.heap.size wr, w' = s.world) [(0, true), (1, true), (2, true), (3, true), (4, true), (5, true), (6, true), (7, true), (8, true), (9, true), (10, true), (11, true), (12, true), (13, true), (14, true), (15, true), (16, true)] (by kernel_rfl) (by kernel_rfl) (by intro c d v a w h; cases d <;> exact h) (since (Below.refl _ _).drew) ?_
            iterate 16 (first | (refine seq_skip (by rfl) (by rfl) ?_; simp only [Act.put, List.setIfInBounds_toArray, List.set_cons_succ, List.set_cons_zero]) | (refine seq_float (by rfl) (by rfl) (by rfl) ?_; intro K hK; go_big_quiet_op; go_big_quiet_on))
            refine seq_float (by rfl) (by rfl) (by rfl) ?_; intro K hK
            refine quiet_neq_vt p q true _ _ rfl rfl rfl HQ2.out ?_
            simp only [Act.put, List.setIfInBounds_toArray, List.set_cons_succ, List.set_cons_zero]
            go_big_quiet_on
            refine seq_nil ?_
            go_wp2_with fail
            go_ret
            exact ⟨ret_bool HV.out.symm, (hb.trans (hbv.mono hb.size)).drew⟩
        · obtain rfl : j = m1 := by omega
          have HV := lid (HEQ.out (by
            have e := HJ.out
            rw [List.take_of_length_le (Nat.le_of_eq HM1.out), List.take_of_length_le (Nat.le_of_eq HM2.out)] at e
            show (x.key, x.vs) = (y.key, y.vs)
            rw [HKY.out, e]))
          have dj : decide ((j : Int) < (j : Int)) = false := by simp
          go_wp2_with fail
          go_roundw
          case rel => exact ⟨k + 1, by omega, by go_num, HV, hb.trans (hbv.mono hb.size)⟩
          case measure => simp [intOf]; omega
    · obtain rfl : k = n1 := by omega
      have HV : Hid (decide (A = B) = true) := lid (decide_eq_true (by have := HT.out; rwa [List.take_of_length_le (Nat.le_of_eq HLA.out), List.take_of_length_le (Nat.le_of_eq HLB.out)] at this))
      have dk : decide ((k : Int) < (k : Int)) = false := by simp
      go_wp2_with fail
      go_ret
      exact ⟨ret_bool HV.out.symm, hb⟩
end Go.Proofs.Ytcpnpcbaifagbaa
