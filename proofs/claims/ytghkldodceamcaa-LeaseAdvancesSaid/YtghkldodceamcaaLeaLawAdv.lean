/-
  LeaseAdvances: the law walk.
-/
import Derived.Test.YtghkldodceamcaaLeaLawOne
import Derived.Test.YtghkldodceamcaaLeaPlain
namespace Go.Proofs.Ytghkldodceamcaa
open Go.RowKit

set_option maxRecDepth 100000 in
theorem wpList_eq_lz {ops : Array Oper} {rest : List Oper} {o : Oper} {a : Act} {Q : Exit → Act → World → Prop} {w : World} (r q : Lz) (v : Bool) (x y : Operand) (hgd : o.guard = none) (h : o.op = .binOp .eql 31 x y 31)
    (hx : a.eval x = .agg (lzc r)) (hy : a.eval y = .agg (lzc q)) (hv : decide (r = q) = v) (hk : wpList Try.prog ops Q rest (a.put o.dst (.bool v)) w) : wpList Try.prog ops Q (o :: rest) a w := by
  refine wpList_plain hgd fun K hK => ?_
  subst hv
  have hK2 := hK _ _ hk
  have hb := lz_beq r q
  unfold Oper.wp execOp
  rw [h]
  simp only [hx, hy]
  by_cases hrq : r = q
  · subst hrq
    rw [decide_eq_true rfl] at hK2
    simp [go_sem]
    exact hK2
  · rw [decide_eq_false hrq] at hK2 hb
    simp [go_sem]
    by_cases h1 : (r.1.1.toNat : Int) = q.1.1.toNat <;> by_cases h2 : (r.1.2.toNat : Int) = q.1.2.toNat <;> by_cases h3 : r.2.1.toList = q.2.1.toList <;> by_cases h4 : r.2.2.1 = q.2.2.1 <;> by_cases h5 : r.2.2.2 = q.2.2.2 <;> first | (exfalso; simp [h1, h2, h3, h4, h5] at hb; done) | (simp [h1, h2, h3, h4, h5]; exact hK2)
def cntL (l : List Lz) (x : Lz) : Nat := (l.filter fun y => decide (x = y)).length
theorem cnt_take {l : List Lz} {k : Nat} (h : k < l.length) (x : Lz) : cntL (l.take (k + 1)) x = cntL (l.take k) x + (if x = l[k] then 1 else 0) := by
  unfold cntL
  rw [List.take_succ_eq_append_getElem h, List.filter_append, List.length_append]
  congr 1
  by_cases e : x = l[k]
  · rw [if_pos e, List.filter_cons_of_pos (by simpa using e)]; rfl
  · rw [if_neg e, List.filter_cons_of_neg (by simpa using e)]; rfl
theorem cnt_le (l : List Lz) (x : Lz) : cntL l x ≤ l.length := List.length_filter_le _ _
theorem cnt_none {l : List Lz} {x : Lz} (h : x ∉ l) : cntL l x = 0 := by
  unfold cntL
  rw [List.length_eq_zero_iff, List.filter_eq_nil_iff]
  intro y hy e
  simp at e
  subst e
  exact h hy
theorem cnt_one {l : List Lz} {x : Lz} (hd : l.Nodup) (hx : x ∈ l) : cntL l x = 1 := by
  induction l with
  | nil => cases hx
  | cons a l ih =>
    rw [List.nodup_cons] at hd
    by_cases e : x = a
    · subst e
      have := cnt_none hd.1
      unfold cntL at *
      rw [List.filter_cons_of_pos (by simp), List.length_cons, this]
    · have hx' : x ∈ l := by
        rcases List.mem_cons.1 hx with h | h
        · exact absurd h e
        · exact h
      have := ih hd.2 hx'
      unfold cntL at *
      rw [List.filter_cons_of_neg (by simpa using e), this]
theorem cnt_app (l m : List Lz) (x : Lz) : cntL (l ++ m) x = cntL l x + cntL m x := by unfold cntL; rw [List.filter_append, List.length_append]
theorem advE_eq {t : Ls} (h : VL t) (d : Int) : advE t d = if d < t.clock ∨ 1099511627776 < d then 2 else 0 := by
  unfold advE
  rw [if_neg (fun e => e (check_iff.2 h))]
theorem adv_two {t : Ls} {c d : Int} (h : advE t c = 0) (hd : c ≤ d) : advE ⟨c, t.epoch, keepL t.l c⟩ d = advE t d ∧ advL ⟨c, t.epoch, keepL t.l c⟩ d = advL t d := by
  have hk := adv_keeps h
  obtain ⟨hv, h1, h2⟩ := adv_ok h
  have he : advE ⟨c, t.epoch, keepL t.l c⟩ d = advE t d := by
    rw [advE_eq hk, advE_eq hv]
    by_cases hh : 1099511627776 < d
    · rw [if_pos (Or.inr hh), if_pos (Or.inr hh)]
    · rw [if_neg (by simp only; omega), if_neg (by omega)]
  refine ⟨he, ?_⟩
  unfold advL
  rw [he]
  by_cases h0 : advE t d = 0
  · rw [if_pos h0, if_pos h0]
    congr 1
    show (keepL t.l c).filter _ = _
    unfold keepL
    rw [List.filter_filter]
    apply List.filter_congr
    intro x _
    rw [Bool.eq_iff_iff]
    simp
    omega
  · rw [if_neg h0, if_neg h0]
theorem adv_all {t : Ls} {c d : Int} (h : advE t c = 0) (hd : c ≤ d) : (∀ x ∈ goneL t.l d, cntL (goneL t.l c ++ goneL (keepL t.l c) d) x = 1) ∧ (goneL t.l d).length = (goneL t.l c).length + (goneL (keepL t.l c) d).length := by
  obtain ⟨hv, _, _⟩ := adv_ok h
  have hn := hv.nodup
  have n1 : (goneL t.l c).Nodup := hn.sublist List.filter_sublist
  have n2 : (keepL t.l c).Nodup := hn.sublist List.filter_sublist
  have n3 : (goneL (keepL t.l c) d).Nodup := n2.sublist List.filter_sublist
  constructor
  · intro x hx
    obtain ⟨hx1, hx2⟩ := gone_mem.1 hx
    rw [cnt_app]
    by_cases hc : x.2.2.1 ≤ c
    · rw [cnt_one n1 (gone_mem.2 ⟨hx1, hc⟩), cnt_none (fun h => by have := (keep_mem.1 (gone_mem.1 h).1).2; omega)]
    · rw [cnt_none (fun h => hc (gone_mem.1 h).2), cnt_one n3 (gone_mem.2 ⟨keep_mem.2 ⟨hx1, by omega⟩, hx2⟩)]
  · have e1 := keep_gone t.l c
    have e2 := keep_gone t.l d
    have e3 := keep_gone (keepL t.l c) d
    have e4 : (keepL (keepL t.l c) d).length = (keepL t.l d).length := by
      congr 1
      unfold keepL
      rw [List.filter_filter]
      apply List.filter_congr
      intro x _
      rw [Bool.eq_iff_iff]
      simp
      omega
    omega

set_option maxRecDepth 100000 in
set_option maxHeartbeats 16000000 in
theorem LawAdvances_any (t : Ls) (ao : Option Addr) (n cap : Nat) (a b : Nat) (w : World) (h : LsA w ao n t) (hcap : n ≤ cap) (hz : ao = none → cap = 0) (ha : a ≤ 65535) (hbb : b ≤ 65535) :
    Calls Try.prog 5 #[.agg (tcells t ao n cap), .int .u16 a, .int .u16 b] w fun e w' => e = .returned (.bool true) ∧ Below w.heap.size w w' := by
  have hb : Below w.heap.size w w := Below.refl _ _
  have HA := lid (show LsB w 0 ao n cap t from ⟨h, hcap, hz, fun _ _ => Nat.zero_le _⟩)
  clear h hcap hz
  go_enter Try.func5, Try.ntmps5
  go_wp2_with fail
  have bw : w.heap.size ≤ w.heap.size := hb.size
  obtain ⟨W0, hW⟩ : ∃ y, w.alloc (.cells (tcells t ao n cap) 24) = y := ⟨_, rfl⟩
  rw [hW]
  have hbW : Below w.heap.size w W0 := by rw [← hW]; exact ((Below.refl w.heap.size w).alloc (Nat.le_refl _) _)
  have gW0 : w.heap.size + 0 < W0.heap.size := by rw [← hW]; simp only [World.size_alloc]; omega
  have BT : Hid (W0.heap[w.heap.size]? = some (.cells (tcells t ao n cap) 24 (0, 0))) := lid (by
    rw [← hW]
    have := heap_alloc_new w (.cells (tcells t ao n cap) 24)
    exact this)
  clear hW
  replace HA := lid (HA.out.below hbW)
  replace hb := hb.trans (hbW.mono hb.size)
  have mW0 := hbW.size
  clear hbW
  (with_reducible refine (leaGreat_any t ao n cap W0 HA.out.A).mono ?_); rintro e w1 ⟨rfl, hb1⟩
  replace HA := lid (HA.out.below hb1)
  replace BT := lid ((hb1.block _ (row_lt BT.out)).trans BT.out)
  replace hb := hb.trans (hb1.mono hb.size)
  have mw1 := hb1.size
  clear hb1
  cases hS : smallLs t with
  | false =>
    clear hS
    simp only [Bool.not_false]
    go_wp2_with fail
    (with_reducible refine (awake_any _).mono ?_); rintro e wa ⟨rfl, hb1⟩
    have hfin := hb.trans (hb1.mono hb.size)
    go_wp2_with fail
    go_ret
    exact ⟨rfl, hfin⟩
  | true =>
  have HSM := lid hS
  clear hS
  simp only [Bool.not_true]
  have q1 := row_cell BT.out 0
  have q2 := row_cell BT.out 1
  have q3 := row_cell BT.out 2
  have q4 := row_lt BT.out
  go_wp2_with fail
  clear q1 q2 q3 q4
  have CK := lid (leaCheck_any t ao n cap w1 HA.out.A HA.out.le)
  obtain ⟨c, hc⟩ : ∃ c, checkLs t = c := ⟨_, rfl⟩
  rw [hc] at CK
  have HC := lid hc
  clear hc
  (with_reducible refine (CK.out).mono ?_); rintro e w2 ⟨rfl, hb1⟩
  clear CK
  replace HA := lid (HA.out.below hb1)
  replace BT := lid ((hb1.block _ (row_lt BT.out)).trans BT.out)
  replace hb := hb.trans (hb1.mono hb.size)
  have mw2 := hb1.size
  clear hb1
  by_cases hc0 : c = 0
  case neg =>
    have d0 : (c == 0) = false := by simpa using hc0
    go_wp2_with fail
    (with_reducible refine (awake_any _).mono ?_); rintro e wa ⟨rfl, hb1⟩
    have hfin := hb.trans (hb1.mono hb.size)
    go_wp2_with fail
    go_ret
    exact ⟨rfl, hfin⟩
  subst hc0
  have HV := lid (check_iff.1 HC.out)
  have hn12 : n ≤ 12 := by have h1 := small12 HSM.out; rw [HA.out.A.len] at h1; exact h1
  have v0 := HV.out.c0
  have v1 := HV.out.c1
  have v2 := HV.out.e0
  have v3 := HV.out.e1
  clear HC
  have q5 := row_cell BT.out 0
  have q6 := row_cell BT.out 1
  have q7 := row_cell BT.out 2
  have q8 := row_lt BT.out
  go_wp2_with fail
  clear q5 q6 q7 q8
  have CV := lid (advance_any t ao n cap (t.clock + a) w2 HA.out.A HA.out.le HA.out.z)
  by_cases hE : advE t (t.clock + a) = 0
  case neg =>
    obtain ⟨E, hEE⟩ : ∃ E, advE t (t.clock + a) = E := ⟨_, rfl⟩
    obtain ⟨U, hU⟩ : ∃ U, advL t (t.clock + a) = U := ⟨_, rfl⟩
    obtain ⟨G, hG⟩ : ∃ G, advG t (t.clock + a) = G := ⟨_, rfl⟩
    rw [hEE, hU, hG] at CV
    rw [hEE] at hE
    clear hEE hU hG
    have d0 : (E == 0) = false := by simpa using hE
    (with_reducible refine (CV.out).mono ?_); rintro e w3 ⟨_, _, rfl, ⟨ao1, n1, cap1, rfl, hA⟩, ⟨aog, ng, capg, rfl, hG⟩, hb1⟩
    clear CV
    replace HA := lid (HA.out.below hb1)
    replace BT := lid ((hb1.block _ (row_lt BT.out)).trans BT.out)
    replace hb := hb.trans (hb1.mono hb.size)
    have mw3 := hb1.size
    clear hb1
    go_wp2_with fail
    have lBTw3 := row_lt BT.out
    have bw3 : w.heap.size ≤ w3.heap.size := hb.size
    obtain ⟨W3, hW⟩ : ∃ y, w3.alloc (.cells (tcells U ao1 n1 cap1) 24) = y := ⟨_, rfl⟩
    rw [hW]
    have hbW : Below w3.heap.size w3 W3 := by rw [← hW]; exact ((Below.refl w3.heap.size w3).alloc (Nat.le_refl _) _)
    have gW3 : w3.heap.size + 0 < W3.heap.size := by rw [← hW]; simp only [World.size_alloc]; omega
    have BT1 : Hid (W3.heap[w3.heap.size]? = some (.cells (tcells U ao1 n1 cap1) 24 (0, 0))) := lid (by
      rw [← hW]
      have := heap_alloc_new w3 (.cells (tcells U ao1 n1 cap1) 24)
      exact this)
    clear hW
    replace HA := lid (HA.out.below hbW)
    replace BT := lid ((hbW.block _ (row_lt BT.out)).trans BT.out)
    replace hb := hb.trans (hbW.mono hb.size)
    have mW3 := hbW.size
    clear hbW
    (with_reducible refine (awake_any _).mono ?_); rintro e wa ⟨rfl, hb1⟩
    have hfin := hb.trans (hb1.mono hb.size)
    go_wp2_with fail
    go_ret
    exact ⟨rfl, hfin⟩
  have HTX := advL_ok hE
  have H2 := lid (adv_two (d := t.clock + a + b) hE (by omega))
  have H3 := lid (adv_all (d := t.clock + a + b) hE (by omega))
  have HK := lid (adv_keeps hE)
  have HAE := lid (adv_ok hE).2.2
  rw [HTX.1, HTX.2, hE] at CV
  obtain ⟨Q, hQ⟩ : ∃ Q, keepL t.l (t.clock + a) = Q := ⟨_, rfl⟩
  obtain ⟨J, hJ⟩ : ∃ J, goneL t.l (t.clock + a) = J := ⟨_, rfl⟩
  rw [hQ] at CV H2 HK H3
  rw [hJ] at CV H3
  have HJL : Hid (J.length ≤ 12) := lid (by rw [← hJ]; have h1 := keep_gone t.l (t.clock + a); have h2 := HA.out.A.len; omega)
  clear HTX hE
  have HQL : Hid (Q.length = (keepL t.l (t.clock + a)).length) := lid (by rw [hQ])
  clear hQ hJ
  (with_reducible refine (CV.out).mono ?_); rintro e w3 ⟨_, _, rfl, ⟨ao1, n1, cap1, rfl, hA⟩, ⟨aog, ng, capg, rfl, hG⟩, hb1⟩
  clear CV
  replace HA := lid (HA.out.below hb1)
  replace BT := lid ((hb1.block _ (row_lt BT.out)).trans BT.out)
  replace hb := hb.trans (hb1.mono hb.size)
  have mw3 := hb1.size
  clear hb1
  have HA1 := lid hA
  have HG1 := lid hG
  clear hA hG
  have hae := HAE.out
  go_wp2_with fail
  have lBTw3 := row_lt BT.out
  have bw3 : w.heap.size ≤ w3.heap.size := hb.size
  obtain ⟨W3, hW⟩ : ∃ y, w3.alloc (.cells (tcells (⟨t.clock + a, t.epoch, Q⟩ : Ls) ao1 n1 cap1) 24) = y := ⟨_, rfl⟩
  rw [hW]
  have hbW : Below w3.heap.size w3 W3 := by rw [← hW]; exact ((Below.refl w3.heap.size w3).alloc (Nat.le_refl _) _)
  have gW3 : w3.heap.size + 0 < W3.heap.size := by rw [← hW]; simp only [World.size_alloc]; omega
  have BT1 : Hid (W3.heap[w3.heap.size]? = some (.cells (tcells (⟨t.clock + a, t.epoch, Q⟩ : Ls) ao1 n1 cap1) 24 (0, 0))) := lid (by
    rw [← hW]
    have := heap_alloc_new w3 (.cells (tcells (⟨t.clock + a, t.epoch, Q⟩ : Ls) ao1 n1 cap1) 24)
    exact this)
  clear hW
  replace HA := lid (HA.out.below hbW)
  replace BT := lid ((hbW.block _ (row_lt BT.out)).trans BT.out)
  replace HA1 := lid (HA1.out.below hbW)
  replace HG1 := lid (HG1.out.below hbW)
  replace hb := hb.trans (hbW.mono hb.size)
  have mW3 := hbW.size
  clear hbW
  have CB := lid (advance_any ⟨t.clock + a, t.epoch, Q⟩ ao1 n1 cap1 (t.clock + a + b) W3 HA1.out.A HA1.out.le HA1.out.z)
  rw [H2.out.1, H2.out.2] at CB
  have HEX : Hid (advE t (t.clock + a + b) = 0 → advG t (t.clock + a + b) = goneL t.l (t.clock + a + b) ∧ advG ⟨t.clock + a, t.epoch, Q⟩ (t.clock + a + b) = goneL Q (t.clock + a + b)) := lid (fun h => ⟨(advL_ok h).2, (advL_ok (by rw [H2.out.1]; exact h)).2⟩)
  have HNL : Hid ((advG t (t.clock + a + b)).length ≤ 12 ∧ (advG ⟨t.clock + a, t.epoch, Q⟩ (t.clock + a + b)).length ≤ 12 ∧ (advL t (t.clock + a + b)).l.length ≤ 12) := lid (by
    have h1 := advG_len t (t.clock + a + b)
    have h2 := advG_len ⟨t.clock + a, t.epoch, Q⟩ (t.clock + a + b)
    have h3 := advL_len t (t.clock + a + b)
    have h4 := HA.out.A.len
    have h5 : Q.length ≤ t.l.length := by
      have := keep_gone t.l (t.clock + a)
      have e : Q.length = (keepL t.l (t.clock + a)).length := HQL.out
      omega
    simp only at h2
    omega)
  obtain ⟨E, hEE⟩ : ∃ E, advE t (t.clock + a + b) = E := ⟨_, rfl⟩
  obtain ⟨U, hU⟩ : ∃ U, advL t (t.clock + a + b) = U := ⟨_, rfl⟩
  obtain ⟨N, hN⟩ : ∃ G, advG t (t.clock + a + b) = G := ⟨_, rfl⟩
  obtain ⟨M, hM⟩ : ∃ G, advG ⟨t.clock + a, t.epoch, Q⟩ (t.clock + a + b) = G := ⟨_, rfl⟩
  rw [hEE, hU, hM] at CB
  rw [hEE, hN, hM] at HEX
  rw [hN, hM, hU] at HNL
  (with_reducible refine (CB.out).mono ?_); rintro e w4 ⟨_, _, rfl, ⟨ao2, n2, cap2, rfl, hA⟩, ⟨aom, nm, capm, rfl, hG⟩, hb1⟩
  clear CB H2
  replace HA := lid (HA.out.below hb1)
  replace BT := lid ((hb1.block _ (row_lt BT.out)).trans BT.out)
  replace HA1 := lid (HA1.out.below hb1)
  replace HG1 := lid (HG1.out.below hb1)
  replace BT1 := lid ((hb1.block _ (row_lt BT1.out)).trans BT1.out)
  replace hb := hb.trans (hb1.mono hb.size)
  have mw4 := hb1.size
  clear hb1
  have HA2 := lid hA
  have HM := lid hG
  clear hA hG
  have q9 := row_cell BT.out 0
  have q10 := row_cell BT.out 1
  have q11 := row_cell BT.out 2
  have q12 := row_lt BT.out
  go_wp2_with fail
  clear q9 q10 q11 q12
  have lBTw4 := row_lt BT.out
  have lBT1w4 := row_lt BT1.out
  have bw4 : w.heap.size ≤ w4.heap.size := hb.size
  obtain ⟨W4, hW⟩ : ∃ y, w4.alloc (.cells (tcells U ao2 n2 cap2) 24) = y := ⟨_, rfl⟩
  rw [hW]
  have hbW : Below w4.heap.size w4 W4 := by rw [← hW]; exact ((Below.refl w4.heap.size w4).alloc (Nat.le_refl _) _)
  have gW4 : w4.heap.size + 0 < W4.heap.size := by rw [← hW]; simp only [World.size_alloc]; omega
  have BT2 : Hid (W4.heap[w4.heap.size]? = some (.cells (tcells U ao2 n2 cap2) 24 (0, 0))) := lid (by
    rw [← hW]
    have := heap_alloc_new w4 (.cells (tcells U ao2 n2 cap2) 24)
    exact this)
  clear hW
  replace HA := lid (HA.out.below hbW)
  replace BT := lid ((hbW.block _ (row_lt BT.out)).trans BT.out)
  replace HA1 := lid (HA1.out.below hbW)
  replace HG1 := lid (HG1.out.below hbW)
  replace BT1 := lid ((hbW.block _ (row_lt BT1.out)).trans BT1.out)
  replace HA2 := lid (HA2.out.below hbW)
  replace HM := lid (HM.out.below hbW)
  replace hb := hb.trans (hbW.mono hb.size)
  have mW4 := hbW.size
  clear hbW
  have CC := lid (advance_any t ao n cap (t.clock + a + b) W4 HA.out.A HA.out.le HA.out.z)
  rw [hEE, hU, hN] at CC
  clear hEE hU hN hM
  (with_reducible refine (CC.out).mono ?_); rintro e w5 ⟨_, _, rfl, ⟨ao3, n3, cap3, rfl, hA⟩, ⟨aon, nn, capn, rfl, hG⟩, hb1⟩
  clear CC
  replace HA := lid (HA.out.below hb1)
  replace BT := lid ((hb1.block _ (row_lt BT.out)).trans BT.out)
  replace HA1 := lid (HA1.out.below hb1)
  replace HG1 := lid (HG1.out.below hb1)
  replace BT1 := lid ((hb1.block _ (row_lt BT1.out)).trans BT1.out)
  replace HA2 := lid (HA2.out.below hb1)
  replace HM := lid (HM.out.below hb1)
  replace BT2 := lid ((hb1.block _ (row_lt BT2.out)).trans BT2.out)
  replace hb := hb.trans (hb1.mono hb.size)
  have mw5 := hb1.size
  clear hb1
  have HA3 := lid hA
  have HN := lid hG
  clear hA hG
  have q13 := row_cell BT2.out 0
  have q14 := row_cell BT2.out 1
  have q15 := row_cell BT2.out 2
  have q16 := row_lt BT2.out
  go_wp2_with fail
  clear q13 q14 q15 q16
  have lBTw5 := row_lt BT.out
  have lBT1w5 := row_lt BT1.out
  have lBT2w5 := row_lt BT2.out
  have bw5 : w.heap.size ≤ w5.heap.size := hb.size
  obtain ⟨W5, hW⟩ : ∃ y, w5.alloc (.cells (tcells U ao3 n3 cap3) 24) = y := ⟨_, rfl⟩
  rw [hW]
  have hbW : Below w5.heap.size w5 W5 := by rw [← hW]; exact ((Below.refl w5.heap.size w5).alloc (Nat.le_refl _) _)
  have gW5 : w5.heap.size + 0 < W5.heap.size := by rw [← hW]; simp only [World.size_alloc]; omega
  have BT3 : Hid (W5.heap[w5.heap.size]? = some (.cells (tcells U ao3 n3 cap3) 24 (0, 0))) := lid (by
    rw [← hW]
    have := heap_alloc_new w5 (.cells (tcells U ao3 n3 cap3) 24)
    exact this)
  clear hW
  replace HA := lid (HA.out.below hbW)
  replace BT := lid ((hbW.block _ (row_lt BT.out)).trans BT.out)
  replace HA1 := lid (HA1.out.below hbW)
  replace HG1 := lid (HG1.out.below hbW)
  replace BT1 := lid ((hbW.block _ (row_lt BT1.out)).trans BT1.out)
  replace HA2 := lid (HA2.out.below hbW)
  replace HM := lid (HM.out.below hbW)
  replace BT2 := lid ((hbW.block _ (row_lt BT2.out)).trans BT2.out)
  replace HA3 := lid (HA3.out.below hbW)
  replace HN := lid (HN.out.below hbW)
  replace hb := hb.trans (hbW.mono hb.size)
  have mW5 := hbW.size
  clear hbW
  (with_reducible refine (same_self U ao2 ao3 n2 cap2 n3 cap3 W5 HA2.out.A HA3.out.A (by have h1 := HNL.out.2.2; omega)).mono ?_); rintro e w6 ⟨rfl, hb1⟩
  replace HA := lid (HA.out.below hb1)
  replace BT := lid ((hb1.block _ (row_lt BT.out)).trans BT.out)
  replace HA1 := lid (HA1.out.below hb1)
  replace HG1 := lid (HG1.out.below hb1)
  replace BT1 := lid ((hb1.block _ (row_lt BT1.out)).trans BT1.out)
  replace HA2 := lid (HA2.out.below hb1)
  replace HM := lid (HM.out.below hb1)
  replace BT2 := lid ((hb1.block _ (row_lt BT2.out)).trans BT2.out)
  replace HA3 := lid (HA3.out.below hb1)
  replace HN := lid (HN.out.below hb1)
  replace BT3 := lid ((hb1.block _ (row_lt BT3.out)).trans BT3.out)
  replace hb := hb.trans (hb1.mono hb.size)
  have mw6 := hb1.size
  clear hb1
  by_cases hE0 : E = 0
  case neg =>
    have d0 : (E == 0) = false := by simpa using hE0
    go_wp2_with fail
    (with_reducible refine (awake_any _).mono ?_); rintro e wa ⟨rfl, hb1⟩
    have hfin := hb.trans (hb1.mono hb.size)
    go_wp2_with fail
    go_ret
    exact ⟨rfl, hfin⟩
  subst hE0
  have h1 := HEX.out rfl
  have H4 : Hid ((∀ x ∈ N, cntL (J ++ M) x = 1) ∧ N.length = J.length + M.length) := lid (by rw [h1.1, h1.2]; exact H3.out)
  clear h1 HEX H3
  have hng : ng ≤ 12 := by have h1 := HJL.out; rw [HG1.out.len] at h1; exact h1
  have hnm : nm ≤ 12 := by have h1 := HNL.out.2.1; rw [HM.out.len] at h1; exact h1
  have hnn : nn ≤ 12 := by have h1 := HNL.out.1; rw [HN.out.len] at h1; exact h1
  have hlen : (nn : Int) = (ng : Int) + (nm : Int) := by have h1 := H4.out.2; rw [HN.out.len, HG1.out.len, HM.out.len] at h1; omega
  have hl2 : ((nn : Int) == (ng : Int) + (nm : Int)) = true := by simpa using hlen
  go_wp2_with fail
  go_loopw [82] (fun i wr => ∃ k : Nat, k ≤ nn ∧ i = .int .i64 k ∧ Below w6.heap.size w6 wr) (fun i _ => nn - (intOf i).toNat)
  case atStart => exact ⟨0, Nat.zero_le _, rfl, Below.refl _ _⟩
  case round =>
    obtain ⟨k, hk, rfl, hb1⟩ := hrel
    obtain ⟨wo, rfl⟩ : ∃ y, y = wr := ⟨_, rfl⟩
    have hbr := hb1
    replace HA := lid (HA.out.below hb1)
    replace BT := lid ((hb1.block _ (row_lt BT.out)).trans BT.out)
    replace HA1 := lid (HA1.out.below hb1)
    replace HG1 := lid (HG1.out.below hb1)
    replace BT1 := lid ((hb1.block _ (row_lt BT1.out)).trans BT1.out)
    replace HA2 := lid (HA2.out.below hb1)
    replace HM := lid (HM.out.below hb1)
    replace BT2 := lid ((hb1.block _ (row_lt BT2.out)).trans BT2.out)
    replace HA3 := lid (HA3.out.below hb1)
    replace HN := lid (HN.out.below hb1)
    replace BT3 := lid ((hb1.block _ (row_lt BT3.out)).trans BT3.out)
    replace hb := hb.trans (hb1.mono hb.size)
    have mwo := hb1.size
    clear hb1
    by_cases hlt : k < nn
    · have hkl : k < N.length := by rw [HN.out.len]; exact hlt
      obtain ⟨b1, o1, rfl, hlb, hcell⟩ := HN.out.sl.at_ hlt
      have x0 := hcell (k * 5 + 0) _ (lzcells_at hkl).1
      have x1 := hcell (k * 5 + 1) _ (lzcells_at hkl).2.1
      have x2 := hcell (k * 5 + 2) _ (lzcells_at hkl).2.2.1
      have x3 := hcell (k * 5 + 3) _ (lzcells_at hkl).2.2.2.1
      have x4 := hcell (k * 5 + 4) _ (lzcells_at hkl).2.2.2.2
      rw [← Nat.add_assoc] at x1 x2 x3 x4
      rw [Nat.add_zero] at x0
      have dk : decide ((k : Int) < (nn : Int)) = true := by simp; omega
      have HC1 := lid (H4.out.1 _ (List.getElem_mem hkl))
      obtain ⟨x, hx⟩ : ∃ y, N[k] = y := ⟨_, rfl⟩
      rw [hx] at x0 x1 x2 x3 x4 HC1
      clear hx hcell
      have hV : Below wo.heap.size wo ((wo.alloc (.cells (lzc x) 31)).alloc (.cells #[] 31)) := ((Below.refl _ _).alloc (Nat.le_refl _) _).alloc (by simp) _
      have HXB : Hid (((wo.alloc (.cells (lzc x) 31)).alloc (.cells #[] 31)).heap[wo.heap.size]? = some (.cells (lzc x) 31 (0, 0))) := lid (by rw [Below.heap_alloc _ _ _ (by simp)]; exact heap_alloc_new _ _)
      go_wp2_with (at_builtin; go_must (refine wpList_append_slg rfl _ _ 22 rfl (wo.heap.size + 1) 31 (.agg #[.int .u64 0, .int .u64 0, .string ⟨#[]⟩, .int .i64 0, .int .i64 0]) 5 48 info_lz Try.underlying22 rfl (by decide) _ 0 [] (ownsRow_empty (w := wo.alloc (.cells (lzc x) 31)) (by simp) (Nat.le_refl _)) rfl aog ng capg (lzcells J) rfl (HG1.out.sl.below hV) HG1.out.z (lzcells_one J) (by simp only [maxLen]; omega) (by omega) (by simp) ?_))
      intro vA wA hownA hbA _
      try simp only [Nat.zero_add, List.nil_append] at hownA
      have hbwA : Below wo.heap.size wo wA := hV.trans (hbA.mono (Nat.le_succ _))
      have hsA : wo.heap.size + 1 ≤ wA.heap.size := Nat.le_trans (by simp) hbA.size
      replace HXB := lid ((hbA.block _ (Nat.lt_succ_self _)).trans HXB.out)
      go_wp2_with (at_builtin; go_must (refine wpList_append_slg rfl _ _ 22 rfl (wo.heap.size + 1) 31 (.agg #[.int .u64 0, .int .u64 0, .string ⟨#[]⟩, .int .i64 0, .int .i64 0]) 5 48 info_lz Try.underlying22 rfl (by decide) _ ng _ hownA rfl aom nm capm (lzcells M) rfl (HM.out.sl.below hbwA) HM.out.z (lzcells_one M) (by simp only [maxLen]; omega) (by omega) hsA ?_))
      intro vB wB hownB hbB _
      have hbwB : Below wo.heap.size wo wB := hbwA.trans (hbB.mono (Nat.le_succ _))
      replace HXB := lid ((hbB.block _ (Nat.lt_succ_self _)).trans HXB.out)
      have HSB : Hid (wB.ownsRow (wo.heap.size + 1) 31 5 vB (ng + nm) (lzcells (J ++ M))) := lid (by rw [lzcells_append]; exact hownB)
      obtain ⟨aoB, capB, rfl⟩ := own_slice hownB
      have HSL := lid (own_sl HSB.out)
      have HJM : Hid ((J ++ M).length = ng + nm) := lid (by rw [List.length_append, HG1.out.len, HM.out.len])
      clear hownA hownB hbA hbB hsA x0 x1 x2 x3 x4 hV
      obtain ⟨S, hS⟩ : ∃ S, J ++ M = S := ⟨_, rfl⟩
      rw [hS] at HSL HJM HC1
      clear HSB hS
      obtain ⟨s, hs⟩ : ∃ s, ng + nm = s := ⟨_, rfl⟩
      have hs24 : s ≤ 24 := by omega
      rw [hs] at HSL HJM ⊢
      go_wp2_with fail
      go_loopw [18, 92] (fun f i v => ∃ j : Nat, j ≤ s ∧ i = .int .i64 j ∧ f = .int .i64 (cntL (S.take j) x) ∧ Below wB.heap.size wB v) (fun _ i _ => s - (intOf i).toNat)
      case atStart => exact ⟨0, Nat.zero_le _, rfl, rfl, Below.refl _ _⟩
      case round =>
        obtain ⟨j, hj, rfl, rfl, hv⟩ := hrel
        obtain ⟨v, rfl⟩ : ∃ y, y = wr := ⟨_, rfl⟩
        have c0 := (row_cell ((hv.block _ (row_lt HXB.out)).trans HXB.out) 0)
        have c1 := (row_cell ((hv.block _ (row_lt HXB.out)).trans HXB.out) 1)
        have c2 := (row_cell ((hv.block _ (row_lt HXB.out)).trans HXB.out) 2)
        have c3 := (row_cell ((hv.block _ (row_lt HXB.out)).trans HXB.out) 3)
        have c4 := (row_cell ((hv.block _ (row_lt HXB.out)).trans HXB.out) 4)
        have cl : wo.heap.size < v.heap.size := Nat.lt_of_lt_of_le (row_lt HXB.out) hv.size
        by_cases hj3 : j < s
        · have hjl : j < S.length := by rw [HJM.out]; exact hj3
          obtain ⟨b2, o2, rfl, hlb2, hcell⟩ := (HSL.out.below hv).at_ hj3
          have x0 := hcell (j * 5 + 0) _ (lzcells_at hjl).1
          have x1 := hcell (j * 5 + 1) _ (lzcells_at hjl).2.1
          have x2 := hcell (j * 5 + 2) _ (lzcells_at hjl).2.2.1
          have x3 := hcell (j * 5 + 3) _ (lzcells_at hjl).2.2.2.1
          have x4 := hcell (j * 5 + 4) _ (lzcells_at hjl).2.2.2.2
          rw [← Nat.add_assoc] at x1 x2 x3 x4
          rw [Nat.add_zero] at x0
          have dj : decide ((j : Int) < (s : Int)) = true := by simp; omega
          have HCT := lid (cnt_take hjl x)
          have HCL := lid (cnt_le (S.take j) x)
          obtain ⟨y, hy⟩ : ∃ y, S[j] = y := ⟨_, rfl⟩
          rw [hy] at x0 x1 x2 x3 x4 HCT
          clear hy hcell
          obtain ⟨q, hq⟩ : ∃ q, cntL (S.take j) x = q := ⟨_, rfl⟩
          have hq24 : q ≤ 24 := by have h1 := HCL.out; rw [hq, List.length_take] at h1; omega
          rw [hq] at HCT ⊢
          clear hq
          by_cases hxy : x = y
          · have HQ : Hid (cntL (S.take (j + 1)) x = q + 1) := lid (by rw [HCT.out, if_pos hxy])
            obtain rfl := hxy
            go_wp2_with fail
            go_roundw
            case rel => exact ⟨j + 1, by omega, by go_num, by rw [HQ.out]; go_num, hv.trans ((ba _ _).mono hv.size)⟩
            case measure => simp [intOf]; omega
          · have HQ : Hid (cntL (S.take (j + 1)) x = q) := lid (by rw [HCT.out, if_neg hxy]; rfl)
            go_wp2_with (refine wpList_eq_lz x y false _ _ rfl rfl rfl rfl (decide_eq_false hxy) ?_)
            go_wp2_with fail
            go_roundw
            case rel => exact ⟨j + 1, by omega, by go_num, by rw [HQ.out], hv.trans ((ba _ _).mono hv.size)⟩
            case measure => simp [intOf]; omega
        · obtain rfl : j = s := by omega
          have dj : decide ((j : Int) < (j : Int)) = false := by simp
          have e1 : cntL (S.take j) x = 1 := by rw [List.take_of_length_le (by rw [HJM.out]; exact Nat.le_refl _)]; exact HC1.out
          rw [e1]
          go_wp2_with fail
          go_roundw
          case rel => exact ⟨k + 1, by omega, by go_num, hbr.trans ((hbwB.trans (hv.mono hbwB.size)).mono hbr.size)⟩
          case measure => simp [intOf]; omega
    · obtain rfl : k = nn := by omega
      have dk : decide ((k : Int) < (k : Int)) = false := by simp
      go_wp2_with fail
      (with_reducible refine (awake_any _).mono ?_); rintro e w7 ⟨rfl, hb7⟩
      have hfin := hb.trans (hb7.mono hb.size)
      go_wp2_with fail
      go_ret
      exact ⟨rfl, hfin⟩
end Go.Proofs.Ytghkldodceamcaa
