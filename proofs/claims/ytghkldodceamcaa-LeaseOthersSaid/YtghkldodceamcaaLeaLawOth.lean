/-
  LeaseOthers: the law walk.
-/
import Derived.Test.YtghkldodceamcaaLeaLawOne
import Derived.Test.YtghkldodceamcaaLeaPlain
import Derived.Test.YtghkldodceamcaaMix
namespace Go.Proofs.Ytghkldodceamcaa
open Go.RowKit

set_option maxRecDepth 100000 in
theorem wpList_eq_lzg {ops : Array Oper} {rest : List Oper} {o : Oper} {a : Act} {Q : Exit → Act → World → Prop} {w : World} (r q : Lz) (v : Bool) (x y : Operand) (hw : Region.wanted o (yielded ops a.tmps) = true) (h : o.op = .binOp .eql 31 x y 31)
    (hx : a.eval x = .agg (lzc r)) (hy : a.eval y = .agg (lzc q)) (hv : decide (r = q) = v) (hk : wpList Try.prog ops Q rest (a.put o.dst (.bool v)) w) : wpList Try.prog ops Q (o :: rest) a w := by
  refine wpList_step fun K hK => ?_
  rw [if_pos hw]
  subst hv
  have hK2 := hK _ _ hk
  have hb := lz_beq r q
  unfold Oper.wp execOp
  rw [h]
  simp only [hx, hy]
  by_cases hrq : r = q
  · subst hrq
    rw [decide_eq_true rfl] at hK2
    simp [go_sem]
    exact hK2
  · rw [decide_eq_false hrq] at hK2 hb
    simp [go_sem]
    by_cases h1 : (r.1.1.toNat : Int) = q.1.1.toNat <;> by_cases h2 : (r.1.2.toNat : Int) = q.1.2.toNat <;> by_cases h3 : r.2.1.toList = q.2.1.toList <;> by_cases h4 : r.2.2.1 = q.2.2.1 <;> by_cases h5 : r.2.2.2 = q.2.2.2 <;> first | (exfalso; simp [h1, h2, h3, h4, h5] at hb; done) | (simp [h1, h2, h3, h4, h5]; exact hK2)
set_option maxRecDepth 100000 in
theorem wpList_neq_lzg {ops : Array Oper} {rest : List Oper} {o : Oper} {a : Act} {Q : Exit → Act → World → Prop} {w : World} (r q : Lz) (v : Bool) (x y : Operand) (hw : Region.wanted o (yielded ops a.tmps) = true) (h : o.op = .binOp .neq 31 x y 31)
    (hx : a.eval x = .agg (lzc r)) (hy : a.eval y = .agg (lzc q)) (hv : (!decide (r = q)) = v) (hk : wpList Try.prog ops Q rest (a.put o.dst (.bool v)) w) : wpList Try.prog ops Q (o :: rest) a w := by
  refine wpList_step fun K hK => ?_
  rw [if_pos hw]
  subst hv
  have hK2 := hK _ _ hk
  have hb := lz_beq r q
  unfold Oper.wp execOp
  rw [h]
  simp only [hx, hy]
  by_cases hrq : r = q
  · subst hrq
    rw [decide_eq_true rfl] at hK2
    simp [go_sem]
    exact hK2
  · rw [decide_eq_false hrq] at hK2 hb
    simp [go_sem]
    by_cases h1 : (r.1.1.toNat : Int) = q.1.1.toNat <;> by_cases h2 : (r.1.2.toNat : Int) = q.1.2.toNat <;> by_cases h3 : r.2.1.toList = q.2.1.toList <;> by_cases h4 : r.2.2.1 = q.2.2.1 <;> by_cases h5 : r.2.2.2 = q.2.2.2 <;> first | (exfalso; simp [h1, h2, h3, h4, h5] at hb; done) | (simp [h1, h2, h3, h4, h5]; exact hK2)
abbrev newO : ByteArray := ⟨#[110, 101, 119]⟩
theorem newO_size : newO.size ≤ maxLen := by decide
theorem small_szO {t : Ls} (h : smallLs t = true) {x : Lz} (hx : x ∈ t.l) : x.2.1.size ≤ 100 := by
  unfold smallLs at h
  rw [Bool.and_eq_true] at h
  simpa using (List.all_eq_true.1 h.2 x hx)
/-- What is known while two boxes of a lease are made, in any order. -/
def RPL (i j B0 : Nat) (W : World) (s : Nat → Bool) (vs : List Value) (w : World) : Prop :=
  ∃ x y, vs = [x, y] ∧ Below B0 W w ∧ (s i = true → ∃ k, x = .pointer (some ⟨k, 0, none⟩) ∧ B0 ≤ k ∧ lzRow k w) ∧ (s j = true → ∃ k, y = .pointer (some ⟨k, 0, none⟩) ∧ B0 ≤ k ∧ lzRow k w) ∧ (s i = true → s j = true → x ≠ y)
section
variable {i j B0 : Nat} {W w : World} {s : Nat → Bool} {x y : Value}
theorem RPL.start (i j B0 : Nat) (W : World) (s : Nat → Bool) (hi : s i = false) (hj : s j = false) : RPL i j B0 W s [undef, undef] W.drew :=
  ⟨_, _, rfl, (Below.refl _ _).drew, fun h => (by rw [hi] at h; cases h), fun h => (by rw [hj] at h; cases h), fun h => (by rw [hi] at h; cases h)⟩
theorem RPL.one (h : RPL i j B0 W s [x, y] w) (hij : j ≠ i) (hB : B0 ≤ w.heap.size) : RPL i j B0 W (upd s i) [.pointer (some ⟨w.heap.size, 0, none⟩), y] (w.alloc (.cells lzz 31)) := by
  obtain ⟨_, _, e, h0, h1, h2, h3⟩ := h
  cases e
  refine ⟨_, _, rfl, h0.trans ((ba _ _).mono hB), fun _ => ⟨_, rfl, hB, heap_alloc_new w _⟩, fun hs => ?_, fun _ hs e => ?_⟩
  · obtain ⟨k, e, hk, hc⟩ := h2 (by rwa [upd_ne _ hij] at hs)
    exact ⟨k, e, hk, ((ba w _).block k (row_lt hc)).trans hc⟩
  · obtain ⟨k, e2, hk, hc⟩ := h2 (by rwa [upd_ne _ hij] at hs)
    rw [e2] at e
    have h9 := row_lt hc
    cases e
    exact absurd h9 (Nat.lt_irrefl _)
theorem RPL.two (h : RPL i j B0 W s [x, y] w) (hij : i ≠ j) (hB : B0 ≤ w.heap.size) : RPL i j B0 W (upd s j) [x, .pointer (some ⟨w.heap.size, 0, none⟩)] (w.alloc (.cells lzz 31)) := by
  obtain ⟨_, _, e, h0, h1, h2, h3⟩ := h
  cases e
  refine ⟨_, _, rfl, h0.trans ((ba _ _).mono hB), fun hs => ?_, fun _ => ⟨_, rfl, hB, heap_alloc_new w _⟩, fun hs _ e => ?_⟩
  · obtain ⟨k, e, hk, hc⟩ := h1 (by rwa [upd_ne _ hij] at hs)
    exact ⟨k, e, hk, ((ba w _).block k (row_lt hc)).trans hc⟩
  · obtain ⟨k, e2, hk, hc⟩ := h1 (by rwa [upd_ne _ hij] at hs)
    rw [e2] at e
    have h9 := row_lt hc
    cases e
    exact absurd h9 (Nat.lt_irrefl _)
end
def put5 (k : Nat) (x : Lz) (w : World) : World := ((((w.setCell ⟨k, 0, none⟩ (.int .u64 x.1.1.toNat)).setCell ⟨k, 1, none⟩ (.int .u64 x.1.2.toNat)).setCell ⟨k, 2, none⟩ (.string x.2.1)).setCell ⟨k, 3, none⟩ (.int .i64 x.2.2.1)).setCell ⟨k, 4, none⟩ (.int .i64 x.2.2.2)
theorem put5_row {k : Nat} {x : Lz} {w : World} (h : lzRow k w) : (put5 k x w).heap[k]? = some (.cells (lzc x) 31 (0, 0)) := row_set (row_set (row_set (row_set (row_set h 0 (.int .u64 x.1.1.toNat)) 1 (.int .u64 x.1.2.toNat)) 2 (.string x.2.1)) 3 (.int .i64 x.2.2.1)) 4 (.int .i64 x.2.2.2)
theorem put5_other {k j : Nat} {x : Lz} {w : World} {o : Option Obj} (h : w.heap[j]? = o) (hj : j ≠ k) : (put5 k x w).heap[j]? = o := row_other (row_other (row_other (row_other (row_other h hj) hj) hj) hj) hj
theorem put5_below {k B : Nat} {x : Lz} {w0 w : World} (h : Below B w0 w) (hk : B ≤ k) : Below B w0 (put5 k x w) :=
  ((((h.setCell (p := ⟨k, 0, none⟩) hk _).setCell (p := ⟨k, 1, none⟩) hk _).setCell (p := ⟨k, 2, none⟩) hk _).setCell (p := ⟨k, 3, none⟩) hk _).setCell (p := ⟨k, 4, none⟩) hk _

theorem others_grant {t : Ls} {job : Dg} {wk : ByteArray} {m : Int} (h : grantE t job wk m = 0) {x : Lz} (hx : x ∈ t.l) : holdsB (withL t t.l job wk m) x = true := holds_iff.2 ⟨grant_keeps h, List.mem_append_left _ hx⟩
theorem others_renew {t : Ls} {x : Lz} {m : Int} (h : renewE t x m = 0) : holdsB (withL t (lessL t.l x) x.1 x.2.1 m) x = false ∧ holdsB (withL t (lessL t.l x) x.1 x.2.1 m) (withX t x.1 x.2.1 m) = true ∧ (∀ y ∈ t.l, ¬ x = y → holdsB (withL t (lessL t.l x) x.1 x.2.1 m) y = true) ∧ (withL t (lessL t.l x) x.1 x.2.1 m).l.length = t.l.length := by
  have hk := renew_keeps h
  obtain ⟨hv, hx, _, _⟩ := renew_ok h
  refine ⟨?_, holds_iff.2 ⟨hk, List.mem_append_right _ (by simp [withX])⟩, fun y hy hne => holds_iff.2 ⟨hk, List.mem_append_left _ (less_mem.2 ⟨hy, fun e => hne e.symm⟩)⟩, ?_⟩
  · rw [← Bool.not_eq_true, holds_iff]
    rintro ⟨_, hm⟩
    rcases List.mem_append.1 hm with hm | hm
    · exact (less_mem.1 hm).2 rfl
    · have h1 := bad_iff.1 (hv.ok x hx).2
      have h2 := congrArg (fun z : Lz => z.2.2.2) (List.mem_singleton.1 hm)
      simp only at h2
      omega
  · simp [withL]
    exact less_len hv hx
theorem others_release {t : Ls} (hv : VL t) (x : Lz) : holdsB ⟨t.clock, t.epoch, lessL t.l x⟩ x = false ∧ (∀ y ∈ t.l, ¬ x = y → holdsB ⟨t.clock, t.epoch, lessL t.l x⟩ y = true) := by
  have hk := release_keeps (x := x) hv
  refine ⟨?_, fun y hy hne => holds_iff.2 ⟨hk, less_mem.2 ⟨hy, fun e => hne e.symm⟩⟩⟩
  rw [← Bool.not_eq_true, holds_iff]
  rintro ⟨_, hm⟩
  exact (less_mem.1 hm).2 rfl

set_option maxRecDepth 100000 in
set_option maxHeartbeats 16000000 in
theorem LawOthers_any (t : Ls) (ao : Option Addr) (n cap : Nat) (a b : Nat) (m : Int) (w : World) (h : LsA w ao n t) (hcap : n ≤ cap) (hz : ao = none → cap = 0) (ha : a < 256) (hbb : b < 256) :
    Calls Try.prog 8 #[.agg (tcells t ao n cap), .int .u8 a, .int .u8 b, .int .i64 m] w fun e w' => e = .returned (.bool true) ∧ Below w.heap.size w w' := by
  have hb : Below w.heap.size w w := Below.refl _ _
  have HA := lid (show LsB w 0 ao n cap t from ⟨h, hcap, hz, fun _ _ => Nat.zero_le _⟩)
  clear h hcap hz
  go_enter Try.func8, Try.ntmps8
  go_wp2_with fail
  have bw : w.heap.size ≤ w.heap.size := hb.size
  obtain ⟨W0, hW⟩ : ∃ y, w.alloc (.cells (tcells t ao n cap) 24) = y := ⟨_, rfl⟩
  rw [hW]
  have hbW : Below w.heap.size w W0 := by rw [← hW]; exact ((Below.refl w.heap.size w).alloc (Nat.le_refl _) _)
  have gW0 : w.heap.size + 0 < W0.heap.size := by rw [← hW]; simp only [World.size_alloc]; omega
  have BT : Hid (W0.heap[w.heap.size]? = some (.cells (tcells t ao n cap) 24 (0, 0))) := lid (by
    rw [← hW]
    have := heap_alloc_new w (.cells (tcells t ao n cap) 24)
    exact this)
  clear hW
  replace HA := lid (HA.out.below hbW)
  replace hb := hb.trans (hbW.mono hb.size)
  have mW0 := hbW.size
  clear hbW
  (with_reducible refine (leaGreat_any t ao n cap W0 HA.out.A).mono ?_); rintro e w1 ⟨rfl, hb1⟩
  replace HA := lid (HA.out.below hb1)
  replace BT := lid ((hb1.block _ (row_lt BT.out)).trans BT.out)
  replace hb := hb.trans (hb1.mono hb.size)
  have mw1 := hb1.size
  clear hb1
  cases hS : smallLs t with
  | false =>
    clear hS
    simp only [Bool.not_false]
    go_wp2_with fail
    (with_reducible refine (awake_any _).mono ?_); rintro e wa ⟨rfl, hb1⟩
    have hfin := hb.trans (hb1.mono hb.size)
    go_wp2_with fail
    go_ret
    exact ⟨rfl, hfin⟩
  | true =>
  have HSM := lid hS
  clear hS
  simp only [Bool.not_true]
  have q1 := row_cell BT.out 0
  have q2 := row_cell BT.out 1
  have q3 := row_cell BT.out 2
  have q4 := row_lt BT.out
  go_wp2_with fail
  clear q1 q2 q3 q4
  have CK := lid (leaCheck_any t ao n cap w1 HA.out.A HA.out.le)
  obtain ⟨c, hc⟩ : ∃ c, checkLs t = c := ⟨_, rfl⟩
  rw [hc] at CK
  have HC := lid hc
  clear hc
  (with_reducible refine (CK.out).mono ?_); rintro e w2 ⟨rfl, hb1⟩
  clear CK
  replace HA := lid (HA.out.below hb1)
  replace BT := lid ((hb1.block _ (row_lt BT.out)).trans BT.out)
  replace hb := hb.trans (hb1.mono hb.size)
  have mw2 := hb1.size
  clear hb1
  by_cases hc0 : c = 0
  case neg =>
    have d0 : (c == 0) = false := by simpa using hc0
    go_wp2_with fail
    (with_reducible refine (awake_any _).mono ?_); rintro e wa ⟨rfl, hb1⟩
    have hfin := hb.trans (hb1.mono hb.size)
    go_wp2_with fail
    go_ret
    exact ⟨rfl, hfin⟩
  subst hc0
  have HV := lid (check_iff.1 HC.out)
  have hn12 : n ≤ 12 := by have h1 := small12 HSM.out; rw [HA.out.A.len] at h1; exact h1
  have v0 := HV.out.c0
  have v1 := HV.out.c1
  have v2 := HV.out.e0
  have v3 := HV.out.e1
  clear HC
  by_cases hn0 : n = 0
  case pos =>
    have d1 : ((n : Int) == 0) = true := by simp; omega
    have q5 := row_cell BT.out 0
    have q6 := row_cell BT.out 1
    have q7 := row_cell BT.out 2
    have q8 := row_lt BT.out
    go_wp2_with fail
    clear q5 q6 q7 q8
    (with_reducible refine (awake_any _).mono ?_); rintro e wa ⟨rfl, hb1⟩
    have hfin := hb.trans (hb1.mono hb.size)
    go_wp2_with fail
    go_ret
    exact ⟨rfl, hfin⟩
  have d1 : ((n : Int) == 0) = false := by simp; omega
  have q5 := row_cell BT.out 0
  have q6 := row_cell BT.out 1
  have q7 := row_cell BT.out 2
  have q8 := row_lt BT.out
  go_wp2_with fail
  clear q5 q6 q7 q8
  have hnz : (n : Int) ≠ 0 := by omega
  have hmod : a % n < n := Nat.mod_lt _ (by omega)
  have hmod2 : b % n < n := Nat.mod_lt _ (by omega)
  have e1 : ((a : Int)).tmod (n : Int) = ((a % n : Nat) : Int) := by rw [Int.tmod_eq_emod_of_nonneg (by omega)]; omega
  have e2 : ((b : Int)).tmod (n : Int) = ((b % n : Nat) : Int) := by rw [Int.tmod_eq_emod_of_nonneg (by omega)]; omega
  have q9 := row_cell BT.out 0
  have q10 := row_cell BT.out 1
  have q11 := row_cell BT.out 2
  have q12 := row_lt BT.out
  obtain ⟨b1, o1, rfl, hlb, hcell⟩ := HA.out.A.sl.at_ hmod
  obtain ⟨k, hk⟩ : ∃ k, a % n = k := ⟨_, rfl⟩
  obtain ⟨k2, hk2⟩ : ∃ k, b % n = k := ⟨_, rfl⟩
  rw [hk] at hmod e1
  rw [hk2] at hmod2 e2
  have hkl' : k < t.l.length := by rw [HA.out.A.len]; exact hmod
  have hkl2 : k2 < t.l.length := by rw [HA.out.A.len]; exact hmod2
  clear hk hk2
  have x0 := hcell (k * 5 + 0) _ (lzcells_at hkl').1
  have x1 := hcell (k * 5 + 1) _ (lzcells_at hkl').2.1
  have x2 := hcell (k * 5 + 2) _ (lzcells_at hkl').2.2.1
  have x3 := hcell (k * 5 + 3) _ (lzcells_at hkl').2.2.2.1
  have x4 := hcell (k * 5 + 4) _ (lzcells_at hkl').2.2.2.2
  rw [← Nat.add_assoc] at x1 x2 x3 x4
  rw [Nat.add_zero] at x0
  have HxM := lid (List.getElem_mem hkl')
  obtain ⟨x, hx⟩ : ∃ y, t.l[k] = y := ⟨_, rfl⟩
  rw [hx] at x0 x1 x2 x3 x4 HxM
  clear hx
  have y0 := hcell (k2 * 5 + 0) _ (lzcells_at hkl2).1
  have y1 := hcell (k2 * 5 + 1) _ (lzcells_at hkl2).2.1
  have y2 := hcell (k2 * 5 + 2) _ (lzcells_at hkl2).2.2.1
  have y3 := hcell (k2 * 5 + 3) _ (lzcells_at hkl2).2.2.2.1
  have y4 := hcell (k2 * 5 + 4) _ (lzcells_at hkl2).2.2.2.2
  rw [← Nat.add_assoc] at y1 y2 y3 y4
  rw [Nat.add_zero] at y0
  have HyM := lid (List.getElem_mem hkl2)
  obtain ⟨y, hy⟩ : ∃ y, t.l[k2] = y := ⟨_, rfl⟩
  rw [hy] at y0 y1 y2 y3 y4 HyM
  clear hy
  clear hcell
  refine wp_region_mix (fun w' => ∃ s : Since w2.heap.size w2, w' = s.world) [(0, true), (1, true), (2, true), (4, true), (5, true), (6, true), (10, true), (11, true), (12, true), (14, true), (15, true), (16, true), (3, true), (7, true), (8, true), (9, true), (13, true), (17, true), (18, true), (19, true)] [(20, []), (21, [])] [(22, false), (23, false)] (by kernel_rfl) (by kernel_rfl) (by intro c d v a w h; cases d <;> exact h) (since (Below.refl _ _).drew) ?_
  repeat (first | (refine seq_skip (by rfl) (by rfl) ?_; simp only [Act.put, List.setIfInBounds_toArray, List.set_cons_succ, List.set_cons_zero]) | (refine seq_float (by rfl) (by rfl) (by rfl) ?_; intro K hK; go_big_quiet_op; go_big_quiet_on))
  refine seq_nil (mix_go [9, 10] [undef, undef] (RPL 20 21 w2.heap.size w2) rfl (by simp only [putAll, Act.put, List.setIfInBounds_toArray, List.set_cons_succ, List.set_cons_zero]) (fun s h => RPL.start _ _ _ _ s (h (20, []) (by simp)) (h (21, []) (by simp))) ⟨?_, ?_, trivial⟩ ?_)
  · intro s vs w1' _ _ _ _ hR
    have hR' := lid hR
    obtain ⟨u, v, rfl, hB1, _, _⟩ := hR
    simp only [putAll, Act.put, List.setIfInBounds_toArray, List.set_cons_succ, List.set_cons_zero]
    refine mix_op (by rfl) ?_
    intro K hK
    go_wp2_with fail
    exact hK.out _ _ ⟨since (hB1.trans ((ba _ _).mono hB1.size)), [.pointer (some ⟨w1'.heap.size, 0, none⟩), v], rfl, by simp only [putAll, Act.put, List.setIfInBounds_toArray, List.set_cons_succ, List.set_cons_zero], hR'.out.one (by decide) hB1.size⟩
  · intro s vs w1' _ _ _ _ hR
    have hR' := lid hR
    obtain ⟨u, v, rfl, hB1, _, _⟩ := hR
    simp only [putAll, Act.put, List.setIfInBounds_toArray, List.set_cons_succ, List.set_cons_zero]
    refine mix_op (by rfl) ?_
    intro K hK
    go_wp2_with fail
    exact hK.out _ _ ⟨since (hB1.trans ((ba _ _).mono hB1.size)), [u, .pointer (some ⟨w1'.heap.size, 0, none⟩)], rfl, by simp only [putAll, Act.put, List.setIfInBounds_toArray, List.set_cons_succ, List.set_cons_zero], hR'.out.two (by decide) hB1.size⟩
  intro s vs v0 _ hall _ hR
  obtain ⟨_, _, rfl, hB1, hx, hy, hxy⟩ := hR
  obtain ⟨kx, rfl, hkx, rx⟩ := hx (hall (20, []) (by simp))
  obtain ⟨ky, rfl, hky, ry⟩ := hy (hall (21, []) (by simp))
  have hne : kx ≠ ky := by
    intro e
    exact hxy (hall (20, []) (by simp)) (hall (21, []) (by simp)) (by rw [e])
  clear hx hy hxy hall x0 x1 x2 x3 x4 y0 y1 y2 y3 y4
  simp only [putAll, Act.put, List.setIfInBounds_toArray, List.set_cons_succ, List.set_cons_zero]
  have RX := lid rx
  have RY := lid ry
  clear rx ry
  have p0 := row_cell RX.out 0
  have p1 := row_cell RX.out 1
  have p2 := row_cell RX.out 2
  have p3 := row_cell RX.out 3
  have p4 := row_cell RX.out 4
  have z0 := row_fz RX.out 0
  have z1 := row_fz RX.out 1
  have z2 := row_fz RX.out 2
  have z3 := row_fz RX.out 3
  have z4 := row_fz RX.out 4
  refine seq_chain (by rfl) ?_
  intro K hK
  go_wp2_with fail
  clear p0 p1 p2 p3 p4 z0 z1 z2 z3 z4
  obtain ⟨v1, hv1⟩ : ∃ y, put5 kx x v0 = y := ⟨_, rfl⟩
  have hB2 := put5_below (x := x) hB1 hkx
  have RX1 := lid (put5_row (x := x) RX.out)
  have RY1 := lid (put5_other (x := x) RY.out hne.symm)
  rw [hv1] at hB2 RX1 RY1
  unfold put5 at hv1
  rw [hv1]
  clear hv1 RX RY hB1
  refine hK.out _ _ (since hB2) ?_
  clear hK K
  repeat (first | (refine seq_skip (by rfl) (by rfl) ?_; simp only [Act.put, List.setIfInBounds_toArray, List.set_cons_succ, List.set_cons_zero]) | (refine seq_float (by rfl) (by rfl) (by rfl) ?_; intro K hK; go_big_quiet_op; go_big_quiet_on))
  have p0 := row_cell RY1.out 0
  have p1 := row_cell RY1.out 1
  have p2 := row_cell RY1.out 2
  have p3 := row_cell RY1.out 3
  have p4 := row_cell RY1.out 4
  have z0 := row_fz RY1.out 0
  have z1 := row_fz RY1.out 1
  have z2 := row_fz RY1.out 2
  have z3 := row_fz RY1.out 3
  have z4 := row_fz RY1.out 4
  refine seq_chain (by rfl) ?_
  intro K hK
  go_wp2_with fail
  clear p0 p1 p2 p3 p4 z0 z1 z2 z3 z4
  obtain ⟨v2', hv2⟩ : ∃ z, put5 ky y v1 = z := ⟨_, rfl⟩
  have hB3 := put5_below (x := y) hB2 hky
  have BY := lid (put5_row (x := y) RY1.out)
  have BX := lid (put5_other (x := y) RX1.out hne)
  rw [hv2] at hB3 BX BY
  unfold put5 at hv2
  rw [hv2]
  clear hv2 RX1 RY1 hB2
  refine hK.out _ _ (since hB3) ?_
  clear hK K
  repeat (first | (refine seq_skip (by rfl) (by rfl) ?_; simp only [Act.put, List.setIfInBounds_toArray, List.set_cons_succ, List.set_cons_zero]) | (refine seq_float (by rfl) (by rfl) (by rfl) ?_; intro K hK; go_big_quiet_op; go_big_quiet_on))
  refine seq_nil ?_
  have lkx := row_lt BX.out
  have lky := row_lt BY.out
  clear q9 q10 q11 q12
  replace HA := lid (HA.out.below hB3)
  replace BT := lid ((hB3.block _ (row_lt BT.out)).trans BT.out)
  replace hb := hb.trans (hB3.mono hb.size)
  have mv2' := hB3.size
  clear hB3
  have CG := lid (grant_any t (some ⟨b1, o1, none⟩) n cap x.1 newO m v2' HA.out.A HA.out.le HA.out.z newO_size)
  have H1 := lid (fun h => grant_good (t := t) (job := x.1) (wk := newO) (m := m) h)
  have H2 := lid (fun h => others_grant (t := t) (job := x.1) (wk := newO) (m := m) h HxM.out)
  have H3 := lid (fun h => others_grant (t := t) (job := x.1) (wk := newO) (m := m) h HyM.out)
  obtain ⟨E, hE⟩ : ∃ E, grantE t x.1 newO m = E := ⟨_, rfl⟩
  obtain ⟨T, hT⟩ : ∃ E, grantL t x.1 newO m = E := ⟨_, rfl⟩
  obtain ⟨Z, hZ⟩ : ∃ E, grantX t x.1 newO m = E := ⟨_, rfl⟩
  rw [hE, hT, hZ] at CG H1
  rw [hE] at H2 H3
  have HTG := lid hT
  clear hE hT hZ
  have q13 := row_cell BT.out 0
  have q14 := row_cell BT.out 1
  have q15 := row_cell BT.out 2
  have q16 := row_cell BX.out 0
  have q17 := row_cell BX.out 1
  have q18 := row_cell BX.out 2
  have q19 := row_cell BX.out 3
  have q20 := row_cell BX.out 4
  have q21 := row_lt BT.out
  have q22 := row_lt BX.out
  go_wp2_with fail
  clear q13 q14 q15 q16 q17 q18 q19 q20 q21 q22
  (with_reducible refine (CG.out).mono ?_); rintro e w3 ⟨_, rfl, ⟨ao1, n1, cap1, rfl, hA⟩, hb1'⟩
  clear CG
  replace HA := lid (HA.out.below hb1')
  replace BT := lid ((hb1'.block _ (row_lt BT.out)).trans BT.out)
  replace BX := lid ((hb1'.block _ (row_lt BX.out)).trans BX.out)
  replace BY := lid ((hb1'.block _ (row_lt BY.out)).trans BY.out)
  replace hb := hb.trans (hb1'.mono hb.size)
  have mw3 := hb1'.size
  clear hb1'
  have HA1 := lid hA
  clear hA
  have q23 := row_cell BT.out 0
  have q24 := row_cell BT.out 1
  have q25 := row_cell BT.out 2
  have q26 := row_cell BX.out 0
  have q27 := row_cell BX.out 1
  have q28 := row_cell BX.out 2
  have q29 := row_cell BX.out 3
  have q30 := row_cell BX.out 4
  have q31 := row_lt BT.out
  have q32 := row_lt BX.out
  go_wp2_with fail
  clear q23 q24 q25 q26 q27 q28 q29 q30 q31 q32
  have lBTw3 := row_lt BT.out
  have lBXw3 := row_lt BX.out
  have lBYw3 := row_lt BY.out
  have bw3 : w.heap.size ≤ w3.heap.size := hb.size
  obtain ⟨W3, hW⟩ : ∃ y, (w3.alloc (.cells (tcells T ao1 n1 cap1) 24)).alloc (.cells (lzc Z) 31) = y := ⟨_, rfl⟩
  rw [hW]
  have hbW : Below w3.heap.size w3 W3 := by rw [← hW]; exact (((Below.refl w3.heap.size w3).alloc (Nat.le_refl _) _).alloc (by simp only [World.size_alloc]; omega) _)
  have gW3 : w3.heap.size + 1 < W3.heap.size := by rw [← hW]; simp only [World.size_alloc]; omega
  have BT1 : Hid (W3.heap[w3.heap.size]? = some (.cells (tcells T ao1 n1 cap1) 24 (0, 0))) := lid (by
    rw [← hW]
    iterate 1 rw [Below.heap_alloc _ _ _ (by simp only [World.size_alloc]; omega)]
    have := heap_alloc_new w3 (.cells (tcells T ao1 n1 cap1) 24)
    exact this)
  have BZ1 : Hid (W3.heap[w3.heap.size + 1]? = some (.cells (lzc Z) 31 (0, 0))) := lid (by
    rw [← hW]
    have := heap_alloc_new (w3.alloc (.cells (tcells T ao1 n1 cap1) 24)) (.cells (lzc Z) 31)
    simp only [World.size_alloc] at this
    exact this)
  clear hW
  replace HA := lid (HA.out.below hbW)
  replace BT := lid ((hbW.block _ (row_lt BT.out)).trans BT.out)
  replace BX := lid ((hbW.block _ (row_lt BX.out)).trans BX.out)
  replace BY := lid ((hbW.block _ (row_lt BY.out)).trans BY.out)
  replace HA1 := lid (HA1.out.below hbW)
  replace hb := hb.trans (hbW.mono hb.size)
  have mW3 := hbW.size
  clear hbW
  have hxsz : x.2.1.size ≤ maxLen := by have h1 := small_szO HSM.out HxM.out; simp only [maxLen]; omega
  have CR := lid (renew_any t (some ⟨b1, o1, none⟩) n cap x m W3 HA.out.A HA.out.le HA.out.z hxsz)
  have K1 := lid (fun h => renew_good (t := t) (x := x) (m := m) h)
  have K2 := lid (fun h => others_renew (t := t) (x := x) (m := m) h)
  obtain ⟨F, hF⟩ : ∃ E, renewE t x m = E := ⟨_, rfl⟩
  obtain ⟨U, hU⟩ : ∃ E, renewL t x m = E := ⟨_, rfl⟩
  obtain ⟨V, hV⟩ : ∃ E, renewX t x m = E := ⟨_, rfl⟩
  rw [hF, hU, hV] at CR K1
  rw [hF] at K2
  have HUR := lid hU
  clear hF hU hV
  (with_reducible refine (CR.out).mono ?_); rintro e w4 ⟨_, rfl, ⟨ao2, n2, cap2, rfl, hA⟩, hb1'⟩
  clear CR
  replace HA := lid (HA.out.below hb1')
  replace BT := lid ((hb1'.block _ (row_lt BT.out)).trans BT.out)
  replace BX := lid ((hb1'.block _ (row_lt BX.out)).trans BX.out)
  replace BY := lid ((hb1'.block _ (row_lt BY.out)).trans BY.out)
  replace HA1 := lid (HA1.out.below hb1')
  replace BT1 := lid ((hb1'.block _ (row_lt BT1.out)).trans BT1.out)
  replace BZ1 := lid ((hb1'.block _ (row_lt BZ1.out)).trans BZ1.out)
  replace hb := hb.trans (hb1'.mono hb.size)
  have mw4 := hb1'.size
  clear hb1'
  have HA2 := lid hA
  clear hA
  have q33 := row_cell BT.out 0
  have q34 := row_cell BT.out 1
  have q35 := row_cell BT.out 2
  have q36 := row_cell BX.out 0
  have q37 := row_cell BX.out 1
  have q38 := row_cell BX.out 2
  have q39 := row_cell BX.out 3
  have q40 := row_cell BX.out 4
  have q41 := row_lt BT.out
  have q42 := row_lt BX.out
  go_wp2_with fail
  clear q33 q34 q35 q36 q37 q38 q39 q40 q41 q42
  have lBTw4 := row_lt BT.out
  have lBXw4 := row_lt BX.out
  have lBYw4 := row_lt BY.out
  have lBT1w4 := row_lt BT1.out
  have lBZ1w4 := row_lt BZ1.out
  have bw4 : w.heap.size ≤ w4.heap.size := hb.size
  obtain ⟨W4, hW⟩ : ∃ y, (w4.alloc (.cells (tcells U ao2 n2 cap2) 24)).alloc (.cells (lzc V) 31) = y := ⟨_, rfl⟩
  rw [hW]
  have hbW : Below w4.heap.size w4 W4 := by rw [← hW]; exact (((Below.refl w4.heap.size w4).alloc (Nat.le_refl _) _).alloc (by simp only [World.size_alloc]; omega) _)
  have gW4 : w4.heap.size + 1 < W4.heap.size := by rw [← hW]; simp only [World.size_alloc]; omega
  have BT2 : Hid (W4.heap[w4.heap.size]? = some (.cells (tcells U ao2 n2 cap2) 24 (0, 0))) := lid (by
    rw [← hW]
    iterate 1 rw [Below.heap_alloc _ _ _ (by simp only [World.size_alloc]; omega)]
    have := heap_alloc_new w4 (.cells (tcells U ao2 n2 cap2) 24)
    exact this)
  have BV : Hid (W4.heap[w4.heap.size + 1]? = some (.cells (lzc V) 31 (0, 0))) := lid (by
    rw [← hW]
    have := heap_alloc_new (w4.alloc (.cells (tcells U ao2 n2 cap2) 24)) (.cells (lzc V) 31)
    simp only [World.size_alloc] at this
    exact this)
  clear hW
  replace HA := lid (HA.out.below hbW)
  replace BT := lid ((hbW.block _ (row_lt BT.out)).trans BT.out)
  replace BX := lid ((hbW.block _ (row_lt BX.out)).trans BX.out)
  replace BY := lid ((hbW.block _ (row_lt BY.out)).trans BY.out)
  replace HA1 := lid (HA1.out.below hbW)
  replace BT1 := lid ((hbW.block _ (row_lt BT1.out)).trans BT1.out)
  replace BZ1 := lid ((hbW.block _ (row_lt BZ1.out)).trans BZ1.out)
  replace HA2 := lid (HA2.out.below hbW)
  replace hb := hb.trans (hbW.mono hb.size)
  have mW4 := hbW.size
  clear hbW
  have CL := lid (release_any t (some ⟨b1, o1, none⟩) n cap x W4 HA.out.A HA.out.le HA.out.z)
  have J1 := rel_good (rel_3 (check_iff.2 HV.out) (memB_iff.2 HxM.out))
  rw [J1.1, J1.2] at CL
  have J2 := lid (others_release HV.out x)
  have J3 : Hid ((⟨t.clock, t.epoch, lessL t.l x⟩ : Ls).l.length + 1 = t.l.length) := lid (less_len HV.out HxM.out)
  obtain ⟨R, hR⟩ : ∃ R : Ls, ⟨t.clock, t.epoch, lessL t.l x⟩ = R := ⟨_, rfl⟩
  rw [hR] at CL J2 J3
  clear J1 hR
  (with_reducible refine (CL.out).mono ?_); rintro e w5 ⟨_, rfl, ⟨ao3, n3, cap3, rfl, hA⟩, hb1'⟩
  clear CL
  replace HA := lid (HA.out.below hb1')
  replace BT := lid ((hb1'.block _ (row_lt BT.out)).trans BT.out)
  replace BX := lid ((hb1'.block _ (row_lt BX.out)).trans BX.out)
  replace BY := lid ((hb1'.block _ (row_lt BY.out)).trans BY.out)
  replace HA1 := lid (HA1.out.below hb1')
  replace BT1 := lid ((hb1'.block _ (row_lt BT1.out)).trans BT1.out)
  replace BZ1 := lid ((hb1'.block _ (row_lt BZ1.out)).trans BZ1.out)
  replace HA2 := lid (HA2.out.below hb1')
  replace BT2 := lid ((hb1'.block _ (row_lt BT2.out)).trans BT2.out)
  replace BV := lid ((hb1'.block _ (row_lt BV.out)).trans BV.out)
  replace hb := hb.trans (hb1'.mono hb.size)
  have mw5 := hb1'.size
  clear hb1'
  have HA3 := lid hA
  clear hA
  have hn13 : n1 ≤ 13 := by
    have h1 := HA1.out.A.len
    have h2 := grantL_len t x.1 newO m
    have h3 := HA.out.A.len
    rw [HTG.out, h1, h3] at h2
    omega
  have hn23 : n2 ≤ 13 := by
    have h1 := HA2.out.A.len
    have h2 := renewL_len t x m
    have h3 := HA.out.A.len
    rw [HUR.out, h1, h3] at h2
    omega
  have hn3 : (n3 : Int) = (n : Int) - 1 := by
    have h1 := J3.out
    rw [HA3.out.A.len, HA.out.A.len] at h1
    omega
  have hn33 : n3 ≤ 13 := by omega
  have dn3 : ((n3 : Int) == (n : Int) - 1) = true := by simpa using hn3
  by_cases hxy : x = y
  · obtain rfl := hxy
    by_cases hE0 : E = 0
    · by_cases hF0 : F = 0
      · obtain rfl := hE0
        have hG := H1.out rfl
        have hn1 : (n1 : Int) = (n : Int) + 1 := by
          have h1 := HA1.out.A.len
          have h2 := HA.out.A.len
          rw [hG.1] at h1
          simp [withL] at h1
          omega
        have dn1 : ((n1 : Int) == (n : Int) + 1) = true := by simpa using hn1
        have hx1 := H2.out rfl
        have hy1 := H3.out rfl
        rw [← hG.1] at hx1 hy1
        clear hG hn1
        have q43 := row_cell BT1.out 0
        have q44 := row_cell BT1.out 1
        have q45 := row_cell BT1.out 2
        have q46 := row_cell BX.out 0
        have q47 := row_cell BX.out 1
        have q48 := row_cell BX.out 2
        have q49 := row_cell BX.out 3
        have q50 := row_cell BX.out 4
        have q51 := row_lt BT1.out
        have q52 := row_lt BX.out
        go_wp2_with fail
        clear q43 q44 q45 q46 q47 q48 q49 q50 q51 q52
        have lBTw5 := row_lt BT.out
        have lBXw5 := row_lt BX.out
        have lBYw5 := row_lt BY.out
        have lBT1w5 := row_lt BT1.out
        have lBZ1w5 := row_lt BZ1.out
        have lBT2w5 := row_lt BT2.out
        have lBVw5 := row_lt BV.out
        have bw5 : w.heap.size ≤ w5.heap.size := hb.size
        obtain ⟨W5, hW⟩ : ∃ y, w5.alloc (.cells (tcells R ao3 n3 cap3) 24) = y := ⟨_, rfl⟩
        rw [hW]
        have hbW : Below w5.heap.size w5 W5 := by rw [← hW]; exact ((Below.refl w5.heap.size w5).alloc (Nat.le_refl _) _)
        have gW5 : w5.heap.size + 0 < W5.heap.size := by rw [← hW]; simp only [World.size_alloc]; omega
        have BT3 : Hid (W5.heap[w5.heap.size]? = some (.cells (tcells R ao3 n3 cap3) 24 (0, 0))) := lid (by
          rw [← hW]
          have := heap_alloc_new w5 (.cells (tcells R ao3 n3 cap3) 24)
          exact this)
        clear hW
        replace HA := lid (HA.out.below hbW)
        replace BT := lid ((hbW.block _ (row_lt BT.out)).trans BT.out)
        replace BX := lid ((hbW.block _ (row_lt BX.out)).trans BX.out)
        replace BY := lid ((hbW.block _ (row_lt BY.out)).trans BY.out)
        replace HA1 := lid (HA1.out.below hbW)
        replace BT1 := lid ((hbW.block _ (row_lt BT1.out)).trans BT1.out)
        replace BZ1 := lid ((hbW.block _ (row_lt BZ1.out)).trans BZ1.out)
        replace HA2 := lid (HA2.out.below hbW)
        replace BT2 := lid ((hbW.block _ (row_lt BT2.out)).trans BT2.out)
        replace BV := lid ((hbW.block _ (row_lt BV.out)).trans BV.out)
        replace HA3 := lid (HA3.out.below hbW)
        replace hb := hb.trans (hbW.mono hb.size)
        have mW5 := hbW.size
        clear hbW
        have CH := lid (holds_any T ao1 n1 cap1 x W5 HA1.out.A HA1.out.le)
        rw [hx1] at CH
        (with_reducible refine (CH.out).mono ?_); rintro e a1 ⟨rfl, hb1'⟩
        clear CH
        replace HA := lid (HA.out.below hb1')
        replace BT := lid ((hb1'.block _ (row_lt BT.out)).trans BT.out)
        replace BX := lid ((hb1'.block _ (row_lt BX.out)).trans BX.out)
        replace BY := lid ((hb1'.block _ (row_lt BY.out)).trans BY.out)
        replace HA1 := lid (HA1.out.below hb1')
        replace BT1 := lid ((hb1'.block _ (row_lt BT1.out)).trans BT1.out)
        replace BZ1 := lid ((hb1'.block _ (row_lt BZ1.out)).trans BZ1.out)
        replace HA2 := lid (HA2.out.below hb1')
        replace BT2 := lid ((hb1'.block _ (row_lt BT2.out)).trans BT2.out)
        replace BV := lid ((hb1'.block _ (row_lt BV.out)).trans BV.out)
        replace HA3 := lid (HA3.out.below hb1')
        replace BT3 := lid ((hb1'.block _ (row_lt BT3.out)).trans BT3.out)
        replace hb := hb.trans (hb1'.mono hb.size)
        have ma1 := hb1'.size
        clear hb1'
        have q53 := row_cell BT1.out 0
        have q54 := row_cell BT1.out 1
        have q55 := row_cell BT1.out 2
        have q56 := row_cell BY.out 0
        have q57 := row_cell BY.out 1
        have q58 := row_cell BY.out 2
        have q59 := row_cell BY.out 3
        have q60 := row_cell BY.out 4
        have q61 := row_lt BT1.out
        have q62 := row_lt BY.out
        go_wp2_with fail
        clear q53 q54 q55 q56 q57 q58 q59 q60 q61 q62
        have CH := lid (holds_any T ao1 n1 cap1 x a1 HA1.out.A HA1.out.le)
        rw [hx1] at CH
        (with_reducible refine (CH.out).mono ?_); rintro e a2 ⟨rfl, hb1'⟩
        clear CH
        replace HA := lid (HA.out.below hb1')
        replace BT := lid ((hb1'.block _ (row_lt BT.out)).trans BT.out)
        replace BX := lid ((hb1'.block _ (row_lt BX.out)).trans BX.out)
        replace BY := lid ((hb1'.block _ (row_lt BY.out)).trans BY.out)
        replace HA1 := lid (HA1.out.below hb1')
        replace BT1 := lid ((hb1'.block _ (row_lt BT1.out)).trans BT1.out)
        replace BZ1 := lid ((hb1'.block _ (row_lt BZ1.out)).trans BZ1.out)
        replace HA2 := lid (HA2.out.below hb1')
        replace BT2 := lid ((hb1'.block _ (row_lt BT2.out)).trans BT2.out)
        replace BV := lid ((hb1'.block _ (row_lt BV.out)).trans BV.out)
        replace HA3 := lid (HA3.out.below hb1')
        replace BT3 := lid ((hb1'.block _ (row_lt BT3.out)).trans BT3.out)
        replace hb := hb.trans (hb1'.mono hb.size)
        have ma2 := hb1'.size
        clear hb1'
        obtain rfl := hF0
        have hG := K1.out rfl
        have hR := K2.out rfl
        rw [← hG.1, ← hG.2.1] at hR
        have en2 : n2 = n := by
          have h1 := HA2.out.A.len
          have h2 := HA.out.A.len
          have h3 := hR.2.2.2
          omega
        subst en2
        have HVF : Hid (V = (x.1, x.2.1, t.clock + m, t.epoch + 1)) := lid hG.2.1
        clear hG
        have q63 := row_cell BT1.out 0
        have q64 := row_cell BT1.out 1
        have q65 := row_cell BT1.out 2
        have q66 := row_cell BT.out 0
        have q67 := row_cell BT.out 1
        have q68 := row_cell BT.out 2
        have q69 := row_cell BT2.out 0
        have q70 := row_cell BT2.out 1
        have q71 := row_cell BT2.out 2
        have q72 := row_cell BX.out 0
        have q73 := row_cell BX.out 1
        have q74 := row_cell BX.out 2
        have q75 := row_cell BX.out 3
        have q76 := row_cell BX.out 4
        have q77 := row_lt BT1.out
        have q78 := row_lt BT.out
        have q79 := row_lt BT2.out
        have q80 := row_lt BX.out
        go_wp2_with fail
        clear q63 q64 q65 q66 q67 q68 q69 q70 q71 q72 q73 q74 q75 q76 q77 q78 q79 q80
        have CH := lid (holds_any U ao2 n2 cap2 x a2 HA2.out.A HA2.out.le)
        rw [hR.1] at CH
        (with_reducible refine (CH.out).mono ?_); rintro e c1 ⟨rfl, hb1'⟩
        clear CH
        replace HA := lid (HA.out.below hb1')
        replace BT := lid ((hb1'.block _ (row_lt BT.out)).trans BT.out)
        replace BX := lid ((hb1'.block _ (row_lt BX.out)).trans BX.out)
        replace BY := lid ((hb1'.block _ (row_lt BY.out)).trans BY.out)
        replace HA1 := lid (HA1.out.below hb1')
        replace BT1 := lid ((hb1'.block _ (row_lt BT1.out)).trans BT1.out)
        replace BZ1 := lid ((hb1'.block _ (row_lt BZ1.out)).trans BZ1.out)
        replace HA2 := lid (HA2.out.below hb1')
        replace BT2 := lid ((hb1'.block _ (row_lt BT2.out)).trans BT2.out)
        replace BV := lid ((hb1'.block _ (row_lt BV.out)).trans BV.out)
        replace HA3 := lid (HA3.out.below hb1')
        replace BT3 := lid ((hb1'.block _ (row_lt BT3.out)).trans BT3.out)
        replace hb := hb.trans (hb1'.mono hb.size)
        have mc1 := hb1'.size
        clear hb1'
        have q81 := row_cell BT2.out 0
        have q82 := row_cell BT2.out 1
        have q83 := row_cell BT2.out 2
        have q84 := row_cell BV.out 0
        have q85 := row_cell BV.out 1
        have q86 := row_cell BV.out 2
        have q87 := row_cell BV.out 3
        have q88 := row_cell BV.out 4
        have q89 := row_lt BT2.out
        have q90 := row_lt BV.out
        go_wp2_with fail
        clear q81 q82 q83 q84 q85 q86 q87 q88 q89 q90
        have CH := lid (holds_any U ao2 n2 cap2 V c1 HA2.out.A HA2.out.le)
        rw [hR.2.1] at CH
        (with_reducible refine (CH.out).mono ?_); rintro e c2 ⟨rfl, hb1'⟩
        clear CH
        replace HA := lid (HA.out.below hb1')
        replace BT := lid ((hb1'.block _ (row_lt BT.out)).trans BT.out)
        replace BX := lid ((hb1'.block _ (row_lt BX.out)).trans BX.out)
        replace BY := lid ((hb1'.block _ (row_lt BY.out)).trans BY.out)
        replace HA1 := lid (HA1.out.below hb1')
        replace BT1 := lid ((hb1'.block _ (row_lt BT1.out)).trans BT1.out)
        replace BZ1 := lid ((hb1'.block _ (row_lt BZ1.out)).trans BZ1.out)
        replace HA2 := lid (HA2.out.below hb1')
        replace BT2 := lid ((hb1'.block _ (row_lt BT2.out)).trans BT2.out)
        replace BV := lid ((hb1'.block _ (row_lt BV.out)).trans BV.out)
        replace HA3 := lid (HA3.out.below hb1')
        replace BT3 := lid ((hb1'.block _ (row_lt BT3.out)).trans BT3.out)
        replace hb := hb.trans (hb1'.mono hb.size)
        have mc2 := hb1'.size
        clear hb1'
        have BV2 := BV
        rw [HVF.out] at BV2
        have q91 := row_cell BX.out 0
        have q92 := row_cell BX.out 1
        have q93 := row_cell BX.out 2
        have q94 := row_cell BX.out 3
        have q95 := row_cell BX.out 4
        have q96 := row_cell BY.out 0
        have q97 := row_cell BY.out 1
        have q98 := row_cell BY.out 2
        have q99 := row_cell BY.out 3
        have q100 := row_cell BY.out 4
        have q101 := row_cell BT2.out 0
        have q102 := row_cell BT2.out 1
        have q103 := row_cell BT2.out 2
        have q104 := row_cell BT.out 0
        have q105 := row_cell BT.out 1
        have q106 := row_cell BT.out 2
        have q107 := row_cell BV2.out 0
        have q108 := row_cell BV2.out 1
        have q109 := row_cell BV2.out 2
        have q110 := row_cell BV2.out 3
        have q111 := row_cell BV2.out 4
        have q112 := row_lt BX.out
        have q113 := row_lt BY.out
        have q114 := row_lt BT2.out
        have q115 := row_lt BT.out
        have q116 := row_lt BV2.out
        have q117 := row_cell BT3.out 0
        have q118 := row_cell BT3.out 1
        have q119 := row_cell BT3.out 2
        have q120 := row_cell BX.out 0
        have q121 := row_cell BX.out 1
        have q122 := row_cell BX.out 2
        have q123 := row_cell BX.out 3
        have q124 := row_cell BX.out 4
        have q125 := row_lt BT3.out
        have q126 := row_lt BX.out
        go_wp2_with fail
        clear q91 q92 q93 q94 q95 q96 q97 q98 q99 q100 q101 q102 q103 q104 q105 q106 q107 q108 q109 q110 q111 q112 q113 q114 q115 q116 q117 q118 q119 q120 q121 q122 q123 q124 q125 q126
        have CH := lid (holds_any R ao3 n3 cap3 x c2 HA3.out.A HA3.out.le)
        rw [J2.out.1] at CH
        (with_reducible refine (CH.out).mono ?_); rintro e g1 ⟨rfl, hb1'⟩
        clear CH
        replace HA := lid (HA.out.below hb1')
        replace BT := lid ((hb1'.block _ (row_lt BT.out)).trans BT.out)
        replace BX := lid ((hb1'.block _ (row_lt BX.out)).trans BX.out)
        replace BY := lid ((hb1'.block _ (row_lt BY.out)).trans BY.out)
        replace HA1 := lid (HA1.out.below hb1')
        replace BT1 := lid ((hb1'.block _ (row_lt BT1.out)).trans BT1.out)
        replace BZ1 := lid ((hb1'.block _ (row_lt BZ1.out)).trans BZ1.out)
        replace HA2 := lid (HA2.out.below hb1')
        replace BT2 := lid ((hb1'.block _ (row_lt BT2.out)).trans BT2.out)
        replace BV := lid ((hb1'.block _ (row_lt BV.out)).trans BV.out)
        replace HA3 := lid (HA3.out.below hb1')
        replace BT3 := lid ((hb1'.block _ (row_lt BT3.out)).trans BT3.out)
        replace BV2 := lid ((hb1'.block _ (row_lt BV2.out)).trans BV2.out)
        replace hb := hb.trans (hb1'.mono hb.size)
        have mg1 := hb1'.size
        clear hb1'
        have q127 := row_cell BX.out 0
        have q128 := row_cell BX.out 1
        have q129 := row_cell BX.out 2
        have q130 := row_cell BX.out 3
        have q131 := row_cell BX.out 4
        have q132 := row_cell BY.out 0
        have q133 := row_cell BY.out 1
        have q134 := row_cell BY.out 2
        have q135 := row_cell BY.out 3
        have q136 := row_cell BY.out 4
        have q137 := row_cell BT3.out 0
        have q138 := row_cell BT3.out 1
        have q139 := row_cell BT3.out 2
        have q140 := row_cell BT.out 0
        have q141 := row_cell BT.out 1
        have q142 := row_cell BT.out 2
        have q143 := row_lt BX.out
        have q144 := row_lt BY.out
        have q145 := row_lt BT3.out
        have q146 := row_lt BT.out
        go_wp2_with fail
        clear q127 q128 q129 q130 q131 q132 q133 q134 q135 q136 q137 q138 q139 q140 q141 q142 q143 q144 q145 q146
        have hb := hb
        (with_reducible refine (awake_any _).mono ?_); rintro e wa ⟨rfl, hb1⟩
        have hfin := hb.trans (hb1.mono hb.size)
        go_wp2_with fail
        go_ret
        exact ⟨rfl, hfin⟩
      · obtain rfl := hE0
        have hG := H1.out rfl
        have hn1 : (n1 : Int) = (n : Int) + 1 := by
          have h1 := HA1.out.A.len
          have h2 := HA.out.A.len
          rw [hG.1] at h1
          simp [withL] at h1
          omega
        have dn1 : ((n1 : Int) == (n : Int) + 1) = true := by simpa using hn1
        have hx1 := H2.out rfl
        have hy1 := H3.out rfl
        rw [← hG.1] at hx1 hy1
        clear hG hn1
        have q43 := row_cell BT1.out 0
        have q44 := row_cell BT1.out 1
        have q45 := row_cell BT1.out 2
        have q46 := row_cell BX.out 0
        have q47 := row_cell BX.out 1
        have q48 := row_cell BX.out 2
        have q49 := row_cell BX.out 3
        have q50 := row_cell BX.out 4
        have q51 := row_lt BT1.out
        have q52 := row_lt BX.out
        go_wp2_with fail
        clear q43 q44 q45 q46 q47 q48 q49 q50 q51 q52
        have lBTw5 := row_lt BT.out
        have lBXw5 := row_lt BX.out
        have lBYw5 := row_lt BY.out
        have lBT1w5 := row_lt BT1.out
        have lBZ1w5 := row_lt BZ1.out
        have lBT2w5 := row_lt BT2.out
        have lBVw5 := row_lt BV.out
        have bw5 : w.heap.size ≤ w5.heap.size := hb.size
        obtain ⟨W5, hW⟩ : ∃ y, w5.alloc (.cells (tcells R ao3 n3 cap3) 24) = y := ⟨_, rfl⟩
        rw [hW]
        have hbW : Below w5.heap.size w5 W5 := by rw [← hW]; exact ((Below.refl w5.heap.size w5).alloc (Nat.le_refl _) _)
        have gW5 : w5.heap.size + 0 < W5.heap.size := by rw [← hW]; simp only [World.size_alloc]; omega
        have BT3 : Hid (W5.heap[w5.heap.size]? = some (.cells (tcells R ao3 n3 cap3) 24 (0, 0))) := lid (by
          rw [← hW]
          have := heap_alloc_new w5 (.cells (tcells R ao3 n3 cap3) 24)
          exact this)
        clear hW
        replace HA := lid (HA.out.below hbW)
        replace BT := lid ((hbW.block _ (row_lt BT.out)).trans BT.out)
        replace BX := lid ((hbW.block _ (row_lt BX.out)).trans BX.out)
        replace BY := lid ((hbW.block _ (row_lt BY.out)).trans BY.out)
        replace HA1 := lid (HA1.out.below hbW)
        replace BT1 := lid ((hbW.block _ (row_lt BT1.out)).trans BT1.out)
        replace BZ1 := lid ((hbW.block _ (row_lt BZ1.out)).trans BZ1.out)
        replace HA2 := lid (HA2.out.below hbW)
        replace BT2 := lid ((hbW.block _ (row_lt BT2.out)).trans BT2.out)
        replace BV := lid ((hbW.block _ (row_lt BV.out)).trans BV.out)
        replace HA3 := lid (HA3.out.below hbW)
        replace hb := hb.trans (hbW.mono hb.size)
        have mW5 := hbW.size
        clear hbW
        have CH := lid (holds_any T ao1 n1 cap1 x W5 HA1.out.A HA1.out.le)
        rw [hx1] at CH
        (with_reducible refine (CH.out).mono ?_); rintro e a1 ⟨rfl, hb1'⟩
        clear CH
        replace HA := lid (HA.out.below hb1')
        replace BT := lid ((hb1'.block _ (row_lt BT.out)).trans BT.out)
        replace BX := lid ((hb1'.block _ (row_lt BX.out)).trans BX.out)
        replace BY := lid ((hb1'.block _ (row_lt BY.out)).trans BY.out)
        replace HA1 := lid (HA1.out.below hb1')
        replace BT1 := lid ((hb1'.block _ (row_lt BT1.out)).trans BT1.out)
        replace BZ1 := lid ((hb1'.block _ (row_lt BZ1.out)).trans BZ1.out)
        replace HA2 := lid (HA2.out.below hb1')
        replace BT2 := lid ((hb1'.block _ (row_lt BT2.out)).trans BT2.out)
        replace BV := lid ((hb1'.block _ (row_lt BV.out)).trans BV.out)
        replace HA3 := lid (HA3.out.below hb1')
        replace BT3 := lid ((hb1'.block _ (row_lt BT3.out)).trans BT3.out)
        replace hb := hb.trans (hb1'.mono hb.size)
        have ma1 := hb1'.size
        clear hb1'
        have q53 := row_cell BT1.out 0
        have q54 := row_cell BT1.out 1
        have q55 := row_cell BT1.out 2
        have q56 := row_cell BY.out 0
        have q57 := row_cell BY.out 1
        have q58 := row_cell BY.out 2
        have q59 := row_cell BY.out 3
        have q60 := row_cell BY.out 4
        have q61 := row_lt BT1.out
        have q62 := row_lt BY.out
        go_wp2_with fail
        clear q53 q54 q55 q56 q57 q58 q59 q60 q61 q62
        have CH := lid (holds_any T ao1 n1 cap1 x a1 HA1.out.A HA1.out.le)
        rw [hx1] at CH
        (with_reducible refine (CH.out).mono ?_); rintro e a2 ⟨rfl, hb1'⟩
        clear CH
        replace HA := lid (HA.out.below hb1')
        replace BT := lid ((hb1'.block _ (row_lt BT.out)).trans BT.out)
        replace BX := lid ((hb1'.block _ (row_lt BX.out)).trans BX.out)
        replace BY := lid ((hb1'.block _ (row_lt BY.out)).trans BY.out)
        replace HA1 := lid (HA1.out.below hb1')
        replace BT1 := lid ((hb1'.block _ (row_lt BT1.out)).trans BT1.out)
        replace BZ1 := lid ((hb1'.block _ (row_lt BZ1.out)).trans BZ1.out)
        replace HA2 := lid (HA2.out.below hb1')
        replace BT2 := lid ((hb1'.block _ (row_lt BT2.out)).trans BT2.out)
        replace BV := lid ((hb1'.block _ (row_lt BV.out)).trans BV.out)
        replace HA3 := lid (HA3.out.below hb1')
        replace BT3 := lid ((hb1'.block _ (row_lt BT3.out)).trans BT3.out)
        replace hb := hb.trans (hb1'.mono hb.size)
        have ma2 := hb1'.size
        clear hb1'
        have dF : (F == 0) = false := by simpa using hF0
        have q63 := row_cell BT1.out 0
        have q64 := row_cell BT1.out 1
        have q65 := row_cell BT1.out 2
        have q66 := row_cell BT.out 0
        have q67 := row_cell BT.out 1
        have q68 := row_cell BT.out 2
        have q69 := row_cell BX.out 0
        have q70 := row_cell BX.out 1
        have q71 := row_cell BX.out 2
        have q72 := row_cell BX.out 3
        have q73 := row_cell BX.out 4
        have q74 := row_cell BT3.out 0
        have q75 := row_cell BT3.out 1
        have q76 := row_cell BT3.out 2
        have q77 := row_lt BT1.out
        have q78 := row_lt BT.out
        have q79 := row_lt BX.out
        have q80 := row_lt BT3.out
        go_wp2_with fail
        clear q63 q64 q65 q66 q67 q68 q69 q70 q71 q72 q73 q74 q75 q76 q77 q78 q79 q80
        have CH := lid (holds_any R ao3 n3 cap3 x a2 HA3.out.A HA3.out.le)
        rw [J2.out.1] at CH
        (with_reducible refine (CH.out).mono ?_); rintro e g1 ⟨rfl, hb1'⟩
        clear CH
        replace HA := lid (HA.out.below hb1')
        replace BT := lid ((hb1'.block _ (row_lt BT.out)).trans BT.out)
        replace BX := lid ((hb1'.block _ (row_lt BX.out)).trans BX.out)
        replace BY := lid ((hb1'.block _ (row_lt BY.out)).trans BY.out)
        replace HA1 := lid (HA1.out.below hb1')
        replace BT1 := lid ((hb1'.block _ (row_lt BT1.out)).trans BT1.out)
        replace BZ1 := lid ((hb1'.block _ (row_lt BZ1.out)).trans BZ1.out)
        replace HA2 := lid (HA2.out.below hb1')
        replace BT2 := lid ((hb1'.block _ (row_lt BT2.out)).trans BT2.out)
        replace BV := lid ((hb1'.block _ (row_lt BV.out)).trans BV.out)
        replace HA3 := lid (HA3.out.below hb1')
        replace BT3 := lid ((hb1'.block _ (row_lt BT3.out)).trans BT3.out)
        replace hb := hb.trans (hb1'.mono hb.size)
        have mg1 := hb1'.size
        clear hb1'
        have q81 := row_cell BX.out 0
        have q82 := row_cell BX.out 1
        have q83 := row_cell BX.out 2
        have q84 := row_cell BX.out 3
        have q85 := row_cell BX.out 4
        have q86 := row_cell BY.out 0
        have q87 := row_cell BY.out 1
        have q88 := row_cell BY.out 2
        have q89 := row_cell BY.out 3
        have q90 := row_cell BY.out 4
        have q91 := row_cell BT3.out 0
        have q92 := row_cell BT3.out 1
        have q93 := row_cell BT3.out 2
        have q94 := row_cell BT.out 0
        have q95 := row_cell BT.out 1
        have q96 := row_cell BT.out 2
        have q97 := row_lt BX.out
        have q98 := row_lt BY.out
        have q99 := row_lt BT3.out
        have q100 := row_lt BT.out
        go_wp2_with fail
        clear q81 q82 q83 q84 q85 q86 q87 q88 q89 q90 q91 q92 q93 q94 q95 q96 q97 q98 q99 q100
        have hb := hb
        (with_reducible refine (awake_any _).mono ?_); rintro e wa ⟨rfl, hb1⟩
        have hfin := hb.trans (hb1.mono hb.size)
        go_wp2_with fail
        go_ret
        exact ⟨rfl, hfin⟩
    · by_cases hF0 : F = 0
      · have dE : (E == 0) = false := by simpa using hE0
        obtain rfl := hF0
        have hG := K1.out rfl
        have hR := K2.out rfl
        rw [← hG.1, ← hG.2.1] at hR
        have en2 : n2 = n := by
          have h1 := HA2.out.A.len
          have h2 := HA.out.A.len
          have h3 := hR.2.2.2
          omega
        subst en2
        have HVF : Hid (V = (x.1, x.2.1, t.clock + m, t.epoch + 1)) := lid hG.2.1
        clear hG
        have q43 := row_cell BT2.out 0
        have q44 := row_cell BT2.out 1
        have q45 := row_cell BT2.out 2
        have q46 := row_cell BX.out 0
        have q47 := row_cell BX.out 1
        have q48 := row_cell BX.out 2
        have q49 := row_cell BX.out 3
        have q50 := row_cell BX.out 4
        have q51 := row_lt BT2.out
        have q52 := row_lt BX.out
        go_wp2_with fail
        clear q43 q44 q45 q46 q47 q48 q49 q50 q51 q52
        have lBTw5 := row_lt BT.out
        have lBXw5 := row_lt BX.out
        have lBYw5 := row_lt BY.out
        have lBT1w5 := row_lt BT1.out
        have lBZ1w5 := row_lt BZ1.out
        have lBT2w5 := row_lt BT2.out
        have lBVw5 := row_lt BV.out
        have bw5 : w.heap.size ≤ w5.heap.size := hb.size
        obtain ⟨W5, hW⟩ : ∃ y, w5.alloc (.cells (tcells R ao3 n3 cap3) 24) = y := ⟨_, rfl⟩
        rw [hW]
        have hbW : Below w5.heap.size w5 W5 := by rw [← hW]; exact ((Below.refl w5.heap.size w5).alloc (Nat.le_refl _) _)
        have gW5 : w5.heap.size + 0 < W5.heap.size := by rw [← hW]; simp only [World.size_alloc]; omega
        have BT3 : Hid (W5.heap[w5.heap.size]? = some (.cells (tcells R ao3 n3 cap3) 24 (0, 0))) := lid (by
          rw [← hW]
          have := heap_alloc_new w5 (.cells (tcells R ao3 n3 cap3) 24)
          exact this)
        clear hW
        replace HA := lid (HA.out.below hbW)
        replace BT := lid ((hbW.block _ (row_lt BT.out)).trans BT.out)
        replace BX := lid ((hbW.block _ (row_lt BX.out)).trans BX.out)
        replace BY := lid ((hbW.block _ (row_lt BY.out)).trans BY.out)
        replace HA1 := lid (HA1.out.below hbW)
        replace BT1 := lid ((hbW.block _ (row_lt BT1.out)).trans BT1.out)
        replace BZ1 := lid ((hbW.block _ (row_lt BZ1.out)).trans BZ1.out)
        replace HA2 := lid (HA2.out.below hbW)
        replace BT2 := lid ((hbW.block _ (row_lt BT2.out)).trans BT2.out)
        replace BV := lid ((hbW.block _ (row_lt BV.out)).trans BV.out)
        replace HA3 := lid (HA3.out.below hbW)
        replace hb := hb.trans (hbW.mono hb.size)
        have mW5 := hbW.size
        clear hbW
        have CH := lid (holds_any U ao2 n2 cap2 x W5 HA2.out.A HA2.out.le)
        rw [hR.1] at CH
        (with_reducible refine (CH.out).mono ?_); rintro e c1 ⟨rfl, hb1'⟩
        clear CH
        replace HA := lid (HA.out.below hb1')
        replace BT := lid ((hb1'.block _ (row_lt BT.out)).trans BT.out)
        replace BX := lid ((hb1'.block _ (row_lt BX.out)).trans BX.out)
        replace BY := lid ((hb1'.block _ (row_lt BY.out)).trans BY.out)
        replace HA1 := lid (HA1.out.below hb1')
        replace BT1 := lid ((hb1'.block _ (row_lt BT1.out)).trans BT1.out)
        replace BZ1 := lid ((hb1'.block _ (row_lt BZ1.out)).trans BZ1.out)
        replace HA2 := lid (HA2.out.below hb1')
        replace BT2 := lid ((hb1'.block _ (row_lt BT2.out)).trans BT2.out)
        replace BV := lid ((hb1'.block _ (row_lt BV.out)).trans BV.out)
        replace HA3 := lid (HA3.out.below hb1')
        replace BT3 := lid ((hb1'.block _ (row_lt BT3.out)).trans BT3.out)
        replace hb := hb.trans (hb1'.mono hb.size)
        have mc1 := hb1'.size
        clear hb1'
        have q53 := row_cell BT2.out 0
        have q54 := row_cell BT2.out 1
        have q55 := row_cell BT2.out 2
        have q56 := row_cell BV.out 0
        have q57 := row_cell BV.out 1
        have q58 := row_cell BV.out 2
        have q59 := row_cell BV.out 3
        have q60 := row_cell BV.out 4
        have q61 := row_lt BT2.out
        have q62 := row_lt BV.out
        go_wp2_with fail
        clear q53 q54 q55 q56 q57 q58 q59 q60 q61 q62
        have CH := lid (holds_any U ao2 n2 cap2 V c1 HA2.out.A HA2.out.le)
        rw [hR.2.1] at CH
        (with_reducible refine (CH.out).mono ?_); rintro e c2 ⟨rfl, hb1'⟩
        clear CH
        replace HA := lid (HA.out.below hb1')
        replace BT := lid ((hb1'.block _ (row_lt BT.out)).trans BT.out)
        replace BX := lid ((hb1'.block _ (row_lt BX.out)).trans BX.out)
        replace BY := lid ((hb1'.block _ (row_lt BY.out)).trans BY.out)
        replace HA1 := lid (HA1.out.below hb1')
        replace BT1 := lid ((hb1'.block _ (row_lt BT1.out)).trans BT1.out)
        replace BZ1 := lid ((hb1'.block _ (row_lt BZ1.out)).trans BZ1.out)
        replace HA2 := lid (HA2.out.below hb1')
        replace BT2 := lid ((hb1'.block _ (row_lt BT2.out)).trans BT2.out)
        replace BV := lid ((hb1'.block _ (row_lt BV.out)).trans BV.out)
        replace HA3 := lid (HA3.out.below hb1')
        replace BT3 := lid ((hb1'.block _ (row_lt BT3.out)).trans BT3.out)
        replace hb := hb.trans (hb1'.mono hb.size)
        have mc2 := hb1'.size
        clear hb1'
        have BV2 := BV
        rw [HVF.out] at BV2
        have q63 := row_cell BX.out 0
        have q64 := row_cell BX.out 1
        have q65 := row_cell BX.out 2
        have q66 := row_cell BX.out 3
        have q67 := row_cell BX.out 4
        have q68 := row_cell BY.out 0
        have q69 := row_cell BY.out 1
        have q70 := row_cell BY.out 2
        have q71 := row_cell BY.out 3
        have q72 := row_cell BY.out 4
        have q73 := row_cell BT2.out 0
        have q74 := row_cell BT2.out 1
        have q75 := row_cell BT2.out 2
        have q76 := row_cell BT.out 0
        have q77 := row_cell BT.out 1
        have q78 := row_cell BT.out 2
        have q79 := row_cell BV2.out 0
        have q80 := row_cell BV2.out 1
        have q81 := row_cell BV2.out 2
        have q82 := row_cell BV2.out 3
        have q83 := row_cell BV2.out 4
        have q84 := row_lt BX.out
        have q85 := row_lt BY.out
        have q86 := row_lt BT2.out
        have q87 := row_lt BT.out
        have q88 := row_lt BV2.out
        have q89 := row_cell BT3.out 0
        have q90 := row_cell BT3.out 1
        have q91 := row_cell BT3.out 2
        have q92 := row_cell BX.out 0
        have q93 := row_cell BX.out 1
        have q94 := row_cell BX.out 2
        have q95 := row_cell BX.out 3
        have q96 := row_cell BX.out 4
        have q97 := row_lt BT3.out
        have q98 := row_lt BX.out
        go_wp2_with fail
        clear q63 q64 q65 q66 q67 q68 q69 q70 q71 q72 q73 q74 q75 q76 q77 q78 q79 q80 q81 q82 q83 q84 q85 q86 q87 q88 q89 q90 q91 q92 q93 q94 q95 q96 q97 q98
        have CH := lid (holds_any R ao3 n3 cap3 x c2 HA3.out.A HA3.out.le)
        rw [J2.out.1] at CH
        (with_reducible refine (CH.out).mono ?_); rintro e g1 ⟨rfl, hb1'⟩
        clear CH
        replace HA := lid (HA.out.below hb1')
        replace BT := lid ((hb1'.block _ (row_lt BT.out)).trans BT.out)
        replace BX := lid ((hb1'.block _ (row_lt BX.out)).trans BX.out)
        replace BY := lid ((hb1'.block _ (row_lt BY.out)).trans BY.out)
        replace HA1 := lid (HA1.out.below hb1')
        replace BT1 := lid ((hb1'.block _ (row_lt BT1.out)).trans BT1.out)
        replace BZ1 := lid ((hb1'.block _ (row_lt BZ1.out)).trans BZ1.out)
        replace HA2 := lid (HA2.out.below hb1')
        replace BT2 := lid ((hb1'.block _ (row_lt BT2.out)).trans BT2.out)
        replace BV := lid ((hb1'.block _ (row_lt BV.out)).trans BV.out)
        replace HA3 := lid (HA3.out.below hb1')
        replace BT3 := lid ((hb1'.block _ (row_lt BT3.out)).trans BT3.out)
        replace BV2 := lid ((hb1'.block _ (row_lt BV2.out)).trans BV2.out)
        replace hb := hb.trans (hb1'.mono hb.size)
        have mg1 := hb1'.size
        clear hb1'
        have q99 := row_cell BX.out 0
        have q100 := row_cell BX.out 1
        have q101 := row_cell BX.out 2
        have q102 := row_cell BX.out 3
        have q103 := row_cell BX.out 4
        have q104 := row_cell BY.out 0
        have q105 := row_cell BY.out 1
        have q106 := row_cell BY.out 2
        have q107 := row_cell BY.out 3
        have q108 := row_cell BY.out 4
        have q109 := row_cell BT3.out 0
        have q110 := row_cell BT3.out 1
        have q111 := row_cell BT3.out 2
        have q112 := row_cell BT.out 0
        have q113 := row_cell BT.out 1
        have q114 := row_cell BT.out 2
        have q115 := row_lt BX.out
        have q116 := row_lt BY.out
        have q117 := row_lt BT3.out
        have q118 := row_lt BT.out
        go_wp2_with fail
        clear q99 q100 q101 q102 q103 q104 q105 q106 q107 q108 q109 q110 q111 q112 q113 q114 q115 q116 q117 q118
        have hb := hb
        (with_reducible refine (awake_any _).mono ?_); rintro e wa ⟨rfl, hb1⟩
        have hfin := hb.trans (hb1.mono hb.size)
        go_wp2_with fail
        go_ret
        exact ⟨rfl, hfin⟩
      · have dE : (E == 0) = false := by simpa using hE0
        have dF : (F == 0) = false := by simpa using hF0
        have q43 := row_cell BX.out 0
        have q44 := row_cell BX.out 1
        have q45 := row_cell BX.out 2
        have q46 := row_cell BX.out 3
        have q47 := row_cell BX.out 4
        have q48 := row_lt BX.out
        go_wp2_with fail
        clear q43 q44 q45 q46 q47 q48
        have lBTw5 := row_lt BT.out
        have lBXw5 := row_lt BX.out
        have lBYw5 := row_lt BY.out
        have lBT1w5 := row_lt BT1.out
        have lBZ1w5 := row_lt BZ1.out
        have lBT2w5 := row_lt BT2.out
        have lBVw5 := row_lt BV.out
        have bw5 : w.heap.size ≤ w5.heap.size := hb.size
        obtain ⟨W5, hW⟩ : ∃ y, w5.alloc (.cells (tcells R ao3 n3 cap3) 24) = y := ⟨_, rfl⟩
        rw [hW]
        have hbW : Below w5.heap.size w5 W5 := by rw [← hW]; exact ((Below.refl w5.heap.size w5).alloc (Nat.le_refl _) _)
        have gW5 : w5.heap.size + 0 < W5.heap.size := by rw [← hW]; simp only [World.size_alloc]; omega
        have BT3 : Hid (W5.heap[w5.heap.size]? = some (.cells (tcells R ao3 n3 cap3) 24 (0, 0))) := lid (by
          rw [← hW]
          have := heap_alloc_new w5 (.cells (tcells R ao3 n3 cap3) 24)
          exact this)
        clear hW
        replace HA := lid (HA.out.below hbW)
        replace BT := lid ((hbW.block _ (row_lt BT.out)).trans BT.out)
        replace BX := lid ((hbW.block _ (row_lt BX.out)).trans BX.out)
        replace BY := lid ((hbW.block _ (row_lt BY.out)).trans BY.out)
        replace HA1 := lid (HA1.out.below hbW)
        replace BT1 := lid ((hbW.block _ (row_lt BT1.out)).trans BT1.out)
        replace BZ1 := lid ((hbW.block _ (row_lt BZ1.out)).trans BZ1.out)
        replace HA2 := lid (HA2.out.below hbW)
        replace BT2 := lid ((hbW.block _ (row_lt BT2.out)).trans BT2.out)
        replace BV := lid ((hbW.block _ (row_lt BV.out)).trans BV.out)
        replace HA3 := lid (HA3.out.below hbW)
        replace hb := hb.trans (hbW.mono hb.size)
        have mW5 := hbW.size
        clear hbW
        have CH := lid (holds_any R ao3 n3 cap3 x W5 HA3.out.A HA3.out.le)
        rw [J2.out.1] at CH
        (with_reducible refine (CH.out).mono ?_); rintro e g1 ⟨rfl, hb1'⟩
        clear CH
        replace HA := lid (HA.out.below hb1')
        replace BT := lid ((hb1'.block _ (row_lt BT.out)).trans BT.out)
        replace BX := lid ((hb1'.block _ (row_lt BX.out)).trans BX.out)
        replace BY := lid ((hb1'.block _ (row_lt BY.out)).trans BY.out)
        replace HA1 := lid (HA1.out.below hb1')
        replace BT1 := lid ((hb1'.block _ (row_lt BT1.out)).trans BT1.out)
        replace BZ1 := lid ((hb1'.block _ (row_lt BZ1.out)).trans BZ1.out)
        replace HA2 := lid (HA2.out.below hb1')
        replace BT2 := lid ((hb1'.block _ (row_lt BT2.out)).trans BT2.out)
        replace BV := lid ((hb1'.block _ (row_lt BV.out)).trans BV.out)
        replace HA3 := lid (HA3.out.below hb1')
        replace BT3 := lid ((hb1'.block _ (row_lt BT3.out)).trans BT3.out)
        replace hb := hb.trans (hb1'.mono hb.size)
        have mg1 := hb1'.size
        clear hb1'
        have q49 := row_cell BX.out 0
        have q50 := row_cell BX.out 1
        have q51 := row_cell BX.out 2
        have q52 := row_cell BX.out 3
        have q53 := row_cell BX.out 4
        have q54 := row_cell BY.out 0
        have q55 := row_cell BY.out 1
        have q56 := row_cell BY.out 2
        have q57 := row_cell BY.out 3
        have q58 := row_cell BY.out 4
        have q59 := row_cell BT3.out 0
        have q60 := row_cell BT3.out 1
        have q61 := row_cell BT3.out 2
        have q62 := row_cell BT.out 0
        have q63 := row_cell BT.out 1
        have q64 := row_cell BT.out 2
        have q65 := row_lt BX.out
        have q66 := row_lt BY.out
        have q67 := row_lt BT3.out
        have q68 := row_lt BT.out
        go_wp2_with fail
        clear q49 q50 q51 q52 q53 q54 q55 q56 q57 q58 q59 q60 q61 q62 q63 q64 q65 q66 q67 q68
        have hb := hb
        (with_reducible refine (awake_any _).mono ?_); rintro e wa ⟨rfl, hb1⟩
        have hfin := hb.trans (hb1.mono hb.size)
        go_wp2_with fail
        go_ret
        exact ⟨rfl, hfin⟩
  · by_cases hE0 : E = 0
    · by_cases hF0 : F = 0
      · obtain rfl := hE0
        have hG := H1.out rfl
        have hn1 : (n1 : Int) = (n : Int) + 1 := by
          have h1 := HA1.out.A.len
          have h2 := HA.out.A.len
          rw [hG.1] at h1
          simp [withL] at h1
          omega
        have dn1 : ((n1 : Int) == (n : Int) + 1) = true := by simpa using hn1
        have hx1 := H2.out rfl
        have hy1 := H3.out rfl
        rw [← hG.1] at hx1 hy1
        clear hG hn1
        have q43 := row_cell BT1.out 0
        have q44 := row_cell BT1.out 1
        have q45 := row_cell BT1.out 2
        have q46 := row_cell BX.out 0
        have q47 := row_cell BX.out 1
        have q48 := row_cell BX.out 2
        have q49 := row_cell BX.out 3
        have q50 := row_cell BX.out 4
        have q51 := row_lt BT1.out
        have q52 := row_lt BX.out
        go_wp2_with fail
        clear q43 q44 q45 q46 q47 q48 q49 q50 q51 q52
        have lBTw5 := row_lt BT.out
        have lBXw5 := row_lt BX.out
        have lBYw5 := row_lt BY.out
        have lBT1w5 := row_lt BT1.out
        have lBZ1w5 := row_lt BZ1.out
        have lBT2w5 := row_lt BT2.out
        have lBVw5 := row_lt BV.out
        have bw5 : w.heap.size ≤ w5.heap.size := hb.size
        obtain ⟨W5, hW⟩ : ∃ y, w5.alloc (.cells (tcells R ao3 n3 cap3) 24) = y := ⟨_, rfl⟩
        rw [hW]
        have hbW : Below w5.heap.size w5 W5 := by rw [← hW]; exact ((Below.refl w5.heap.size w5).alloc (Nat.le_refl _) _)
        have gW5 : w5.heap.size + 0 < W5.heap.size := by rw [← hW]; simp only [World.size_alloc]; omega
        have BT3 : Hid (W5.heap[w5.heap.size]? = some (.cells (tcells R ao3 n3 cap3) 24 (0, 0))) := lid (by
          rw [← hW]
          have := heap_alloc_new w5 (.cells (tcells R ao3 n3 cap3) 24)
          exact this)
        clear hW
        replace HA := lid (HA.out.below hbW)
        replace BT := lid ((hbW.block _ (row_lt BT.out)).trans BT.out)
        replace BX := lid ((hbW.block _ (row_lt BX.out)).trans BX.out)
        replace BY := lid ((hbW.block _ (row_lt BY.out)).trans BY.out)
        replace HA1 := lid (HA1.out.below hbW)
        replace BT1 := lid ((hbW.block _ (row_lt BT1.out)).trans BT1.out)
        replace BZ1 := lid ((hbW.block _ (row_lt BZ1.out)).trans BZ1.out)
        replace HA2 := lid (HA2.out.below hbW)
        replace BT2 := lid ((hbW.block _ (row_lt BT2.out)).trans BT2.out)
        replace BV := lid ((hbW.block _ (row_lt BV.out)).trans BV.out)
        replace HA3 := lid (HA3.out.below hbW)
        replace hb := hb.trans (hbW.mono hb.size)
        have mW5 := hbW.size
        clear hbW
        have CH := lid (holds_any T ao1 n1 cap1 x W5 HA1.out.A HA1.out.le)
        rw [hx1] at CH
        (with_reducible refine (CH.out).mono ?_); rintro e a1 ⟨rfl, hb1'⟩
        clear CH
        replace HA := lid (HA.out.below hb1')
        replace BT := lid ((hb1'.block _ (row_lt BT.out)).trans BT.out)
        replace BX := lid ((hb1'.block _ (row_lt BX.out)).trans BX.out)
        replace BY := lid ((hb1'.block _ (row_lt BY.out)).trans BY.out)
        replace HA1 := lid (HA1.out.below hb1')
        replace BT1 := lid ((hb1'.block _ (row_lt BT1.out)).trans BT1.out)
        replace BZ1 := lid ((hb1'.block _ (row_lt BZ1.out)).trans BZ1.out)
        replace HA2 := lid (HA2.out.below hb1')
        replace BT2 := lid ((hb1'.block _ (row_lt BT2.out)).trans BT2.out)
        replace BV := lid ((hb1'.block _ (row_lt BV.out)).trans BV.out)
        replace HA3 := lid (HA3.out.below hb1')
        replace BT3 := lid ((hb1'.block _ (row_lt BT3.out)).trans BT3.out)
        replace hb := hb.trans (hb1'.mono hb.size)
        have ma1 := hb1'.size
        clear hb1'
        have q53 := row_cell BT1.out 0
        have q54 := row_cell BT1.out 1
        have q55 := row_cell BT1.out 2
        have q56 := row_cell BY.out 0
        have q57 := row_cell BY.out 1
        have q58 := row_cell BY.out 2
        have q59 := row_cell BY.out 3
        have q60 := row_cell BY.out 4
        have q61 := row_lt BT1.out
        have q62 := row_lt BY.out
        go_wp2_with fail
        clear q53 q54 q55 q56 q57 q58 q59 q60 q61 q62
        have CH := lid (holds_any T ao1 n1 cap1 y a1 HA1.out.A HA1.out.le)
        rw [hy1] at CH
        (with_reducible refine (CH.out).mono ?_); rintro e a2 ⟨rfl, hb1'⟩
        clear CH
        replace HA := lid (HA.out.below hb1')
        replace BT := lid ((hb1'.block _ (row_lt BT.out)).trans BT.out)
        replace BX := lid ((hb1'.block _ (row_lt BX.out)).trans BX.out)
        replace BY := lid ((hb1'.block _ (row_lt BY.out)).trans BY.out)
        replace HA1 := lid (HA1.out.below hb1')
        replace BT1 := lid ((hb1'.block _ (row_lt BT1.out)).trans BT1.out)
        replace BZ1 := lid ((hb1'.block _ (row_lt BZ1.out)).trans BZ1.out)
        replace HA2 := lid (HA2.out.below hb1')
        replace BT2 := lid ((hb1'.block _ (row_lt BT2.out)).trans BT2.out)
        replace BV := lid ((hb1'.block _ (row_lt BV.out)).trans BV.out)
        replace HA3 := lid (HA3.out.below hb1')
        replace BT3 := lid ((hb1'.block _ (row_lt BT3.out)).trans BT3.out)
        replace hb := hb.trans (hb1'.mono hb.size)
        have ma2 := hb1'.size
        clear hb1'
        obtain rfl := hF0
        have hG := K1.out rfl
        have hR := K2.out rfl
        rw [← hG.1, ← hG.2.1] at hR
        have en2 : n2 = n := by
          have h1 := HA2.out.A.len
          have h2 := HA.out.A.len
          have h3 := hR.2.2.2
          omega
        subst en2
        have HVF : Hid (V = (x.1, x.2.1, t.clock + m, t.epoch + 1)) := lid hG.2.1
        clear hG
        have q63 := row_cell BT1.out 0
        have q64 := row_cell BT1.out 1
        have q65 := row_cell BT1.out 2
        have q66 := row_cell BT.out 0
        have q67 := row_cell BT.out 1
        have q68 := row_cell BT.out 2
        have q69 := row_cell BT2.out 0
        have q70 := row_cell BT2.out 1
        have q71 := row_cell BT2.out 2
        have q72 := row_cell BX.out 0
        have q73 := row_cell BX.out 1
        have q74 := row_cell BX.out 2
        have q75 := row_cell BX.out 3
        have q76 := row_cell BX.out 4
        have q77 := row_lt BT1.out
        have q78 := row_lt BT.out
        have q79 := row_lt BT2.out
        have q80 := row_lt BX.out
        go_wp2_with fail
        clear q63 q64 q65 q66 q67 q68 q69 q70 q71 q72 q73 q74 q75 q76 q77 q78 q79 q80
        have CH := lid (holds_any U ao2 n2 cap2 x a2 HA2.out.A HA2.out.le)
        rw [hR.1] at CH
        (with_reducible refine (CH.out).mono ?_); rintro e c1 ⟨rfl, hb1'⟩
        clear CH
        replace HA := lid (HA.out.below hb1')
        replace BT := lid ((hb1'.block _ (row_lt BT.out)).trans BT.out)
        replace BX := lid ((hb1'.block _ (row_lt BX.out)).trans BX.out)
        replace BY := lid ((hb1'.block _ (row_lt BY.out)).trans BY.out)
        replace HA1 := lid (HA1.out.below hb1')
        replace BT1 := lid ((hb1'.block _ (row_lt BT1.out)).trans BT1.out)
        replace BZ1 := lid ((hb1'.block _ (row_lt BZ1.out)).trans BZ1.out)
        replace HA2 := lid (HA2.out.below hb1')
        replace BT2 := lid ((hb1'.block _ (row_lt BT2.out)).trans BT2.out)
        replace BV := lid ((hb1'.block _ (row_lt BV.out)).trans BV.out)
        replace HA3 := lid (HA3.out.below hb1')
        replace BT3 := lid ((hb1'.block _ (row_lt BT3.out)).trans BT3.out)
        replace hb := hb.trans (hb1'.mono hb.size)
        have mc1 := hb1'.size
        clear hb1'
        have q81 := row_cell BT2.out 0
        have q82 := row_cell BT2.out 1
        have q83 := row_cell BT2.out 2
        have q84 := row_cell BV.out 0
        have q85 := row_cell BV.out 1
        have q86 := row_cell BV.out 2
        have q87 := row_cell BV.out 3
        have q88 := row_cell BV.out 4
        have q89 := row_lt BT2.out
        have q90 := row_lt BV.out
        go_wp2_with fail
        clear q81 q82 q83 q84 q85 q86 q87 q88 q89 q90
        have CH := lid (holds_any U ao2 n2 cap2 V c1 HA2.out.A HA2.out.le)
        rw [hR.2.1] at CH
        (with_reducible refine (CH.out).mono ?_); rintro e c2 ⟨rfl, hb1'⟩
        clear CH
        replace HA := lid (HA.out.below hb1')
        replace BT := lid ((hb1'.block _ (row_lt BT.out)).trans BT.out)
        replace BX := lid ((hb1'.block _ (row_lt BX.out)).trans BX.out)
        replace BY := lid ((hb1'.block _ (row_lt BY.out)).trans BY.out)
        replace HA1 := lid (HA1.out.below hb1')
        replace BT1 := lid ((hb1'.block _ (row_lt BT1.out)).trans BT1.out)
        replace BZ1 := lid ((hb1'.block _ (row_lt BZ1.out)).trans BZ1.out)
        replace HA2 := lid (HA2.out.below hb1')
        replace BT2 := lid ((hb1'.block _ (row_lt BT2.out)).trans BT2.out)
        replace BV := lid ((hb1'.block _ (row_lt BV.out)).trans BV.out)
        replace HA3 := lid (HA3.out.below hb1')
        replace BT3 := lid ((hb1'.block _ (row_lt BT3.out)).trans BT3.out)
        replace hb := hb.trans (hb1'.mono hb.size)
        have mc2 := hb1'.size
        clear hb1'
        have BV2 := BV
        rw [HVF.out] at BV2
        have q91 := row_cell BX.out 0
        have q92 := row_cell BX.out 1
        have q93 := row_cell BX.out 2
        have q94 := row_cell BX.out 3
        have q95 := row_cell BX.out 4
        have q96 := row_cell BY.out 0
        have q97 := row_cell BY.out 1
        have q98 := row_cell BY.out 2
        have q99 := row_cell BY.out 3
        have q100 := row_cell BY.out 4
        have q101 := row_cell BT2.out 0
        have q102 := row_cell BT2.out 1
        have q103 := row_cell BT2.out 2
        have q104 := row_lt BX.out
        have q105 := row_lt BY.out
        have q106 := row_lt BT2.out
        go_wp2_with (refine wpList_neq_lzg x y true _ _ (by rfl) rfl rfl rfl (by simp [hxy]) ?_)
        go_wp2_with fail
        clear q91 q92 q93 q94 q95 q96 q97 q98 q99 q100 q101 q102 q103 q104 q105 q106
        have CH := lid (holds_any U ao2 n2 cap2 y c2 HA2.out.A HA2.out.le)
        rw [hR.2.2.1 _ HyM.out hxy] at CH
        (with_reducible refine (CH.out).mono ?_); rintro e c3 ⟨rfl, hb1'⟩
        clear CH
        replace HA := lid (HA.out.below hb1')
        replace BT := lid ((hb1'.block _ (row_lt BT.out)).trans BT.out)
        replace BX := lid ((hb1'.block _ (row_lt BX.out)).trans BX.out)
        replace BY := lid ((hb1'.block _ (row_lt BY.out)).trans BY.out)
        replace HA1 := lid (HA1.out.below hb1')
        replace BT1 := lid ((hb1'.block _ (row_lt BT1.out)).trans BT1.out)
        replace BZ1 := lid ((hb1'.block _ (row_lt BZ1.out)).trans BZ1.out)
        replace HA2 := lid (HA2.out.below hb1')
        replace BT2 := lid ((hb1'.block _ (row_lt BT2.out)).trans BT2.out)
        replace BV := lid ((hb1'.block _ (row_lt BV.out)).trans BV.out)
        replace HA3 := lid (HA3.out.below hb1')
        replace BT3 := lid ((hb1'.block _ (row_lt BT3.out)).trans BT3.out)
        replace BV2 := lid ((hb1'.block _ (row_lt BV2.out)).trans BV2.out)
        replace hb := hb.trans (hb1'.mono hb.size)
        have mc3 := hb1'.size
        clear hb1'
        have q107 := row_cell BT2.out 0
        have q108 := row_cell BT2.out 1
        have q109 := row_cell BT2.out 2
        have q110 := row_cell BT.out 0
        have q111 := row_cell BT.out 1
        have q112 := row_cell BT.out 2
        have q113 := row_cell BV2.out 0
        have q114 := row_cell BV2.out 1
        have q115 := row_cell BV2.out 2
        have q116 := row_cell BV2.out 3
        have q117 := row_cell BV2.out 4
        have q118 := row_cell BT3.out 0
        have q119 := row_cell BT3.out 1
        have q120 := row_cell BT3.out 2
        have q121 := row_cell BX.out 0
        have q122 := row_cell BX.out 1
        have q123 := row_cell BX.out 2
        have q124 := row_cell BX.out 3
        have q125 := row_cell BX.out 4
        have q126 := row_lt BT2.out
        have q127 := row_lt BT.out
        have q128 := row_lt BV2.out
        have q129 := row_lt BT3.out
        have q130 := row_lt BX.out
        go_wp2_with fail
        clear q107 q108 q109 q110 q111 q112 q113 q114 q115 q116 q117 q118 q119 q120 q121 q122 q123 q124 q125 q126 q127 q128 q129 q130
        have CH := lid (holds_any R ao3 n3 cap3 x c3 HA3.out.A HA3.out.le)
        rw [J2.out.1] at CH
        (with_reducible refine (CH.out).mono ?_); rintro e g1 ⟨rfl, hb1'⟩
        clear CH
        replace HA := lid (HA.out.below hb1')
        replace BT := lid ((hb1'.block _ (row_lt BT.out)).trans BT.out)
        replace BX := lid ((hb1'.block _ (row_lt BX.out)).trans BX.out)
        replace BY := lid ((hb1'.block _ (row_lt BY.out)).trans BY.out)
        replace HA1 := lid (HA1.out.below hb1')
        replace BT1 := lid ((hb1'.block _ (row_lt BT1.out)).trans BT1.out)
        replace BZ1 := lid ((hb1'.block _ (row_lt BZ1.out)).trans BZ1.out)
        replace HA2 := lid (HA2.out.below hb1')
        replace BT2 := lid ((hb1'.block _ (row_lt BT2.out)).trans BT2.out)
        replace BV := lid ((hb1'.block _ (row_lt BV.out)).trans BV.out)
        replace HA3 := lid (HA3.out.below hb1')
        replace BT3 := lid ((hb1'.block _ (row_lt BT3.out)).trans BT3.out)
        replace BV2 := lid ((hb1'.block _ (row_lt BV2.out)).trans BV2.out)
        replace hb := hb.trans (hb1'.mono hb.size)
        have mg1 := hb1'.size
        clear hb1'
        have q131 := row_cell BX.out 0
        have q132 := row_cell BX.out 1
        have q133 := row_cell BX.out 2
        have q134 := row_cell BX.out 3
        have q135 := row_cell BX.out 4
        have q136 := row_cell BY.out 0
        have q137 := row_cell BY.out 1
        have q138 := row_cell BY.out 2
        have q139 := row_cell BY.out 3
        have q140 := row_cell BY.out 4
        have q141 := row_cell BT3.out 0
        have q142 := row_cell BT3.out 1
        have q143 := row_cell BT3.out 2
        have q144 := row_lt BX.out
        have q145 := row_lt BY.out
        have q146 := row_lt BT3.out
        go_wp2_with (refine wpList_eq_lzg x y false _ _ (by rfl) rfl rfl rfl (decide_eq_false hxy) ?_)
        go_wp2_with fail
        clear q131 q132 q133 q134 q135 q136 q137 q138 q139 q140 q141 q142 q143 q144 q145 q146
        have CH := lid (holds_any R ao3 n3 cap3 y g1 HA3.out.A HA3.out.le)
        rw [J2.out.2 _ HyM.out hxy] at CH
        (with_reducible refine (CH.out).mono ?_); rintro e g2 ⟨rfl, hb1'⟩
        clear CH
        replace HA := lid (HA.out.below hb1')
        replace BT := lid ((hb1'.block _ (row_lt BT.out)).trans BT.out)
        replace BX := lid ((hb1'.block _ (row_lt BX.out)).trans BX.out)
        replace BY := lid ((hb1'.block _ (row_lt BY.out)).trans BY.out)
        replace HA1 := lid (HA1.out.below hb1')
        replace BT1 := lid ((hb1'.block _ (row_lt BT1.out)).trans BT1.out)
        replace BZ1 := lid ((hb1'.block _ (row_lt BZ1.out)).trans BZ1.out)
        replace HA2 := lid (HA2.out.below hb1')
        replace BT2 := lid ((hb1'.block _ (row_lt BT2.out)).trans BT2.out)
        replace BV := lid ((hb1'.block _ (row_lt BV.out)).trans BV.out)
        replace HA3 := lid (HA3.out.below hb1')
        replace BT3 := lid ((hb1'.block _ (row_lt BT3.out)).trans BT3.out)
        replace BV2 := lid ((hb1'.block _ (row_lt BV2.out)).trans BV2.out)
        replace hb := hb.trans (hb1'.mono hb.size)
        have mg2 := hb1'.size
        clear hb1'
        have q147 := row_cell BT3.out 0
        have q148 := row_cell BT3.out 1
        have q149 := row_cell BT3.out 2
        have q150 := row_cell BT.out 0
        have q151 := row_cell BT.out 1
        have q152 := row_cell BT.out 2
        have q153 := row_lt BT3.out
        have q154 := row_lt BT.out
        go_wp2_with fail
        clear q147 q148 q149 q150 q151 q152 q153 q154
        (with_reducible refine (awake_any _).mono ?_); rintro e wa ⟨rfl, hb1⟩
        have hfin := hb.trans (hb1.mono hb.size)
        go_wp2_with fail
        go_ret
        exact ⟨rfl, hfin⟩
      · obtain rfl := hE0
        have hG := H1.out rfl
        have hn1 : (n1 : Int) = (n : Int) + 1 := by
          have h1 := HA1.out.A.len
          have h2 := HA.out.A.len
          rw [hG.1] at h1
          simp [withL] at h1
          omega
        have dn1 : ((n1 : Int) == (n : Int) + 1) = true := by simpa using hn1
        have hx1 := H2.out rfl
        have hy1 := H3.out rfl
        rw [← hG.1] at hx1 hy1
        clear hG hn1
        have q43 := row_cell BT1.out 0
        have q44 := row_cell BT1.out 1
        have q45 := row_cell BT1.out 2
        have q46 := row_cell BX.out 0
        have q47 := row_cell BX.out 1
        have q48 := row_cell BX.out 2
        have q49 := row_cell BX.out 3
        have q50 := row_cell BX.out 4
        have q51 := row_lt BT1.out
        have q52 := row_lt BX.out
        go_wp2_with fail
        clear q43 q44 q45 q46 q47 q48 q49 q50 q51 q52
        have lBTw5 := row_lt BT.out
        have lBXw5 := row_lt BX.out
        have lBYw5 := row_lt BY.out
        have lBT1w5 := row_lt BT1.out
        have lBZ1w5 := row_lt BZ1.out
        have lBT2w5 := row_lt BT2.out
        have lBVw5 := row_lt BV.out
        have bw5 : w.heap.size ≤ w5.heap.size := hb.size
        obtain ⟨W5, hW⟩ : ∃ y, w5.alloc (.cells (tcells R ao3 n3 cap3) 24) = y := ⟨_, rfl⟩
        rw [hW]
        have hbW : Below w5.heap.size w5 W5 := by rw [← hW]; exact ((Below.refl w5.heap.size w5).alloc (Nat.le_refl _) _)
        have gW5 : w5.heap.size + 0 < W5.heap.size := by rw [← hW]; simp only [World.size_alloc]; omega
        have BT3 : Hid (W5.heap[w5.heap.size]? = some (.cells (tcells R ao3 n3 cap3) 24 (0, 0))) := lid (by
          rw [← hW]
          have := heap_alloc_new w5 (.cells (tcells R ao3 n3 cap3) 24)
          exact this)
        clear hW
        replace HA := lid (HA.out.below hbW)
        replace BT := lid ((hbW.block _ (row_lt BT.out)).trans BT.out)
        replace BX := lid ((hbW.block _ (row_lt BX.out)).trans BX.out)
        replace BY := lid ((hbW.block _ (row_lt BY.out)).trans BY.out)
        replace HA1 := lid (HA1.out.below hbW)
        replace BT1 := lid ((hbW.block _ (row_lt BT1.out)).trans BT1.out)
        replace BZ1 := lid ((hbW.block _ (row_lt BZ1.out)).trans BZ1.out)
        replace HA2 := lid (HA2.out.below hbW)
        replace BT2 := lid ((hbW.block _ (row_lt BT2.out)).trans BT2.out)
        replace BV := lid ((hbW.block _ (row_lt BV.out)).trans BV.out)
        replace HA3 := lid (HA3.out.below hbW)
        replace hb := hb.trans (hbW.mono hb.size)
        have mW5 := hbW.size
        clear hbW
        have CH := lid (holds_any T ao1 n1 cap1 x W5 HA1.out.A HA1.out.le)
        rw [hx1] at CH
        (with_reducible refine (CH.out).mono ?_); rintro e a1 ⟨rfl, hb1'⟩
        clear CH
        replace HA := lid (HA.out.below hb1')
        replace BT := lid ((hb1'.block _ (row_lt BT.out)).trans BT.out)
        replace BX := lid ((hb1'.block _ (row_lt BX.out)).trans BX.out)
        replace BY := lid ((hb1'.block _ (row_lt BY.out)).trans BY.out)
        replace HA1 := lid (HA1.out.below hb1')
        replace BT1 := lid ((hb1'.block _ (row_lt BT1.out)).trans BT1.out)
        replace BZ1 := lid ((hb1'.block _ (row_lt BZ1.out)).trans BZ1.out)
        replace HA2 := lid (HA2.out.below hb1')
        replace BT2 := lid ((hb1'.block _ (row_lt BT2.out)).trans BT2.out)
        replace BV := lid ((hb1'.block _ (row_lt BV.out)).trans BV.out)
        replace HA3 := lid (HA3.out.below hb1')
        replace BT3 := lid ((hb1'.block _ (row_lt BT3.out)).trans BT3.out)
        replace hb := hb.trans (hb1'.mono hb.size)
        have ma1 := hb1'.size
        clear hb1'
        have q53 := row_cell BT1.out 0
        have q54 := row_cell BT1.out 1
        have q55 := row_cell BT1.out 2
        have q56 := row_cell BY.out 0
        have q57 := row_cell BY.out 1
        have q58 := row_cell BY.out 2
        have q59 := row_cell BY.out 3
        have q60 := row_cell BY.out 4
        have q61 := row_lt BT1.out
        have q62 := row_lt BY.out
        go_wp2_with fail
        clear q53 q54 q55 q56 q57 q58 q59 q60 q61 q62
        have CH := lid (holds_any T ao1 n1 cap1 y a1 HA1.out.A HA1.out.le)
        rw [hy1] at CH
        (with_reducible refine (CH.out).mono ?_); rintro e a2 ⟨rfl, hb1'⟩
        clear CH
        replace HA := lid (HA.out.below hb1')
        replace BT := lid ((hb1'.block _ (row_lt BT.out)).trans BT.out)
        replace BX := lid ((hb1'.block _ (row_lt BX.out)).trans BX.out)
        replace BY := lid ((hb1'.block _ (row_lt BY.out)).trans BY.out)
        replace HA1 := lid (HA1.out.below hb1')
        replace BT1 := lid ((hb1'.block _ (row_lt BT1.out)).trans BT1.out)
        replace BZ1 := lid ((hb1'.block _ (row_lt BZ1.out)).trans BZ1.out)
        replace HA2 := lid (HA2.out.below hb1')
        replace BT2 := lid ((hb1'.block _ (row_lt BT2.out)).trans BT2.out)
        replace BV := lid ((hb1'.block _ (row_lt BV.out)).trans BV.out)
        replace HA3 := lid (HA3.out.below hb1')
        replace BT3 := lid ((hb1'.block _ (row_lt BT3.out)).trans BT3.out)
        replace hb := hb.trans (hb1'.mono hb.size)
        have ma2 := hb1'.size
        clear hb1'
        have dF : (F == 0) = false := by simpa using hF0
        have q63 := row_cell BT1.out 0
        have q64 := row_cell BT1.out 1
        have q65 := row_cell BT1.out 2
        have q66 := row_cell BT.out 0
        have q67 := row_cell BT.out 1
        have q68 := row_cell BT.out 2
        have q69 := row_cell BX.out 0
        have q70 := row_cell BX.out 1
        have q71 := row_cell BX.out 2
        have q72 := row_cell BX.out 3
        have q73 := row_cell BX.out 4
        have q74 := row_cell BT3.out 0
        have q75 := row_cell BT3.out 1
        have q76 := row_cell BT3.out 2
        have q77 := row_lt BT1.out
        have q78 := row_lt BT.out
        have q79 := row_lt BX.out
        have q80 := row_lt BT3.out
        go_wp2_with fail
        clear q63 q64 q65 q66 q67 q68 q69 q70 q71 q72 q73 q74 q75 q76 q77 q78 q79 q80
        have CH := lid (holds_any R ao3 n3 cap3 x a2 HA3.out.A HA3.out.le)
        rw [J2.out.1] at CH
        (with_reducible refine (CH.out).mono ?_); rintro e g1 ⟨rfl, hb1'⟩
        clear CH
        replace HA := lid (HA.out.below hb1')
        replace BT := lid ((hb1'.block _ (row_lt BT.out)).trans BT.out)
        replace BX := lid ((hb1'.block _ (row_lt BX.out)).trans BX.out)
        replace BY := lid ((hb1'.block _ (row_lt BY.out)).trans BY.out)
        replace HA1 := lid (HA1.out.below hb1')
        replace BT1 := lid ((hb1'.block _ (row_lt BT1.out)).trans BT1.out)
        replace BZ1 := lid ((hb1'.block _ (row_lt BZ1.out)).trans BZ1.out)
        replace HA2 := lid (HA2.out.below hb1')
        replace BT2 := lid ((hb1'.block _ (row_lt BT2.out)).trans BT2.out)
        replace BV := lid ((hb1'.block _ (row_lt BV.out)).trans BV.out)
        replace HA3 := lid (HA3.out.below hb1')
        replace BT3 := lid ((hb1'.block _ (row_lt BT3.out)).trans BT3.out)
        replace hb := hb.trans (hb1'.mono hb.size)
        have mg1 := hb1'.size
        clear hb1'
        have q81 := row_cell BX.out 0
        have q82 := row_cell BX.out 1
        have q83 := row_cell BX.out 2
        have q84 := row_cell BX.out 3
        have q85 := row_cell BX.out 4
        have q86 := row_cell BY.out 0
        have q87 := row_cell BY.out 1
        have q88 := row_cell BY.out 2
        have q89 := row_cell BY.out 3
        have q90 := row_cell BY.out 4
        have q91 := row_cell BT3.out 0
        have q92 := row_cell BT3.out 1
        have q93 := row_cell BT3.out 2
        have q94 := row_lt BX.out
        have q95 := row_lt BY.out
        have q96 := row_lt BT3.out
        go_wp2_with (refine wpList_eq_lzg x y false _ _ (by rfl) rfl rfl rfl (decide_eq_false hxy) ?_)
        go_wp2_with fail
        clear q81 q82 q83 q84 q85 q86 q87 q88 q89 q90 q91 q92 q93 q94 q95 q96
        have CH := lid (holds_any R ao3 n3 cap3 y g1 HA3.out.A HA3.out.le)
        rw [J2.out.2 _ HyM.out hxy] at CH
        (with_reducible refine (CH.out).mono ?_); rintro e g2 ⟨rfl, hb1'⟩
        clear CH
        replace HA := lid (HA.out.below hb1')
        replace BT := lid ((hb1'.block _ (row_lt BT.out)).trans BT.out)
        replace BX := lid ((hb1'.block _ (row_lt BX.out)).trans BX.out)
        replace BY := lid ((hb1'.block _ (row_lt BY.out)).trans BY.out)
        replace HA1 := lid (HA1.out.below hb1')
        replace BT1 := lid ((hb1'.block _ (row_lt BT1.out)).trans BT1.out)
        replace BZ1 := lid ((hb1'.block _ (row_lt BZ1.out)).trans BZ1.out)
        replace HA2 := lid (HA2.out.below hb1')
        replace BT2 := lid ((hb1'.block _ (row_lt BT2.out)).trans BT2.out)
        replace BV := lid ((hb1'.block _ (row_lt BV.out)).trans BV.out)
        replace HA3 := lid (HA3.out.below hb1')
        replace BT3 := lid ((hb1'.block _ (row_lt BT3.out)).trans BT3.out)
        replace hb := hb.trans (hb1'.mono hb.size)
        have mg2 := hb1'.size
        clear hb1'
        have q97 := row_cell BT3.out 0
        have q98 := row_cell BT3.out 1
        have q99 := row_cell BT3.out 2
        have q100 := row_cell BT.out 0
        have q101 := row_cell BT.out 1
        have q102 := row_cell BT.out 2
        have q103 := row_lt BT3.out
        have q104 := row_lt BT.out
        go_wp2_with fail
        clear q97 q98 q99 q100 q101 q102 q103 q104
        (with_reducible refine (awake_any _).mono ?_); rintro e wa ⟨rfl, hb1⟩
        have hfin := hb.trans (hb1.mono hb.size)
        go_wp2_with fail
        go_ret
        exact ⟨rfl, hfin⟩
    · by_cases hF0 : F = 0
      · have dE : (E == 0) = false := by simpa using hE0
        obtain rfl := hF0
        have hG := K1.out rfl
        have hR := K2.out rfl
        rw [← hG.1, ← hG.2.1] at hR
        have en2 : n2 = n := by
          have h1 := HA2.out.A.len
          have h2 := HA.out.A.len
          have h3 := hR.2.2.2
          omega
        subst en2
        have HVF : Hid (V = (x.1, x.2.1, t.clock + m, t.epoch + 1)) := lid hG.2.1
        clear hG
        have q43 := row_cell BT2.out 0
        have q44 := row_cell BT2.out 1
        have q45 := row_cell BT2.out 2
        have q46 := row_cell BX.out 0
        have q47 := row_cell BX.out 1
        have q48 := row_cell BX.out 2
        have q49 := row_cell BX.out 3
        have q50 := row_cell BX.out 4
        have q51 := row_lt BT2.out
        have q52 := row_lt BX.out
        go_wp2_with fail
        clear q43 q44 q45 q46 q47 q48 q49 q50 q51 q52
        have lBTw5 := row_lt BT.out
        have lBXw5 := row_lt BX.out
        have lBYw5 := row_lt BY.out
        have lBT1w5 := row_lt BT1.out
        have lBZ1w5 := row_lt BZ1.out
        have lBT2w5 := row_lt BT2.out
        have lBVw5 := row_lt BV.out
        have bw5 : w.heap.size ≤ w5.heap.size := hb.size
        obtain ⟨W5, hW⟩ : ∃ y, w5.alloc (.cells (tcells R ao3 n3 cap3) 24) = y := ⟨_, rfl⟩
        rw [hW]
        have hbW : Below w5.heap.size w5 W5 := by rw [← hW]; exact ((Below.refl w5.heap.size w5).alloc (Nat.le_refl _) _)
        have gW5 : w5.heap.size + 0 < W5.heap.size := by rw [← hW]; simp only [World.size_alloc]; omega
        have BT3 : Hid (W5.heap[w5.heap.size]? = some (.cells (tcells R ao3 n3 cap3) 24 (0, 0))) := lid (by
          rw [← hW]
          have := heap_alloc_new w5 (.cells (tcells R ao3 n3 cap3) 24)
          exact this)
        clear hW
        replace HA := lid (HA.out.below hbW)
        replace BT := lid ((hbW.block _ (row_lt BT.out)).trans BT.out)
        replace BX := lid ((hbW.block _ (row_lt BX.out)).trans BX.out)
        replace BY := lid ((hbW.block _ (row_lt BY.out)).trans BY.out)
        replace HA1 := lid (HA1.out.below hbW)
        replace BT1 := lid ((hbW.block _ (row_lt BT1.out)).trans BT1.out)
        replace BZ1 := lid ((hbW.block _ (row_lt BZ1.out)).trans BZ1.out)
        replace HA2 := lid (HA2.out.below hbW)
        replace BT2 := lid ((hbW.block _ (row_lt BT2.out)).trans BT2.out)
        replace BV := lid ((hbW.block _ (row_lt BV.out)).trans BV.out)
        replace HA3 := lid (HA3.out.below hbW)
        replace hb := hb.trans (hbW.mono hb.size)
        have mW5 := hbW.size
        clear hbW
        have CH := lid (holds_any U ao2 n2 cap2 x W5 HA2.out.A HA2.out.le)
        rw [hR.1] at CH
        (with_reducible refine (CH.out).mono ?_); rintro e c1 ⟨rfl, hb1'⟩
        clear CH
        replace HA := lid (HA.out.below hb1')
        replace BT := lid ((hb1'.block _ (row_lt BT.out)).trans BT.out)
        replace BX := lid ((hb1'.block _ (row_lt BX.out)).trans BX.out)
        replace BY := lid ((hb1'.block _ (row_lt BY.out)).trans BY.out)
        replace HA1 := lid (HA1.out.below hb1')
        replace BT1 := lid ((hb1'.block _ (row_lt BT1.out)).trans BT1.out)
        replace BZ1 := lid ((hb1'.block _ (row_lt BZ1.out)).trans BZ1.out)
        replace HA2 := lid (HA2.out.below hb1')
        replace BT2 := lid ((hb1'.block _ (row_lt BT2.out)).trans BT2.out)
        replace BV := lid ((hb1'.block _ (row_lt BV.out)).trans BV.out)
        replace HA3 := lid (HA3.out.below hb1')
        replace BT3 := lid ((hb1'.block _ (row_lt BT3.out)).trans BT3.out)
        replace hb := hb.trans (hb1'.mono hb.size)
        have mc1 := hb1'.size
        clear hb1'
        have q53 := row_cell BT2.out 0
        have q54 := row_cell BT2.out 1
        have q55 := row_cell BT2.out 2
        have q56 := row_cell BV.out 0
        have q57 := row_cell BV.out 1
        have q58 := row_cell BV.out 2
        have q59 := row_cell BV.out 3
        have q60 := row_cell BV.out 4
        have q61 := row_lt BT2.out
        have q62 := row_lt BV.out
        go_wp2_with fail
        clear q53 q54 q55 q56 q57 q58 q59 q60 q61 q62
        have CH := lid (holds_any U ao2 n2 cap2 V c1 HA2.out.A HA2.out.le)
        rw [hR.2.1] at CH
        (with_reducible refine (CH.out).mono ?_); rintro e c2 ⟨rfl, hb1'⟩
        clear CH
        replace HA := lid (HA.out.below hb1')
        replace BT := lid ((hb1'.block _ (row_lt BT.out)).trans BT.out)
        replace BX := lid ((hb1'.block _ (row_lt BX.out)).trans BX.out)
        replace BY := lid ((hb1'.block _ (row_lt BY.out)).trans BY.out)
        replace HA1 := lid (HA1.out.below hb1')
        replace BT1 := lid ((hb1'.block _ (row_lt BT1.out)).trans BT1.out)
        replace BZ1 := lid ((hb1'.block _ (row_lt BZ1.out)).trans BZ1.out)
        replace HA2 := lid (HA2.out.below hb1')
        replace BT2 := lid ((hb1'.block _ (row_lt BT2.out)).trans BT2.out)
        replace BV := lid ((hb1'.block _ (row_lt BV.out)).trans BV.out)
        replace HA3 := lid (HA3.out.below hb1')
        replace BT3 := lid ((hb1'.block _ (row_lt BT3.out)).trans BT3.out)
        replace hb := hb.trans (hb1'.mono hb.size)
        have mc2 := hb1'.size
        clear hb1'
        have BV2 := BV
        rw [HVF.out] at BV2
        have q63 := row_cell BX.out 0
        have q64 := row_cell BX.out 1
        have q65 := row_cell BX.out 2
        have q66 := row_cell BX.out 3
        have q67 := row_cell BX.out 4
        have q68 := row_cell BY.out 0
        have q69 := row_cell BY.out 1
        have q70 := row_cell BY.out 2
        have q71 := row_cell BY.out 3
        have q72 := row_cell BY.out 4
        have q73 := row_cell BT2.out 0
        have q74 := row_cell BT2.out 1
        have q75 := row_cell BT2.out 2
        have q76 := row_lt BX.out
        have q77 := row_lt BY.out
        have q78 := row_lt BT2.out
        go_wp2_with (refine wpList_neq_lzg x y true _ _ (by rfl) rfl rfl rfl (by simp [hxy]) ?_)
        go_wp2_with fail
        clear q63 q64 q65 q66 q67 q68 q69 q70 q71 q72 q73 q74 q75 q76 q77 q78
        have CH := lid (holds_any U ao2 n2 cap2 y c2 HA2.out.A HA2.out.le)
        rw [hR.2.2.1 _ HyM.out hxy] at CH
        (with_reducible refine (CH.out).mono ?_); rintro e c3 ⟨rfl, hb1'⟩
        clear CH
        replace HA := lid (HA.out.below hb1')
        replace BT := lid ((hb1'.block _ (row_lt BT.out)).trans BT.out)
        replace BX := lid ((hb1'.block _ (row_lt BX.out)).trans BX.out)
        replace BY := lid ((hb1'.block _ (row_lt BY.out)).trans BY.out)
        replace HA1 := lid (HA1.out.below hb1')
        replace BT1 := lid ((hb1'.block _ (row_lt BT1.out)).trans BT1.out)
        replace BZ1 := lid ((hb1'.block _ (row_lt BZ1.out)).trans BZ1.out)
        replace HA2 := lid (HA2.out.below hb1')
        replace BT2 := lid ((hb1'.block _ (row_lt BT2.out)).trans BT2.out)
        replace BV := lid ((hb1'.block _ (row_lt BV.out)).trans BV.out)
        replace HA3 := lid (HA3.out.below hb1')
        replace BT3 := lid ((hb1'.block _ (row_lt BT3.out)).trans BT3.out)
        replace BV2 := lid ((hb1'.block _ (row_lt BV2.out)).trans BV2.out)
        replace hb := hb.trans (hb1'.mono hb.size)
        have mc3 := hb1'.size
        clear hb1'
        have q79 := row_cell BT2.out 0
        have q80 := row_cell BT2.out 1
        have q81 := row_cell BT2.out 2
        have q82 := row_cell BT.out 0
        have q83 := row_cell BT.out 1
        have q84 := row_cell BT.out 2
        have q85 := row_cell BV2.out 0
        have q86 := row_cell BV2.out 1
        have q87 := row_cell BV2.out 2
        have q88 := row_cell BV2.out 3
        have q89 := row_cell BV2.out 4
        have q90 := row_cell BT3.out 0
        have q91 := row_cell BT3.out 1
        have q92 := row_cell BT3.out 2
        have q93 := row_cell BX.out 0
        have q94 := row_cell BX.out 1
        have q95 := row_cell BX.out 2
        have q96 := row_cell BX.out 3
        have q97 := row_cell BX.out 4
        have q98 := row_lt BT2.out
        have q99 := row_lt BT.out
        have q100 := row_lt BV2.out
        have q101 := row_lt BT3.out
        have q102 := row_lt BX.out
        go_wp2_with fail
        clear q79 q80 q81 q82 q83 q84 q85 q86 q87 q88 q89 q90 q91 q92 q93 q94 q95 q96 q97 q98 q99 q100 q101 q102
        have CH := lid (holds_any R ao3 n3 cap3 x c3 HA3.out.A HA3.out.le)
        rw [J2.out.1] at CH
        (with_reducible refine (CH.out).mono ?_); rintro e g1 ⟨rfl, hb1'⟩
        clear CH
        replace HA := lid (HA.out.below hb1')
        replace BT := lid ((hb1'.block _ (row_lt BT.out)).trans BT.out)
        replace BX := lid ((hb1'.block _ (row_lt BX.out)).trans BX.out)
        replace BY := lid ((hb1'.block _ (row_lt BY.out)).trans BY.out)
        replace HA1 := lid (HA1.out.below hb1')
        replace BT1 := lid ((hb1'.block _ (row_lt BT1.out)).trans BT1.out)
        replace BZ1 := lid ((hb1'.block _ (row_lt BZ1.out)).trans BZ1.out)
        replace HA2 := lid (HA2.out.below hb1')
        replace BT2 := lid ((hb1'.block _ (row_lt BT2.out)).trans BT2.out)
        replace BV := lid ((hb1'.block _ (row_lt BV.out)).trans BV.out)
        replace HA3 := lid (HA3.out.below hb1')
        replace BT3 := lid ((hb1'.block _ (row_lt BT3.out)).trans BT3.out)
        replace BV2 := lid ((hb1'.block _ (row_lt BV2.out)).trans BV2.out)
        replace hb := hb.trans (hb1'.mono hb.size)
        have mg1 := hb1'.size
        clear hb1'
        have q103 := row_cell BX.out 0
        have q104 := row_cell BX.out 1
        have q105 := row_cell BX.out 2
        have q106 := row_cell BX.out 3
        have q107 := row_cell BX.out 4
        have q108 := row_cell BY.out 0
        have q109 := row_cell BY.out 1
        have q110 := row_cell BY.out 2
        have q111 := row_cell BY.out 3
        have q112 := row_cell BY.out 4
        have q113 := row_cell BT3.out 0
        have q114 := row_cell BT3.out 1
        have q115 := row_cell BT3.out 2
        have q116 := row_lt BX.out
        have q117 := row_lt BY.out
        have q118 := row_lt BT3.out
        go_wp2_with (refine wpList_eq_lzg x y false _ _ (by rfl) rfl rfl rfl (decide_eq_false hxy) ?_)
        go_wp2_with fail
        clear q103 q104 q105 q106 q107 q108 q109 q110 q111 q112 q113 q114 q115 q116 q117 q118
        have CH := lid (holds_any R ao3 n3 cap3 y g1 HA3.out.A HA3.out.le)
        rw [J2.out.2 _ HyM.out hxy] at CH
        (with_reducible refine (CH.out).mono ?_); rintro e g2 ⟨rfl, hb1'⟩
        clear CH
        replace HA := lid (HA.out.below hb1')
        replace BT := lid ((hb1'.block _ (row_lt BT.out)).trans BT.out)
        replace BX := lid ((hb1'.block _ (row_lt BX.out)).trans BX.out)
        replace BY := lid ((hb1'.block _ (row_lt BY.out)).trans BY.out)
        replace HA1 := lid (HA1.out.below hb1')
        replace BT1 := lid ((hb1'.block _ (row_lt BT1.out)).trans BT1.out)
        replace BZ1 := lid ((hb1'.block _ (row_lt BZ1.out)).trans BZ1.out)
        replace HA2 := lid (HA2.out.below hb1')
        replace BT2 := lid ((hb1'.block _ (row_lt BT2.out)).trans BT2.out)
        replace BV := lid ((hb1'.block _ (row_lt BV.out)).trans BV.out)
        replace HA3 := lid (HA3.out.below hb1')
        replace BT3 := lid ((hb1'.block _ (row_lt BT3.out)).trans BT3.out)
        replace BV2 := lid ((hb1'.block _ (row_lt BV2.out)).trans BV2.out)
        replace hb := hb.trans (hb1'.mono hb.size)
        have mg2 := hb1'.size
        clear hb1'
        have q119 := row_cell BT3.out 0
        have q120 := row_cell BT3.out 1
        have q121 := row_cell BT3.out 2
        have q122 := row_cell BT.out 0
        have q123 := row_cell BT.out 1
        have q124 := row_cell BT.out 2
        have q125 := row_lt BT3.out
        have q126 := row_lt BT.out
        go_wp2_with fail
        clear q119 q120 q121 q122 q123 q124 q125 q126
        (with_reducible refine (awake_any _).mono ?_); rintro e wa ⟨rfl, hb1⟩
        have hfin := hb.trans (hb1.mono hb.size)
        go_wp2_with fail
        go_ret
        exact ⟨rfl, hfin⟩
      · have dE : (E == 0) = false := by simpa using hE0
        have dF : (F == 0) = false := by simpa using hF0
        have q43 := row_cell BX.out 0
        have q44 := row_cell BX.out 1
        have q45 := row_cell BX.out 2
        have q46 := row_cell BX.out 3
        have q47 := row_cell BX.out 4
        have q48 := row_lt BX.out
        go_wp2_with fail
        clear q43 q44 q45 q46 q47 q48
        have lBTw5 := row_lt BT.out
        have lBXw5 := row_lt BX.out
        have lBYw5 := row_lt BY.out
        have lBT1w5 := row_lt BT1.out
        have lBZ1w5 := row_lt BZ1.out
        have lBT2w5 := row_lt BT2.out
        have lBVw5 := row_lt BV.out
        have bw5 : w.heap.size ≤ w5.heap.size := hb.size
        obtain ⟨W5, hW⟩ : ∃ y, w5.alloc (.cells (tcells R ao3 n3 cap3) 24) = y := ⟨_, rfl⟩
        rw [hW]
        have hbW : Below w5.heap.size w5 W5 := by rw [← hW]; exact ((Below.refl w5.heap.size w5).alloc (Nat.le_refl _) _)
        have gW5 : w5.heap.size + 0 < W5.heap.size := by rw [← hW]; simp only [World.size_alloc]; omega
        have BT3 : Hid (W5.heap[w5.heap.size]? = some (.cells (tcells R ao3 n3 cap3) 24 (0, 0))) := lid (by
          rw [← hW]
          have := heap_alloc_new w5 (.cells (tcells R ao3 n3 cap3) 24)
          exact this)
        clear hW
        replace HA := lid (HA.out.below hbW)
        replace BT := lid ((hbW.block _ (row_lt BT.out)).trans BT.out)
        replace BX := lid ((hbW.block _ (row_lt BX.out)).trans BX.out)
        replace BY := lid ((hbW.block _ (row_lt BY.out)).trans BY.out)
        replace HA1 := lid (HA1.out.below hbW)
        replace BT1 := lid ((hbW.block _ (row_lt BT1.out)).trans BT1.out)
        replace BZ1 := lid ((hbW.block _ (row_lt BZ1.out)).trans BZ1.out)
        replace HA2 := lid (HA2.out.below hbW)
        replace BT2 := lid ((hbW.block _ (row_lt BT2.out)).trans BT2.out)
        replace BV := lid ((hbW.block _ (row_lt BV.out)).trans BV.out)
        replace HA3 := lid (HA3.out.below hbW)
        replace hb := hb.trans (hbW.mono hb.size)
        have mW5 := hbW.size
        clear hbW
        have CH := lid (holds_any R ao3 n3 cap3 x W5 HA3.out.A HA3.out.le)
        rw [J2.out.1] at CH
        (with_reducible refine (CH.out).mono ?_); rintro e g1 ⟨rfl, hb1'⟩
        clear CH
        replace HA := lid (HA.out.below hb1')
        replace BT := lid ((hb1'.block _ (row_lt BT.out)).trans BT.out)
        replace BX := lid ((hb1'.block _ (row_lt BX.out)).trans BX.out)
        replace BY := lid ((hb1'.block _ (row_lt BY.out)).trans BY.out)
        replace HA1 := lid (HA1.out.below hb1')
        replace BT1 := lid ((hb1'.block _ (row_lt BT1.out)).trans BT1.out)
        replace BZ1 := lid ((hb1'.block _ (row_lt BZ1.out)).trans BZ1.out)
        replace HA2 := lid (HA2.out.below hb1')
        replace BT2 := lid ((hb1'.block _ (row_lt BT2.out)).trans BT2.out)
        replace BV := lid ((hb1'.block _ (row_lt BV.out)).trans BV.out)
        replace HA3 := lid (HA3.out.below hb1')
        replace BT3 := lid ((hb1'.block _ (row_lt BT3.out)).trans BT3.out)
        replace hb := hb.trans (hb1'.mono hb.size)
        have mg1 := hb1'.size
        clear hb1'
        have q49 := row_cell BX.out 0
        have q50 := row_cell BX.out 1
        have q51 := row_cell BX.out 2
        have q52 := row_cell BX.out 3
        have q53 := row_cell BX.out 4
        have q54 := row_cell BY.out 0
        have q55 := row_cell BY.out 1
        have q56 := row_cell BY.out 2
        have q57 := row_cell BY.out 3
        have q58 := row_cell BY.out 4
        have q59 := row_cell BT3.out 0
        have q60 := row_cell BT3.out 1
        have q61 := row_cell BT3.out 2
        have q62 := row_lt BX.out
        have q63 := row_lt BY.out
        have q64 := row_lt BT3.out
        go_wp2_with (refine wpList_eq_lzg x y false _ _ (by rfl) rfl rfl rfl (decide_eq_false hxy) ?_)
        go_wp2_with fail
        clear q49 q50 q51 q52 q53 q54 q55 q56 q57 q58 q59 q60 q61 q62 q63 q64
        have CH := lid (holds_any R ao3 n3 cap3 y g1 HA3.out.A HA3.out.le)
        rw [J2.out.2 _ HyM.out hxy] at CH
        (with_reducible refine (CH.out).mono ?_); rintro e g2 ⟨rfl, hb1'⟩
        clear CH
        replace HA := lid (HA.out.below hb1')
        replace BT := lid ((hb1'.block _ (row_lt BT.out)).trans BT.out)
        replace BX := lid ((hb1'.block _ (row_lt BX.out)).trans BX.out)
        replace BY := lid ((hb1'.block _ (row_lt BY.out)).trans BY.out)
        replace HA1 := lid (HA1.out.below hb1')
        replace BT1 := lid ((hb1'.block _ (row_lt BT1.out)).trans BT1.out)
        replace BZ1 := lid ((hb1'.block _ (row_lt BZ1.out)).trans BZ1.out)
        replace HA2 := lid (HA2.out.below hb1')
        replace BT2 := lid ((hb1'.block _ (row_lt BT2.out)).trans BT2.out)
        replace BV := lid ((hb1'.block _ (row_lt BV.out)).trans BV.out)
        replace HA3 := lid (HA3.out.below hb1')
        replace BT3 := lid ((hb1'.block _ (row_lt BT3.out)).trans BT3.out)
        replace hb := hb.trans (hb1'.mono hb.size)
        have mg2 := hb1'.size
        clear hb1'
        have q65 := row_cell BT3.out 0
        have q66 := row_cell BT3.out 1
        have q67 := row_cell BT3.out 2
        have q68 := row_cell BT.out 0
        have q69 := row_cell BT.out 1
        have q70 := row_cell BT.out 2
        have q71 := row_lt BT3.out
        have q72 := row_lt BT.out
        go_wp2_with fail
        clear q65 q66 q67 q68 q69 q70 q71 q72
        (with_reducible refine (awake_any _).mono ?_); rintro e wa ⟨rfl, hb1⟩
        have hfin := hb.trans (hb1.mono hb.size)
        go_wp2_with fail
        go_ret
        exact ⟨rfl, hfin⟩
end Go.Proofs.Ytghkldodceamcaa
