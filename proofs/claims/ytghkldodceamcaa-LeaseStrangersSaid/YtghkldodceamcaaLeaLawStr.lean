/-
  LeaseStrangers: the law walk.
-/
import Derived.Test.YtghkldodceamcaaLeaLawOne
import Derived.Test.YtghkldodceamcaaLeaPlain
import Derived.Laws.Bits64
namespace Go.Proofs.Ytghkldodceamcaa
open Go.RowKit

theorem small_size {t : Ls} (h : smallLs t = true) {x : Lz} (hx : x ∈ t.l) : x.2.1.size ≤ 100 := by
  unfold smallLs at h
  rw [Bool.and_eq_true] at h
  simpa using (List.all_eq_true.1 h.2 x hx)
theorem xor_other (x : UInt64) {b : Int} (h0 : b ≠ 0) (h1 : -9223372036854775808 ≤ b) (h2 : b ≤ 9223372036854775807) : ∃ u : UInt64, bits .xor .u64 (x.toNat : Int) (IntKind.u64.wrap b) = (u.toNat : Int) ∧ u ≠ x := by
  obtain ⟨c, hc⟩ : ∃ c : Nat, IntKind.u64.wrap b = (c : Int) ∧ c ≠ 0 ∧ c < 18446744073709551616 := by
    have e : IntKind.u64.wrap b = b % 18446744073709551616 := by simp [IntKind.wrap, IntKind.bits, IntKind.signed]
    rw [e]
    refine ⟨(b % 18446744073709551616).toNat, ?_, ?_, ?_⟩ <;> omega
  obtain ⟨e, hc0, hc1⟩ := hc
  have hx : x.toNat < 18446744073709551616 := x.toNat_lt
  rw [e, bits_xor_u64_nat _ _ hx hc1]
  have hlt : x.toNat ^^^ c < 2 ^ 64 := Nat.xor_lt_two_pow (by omega) (by omega)
  refine ⟨UInt64.ofNat (x.toNat ^^^ c), ?_, ?_⟩
  · rw [UInt64.toNat_ofNat_of_lt' (by simpa [UInt64.size] using hlt)]
  · intro h
    have h3 := congrArg UInt64.toNat h
    rw [UInt64.toNat_ofNat_of_lt' (by simpa [UInt64.size] using hlt)] at h3
    have h4 : x.toNat ^^^ (x.toNat ^^^ c) = x.toNat ^^^ x.toNat := by rw [h3]
    rw [← Nat.xor_assoc, Nat.xor_self, Nat.zero_xor] at h4
    exact hc0 h4
theorem wrap_other {u b : Int} (h0 : b ≠ 0) (h1 : -9223372036854775808 ≤ b) (h2 : b ≤ 9223372036854775807) : wrap64 (u + b) ≠ u := by
  unfold wrap64
  omega
/-- A lease that differs from one in force in one field is not in force. -/
theorem stranger {t : Ls} (h : VL t) {x y : Lz} (hx : x ∈ t.l) (hne : y ≠ x) (hk : y.2.2.2 = x.2.2.2 ∨ (y.1 = x.1 ∧ y.2.1 = x.2.1)) : memB t.l y = false := by
  rw [← Bool.not_eq_true, memB_iff]
  intro hy
  rcases hk with hk | hk
  · exact hne (h.same hy hx hk)
  · exact hne (h.one hy hx hk)

set_option maxRecDepth 100000 in
set_option maxHeartbeats 16000000 in
theorem LawStrangers_any (t : Ls) (ao : Option Addr) (n cap : Nat) (a f : Nat) (b : Int) (w : World) (h : LsA w ao n t) (hcap : n ≤ cap) (hz : ao = none → cap = 0) (ha : a < 256) (hf : f < 256) (hb1 : -9223372036854775808 ≤ b) (hb2 : b ≤ 9223372036854775807) :
    Calls Try.prog 9 #[.agg (tcells t ao n cap), .int .u8 a, .int .u8 f, .int .i64 b] w fun e w' => e = .returned (.bool true) ∧ Below w.heap.size w w' := by
  have hb : Below w.heap.size w w := Below.refl _ _
  have HA := lid (show LsB w 0 ao n cap t from ⟨h, hcap, hz, fun _ _ => Nat.zero_le _⟩)
  clear h hcap hz
  go_enter Try.func9, Try.ntmps9
  go_wp2_with fail
  have bw : w.heap.size ≤ w.heap.size := hb.size
  obtain ⟨W0, hW⟩ : ∃ y, w.alloc (.cells (tcells t ao n cap) 24) = y := ⟨_, rfl⟩
  rw [hW]
  have hbW : Below w.heap.size w W0 := by rw [← hW]; exact ((Below.refl w.heap.size w).alloc (Nat.le_refl _) _)
  have gW0 : w.heap.size + 0 < W0.heap.size := by rw [← hW]; simp only [World.size_alloc]; omega
  have BT : Hid (W0.heap[w.heap.size]? = some (.cells (tcells t ao n cap) 24 (0, 0))) := lid (by
    rw [← hW]
    have := heap_alloc_new w (.cells (tcells t ao n cap) 24)
    exact this)
  clear hW
  replace HA := lid (HA.out.below hbW)
  replace hb := hb.trans (hbW.mono hb.size)
  have mW0 := hbW.size
  clear hbW
  (with_reducible refine (leaGreat_any t ao n cap W0 HA.out.A).mono ?_); rintro e w1 ⟨rfl, hb1⟩
  replace HA := lid (HA.out.below hb1)
  replace BT := lid ((hb1.block _ (row_lt BT.out)).trans BT.out)
  replace hb := hb.trans (hb1.mono hb.size)
  have mw1 := hb1.size
  clear hb1
  cases hS : smallLs t with
  | false =>
    clear hS
    simp only [Bool.not_false]
    go_wp2_with fail
    (with_reducible refine (awake_any _).mono ?_); rintro e wa ⟨rfl, hb1⟩
    have hfin := hb.trans (hb1.mono hb.size)
    go_wp2_with fail
    go_ret
    exact ⟨rfl, hfin⟩
  | true =>
  have HSM := lid hS
  clear hS
  simp only [Bool.not_true]
  have q1 := row_cell BT.out 0
  have q2 := row_cell BT.out 1
  have q3 := row_cell BT.out 2
  have q4 := row_lt BT.out
  go_wp2_with fail
  clear q1 q2 q3 q4
  have CK := lid (leaCheck_any t ao n cap w1 HA.out.A HA.out.le)
  obtain ⟨c, hc⟩ : ∃ c, checkLs t = c := ⟨_, rfl⟩
  rw [hc] at CK
  have HC := lid hc
  clear hc
  (with_reducible refine (CK.out).mono ?_); rintro e w2 ⟨rfl, hb1⟩
  clear CK
  replace HA := lid (HA.out.below hb1)
  replace BT := lid ((hb1.block _ (row_lt BT.out)).trans BT.out)
  replace hb := hb.trans (hb1.mono hb.size)
  have mw2 := hb1.size
  clear hb1
  by_cases hc0 : c = 0
  case neg =>
    have d0 : (c == 0) = false := by simpa using hc0
    go_wp2_with fail
    (with_reducible refine (awake_any _).mono ?_); rintro e wa ⟨rfl, hb1⟩
    have hfin := hb.trans (hb1.mono hb.size)
    go_wp2_with fail
    go_ret
    exact ⟨rfl, hfin⟩
  subst hc0
  have HV := lid (check_iff.1 HC.out)
  have hn12 : n ≤ 12 := by have h1 := small12 HSM.out; rw [HA.out.A.len] at h1; exact h1
  have v0 := HV.out.c0
  have v1 := HV.out.c1
  have v2 := HV.out.e0
  have v3 := HV.out.e1
  clear HC
  by_cases hn0 : n = 0
  case pos =>
    have d1 : ((n : Int) == 0) = true := by simp; omega
    have q5 := row_cell BT.out 0
    have q6 := row_cell BT.out 1
    have q7 := row_cell BT.out 2
    have q8 := row_lt BT.out
    go_wp2_with fail
    clear q5 q6 q7 q8
    (with_reducible refine (awake_any _).mono ?_); rintro e wa ⟨rfl, hb1⟩
    have hfin := hb.trans (hb1.mono hb.size)
    go_wp2_with fail
    go_ret
    exact ⟨rfl, hfin⟩
  have d1 : ((n : Int) == 0) = false := by simp; omega
  by_cases hby : b = 0
  case pos =>
    have d2 : (b == 0) = true := by simpa using hby
    have q5 := row_cell BT.out 0
    have q6 := row_cell BT.out 1
    have q7 := row_cell BT.out 2
    have q8 := row_lt BT.out
    go_wp2_with fail
    clear q5 q6 q7 q8
    (with_reducible refine (awake_any _).mono ?_); rintro e wa ⟨rfl, hb1⟩
    have hfin := hb.trans (hb1.mono hb.size)
    go_wp2_with fail
    go_ret
    exact ⟨rfl, hfin⟩
  have d2 : (b == 0) = false := by simpa using hby
  have q5 := row_cell BT.out 0
  have q6 := row_cell BT.out 1
  have q7 := row_cell BT.out 2
  have q8 := row_lt BT.out
  go_wp2_with fail
  clear q5 q6 q7 q8
  have hnz : (n : Int) ≠ 0 := by omega
  have hmod : a % n < n := Nat.mod_lt _ (by omega)
  have e1 : ((a : Int)).tmod (n : Int) = ((a % n : Nat) : Int) := by rw [Int.tmod_eq_emod_of_nonneg (by omega)]; omega
  have q9 := row_cell BT.out 0
  have q10 := row_cell BT.out 1
  have q11 := row_cell BT.out 2
  have q12 := row_lt BT.out
  obtain ⟨b1, o1, rfl, hlb, hcell⟩ := HA.out.A.sl.at_ hmod
  have hkl : a % n < t.l.length := by rw [HA.out.A.len]; exact hmod
  obtain ⟨k, hk⟩ : ∃ k, a % n = k := ⟨_, rfl⟩
  rw [hk] at hmod e1
  have hkl' : k < t.l.length := by rw [← hk]; exact hkl
  clear hkl hk
  have x0 := hcell (k * 5 + 0) _ (lzcells_at hkl').1
  have x1 := hcell (k * 5 + 1) _ (lzcells_at hkl').2.1
  have x2 := hcell (k * 5 + 2) _ (lzcells_at hkl').2.2.1
  have x3 := hcell (k * 5 + 3) _ (lzcells_at hkl').2.2.2.1
  have x4 := hcell (k * 5 + 4) _ (lzcells_at hkl').2.2.2.2
  rw [← Nat.add_assoc] at x1 x2 x3 x4
  rw [Nat.add_zero] at x0
  have HXM := lid (List.getElem_mem hkl')
  have HXS := lid (small_size HSM.out (List.getElem_mem hkl'))
  obtain ⟨x, hx⟩ : ∃ y, t.l[k] = y := ⟨_, rfl⟩
  rw [hx] at x0 x1 x2 x3 x4 HXM HXS
  clear hx hcell
  refine wp_region_seq (fun w' => ∃ s : Since w2.heap.size w2, w' = s.world) [(0, true), (1, true), (2, true), (4, true), (5, true), (6, true), (3, true), (7, true), (8, true), (9, true), (10, false), (11, false)] (by kernel_rfl) (by kernel_rfl) (by intro c d v a w h; cases d <;> exact h) (since (Below.refl _ _).drew) ?_
  repeat (first | (refine seq_skip (by rfl) (by rfl) ?_; simp only [Act.put, List.setIfInBounds_toArray, List.set_cons_succ, List.set_cons_zero]) | (refine seq_float (by rfl) (by rfl) (by rfl) ?_; intro K hK; go_big_quiet_op; go_big_quiet_on))
  refine seq_chain (by rfl) ?_
  intro K hK
  go_wp2_with fail
  refine hK.out _ _ (since ((Below.refl w2.heap.size w2).drew.alloc (Nat.le_refl _) _)) ?_
  clear hK K
  repeat (first | (refine seq_skip (by rfl) (by rfl) ?_; simp only [Act.put, List.setIfInBounds_toArray, List.set_cons_succ, List.set_cons_zero]) | (refine seq_float (by rfl) (by rfl) (by rfl) ?_; intro K hK; go_big_quiet_op; go_big_quiet_on))
  refine seq_chain (by rfl) ?_
  intro K hK
  go_wp2_with fail
  refine hK.out _ _ (since ((Below.refl w2.heap.size w2).alloc (Nat.le_refl _) _).drew) ?_
  clear hK K
  repeat (first | (refine seq_skip (by rfl) (by rfl) ?_; simp only [Act.put, List.setIfInBounds_toArray, List.set_cons_succ, List.set_cons_zero]) | (refine seq_float (by rfl) (by rfl) (by rfl) ?_; intro K hK; go_big_quiet_op; go_big_quiet_on))
  refine seq_nil ?_
  clear x0 x1 x2 x3 x4
  clear q9 q10 q11 q12
  have HNE := lid HA.out.hi
  have lBTw2 := row_lt BT.out
  have bw2 : w.heap.size ≤ w2.heap.size := hb.size
  obtain ⟨W3, hW⟩ : ∃ y, (w2.alloc (.cells (lzc x) 31)).drew = y := ⟨_, rfl⟩
  rw [hW]
  have hbW : Below w2.heap.size w2 W3 := by rw [← hW]; exact ((Below.refl w2.heap.size w2).alloc (Nat.le_refl _) _).drew
  have gW3 : w2.heap.size + 0 < W3.heap.size := by rw [← hW]; show _ < (w2.alloc (.cells (lzc x) 31)).heap.size; simp only [World.size_alloc]; omega
  have BX : Hid (W3.heap[w2.heap.size]? = some (.cells (lzc x) 31 (0, 0))) := lid (by
    rw [← hW]
    have := heap_alloc_new w2 (.cells (lzc x) 31)
    exact this)
  clear hW
  replace HA := lid (HA.out.below hbW)
  replace BT := lid ((hbW.block _ (row_lt BT.out)).trans BT.out)
  replace hb := hb.trans (hbW.mono hb.size)
  have mW3 := hbW.size
  clear hbW
  have hxs := HXS.out
  obtain ⟨q, hq⟩ : ∃ q, f % 4 = q := ⟨_, rfl⟩
  have e2 : ((f : Int)).tmod (4 : Int) = (q : Int) := by rw [Int.tmod_eq_emod_of_nonneg (by omega)]; omega
  have hq4 : q < 4 := by omega
  clear hq
  rcases (show q = 0 ∨ q = 1 ∨ q = 2 ∨ q = 3 by omega) with rfl | rfl | rfl | rfl
  · have q13 := row_cell BX.out 0
    have q14 := row_cell BX.out 1
    have q15 := row_cell BX.out 2
    have q16 := row_cell BX.out 3
    have q17 := row_cell BX.out 4
    have q18 := row_cell BT.out 0
    have q19 := row_cell BT.out 1
    have q20 := row_cell BT.out 2
    have q21 := row_fz BX.out 0
    have q22 := row_fz BX.out 1
    have q23 := row_fz BX.out 2
    have q24 := row_fz BX.out 3
    have q25 := row_fz BX.out 4
    have q26 := row_lt BX.out
    have q27 := row_lt BT.out
    obtain ⟨u, hu, hun⟩ := xor_other x.1.2 hby hb1 hb2
    go_wp2_with fail
    clear q13 q14 q15 q16 q17 q18 q19 q20 q21 q22 q23 q24 q25 q26 q27
    have lq : w2.heap.size < W3.heap.size := by omega
    obtain ⟨W4, hW4⟩ : ∃ y, W3.setCell ⟨w2.heap.size, 1, none⟩ (.int .u64 u.toNat) = y := ⟨_, rfl⟩
    rw [hW4]
    replace BX : Hid (W4.heap[w2.heap.size]? = some (.cells (lzc (((x.1.1, u), x.2) : Lz)) 31 (0, 0))) := lid (by rw [← hW4]; exact row_set BX.out 1 _)
    replace BT : Hid (W4.heap[w.heap.size]? = some (.cells (tcells t (some ⟨b1, o1, none⟩) n cap) 24 (0, 0))) := lid (by rw [← hW4]; exact row_other BT.out (by omega))
    replace HA : Hid (LsB W4 0 (some ⟨b1, o1, none⟩) n cap t) := lid (by rw [← hW4]; exact HA.out.setHi HNE.out (Nat.le_refl _))
    replace hb : Below w.heap.size w W4 := by rw [← hW4]; exact hb.setCell (p := ⟨w2.heap.size, 1, none⟩) (by simp only; omega) _
    clear hW4
    have HM := lid (stranger HV.out HXM.out (y := (((x.1.1, u), x.2) : Lz)) (fun e => hun (congrArg (fun z : Lz => z.1.2) e)) (.inl rfl))
    have hsz : ((((x.1.1, u), x.2) : Lz)).2.1.size ≤ maxLen := by simp only [maxLen]; omega
    have CR := lid (renew_any t (some ⟨b1, o1, none⟩) n cap (((x.1.1, u), x.2) : Lz) 1 W4 HA.out.A HA.out.le HA.out.z hsz)
    have HE := lid (renew_2 (check_iff.2 HV.out) HM.out 1)
    rw [(renew_bad HE.out (by decide)).1, (renew_bad HE.out (by decide)).2, HE.out] at CR
    have CL := lid (fun w h => release_any t (some ⟨b1, o1, none⟩) n cap (((x.1.1, u), x.2) : Lz) w h HA.out.le HA.out.z)
    have HE2 := lid (rel_2 (check_iff.2 HV.out) HM.out)
    rw [rel_bad HE2.out (by decide), HE2.out] at CL
    have CH := lid (fun w h => holds_any t (some ⟨b1, o1, none⟩) n cap (((x.1.1, u), x.2) : Lz) w h HA.out.le)
    rw [holds_eq HV.out, HM.out] at CH
    clear HE HE2 HM hsz
    (with_reducible refine (CR.out).mono ?_); rintro e w5 ⟨_, rfl, ⟨ao1, n1, cap1, rfl, hA⟩, hb1'⟩
    clear CR
    replace HA := lid (HA.out.below hb1')
    replace BT := lid ((hb1'.block _ (row_lt BT.out)).trans BT.out)
    replace BX := lid ((hb1'.block _ (row_lt BX.out)).trans BX.out)
    replace hb := hb.trans (hb1'.mono hb.size)
    have mw5 := hb1'.size
    clear hb1'
    have HA1 := lid hA
    clear hA
    have q28 := row_cell BT.out 0
    have q29 := row_cell BT.out 1
    have q30 := row_cell BT.out 2
    have q31 := row_cell BX.out 0
    have q32 := row_cell BX.out 1
    have q33 := row_cell BX.out 2
    have q34 := row_cell BX.out 3
    have q35 := row_cell BX.out 4
    have q36 := row_lt BT.out
    have q37 := row_lt BX.out
    go_wp2_with fail
    clear q28 q29 q30 q31 q32 q33 q34 q35 q36 q37
    have lBTw5 := row_lt BT.out
    have lBXw5 := row_lt BX.out
    have bw5 : w.heap.size ≤ w5.heap.size := hb.size
    obtain ⟨W5, hW⟩ : ∃ y, (w5.alloc (.cells (tcells ls0 ao1 n1 cap1) 24)).alloc (.cells (lzc lz0) 31) = y := ⟨_, rfl⟩
    rw [hW]
    have hbW : Below w5.heap.size w5 W5 := by rw [← hW]; exact (((Below.refl w5.heap.size w5).alloc (Nat.le_refl _) _).alloc (by simp only [World.size_alloc]; omega) _)
    have gW5 : w5.heap.size + 1 < W5.heap.size := by rw [← hW]; simp only [World.size_alloc]; omega
    have BT1 : Hid (W5.heap[w5.heap.size]? = some (.cells (tcells ls0 ao1 n1 cap1) 24 (0, 0))) := lid (by
      rw [← hW]
      iterate 1 rw [Below.heap_alloc _ _ _ (by simp only [World.size_alloc]; omega)]
      have := heap_alloc_new w5 (.cells (tcells ls0 ao1 n1 cap1) 24)
      exact this)
    have BX1 : Hid (W5.heap[w5.heap.size + 1]? = some (.cells (lzc lz0) 31 (0, 0))) := lid (by
      rw [← hW]
      have := heap_alloc_new (w5.alloc (.cells (tcells ls0 ao1 n1 cap1) 24)) (.cells (lzc lz0) 31)
      simp only [World.size_alloc] at this
      exact this)
    clear hW
    replace HA := lid (HA.out.below hbW)
    replace BT := lid ((hbW.block _ (row_lt BT.out)).trans BT.out)
    replace BX := lid ((hbW.block _ (row_lt BX.out)).trans BX.out)
    replace HA1 := lid (HA1.out.below hbW)
    replace hb := hb.trans (hbW.mono hb.size)
    have mW5 := hbW.size
    clear hbW
    (with_reducible refine (CL.out W5 HA.out.A).mono ?_); rintro e w6 ⟨_, rfl, ⟨ao2, n2, cap2, rfl, hA⟩, hb1'⟩
    replace HA := lid (HA.out.below hb1')
    replace BT := lid ((hb1'.block _ (row_lt BT.out)).trans BT.out)
    replace BX := lid ((hb1'.block _ (row_lt BX.out)).trans BX.out)
    replace HA1 := lid (HA1.out.below hb1')
    replace BT1 := lid ((hb1'.block _ (row_lt BT1.out)).trans BT1.out)
    replace BX1 := lid ((hb1'.block _ (row_lt BX1.out)).trans BX1.out)
    replace hb := hb.trans (hb1'.mono hb.size)
    have mw6 := hb1'.size
    clear hb1'
    have HA2 := lid hA
    clear hA CL
    have q38 := row_cell BT.out 0
    have q39 := row_cell BT.out 1
    have q40 := row_cell BT.out 2
    have q41 := row_cell BX.out 0
    have q42 := row_cell BX.out 1
    have q43 := row_cell BX.out 2
    have q44 := row_cell BX.out 3
    have q45 := row_cell BX.out 4
    have q46 := row_lt BT.out
    have q47 := row_lt BX.out
    go_wp2_with fail
    clear q38 q39 q40 q41 q42 q43 q44 q45 q46 q47
    have lBTw6 := row_lt BT.out
    have lBXw6 := row_lt BX.out
    have lBT1w6 := row_lt BT1.out
    have lBX1w6 := row_lt BX1.out
    have bw6 : w.heap.size ≤ w6.heap.size := hb.size
    obtain ⟨W6, hW⟩ : ∃ y, w6.alloc (.cells (tcells ls0 ao2 n2 cap2) 24) = y := ⟨_, rfl⟩
    rw [hW]
    have hbW : Below w6.heap.size w6 W6 := by rw [← hW]; exact ((Below.refl w6.heap.size w6).alloc (Nat.le_refl _) _)
    have gW6 : w6.heap.size + 0 < W6.heap.size := by rw [← hW]; simp only [World.size_alloc]; omega
    have BT2 : Hid (W6.heap[w6.heap.size]? = some (.cells (tcells ls0 ao2 n2 cap2) 24 (0, 0))) := lid (by
      rw [← hW]
      have := heap_alloc_new w6 (.cells (tcells ls0 ao2 n2 cap2) 24)
      exact this)
    clear hW
    replace HA := lid (HA.out.below hbW)
    replace BT := lid ((hbW.block _ (row_lt BT.out)).trans BT.out)
    replace BX := lid ((hbW.block _ (row_lt BX.out)).trans BX.out)
    replace HA1 := lid (HA1.out.below hbW)
    replace BT1 := lid ((hbW.block _ (row_lt BT1.out)).trans BT1.out)
    replace BX1 := lid ((hbW.block _ (row_lt BX1.out)).trans BX1.out)
    replace HA2 := lid (HA2.out.below hbW)
    replace hb := hb.trans (hbW.mono hb.size)
    have mW6 := hbW.size
    clear hbW
    (with_reducible refine (CH.out W6 HA.out.A).mono ?_); rintro e w7 ⟨rfl, hb1'⟩
    clear CH
    replace HA := lid (HA.out.below hb1')
    replace BT := lid ((hb1'.block _ (row_lt BT.out)).trans BT.out)
    replace BX := lid ((hb1'.block _ (row_lt BX.out)).trans BX.out)
    replace HA1 := lid (HA1.out.below hb1')
    replace BT1 := lid ((hb1'.block _ (row_lt BT1.out)).trans BT1.out)
    replace BX1 := lid ((hb1'.block _ (row_lt BX1.out)).trans BX1.out)
    replace HA2 := lid (HA2.out.below hb1')
    replace BT2 := lid ((hb1'.block _ (row_lt BT2.out)).trans BT2.out)
    replace hb := hb.trans (hb1'.mono hb.size)
    have mw7 := hb1'.size
    clear hb1'
    go_wp2_with fail
    (with_reducible refine (awake_any _).mono ?_); rintro e wa ⟨rfl, hb1⟩
    have hfin := hb.trans (hb1.mono hb.size)
    go_wp2_with fail
    go_ret
    exact ⟨rfl, hfin⟩
  · have q13 := row_cell BX.out 0
    have q14 := row_cell BX.out 1
    have q15 := row_cell BX.out 2
    have q16 := row_cell BX.out 3
    have q17 := row_cell BX.out 4
    have q18 := row_cell BT.out 0
    have q19 := row_cell BT.out 1
    have q20 := row_cell BT.out 2
    have q21 := row_fz BX.out 0
    have q22 := row_fz BX.out 1
    have q23 := row_fz BX.out 2
    have q24 := row_fz BX.out 3
    have q25 := row_fz BX.out 4
    have q26 := row_lt BX.out
    have q27 := row_lt BT.out
    go_wp2_with fail
    clear q13 q14 q15 q16 q17 q18 q19 q20 q21 q22 q23 q24 q25 q26 q27
    have lq : w2.heap.size < W3.heap.size := by omega
    obtain ⟨W4, hW4⟩ : ∃ y, W3.setCell ⟨w2.heap.size, 2, none⟩ (.string (x.2.1 ++ ⟨#[120]⟩)) = y := ⟨_, rfl⟩
    rw [hW4]
    replace BX : Hid (W4.heap[w2.heap.size]? = some (.cells (lzc ((x.1, x.2.1 ++ ⟨#[120]⟩, x.2.2) : Lz)) 31 (0, 0))) := lid (by rw [← hW4]; exact row_set BX.out 2 _)
    replace BT : Hid (W4.heap[w.heap.size]? = some (.cells (tcells t (some ⟨b1, o1, none⟩) n cap) 24 (0, 0))) := lid (by rw [← hW4]; exact row_other BT.out (by omega))
    replace HA : Hid (LsB W4 0 (some ⟨b1, o1, none⟩) n cap t) := lid (by rw [← hW4]; exact HA.out.setHi HNE.out (Nat.le_refl _))
    replace hb : Below w.heap.size w W4 := by rw [← hW4]; exact hb.setCell (p := ⟨w2.heap.size, 2, none⟩) (by simp only; omega) _
    clear hW4
    have HM := lid (stranger HV.out HXM.out (y := ((x.1, x.2.1 ++ ⟨#[120]⟩, x.2.2) : Lz)) (fun e => by have h1 := congrArg (fun z : Lz => z.2.1.size) e; simp only [ByteArray.size_append] at h1; have h2 : ByteArray.size ⟨#[120]⟩ = 1 := rfl; omega) (.inl rfl))
    have hsz : (((x.1, x.2.1 ++ ⟨#[120]⟩, x.2.2) : Lz)).2.1.size ≤ maxLen := by simp only [ByteArray.size_append]; have h2 : ByteArray.size ⟨#[120]⟩ = 1 := rfl; simp only [maxLen]; omega
    have CR := lid (renew_any t (some ⟨b1, o1, none⟩) n cap ((x.1, x.2.1 ++ ⟨#[120]⟩, x.2.2) : Lz) 1 W4 HA.out.A HA.out.le HA.out.z hsz)
    have HE := lid (renew_2 (check_iff.2 HV.out) HM.out 1)
    rw [(renew_bad HE.out (by decide)).1, (renew_bad HE.out (by decide)).2, HE.out] at CR
    have CL := lid (fun w h => release_any t (some ⟨b1, o1, none⟩) n cap ((x.1, x.2.1 ++ ⟨#[120]⟩, x.2.2) : Lz) w h HA.out.le HA.out.z)
    have HE2 := lid (rel_2 (check_iff.2 HV.out) HM.out)
    rw [rel_bad HE2.out (by decide), HE2.out] at CL
    have CH := lid (fun w h => holds_any t (some ⟨b1, o1, none⟩) n cap ((x.1, x.2.1 ++ ⟨#[120]⟩, x.2.2) : Lz) w h HA.out.le)
    rw [holds_eq HV.out, HM.out] at CH
    clear HE HE2 HM hsz
    (with_reducible refine (CR.out).mono ?_); rintro e w5 ⟨_, rfl, ⟨ao1, n1, cap1, rfl, hA⟩, hb1'⟩
    clear CR
    replace HA := lid (HA.out.below hb1')
    replace BT := lid ((hb1'.block _ (row_lt BT.out)).trans BT.out)
    replace BX := lid ((hb1'.block _ (row_lt BX.out)).trans BX.out)
    replace hb := hb.trans (hb1'.mono hb.size)
    have mw5 := hb1'.size
    clear hb1'
    have HA1 := lid hA
    clear hA
    have q28 := row_cell BT.out 0
    have q29 := row_cell BT.out 1
    have q30 := row_cell BT.out 2
    have q31 := row_cell BX.out 0
    have q32 := row_cell BX.out 1
    have q33 := row_cell BX.out 2
    have q34 := row_cell BX.out 3
    have q35 := row_cell BX.out 4
    have q36 := row_lt BT.out
    have q37 := row_lt BX.out
    go_wp2_with fail
    clear q28 q29 q30 q31 q32 q33 q34 q35 q36 q37
    have lBTw5 := row_lt BT.out
    have lBXw5 := row_lt BX.out
    have bw5 : w.heap.size ≤ w5.heap.size := hb.size
    obtain ⟨W5, hW⟩ : ∃ y, (w5.alloc (.cells (tcells ls0 ao1 n1 cap1) 24)).alloc (.cells (lzc lz0) 31) = y := ⟨_, rfl⟩
    rw [hW]
    have hbW : Below w5.heap.size w5 W5 := by rw [← hW]; exact (((Below.refl w5.heap.size w5).alloc (Nat.le_refl _) _).alloc (by simp only [World.size_alloc]; omega) _)
    have gW5 : w5.heap.size + 1 < W5.heap.size := by rw [← hW]; simp only [World.size_alloc]; omega
    have BT1 : Hid (W5.heap[w5.heap.size]? = some (.cells (tcells ls0 ao1 n1 cap1) 24 (0, 0))) := lid (by
      rw [← hW]
      iterate 1 rw [Below.heap_alloc _ _ _ (by simp only [World.size_alloc]; omega)]
      have := heap_alloc_new w5 (.cells (tcells ls0 ao1 n1 cap1) 24)
      exact this)
    have BX1 : Hid (W5.heap[w5.heap.size + 1]? = some (.cells (lzc lz0) 31 (0, 0))) := lid (by
      rw [← hW]
      have := heap_alloc_new (w5.alloc (.cells (tcells ls0 ao1 n1 cap1) 24)) (.cells (lzc lz0) 31)
      simp only [World.size_alloc] at this
      exact this)
    clear hW
    replace HA := lid (HA.out.below hbW)
    replace BT := lid ((hbW.block _ (row_lt BT.out)).trans BT.out)
    replace BX := lid ((hbW.block _ (row_lt BX.out)).trans BX.out)
    replace HA1 := lid (HA1.out.below hbW)
    replace hb := hb.trans (hbW.mono hb.size)
    have mW5 := hbW.size
    clear hbW
    (with_reducible refine (CL.out W5 HA.out.A).mono ?_); rintro e w6 ⟨_, rfl, ⟨ao2, n2, cap2, rfl, hA⟩, hb1'⟩
    replace HA := lid (HA.out.below hb1')
    replace BT := lid ((hb1'.block _ (row_lt BT.out)).trans BT.out)
    replace BX := lid ((hb1'.block _ (row_lt BX.out)).trans BX.out)
    replace HA1 := lid (HA1.out.below hb1')
    replace BT1 := lid ((hb1'.block _ (row_lt BT1.out)).trans BT1.out)
    replace BX1 := lid ((hb1'.block _ (row_lt BX1.out)).trans BX1.out)
    replace hb := hb.trans (hb1'.mono hb.size)
    have mw6 := hb1'.size
    clear hb1'
    have HA2 := lid hA
    clear hA CL
    have q38 := row_cell BT.out 0
    have q39 := row_cell BT.out 1
    have q40 := row_cell BT.out 2
    have q41 := row_cell BX.out 0
    have q42 := row_cell BX.out 1
    have q43 := row_cell BX.out 2
    have q44 := row_cell BX.out 3
    have q45 := row_cell BX.out 4
    have q46 := row_lt BT.out
    have q47 := row_lt BX.out
    go_wp2_with fail
    clear q38 q39 q40 q41 q42 q43 q44 q45 q46 q47
    have lBTw6 := row_lt BT.out
    have lBXw6 := row_lt BX.out
    have lBT1w6 := row_lt BT1.out
    have lBX1w6 := row_lt BX1.out
    have bw6 : w.heap.size ≤ w6.heap.size := hb.size
    obtain ⟨W6, hW⟩ : ∃ y, w6.alloc (.cells (tcells ls0 ao2 n2 cap2) 24) = y := ⟨_, rfl⟩
    rw [hW]
    have hbW : Below w6.heap.size w6 W6 := by rw [← hW]; exact ((Below.refl w6.heap.size w6).alloc (Nat.le_refl _) _)
    have gW6 : w6.heap.size + 0 < W6.heap.size := by rw [← hW]; simp only [World.size_alloc]; omega
    have BT2 : Hid (W6.heap[w6.heap.size]? = some (.cells (tcells ls0 ao2 n2 cap2) 24 (0, 0))) := lid (by
      rw [← hW]
      have := heap_alloc_new w6 (.cells (tcells ls0 ao2 n2 cap2) 24)
      exact this)
    clear hW
    replace HA := lid (HA.out.below hbW)
    replace BT := lid ((hbW.block _ (row_lt BT.out)).trans BT.out)
    replace BX := lid ((hbW.block _ (row_lt BX.out)).trans BX.out)
    replace HA1 := lid (HA1.out.below hbW)
    replace BT1 := lid ((hbW.block _ (row_lt BT1.out)).trans BT1.out)
    replace BX1 := lid ((hbW.block _ (row_lt BX1.out)).trans BX1.out)
    replace HA2 := lid (HA2.out.below hbW)
    replace hb := hb.trans (hbW.mono hb.size)
    have mW6 := hbW.size
    clear hbW
    (with_reducible refine (CH.out W6 HA.out.A).mono ?_); rintro e w7 ⟨rfl, hb1'⟩
    clear CH
    replace HA := lid (HA.out.below hb1')
    replace BT := lid ((hb1'.block _ (row_lt BT.out)).trans BT.out)
    replace BX := lid ((hb1'.block _ (row_lt BX.out)).trans BX.out)
    replace HA1 := lid (HA1.out.below hb1')
    replace BT1 := lid ((hb1'.block _ (row_lt BT1.out)).trans BT1.out)
    replace BX1 := lid ((hb1'.block _ (row_lt BX1.out)).trans BX1.out)
    replace HA2 := lid (HA2.out.below hb1')
    replace BT2 := lid ((hb1'.block _ (row_lt BT2.out)).trans BT2.out)
    replace hb := hb.trans (hb1'.mono hb.size)
    have mw7 := hb1'.size
    clear hb1'
    go_wp2_with fail
    (with_reducible refine (awake_any _).mono ?_); rintro e wa ⟨rfl, hb1⟩
    have hfin := hb.trans (hb1.mono hb.size)
    go_wp2_with fail
    go_ret
    exact ⟨rfl, hfin⟩
  · have q13 := row_cell BX.out 0
    have q14 := row_cell BX.out 1
    have q15 := row_cell BX.out 2
    have q16 := row_cell BX.out 3
    have q17 := row_cell BX.out 4
    have q18 := row_cell BT.out 0
    have q19 := row_cell BT.out 1
    have q20 := row_cell BT.out 2
    have q21 := row_fz BX.out 0
    have q22 := row_fz BX.out 1
    have q23 := row_fz BX.out 2
    have q24 := row_fz BX.out 3
    have q25 := row_fz BX.out 4
    have q26 := row_lt BX.out
    have q27 := row_lt BT.out
    go_wp2_with fail
    clear q13 q14 q15 q16 q17 q18 q19 q20 q21 q22 q23 q24 q25 q26 q27
    have lq : w2.heap.size < W3.heap.size := by omega
    obtain ⟨W4, hW4⟩ : ∃ y, W3.setCell ⟨w2.heap.size, 3, none⟩ (.int .i64 (wrap64 (x.2.2.1 + b))) = y := ⟨_, rfl⟩
    rw [hW4]
    replace BX : Hid (W4.heap[w2.heap.size]? = some (.cells (lzc ((x.1, x.2.1, wrap64 (x.2.2.1 + b), x.2.2.2) : Lz)) 31 (0, 0))) := lid (by rw [← hW4]; exact row_set BX.out 3 _)
    replace BT : Hid (W4.heap[w.heap.size]? = some (.cells (tcells t (some ⟨b1, o1, none⟩) n cap) 24 (0, 0))) := lid (by rw [← hW4]; exact row_other BT.out (by omega))
    replace HA : Hid (LsB W4 0 (some ⟨b1, o1, none⟩) n cap t) := lid (by rw [← hW4]; exact HA.out.setHi HNE.out (Nat.le_refl _))
    replace hb : Below w.heap.size w W4 := by rw [← hW4]; exact hb.setCell (p := ⟨w2.heap.size, 3, none⟩) (by simp only; omega) _
    clear hW4
    have HM := lid (stranger HV.out HXM.out (y := ((x.1, x.2.1, wrap64 (x.2.2.1 + b), x.2.2.2) : Lz)) (fun e => wrap_other hby hb1 hb2 (congrArg (fun z : Lz => z.2.2.1) e)) (.inl rfl))
    have hsz : (((x.1, x.2.1, wrap64 (x.2.2.1 + b), x.2.2.2) : Lz)).2.1.size ≤ maxLen := by simp only [maxLen]; omega
    have CR := lid (renew_any t (some ⟨b1, o1, none⟩) n cap ((x.1, x.2.1, wrap64 (x.2.2.1 + b), x.2.2.2) : Lz) 1 W4 HA.out.A HA.out.le HA.out.z hsz)
    have HE := lid (renew_2 (check_iff.2 HV.out) HM.out 1)
    rw [(renew_bad HE.out (by decide)).1, (renew_bad HE.out (by decide)).2, HE.out] at CR
    have CL := lid (fun w h => release_any t (some ⟨b1, o1, none⟩) n cap ((x.1, x.2.1, wrap64 (x.2.2.1 + b), x.2.2.2) : Lz) w h HA.out.le HA.out.z)
    have HE2 := lid (rel_2 (check_iff.2 HV.out) HM.out)
    rw [rel_bad HE2.out (by decide), HE2.out] at CL
    have CH := lid (fun w h => holds_any t (some ⟨b1, o1, none⟩) n cap ((x.1, x.2.1, wrap64 (x.2.2.1 + b), x.2.2.2) : Lz) w h HA.out.le)
    rw [holds_eq HV.out, HM.out] at CH
    clear HE HE2 HM hsz
    (with_reducible refine (CR.out).mono ?_); rintro e w5 ⟨_, rfl, ⟨ao1, n1, cap1, rfl, hA⟩, hb1'⟩
    clear CR
    replace HA := lid (HA.out.below hb1')
    replace BT := lid ((hb1'.block _ (row_lt BT.out)).trans BT.out)
    replace BX := lid ((hb1'.block _ (row_lt BX.out)).trans BX.out)
    replace hb := hb.trans (hb1'.mono hb.size)
    have mw5 := hb1'.size
    clear hb1'
    have HA1 := lid hA
    clear hA
    have q28 := row_cell BT.out 0
    have q29 := row_cell BT.out 1
    have q30 := row_cell BT.out 2
    have q31 := row_cell BX.out 0
    have q32 := row_cell BX.out 1
    have q33 := row_cell BX.out 2
    have q34 := row_cell BX.out 3
    have q35 := row_cell BX.out 4
    have q36 := row_lt BT.out
    have q37 := row_lt BX.out
    go_wp2_with fail
    clear q28 q29 q30 q31 q32 q33 q34 q35 q36 q37
    have lBTw5 := row_lt BT.out
    have lBXw5 := row_lt BX.out
    have bw5 : w.heap.size ≤ w5.heap.size := hb.size
    obtain ⟨W5, hW⟩ : ∃ y, (w5.alloc (.cells (tcells ls0 ao1 n1 cap1) 24)).alloc (.cells (lzc lz0) 31) = y := ⟨_, rfl⟩
    rw [hW]
    have hbW : Below w5.heap.size w5 W5 := by rw [← hW]; exact (((Below.refl w5.heap.size w5).alloc (Nat.le_refl _) _).alloc (by simp only [World.size_alloc]; omega) _)
    have gW5 : w5.heap.size + 1 < W5.heap.size := by rw [← hW]; simp only [World.size_alloc]; omega
    have BT1 : Hid (W5.heap[w5.heap.size]? = some (.cells (tcells ls0 ao1 n1 cap1) 24 (0, 0))) := lid (by
      rw [← hW]
      iterate 1 rw [Below.heap_alloc _ _ _ (by simp only [World.size_alloc]; omega)]
      have := heap_alloc_new w5 (.cells (tcells ls0 ao1 n1 cap1) 24)
      exact this)
    have BX1 : Hid (W5.heap[w5.heap.size + 1]? = some (.cells (lzc lz0) 31 (0, 0))) := lid (by
      rw [← hW]
      have := heap_alloc_new (w5.alloc (.cells (tcells ls0 ao1 n1 cap1) 24)) (.cells (lzc lz0) 31)
      simp only [World.size_alloc] at this
      exact this)
    clear hW
    replace HA := lid (HA.out.below hbW)
    replace BT := lid ((hbW.block _ (row_lt BT.out)).trans BT.out)
    replace BX := lid ((hbW.block _ (row_lt BX.out)).trans BX.out)
    replace HA1 := lid (HA1.out.below hbW)
    replace hb := hb.trans (hbW.mono hb.size)
    have mW5 := hbW.size
    clear hbW
    (with_reducible refine (CL.out W5 HA.out.A).mono ?_); rintro e w6 ⟨_, rfl, ⟨ao2, n2, cap2, rfl, hA⟩, hb1'⟩
    replace HA := lid (HA.out.below hb1')
    replace BT := lid ((hb1'.block _ (row_lt BT.out)).trans BT.out)
    replace BX := lid ((hb1'.block _ (row_lt BX.out)).trans BX.out)
    replace HA1 := lid (HA1.out.below hb1')
    replace BT1 := lid ((hb1'.block _ (row_lt BT1.out)).trans BT1.out)
    replace BX1 := lid ((hb1'.block _ (row_lt BX1.out)).trans BX1.out)
    replace hb := hb.trans (hb1'.mono hb.size)
    have mw6 := hb1'.size
    clear hb1'
    have HA2 := lid hA
    clear hA CL
    have q38 := row_cell BT.out 0
    have q39 := row_cell BT.out 1
    have q40 := row_cell BT.out 2
    have q41 := row_cell BX.out 0
    have q42 := row_cell BX.out 1
    have q43 := row_cell BX.out 2
    have q44 := row_cell BX.out 3
    have q45 := row_cell BX.out 4
    have q46 := row_lt BT.out
    have q47 := row_lt BX.out
    go_wp2_with fail
    clear q38 q39 q40 q41 q42 q43 q44 q45 q46 q47
    have lBTw6 := row_lt BT.out
    have lBXw6 := row_lt BX.out
    have lBT1w6 := row_lt BT1.out
    have lBX1w6 := row_lt BX1.out
    have bw6 : w.heap.size ≤ w6.heap.size := hb.size
    obtain ⟨W6, hW⟩ : ∃ y, w6.alloc (.cells (tcells ls0 ao2 n2 cap2) 24) = y := ⟨_, rfl⟩
    rw [hW]
    have hbW : Below w6.heap.size w6 W6 := by rw [← hW]; exact ((Below.refl w6.heap.size w6).alloc (Nat.le_refl _) _)
    have gW6 : w6.heap.size + 0 < W6.heap.size := by rw [← hW]; simp only [World.size_alloc]; omega
    have BT2 : Hid (W6.heap[w6.heap.size]? = some (.cells (tcells ls0 ao2 n2 cap2) 24 (0, 0))) := lid (by
      rw [← hW]
      have := heap_alloc_new w6 (.cells (tcells ls0 ao2 n2 cap2) 24)
      exact this)
    clear hW
    replace HA := lid (HA.out.below hbW)
    replace BT := lid ((hbW.block _ (row_lt BT.out)).trans BT.out)
    replace BX := lid ((hbW.block _ (row_lt BX.out)).trans BX.out)
    replace HA1 := lid (HA1.out.below hbW)
    replace BT1 := lid ((hbW.block _ (row_lt BT1.out)).trans BT1.out)
    replace BX1 := lid ((hbW.block _ (row_lt BX1.out)).trans BX1.out)
    replace HA2 := lid (HA2.out.below hbW)
    replace hb := hb.trans (hbW.mono hb.size)
    have mW6 := hbW.size
    clear hbW
    (with_reducible refine (CH.out W6 HA.out.A).mono ?_); rintro e w7 ⟨rfl, hb1'⟩
    clear CH
    replace HA := lid (HA.out.below hb1')
    replace BT := lid ((hb1'.block _ (row_lt BT.out)).trans BT.out)
    replace BX := lid ((hb1'.block _ (row_lt BX.out)).trans BX.out)
    replace HA1 := lid (HA1.out.below hb1')
    replace BT1 := lid ((hb1'.block _ (row_lt BT1.out)).trans BT1.out)
    replace BX1 := lid ((hb1'.block _ (row_lt BX1.out)).trans BX1.out)
    replace HA2 := lid (HA2.out.below hb1')
    replace BT2 := lid ((hb1'.block _ (row_lt BT2.out)).trans BT2.out)
    replace hb := hb.trans (hb1'.mono hb.size)
    have mw7 := hb1'.size
    clear hb1'
    go_wp2_with fail
    (with_reducible refine (awake_any _).mono ?_); rintro e wa ⟨rfl, hb1⟩
    have hfin := hb.trans (hb1.mono hb.size)
    go_wp2_with fail
    go_ret
    exact ⟨rfl, hfin⟩
  · have q13 := row_cell BX.out 0
    have q14 := row_cell BX.out 1
    have q15 := row_cell BX.out 2
    have q16 := row_cell BX.out 3
    have q17 := row_cell BX.out 4
    have q18 := row_cell BT.out 0
    have q19 := row_cell BT.out 1
    have q20 := row_cell BT.out 2
    have q21 := row_fz BX.out 0
    have q22 := row_fz BX.out 1
    have q23 := row_fz BX.out 2
    have q24 := row_fz BX.out 3
    have q25 := row_fz BX.out 4
    have q26 := row_lt BX.out
    have q27 := row_lt BT.out
    go_wp2_with fail
    clear q13 q14 q15 q16 q17 q18 q19 q20 q21 q22 q23 q24 q25 q26 q27
    have lq : w2.heap.size < W3.heap.size := by omega
    obtain ⟨W4, hW4⟩ : ∃ y, W3.setCell ⟨w2.heap.size, 4, none⟩ (.int .i64 (wrap64 (x.2.2.2 + b))) = y := ⟨_, rfl⟩
    rw [hW4]
    replace BX : Hid (W4.heap[w2.heap.size]? = some (.cells (lzc ((x.1, x.2.1, x.2.2.1, wrap64 (x.2.2.2 + b)) : Lz)) 31 (0, 0))) := lid (by rw [← hW4]; exact row_set BX.out 4 _)
    replace BT : Hid (W4.heap[w.heap.size]? = some (.cells (tcells t (some ⟨b1, o1, none⟩) n cap) 24 (0, 0))) := lid (by rw [← hW4]; exact row_other BT.out (by omega))
    replace HA : Hid (LsB W4 0 (some ⟨b1, o1, none⟩) n cap t) := lid (by rw [← hW4]; exact HA.out.setHi HNE.out (Nat.le_refl _))
    replace hb : Below w.heap.size w W4 := by rw [← hW4]; exact hb.setCell (p := ⟨w2.heap.size, 4, none⟩) (by simp only; omega) _
    clear hW4
    have HM := lid (stranger HV.out HXM.out (y := ((x.1, x.2.1, x.2.2.1, wrap64 (x.2.2.2 + b)) : Lz)) (fun e => wrap_other hby hb1 hb2 (congrArg (fun z : Lz => z.2.2.2) e)) (.inr ⟨rfl, rfl⟩))
    have hsz : (((x.1, x.2.1, x.2.2.1, wrap64 (x.2.2.2 + b)) : Lz)).2.1.size ≤ maxLen := by simp only [maxLen]; omega
    have CR := lid (renew_any t (some ⟨b1, o1, none⟩) n cap ((x.1, x.2.1, x.2.2.1, wrap64 (x.2.2.2 + b)) : Lz) 1 W4 HA.out.A HA.out.le HA.out.z hsz)
    have HE := lid (renew_2 (check_iff.2 HV.out) HM.out 1)
    rw [(renew_bad HE.out (by decide)).1, (renew_bad HE.out (by decide)).2, HE.out] at CR
    have CL := lid (fun w h => release_any t (some ⟨b1, o1, none⟩) n cap ((x.1, x.2.1, x.2.2.1, wrap64 (x.2.2.2 + b)) : Lz) w h HA.out.le HA.out.z)
    have HE2 := lid (rel_2 (check_iff.2 HV.out) HM.out)
    rw [rel_bad HE2.out (by decide), HE2.out] at CL
    have CH := lid (fun w h => holds_any t (some ⟨b1, o1, none⟩) n cap ((x.1, x.2.1, x.2.2.1, wrap64 (x.2.2.2 + b)) : Lz) w h HA.out.le)
    rw [holds_eq HV.out, HM.out] at CH
    clear HE HE2 HM hsz
    (with_reducible refine (CR.out).mono ?_); rintro e w5 ⟨_, rfl, ⟨ao1, n1, cap1, rfl, hA⟩, hb1'⟩
    clear CR
    replace HA := lid (HA.out.below hb1')
    replace BT := lid ((hb1'.block _ (row_lt BT.out)).trans BT.out)
    replace BX := lid ((hb1'.block _ (row_lt BX.out)).trans BX.out)
    replace hb := hb.trans (hb1'.mono hb.size)
    have mw5 := hb1'.size
    clear hb1'
    have HA1 := lid hA
    clear hA
    have q28 := row_cell BT.out 0
    have q29 := row_cell BT.out 1
    have q30 := row_cell BT.out 2
    have q31 := row_cell BX.out 0
    have q32 := row_cell BX.out 1
    have q33 := row_cell BX.out 2
    have q34 := row_cell BX.out 3
    have q35 := row_cell BX.out 4
    have q36 := row_lt BT.out
    have q37 := row_lt BX.out
    go_wp2_with fail
    clear q28 q29 q30 q31 q32 q33 q34 q35 q36 q37
    have lBTw5 := row_lt BT.out
    have lBXw5 := row_lt BX.out
    have bw5 : w.heap.size ≤ w5.heap.size := hb.size
    obtain ⟨W5, hW⟩ : ∃ y, (w5.alloc (.cells (tcells ls0 ao1 n1 cap1) 24)).alloc (.cells (lzc lz0) 31) = y := ⟨_, rfl⟩
    rw [hW]
    have hbW : Below w5.heap.size w5 W5 := by rw [← hW]; exact (((Below.refl w5.heap.size w5).alloc (Nat.le_refl _) _).alloc (by simp only [World.size_alloc]; omega) _)
    have gW5 : w5.heap.size + 1 < W5.heap.size := by rw [← hW]; simp only [World.size_alloc]; omega
    have BT1 : Hid (W5.heap[w5.heap.size]? = some (.cells (tcells ls0 ao1 n1 cap1) 24 (0, 0))) := lid (by
      rw [← hW]
      iterate 1 rw [Below.heap_alloc _ _ _ (by simp only [World.size_alloc]; omega)]
      have := heap_alloc_new w5 (.cells (tcells ls0 ao1 n1 cap1) 24)
      exact this)
    have BX1 : Hid (W5.heap[w5.heap.size + 1]? = some (.cells (lzc lz0) 31 (0, 0))) := lid (by
      rw [← hW]
      have := heap_alloc_new (w5.alloc (.cells (tcells ls0 ao1 n1 cap1) 24)) (.cells (lzc lz0) 31)
      simp only [World.size_alloc] at this
      exact this)
    clear hW
    replace HA := lid (HA.out.below hbW)
    replace BT := lid ((hbW.block _ (row_lt BT.out)).trans BT.out)
    replace BX := lid ((hbW.block _ (row_lt BX.out)).trans BX.out)
    replace HA1 := lid (HA1.out.below hbW)
    replace hb := hb.trans (hbW.mono hb.size)
    have mW5 := hbW.size
    clear hbW
    (with_reducible refine (CL.out W5 HA.out.A).mono ?_); rintro e w6 ⟨_, rfl, ⟨ao2, n2, cap2, rfl, hA⟩, hb1'⟩
    replace HA := lid (HA.out.below hb1')
    replace BT := lid ((hb1'.block _ (row_lt BT.out)).trans BT.out)
    replace BX := lid ((hb1'.block _ (row_lt BX.out)).trans BX.out)
    replace HA1 := lid (HA1.out.below hb1')
    replace BT1 := lid ((hb1'.block _ (row_lt BT1.out)).trans BT1.out)
    replace BX1 := lid ((hb1'.block _ (row_lt BX1.out)).trans BX1.out)
    replace hb := hb.trans (hb1'.mono hb.size)
    have mw6 := hb1'.size
    clear hb1'
    have HA2 := lid hA
    clear hA CL
    have q38 := row_cell BT.out 0
    have q39 := row_cell BT.out 1
    have q40 := row_cell BT.out 2
    have q41 := row_cell BX.out 0
    have q42 := row_cell BX.out 1
    have q43 := row_cell BX.out 2
    have q44 := row_cell BX.out 3
    have q45 := row_cell BX.out 4
    have q46 := row_lt BT.out
    have q47 := row_lt BX.out
    go_wp2_with fail
    clear q38 q39 q40 q41 q42 q43 q44 q45 q46 q47
    have lBTw6 := row_lt BT.out
    have lBXw6 := row_lt BX.out
    have lBT1w6 := row_lt BT1.out
    have lBX1w6 := row_lt BX1.out
    have bw6 : w.heap.size ≤ w6.heap.size := hb.size
    obtain ⟨W6, hW⟩ : ∃ y, w6.alloc (.cells (tcells ls0 ao2 n2 cap2) 24) = y := ⟨_, rfl⟩
    rw [hW]
    have hbW : Below w6.heap.size w6 W6 := by rw [← hW]; exact ((Below.refl w6.heap.size w6).alloc (Nat.le_refl _) _)
    have gW6 : w6.heap.size + 0 < W6.heap.size := by rw [← hW]; simp only [World.size_alloc]; omega
    have BT2 : Hid (W6.heap[w6.heap.size]? = some (.cells (tcells ls0 ao2 n2 cap2) 24 (0, 0))) := lid (by
      rw [← hW]
      have := heap_alloc_new w6 (.cells (tcells ls0 ao2 n2 cap2) 24)
      exact this)
    clear hW
    replace HA := lid (HA.out.below hbW)
    replace BT := lid ((hbW.block _ (row_lt BT.out)).trans BT.out)
    replace BX := lid ((hbW.block _ (row_lt BX.out)).trans BX.out)
    replace HA1 := lid (HA1.out.below hbW)
    replace BT1 := lid ((hbW.block _ (row_lt BT1.out)).trans BT1.out)
    replace BX1 := lid ((hbW.block _ (row_lt BX1.out)).trans BX1.out)
    replace HA2 := lid (HA2.out.below hbW)
    replace hb := hb.trans (hbW.mono hb.size)
    have mW6 := hbW.size
    clear hbW
    (with_reducible refine (CH.out W6 HA.out.A).mono ?_); rintro e w7 ⟨rfl, hb1'⟩
    clear CH
    replace HA := lid (HA.out.below hb1')
    replace BT := lid ((hb1'.block _ (row_lt BT.out)).trans BT.out)
    replace BX := lid ((hb1'.block _ (row_lt BX.out)).trans BX.out)
    replace HA1 := lid (HA1.out.below hb1')
    replace BT1 := lid ((hb1'.block _ (row_lt BT1.out)).trans BT1.out)
    replace BX1 := lid ((hb1'.block _ (row_lt BX1.out)).trans BX1.out)
    replace HA2 := lid (HA2.out.below hb1')
    replace BT2 := lid ((hb1'.block _ (row_lt BT2.out)).trans BT2.out)
    replace hb := hb.trans (hb1'.mono hb.size)
    have mw7 := hb1'.size
    clear hb1'
    go_wp2_with fail
    (with_reducible refine (awake_any _).mono ?_); rintro e wa ⟨rfl, hb1⟩
    have hfin := hb.trans (hb1.mono hb.size)
    go_wp2_with fail
    go_ret
    exact ⟨rfl, hfin⟩
end Go.Proofs.Ytghkldodceamcaa
