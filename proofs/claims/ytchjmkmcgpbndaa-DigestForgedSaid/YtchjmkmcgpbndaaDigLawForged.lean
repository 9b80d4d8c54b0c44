/-
  The law DigestForged returns true and makes new memory alone.
-/
import Derived.Test.YtchjmkmcgpbndaaDigApart
import Derived.Test.YtchjmkmcgpbndaaDigAwake
import Derived.Test.YtchjmkmcgpbndaaDigVerify
namespace Go.Proofs.Ytchjmkmcgpbndaa
open Go.RowKit

/-- '==' of two digests, in a region. -/
theorem quiet_eq_dg2 {C : World → Prop} {K : Act → Prop} {a : Act} {o : Oper} (q r : Dg) (v : Bool) (x y : Operand) (h : o.op = .binOp .eql 24 x y 24)
    (hx : a.eval x = dv q) (hy : a.eval y = dv r) (hv : decide (q = r) = v) (hk : K (a.put o.dst (.bool v))) : o.quiet Try.prog a C K := by
  refine ⟨.bool v, fun w _ => ?_, hk⟩
  subst hv
  unfold Oper.quietAt execOp
  rw [h]
  simp only [hx, hy]
  simp [go_sem]
  exact beq_dg q r

set_option maxRecDepth 100000 in
set_option maxHeartbeats 4000000 in
theorem LawForged_any (l : List Dg) (n cap : Nat) (ao : Option Addr) (root d : Dg) (N i : Int) (p : List Dg) (po : Option Addr) (len pcap : Nat) (w : World) (hn : l.length = n) (hcap : n ≤ cap) (hcm : cap ≤ maxLen) (hs : DSl w ao l) (hp : p.length = len) (hpc : len ≤ pcap) (hpm : pcap ≤ maxLen) (hps : DSl w po p) :
    Calls Try.prog 9 #[.slice ao n cap, .agg #[.int .u64 root.1.toNat, .int .u64 root.2.toNat, .int .i64 N, .int .i64 i, .int .u64 d.1.toNat, .int .u64 d.2.toNat, .slice po len pcap]] w fun e w' => e = .returned (.bool true) ∧ Below w.heap.size w w' := by
  have HN := lid hn
  have HP := lid hp
  have hnm : n ≤ 9223372036854775807 := Nat.le_trans hcap hcm
  have hlm : len ≤ 9223372036854775807 := Nat.le_trans hpc hpm
  have hb0 := ba w (Obj.cells #[.int .u64 root.1.toNat, .int .u64 root.2.toNat, .int .i64 N, .int .i64 i, .int .u64 d.1.toNat, .int .u64 d.2.toNat, .slice po len pcap] 33)
  have HS0 := lid (hs.below hb0)
  have HPS0 := lid (hps.below hb0)
  have hz0 : w.heap.size < (w.alloc (Obj.cells #[.int .u64 root.1.toNat, .int .u64 root.2.toNat, .int .i64 N, .int .i64 i, .int .u64 d.1.toNat, .int .u64 d.2.toNat, .slice po len pcap] 33)).heap.size := by simp
  have k3 : (w.alloc (Obj.cells #[.int .u64 root.1.toNat, .int .u64 root.2.toNat, .int .i64 N, .int .i64 i, .int .u64 d.1.toNat, .int .u64 d.2.toNat, .slice po len pcap] 33)).cell? ⟨w.heap.size, 3, none⟩ = some (.int .i64 i) := by simp
  have k4 : (w.alloc (Obj.cells #[.int .u64 root.1.toNat, .int .u64 root.2.toNat, .int .i64 N, .int .i64 i, .int .u64 d.1.toNat, .int .u64 d.2.toNat, .slice po len pcap] 33)).cell? ⟨w.heap.size, 4, none⟩ = some (.int .u64 d.1.toNat) := by simp
  have k5 : (w.alloc (Obj.cells #[.int .u64 root.1.toNat, .int .u64 root.2.toNat, .int .i64 N, .int .i64 i, .int .u64 d.1.toNat, .int .u64 d.2.toNat, .slice po len pcap] 33)).cell? ⟨w.heap.size, 5, none⟩ = some (.int .u64 d.2.toNat) := by simp
  have k6 : (w.alloc (Obj.cells #[.int .u64 root.1.toNat, .int .u64 root.2.toNat, .int .i64 N, .int .i64 i, .int .u64 d.1.toNat, .int .u64 d.2.toNat, .slice po len pcap] 33)).cell? ⟨w.heap.size, 6, none⟩ = some (.slice po len pcap) := by simp
  clear hn hp hs hps
  go_enter Try.func9, Try.ntmps9
  go_wp2_with fail
  generalize w.alloc (Obj.cells #[.int .u64 root.1.toNat, .int .u64 root.2.toNat, .int .i64 N, .int .i64 i, .int .u64 d.1.toNat, .int .u64 d.2.toNat, .slice po len pcap] 33) = w1 at *
  refine wp_region_seq (fun w' => ∃ s : Since w1.heap.size w1, w' = s.world) [(0, true), (1, true), (2, true), (3, true), (4, true), (5, true), (6, false), (7, false), (8, false), (9, false)] (by kernel_rfl) (by kernel_rfl) (by intro c d v a w h; cases d <;> exact h) (since (Below.refl _ _).drew) ?_
  repeat (first | (refine seq_skip (by rfl) (by rfl) ?_; simp only [Act.put, List.setIfInBounds_toArray, List.set_cons_succ, List.set_cons_zero]) | (refine seq_float (by rfl) (by rfl) (by rfl) ?_; intro K hK; go_big_quiet_op; go_big_quiet_on))
  refine seq_chain (by rfl) ?_
  intro K hK
  go_wp2_with fail
  refine hK.out _ _ (since ((Below.refl _ _).drew.alloc (by simp) _)) ?_
  clear hK K
  repeat (first | (refine seq_skip (by rfl) (by rfl) ?_; simp only [Act.put, List.setIfInBounds_toArray, List.set_cons_succ, List.set_cons_zero]) | (refine seq_float (by rfl) (by rfl) (by rfl) ?_; intro K hK; go_big_quiet_op; go_big_quiet_on))
  refine seq_chain (by rfl) ?_
  intro K hK
  go_wp2_with fail
  refine hK.out _ _ (since ((Below.refl _ _).drew.alloc (by simp) _)) ?_
  clear hK K
  repeat (first | (refine seq_skip (by rfl) (by rfl) ?_; simp only [Act.put, List.setIfInBounds_toArray, List.set_cons_succ, List.set_cons_zero]) | (refine seq_float (by rfl) (by rfl) (by rfl) ?_; intro K hK; go_big_quiet_op; go_big_quiet_on))
  refine seq_chain (by rfl) ?_
  intro K hK
  go_wp2_with fail
  obtain ⟨W2, hW2⟩ : ∃ W2, (w1.alloc (Obj.cells #[Value.int .u64 d.1.toNat, Value.int .u64 d.2.toNat] 24)).drew = W2 := ⟨_, rfl⟩
  have hc0 : DBox W2 w1.heap.size d := by rw [← hW2]; exact DBox.new w1 d _
  have hB2 : Below w1.heap.size w1 W2 := by rw [← hW2]; exact (ba _ _).drew
  rw [hW2]
  clear hW2 k3 k4 k5 k6
  refine hK.out _ _ (since hB2) ?_
  clear hK K
  repeat (first | (refine seq_skip (by rfl) (by rfl) ?_; simp only [Act.put, List.setIfInBounds_toArray, List.set_cons_succ, List.set_cons_zero]) | (refine seq_float (by rfl) (by rfl) (by rfl) ?_; intro K hK; go_big_quiet_op; go_big_quiet_on))
  refine seq_chain (by rfl) ?_
  intro K hK
  go_wp2_with fail
  refine hK.out _ _ (since hB2) ?_
  clear hK K
  repeat (first | (refine seq_skip (by rfl) (by rfl) ?_; simp only [Act.put, List.setIfInBounds_toArray, List.set_cons_succ, List.set_cons_zero]) | (refine seq_float (by rfl) (by rfl) (by rfl) ?_; intro K hK; go_big_quiet_op; go_big_quiet_on))
  refine seq_nil ?_
  have hB0 := hb0.trans (hB2.mono hb0.size)
  have HS := lid (HS0.out.below hB2)
  have HPS := lid (HPS0.out.below hB2)
  obtain ⟨q0, q1, q2⟩ := hc0
  clear HS0 HPS0 hB2 hb0 hz0
  have HB0 := lid hB0
  clear hB0
  go_wp2_with fail
  by_cases h20 : n ≤ 20
  · have t1 : decide ((20 : Int) < n) = false := by simp; omega
    have t1' : decide (20 < n) = false := by simp; omega
    by_cases h50 : len ≤ 50
    · have t2 : decide ((50 : Int) < len) = false := by simp; omega
      have t2' : decide (50 < len) = false := by simp; omega
      by_cases hi0 : 0 ≤ i
      · obtain ⟨I, rfl⟩ := Int.eq_ofNat_of_zero_le hi0
        have t3 : decide ((I : Int) < 0) = false := by simp
        by_cases hin : (I : Int) < n
        · have hI : I < n := by omega
          have hIl : I < l.length := by rw [HN.out]; exact hI
          obtain ⟨b, off, rfl, hb, hc⟩ : ∃ b off, ao = some ⟨b, off, none⟩ ∧ b < W2.heap.size ∧ DCells W2 b off l := HS.out.resolve_left (by omega)
          obtain ⟨c0, c1⟩ := hc I hIl
          have t4 : decide ((n : Int) ≤ (I : Int)) = false := by simp; omega
          have t4' : decide (n ≤ I) = false := by simp; omega
          obtain ⟨x, hx⟩ : ∃ x, l[I] = x := ⟨_, rfl⟩
          rw [hx] at c0 c1
          have HX := lid hx
          have CR := lid (fun w1 (hb1 : Below W2.heap.size W2 w1) => root_any n l n b off cap w1 HN.out (Nat.le_refl _) (by omega) hcap (by omega) (Nat.lt_of_lt_of_le hb hb1.size) (hc.below hb1 hb))
          have HCC := lid hc
          clear hx hc HS
          by_cases hdx : d = x
          · subst hdx
            refine wp_region_seq (fun w' => ∃ s : Since W2.heap.size W2, w' = s.world) [(0, true), (1, true), (2, true), (3, true), (4, true), (5, true), (6, true), (7, true), (8, true), (9, true), (10, true), (11, true), (12, true), (13, true), (14, true), (15, true), (16, true), (17, true), (18, true), (19, true), (20, true), (21, true), (22, true), (23, true), (24, true), (25, true), (26, true), (27, true), (29, true), (30, true), (31, true), (32, true), (33, true), (28, false), (34, false), (35, true), (36, true)] (by kernel_rfl) (by kernel_rfl) (by intro c d v a w h; cases d <;> exact h) (since (Below.refl _ _).drew) ?_
            repeat (first | (refine seq_skip (by rfl) (by rfl) ?_; simp only [Act.put, List.setIfInBounds_toArray, List.set_cons_succ, List.set_cons_zero]) | (refine seq_float (by rfl) (by rfl) (by rfl) ?_; intro K hK; go_big_quiet_op; go_big_quiet_on))
            refine seq_chain (by rfl) ?_
            intro K hK
            go_wp2_with fail
            refine hK.out _ _ (since (Below.refl _ _).drew) ?_
            clear hK K
            repeat (first | (refine seq_skip (by rfl) (by rfl) ?_; simp only [Act.put, List.setIfInBounds_toArray, List.set_cons_succ, List.set_cons_zero]) | (refine seq_float (by rfl) (by rfl) (by rfl) ?_; intro K hK; go_big_quiet_op; go_big_quiet_on))
            refine seq_chain (by rfl) ?_
            intro K hK
            go_wp2_with fail
            refine hK.out _ _ (since (Below.refl _ _).drew) ?_
            clear hK K
            repeat (first | (refine seq_skip (by rfl) (by rfl) ?_; simp only [Act.put, List.setIfInBounds_toArray, List.set_cons_succ, List.set_cons_zero]) | (refine seq_float (by rfl) (by rfl) (by rfl) ?_; intro K hK; go_big_quiet_op; go_big_quiet_on))
            refine seq_nil ?_
            go_wp2_with fail
            (with_reducible refine (awake_any _).mono ?_); rintro e w3 ⟨rfl, hb3⟩
            go_wp2_with fail
            go_ret
            exact ⟨rfl, HB0.out.trans (((Below.refl _ _).drew.trans hb3).mono HB0.out.size)⟩
          · have HDX := lid hdx
            obtain ⟨V, hV⟩ : ∃ V, verifyD (rootD l) n (I : Int) d p = V := ⟨_, rfl⟩
            have HV := lid hV
            clear hV
            refine wp_region_seq (fun w' => ∃ s : Since W2.heap.size W2, w' = s.world) [(0, true), (1, true), (2, true), (3, true), (4, true), (5, true), (6, true), (7, true), (8, true), (9, true), (10, true), (11, true), (12, true), (13, true), (14, true), (15, true), (16, true), (17, true), (18, true), (19, true), (20, true), (21, true), (22, true), (23, true), (24, true), (25, true), (26, true), (27, true), (29, true), (30, true), (31, true), (32, true), (33, true), (28, false), (34, false), (35, true), (36, true)] (by kernel_rfl) (by kernel_rfl) (by intro c d v a w h; cases d <;> exact h) (since (Below.refl _ _).drew) ?_
            iterate 24 (first | (refine seq_skip (by rfl) (by rfl) ?_; simp only [Act.put, List.setIfInBounds_toArray, List.set_cons_succ, List.set_cons_zero]) | (refine seq_float (by rfl) (by rfl) (by rfl) ?_; intro K hK; go_big_quiet_op; go_big_quiet_on))
            refine seq_float (by rfl) (by rfl) (by rfl) ?_; intro K hK
            refine quiet_eq_dg2 d x false _ _ rfl rfl rfl (by simp [hdx]) ?_
            simp only [Act.put, List.setIfInBounds_toArray, List.set_cons_succ, List.set_cons_zero]
            go_big_quiet_on
            repeat (first | (refine seq_skip (by rfl) (by rfl) ?_; simp only [Act.put, List.setIfInBounds_toArray, List.set_cons_succ, List.set_cons_zero]) | (refine seq_float (by rfl) (by rfl) (by rfl) ?_; intro K hK; go_big_quiet_op; go_big_quiet_on))
            clear hdx
            refine seq_chain (by rfl) ?_
            intro K hK
            go_wp2_with fail
            (with_reducible refine (CR.out _ (Below.refl _ _).drew).mono ?_); rintro e w3 ⟨rfl, hb3⟩
            have hs3 : Below W2.heap.size W2 w3 := (Below.refl _ _).drew.trans hb3
            go_wp2_with fail
            refine hK.out _ _ (since hs3) ?_
            clear hK K
            repeat (first | (refine seq_skip (by rfl) (by rfl) ?_; simp only [Act.put, List.setIfInBounds_toArray, List.set_cons_succ, List.set_cons_zero]) | (refine seq_float (by rfl) (by rfl) (by rfl) ?_; intro K hK; go_big_quiet_op; go_big_quiet_on))
            refine seq_chain (by rfl) ?_
            intro K hK
            go_wp2_with fail
            (with_reducible refine (Verify_any (rootD l) n (I : Int) d p po len pcap _ HP.out hpc (by omega) (HPS.out.below hs3)).mono ?_); rintro e w4 ⟨rfl, hb4⟩
            rw [HV.out]
            have hs4 := hs3.trans (hb4.mono hs3.size)
            go_wp2_with fail
            refine hK.out _ _ (since hs4) ?_
            clear hK K
            repeat (first | (refine seq_skip (by rfl) (by rfl) ?_; simp only [Act.put, List.setIfInBounds_toArray, List.set_cons_succ, List.set_cons_zero]) | (refine seq_float (by rfl) (by rfl) (by rfl) ?_; intro K hK; go_big_quiet_op; go_big_quiet_on))
            refine seq_nil ?_
            have v1 := (bc hs4 q0 0).trans q1
            have v2 := (bc hs4 q0 1).trans q2
            have l4 : w1.heap.size < w4.heap.size := by have := hs4.size; omega
            have HPS4 := lid (HPS.out.below hs4)
            have HCC4 := lid (HCC.out.below hs4 hb)
            have hb4' : b < w4.heap.size := by have := hs4.size; omega
            cases V with
            | false =>
              go_wp2_with fail
              (with_reducible refine (awake_any _).mono ?_); rintro e w5 ⟨rfl, hb5⟩
              go_wp2_with fail
              go_ret
              exact ⟨rfl, HB0.out.trans ((hs4.trans (hb5.mono hs4.size)).mono HB0.out.size)⟩
            | true =>
              have hv := HV.out
              rw [verifyD_in _ _ _ (by omega), Bool.and_eq_true, decide_eq_true_eq] at hv
              have HAP := lid (apart_any len p l n (I : Int) d b off cap po len pcap w4 HN.out HP.out (Nat.le_refl _) hcap hpc (by omega) (by omega) (by omega) (by omega) (by omega) hb4' HCC4.out HPS4.out hv.1 hv.2 (by
                show l[I]? ≠ _
                rw [List.getElem?_eq_getElem hIl, HX.out]
                intro e
                exact HDX.out (by simpa using e.symm)))
              clear hv
              go_wp2_with fail
              (with_reducible refine (HAP.out).mono ?_); rintro e w5 ⟨rfl, hb5⟩
              go_wp2_with fail
              (with_reducible refine (awake_any _).mono ?_); rintro e w6 ⟨rfl, hb6⟩
              go_wp2_with fail
              go_ret
              exact ⟨rfl, HB0.out.trans ((hs4.trans ((hb5.trans (hb6.mono hb5.size)).mono hs4.size)).mono HB0.out.size)⟩
        · have t4 : decide ((n : Int) ≤ (I : Int)) = true := by simp; omega
          have t4' : decide (n ≤ I) = true := by simp; omega
          refine wp_region_seq (fun w' => ∃ s : Since W2.heap.size W2, w' = s.world) [(0, true), (1, true), (2, true), (3, true), (4, true), (5, true), (6, true), (7, true), (8, true), (9, true), (10, true), (11, true), (12, true), (13, true), (14, true), (15, true), (16, true), (17, true), (18, true), (19, true), (20, true), (21, true), (22, true), (23, true), (24, true), (25, true), (26, true), (27, true), (29, true), (30, true), (31, true), (32, true), (33, true), (28, false), (34, false), (35, true), (36, true)] (by kernel_rfl) (by kernel_rfl) (by intro c d v a w h; cases d <;> exact h) (since (Below.refl _ _).drew) ?_
          repeat (first | (refine seq_skip (by rfl) (by rfl) ?_; simp only [Act.put, List.setIfInBounds_toArray, List.set_cons_succ, List.set_cons_zero]) | (refine seq_float (by rfl) (by rfl) (by rfl) ?_; intro K hK; go_big_quiet_op; go_big_quiet_on))
          refine seq_chain (by rfl) ?_
          intro K hK
          go_wp2_with fail
          refine hK.out _ _ (since (Below.refl _ _).drew) ?_
          clear hK K
          repeat (first | (refine seq_skip (by rfl) (by rfl) ?_; simp only [Act.put, List.setIfInBounds_toArray, List.set_cons_succ, List.set_cons_zero]) | (refine seq_float (by rfl) (by rfl) (by rfl) ?_; intro K hK; go_big_quiet_op; go_big_quiet_on))
          refine seq_chain (by rfl) ?_
          intro K hK
          go_wp2_with fail
          refine hK.out _ _ (since (Below.refl _ _).drew) ?_
          clear hK K
          repeat (first | (refine seq_skip (by rfl) (by rfl) ?_; simp only [Act.put, List.setIfInBounds_toArray, List.set_cons_succ, List.set_cons_zero]) | (refine seq_float (by rfl) (by rfl) (by rfl) ?_; intro K hK; go_big_quiet_op; go_big_quiet_on))
          refine seq_nil ?_
          go_wp2_with fail
          (with_reducible refine (awake_any _).mono ?_); rintro e w3 ⟨rfl, hb3⟩
          go_wp2_with fail
          go_ret
          exact ⟨rfl, HB0.out.trans (((Below.refl _ _).drew.trans hb3).mono HB0.out.size)⟩
      · have t3 : decide (i < 0) = true := by simp; omega
        have t3' : i < 0 := by omega
        refine wp_region_seq (fun w' => ∃ s : Since W2.heap.size W2, w' = s.world) [(0, true), (1, true), (2, true), (3, true), (4, true), (5, true), (6, true), (7, true), (8, true), (9, true), (10, true), (11, true), (12, true), (13, true), (14, true), (15, true), (16, true), (17, true), (18, true), (19, true), (20, true), (21, true), (22, true), (23, true), (24, true), (25, true), (26, true), (27, true), (29, true), (30, true), (31, true), (32, true), (33, true), (28, false), (34, false), (35, true), (36, true)] (by kernel_rfl) (by kernel_rfl) (by intro c d v a w h; cases d <;> exact h) (since (Below.refl _ _).drew) ?_
        repeat (first | (refine seq_skip (by rfl) (by rfl) ?_; simp only [Act.put, List.setIfInBounds_toArray, List.set_cons_succ, List.set_cons_zero]) | (refine seq_float (by rfl) (by rfl) (by rfl) ?_; intro K hK; go_big_quiet_op; go_big_quiet_on))
        refine seq_chain (by rfl) ?_
        intro K hK
        go_wp2_with fail
        refine hK.out _ _ (since (Below.refl _ _).drew) ?_
        clear hK K
        repeat (first | (refine seq_skip (by rfl) (by rfl) ?_; simp only [Act.put, List.setIfInBounds_toArray, List.set_cons_succ, List.set_cons_zero]) | (refine seq_float (by rfl) (by rfl) (by rfl) ?_; intro K hK; go_big_quiet_op; go_big_quiet_on))
        refine seq_chain (by rfl) ?_
        intro K hK
        go_wp2_with fail
        refine hK.out _ _ (since (Below.refl _ _).drew) ?_
        clear hK K
        repeat (first | (refine seq_skip (by rfl) (by rfl) ?_; simp only [Act.put, List.setIfInBounds_toArray, List.set_cons_succ, List.set_cons_zero]) | (refine seq_float (by rfl) (by rfl) (by rfl) ?_; intro K hK; go_big_quiet_op; go_big_quiet_on))
        refine seq_nil ?_
        go_wp2_with fail
        (with_reducible refine (awake_any _).mono ?_); rintro e w3 ⟨rfl, hb3⟩
        go_wp2_with fail
        go_ret
        exact ⟨rfl, HB0.out.trans (((Below.refl _ _).drew.trans hb3).mono HB0.out.size)⟩
    · have t2 : decide ((50 : Int) < len) = true := by simp; omega
      have t2' : decide (50 < len) = true := by simp; omega
      refine wp_region_seq (fun w' => ∃ s : Since W2.heap.size W2, w' = s.world) [(0, true), (1, true), (2, true), (3, true), (4, true), (5, true), (6, true), (7, true), (8, true), (9, true), (10, true), (11, true), (12, true), (13, true), (14, true), (15, true), (16, true), (17, true), (18, true), (19, true), (20, true), (21, true), (22, true), (23, true), (24, true), (25, true), (26, true), (27, true), (29, true), (30, true), (31, true), (32, true), (33, true), (28, false), (34, false), (35, true), (36, true)] (by kernel_rfl) (by kernel_rfl) (by intro c d v a w h; cases d <;> exact h) (since (Below.refl _ _).drew) ?_
      repeat (first | (refine seq_skip (by rfl) (by rfl) ?_; simp only [Act.put, List.setIfInBounds_toArray, List.set_cons_succ, List.set_cons_zero]) | (refine seq_float (by rfl) (by rfl) (by rfl) ?_; intro K hK; go_big_quiet_op; go_big_quiet_on))
      refine seq_chain (by rfl) ?_
      intro K hK
      go_wp2_with fail
      refine hK.out _ _ (since (Below.refl _ _).drew) ?_
      clear hK K
      repeat (first | (refine seq_skip (by rfl) (by rfl) ?_; simp only [Act.put, List.setIfInBounds_toArray, List.set_cons_succ, List.set_cons_zero]) | (refine seq_float (by rfl) (by rfl) (by rfl) ?_; intro K hK; go_big_quiet_op; go_big_quiet_on))
      refine seq_chain (by rfl) ?_
      intro K hK
      go_wp2_with fail
      refine hK.out _ _ (since (Below.refl _ _).drew) ?_
      clear hK K
      repeat (first | (refine seq_skip (by rfl) (by rfl) ?_; simp only [Act.put, List.setIfInBounds_toArray, List.set_cons_succ, List.set_cons_zero]) | (refine seq_float (by rfl) (by rfl) (by rfl) ?_; intro K hK; go_big_quiet_op; go_big_quiet_on))
      refine seq_nil ?_
      go_wp2_with fail
      (with_reducible refine (awake_any _).mono ?_); rintro e w3 ⟨rfl, hb3⟩
      go_wp2_with fail
      go_ret
      exact ⟨rfl, HB0.out.trans (((Below.refl _ _).drew.trans hb3).mono HB0.out.size)⟩
  · have t1 : decide ((20 : Int) < n) = true := by simp; omega
    have t1' : decide (20 < n) = true := by simp; omega
    refine wp_region_seq (fun w' => ∃ s : Since W2.heap.size W2, w' = s.world) [(0, true), (1, true), (2, true), (3, true), (4, true), (5, true), (6, true), (7, true), (8, true), (9, true), (10, true), (11, true), (12, true), (13, true), (14, true), (15, true), (16, true), (17, true), (18, true), (19, true), (20, true), (21, true), (22, true), (23, true), (24, true), (25, true), (26, true), (27, true), (29, true), (30, true), (31, true), (32, true), (33, true), (28, false), (34, false), (35, true), (36, true)] (by kernel_rfl) (by kernel_rfl) (by intro c d v a w h; cases d <;> exact h) (since (Below.refl _ _).drew) ?_
    repeat (first | (refine seq_skip (by rfl) (by rfl) ?_; simp only [Act.put, List.setIfInBounds_toArray, List.set_cons_succ, List.set_cons_zero]) | (refine seq_float (by rfl) (by rfl) (by rfl) ?_; intro K hK; go_big_quiet_op; go_big_quiet_on))
    refine seq_chain (by rfl) ?_
    intro K hK
    go_wp2_with fail
    refine hK.out _ _ (since (Below.refl _ _).drew) ?_
    clear hK K
    repeat (first | (refine seq_skip (by rfl) (by rfl) ?_; simp only [Act.put, List.setIfInBounds_toArray, List.set_cons_succ, List.set_cons_zero]) | (refine seq_float (by rfl) (by rfl) (by rfl) ?_; intro K hK; go_big_quiet_op; go_big_quiet_on))
    refine seq_chain (by rfl) ?_
    intro K hK
    go_wp2_with fail
    refine hK.out _ _ (since (Below.refl _ _).drew) ?_
    clear hK K
    repeat (first | (refine seq_skip (by rfl) (by rfl) ?_; simp only [Act.put, List.setIfInBounds_toArray, List.set_cons_succ, List.set_cons_zero]) | (refine seq_float (by rfl) (by rfl) (by rfl) ?_; intro K hK; go_big_quiet_op; go_big_quiet_on))
    refine seq_nil ?_
    go_wp2_with fail
    (with_reducible refine (awake_any _).mono ?_); rintro e w3 ⟨rfl, hb3⟩
    go_wp2_with fail
    go_ret
    exact ⟨rfl, HB0.out.trans (((Below.refl _ _).drew.trans hb3).mono HB0.out.size)⟩
end Go.Proofs.Ytchjmkmcgpbndaa
