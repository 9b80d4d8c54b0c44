/-
  claimed: the root that results from a digest and a proof of the right length.
-/
import Derived.Test.YtchjmkmcgpbndaaDigRootOf
import Derived.Test.YtchjmkmcgpbndaaDigRefRoot
import Derived.Test.YtchjmkmcgpbndaaDigInj
namespace Go.Proofs.Ytchjmkmcgpbndaa
open Go.RowKit

theorem new_dg (d : Dg) (W : World) {k : Nat} (h : k = W.heap.size) : (W.alloc (Obj.cells #[Value.int .u64 d.1.toNat, Value.int .u64 d.2.toNat] 24)).cell? ⟨k, 0 + 0 * 2, none⟩ = some (.int .u64 ([d][0]).1.toNat) ∧ (W.alloc (Obj.cells #[Value.int .u64 d.1.toNat, Value.int .u64 d.2.toNat] 24)).cell? ⟨k, 0 + 0 * 2 + 1, none⟩ = some (.int .u64 ([d][0]).2.toNat) := by
  subst h
  simp
set_option maxHeartbeats 1000000 in
theorem claimed_one (i : Int) (d : Dg) (ao : Option Addr) (cap : Nat) (w : World) :
    Calls Try.prog 48 #[.int .i64 1, .int .i64 i, dv d, .slice ao 0 cap] w fun e w' => e = .returned (dv (leafD d)) ∧ Below w.heap.size w w' := by
  have C1 : ∀ (b : Nat) (w : World), b < w.heap.size → DCells w b 0 [d] → Calls Try.prog 19 #[.slice (some ⟨b, 0, none⟩) 1 1] w fun e w' => e = .returned (dv (leafD d)) ∧ Below w.heap.size w w' := fun b w hb hc => by
    have h := root_any 1 [d] 1 b 0 1 w rfl (by omega) (by omega) (by omega) (by omega) hb hc
    rwa [rootD_one] at h
  replace C1 := lid C1
  go_enter Try.func48, Try.ntmps48
  go_wp2_with fail
  have hd : DCells (((w.alloc (Obj.cells #[Value.int .u64 d.1.toNat, Value.int .u64 d.2.toNat] 24)).alloc (Obj.cells #[Value.int .u64 0, Value.int .u64 0] 24)).alloc (Obj.cells #[Value.int .u64 d.1.toNat, Value.int .u64 d.2.toNat] 24)) (w.heap.size + 1 + 1) 0 [d] := fun j hj => by
    obtain rfl : j = 0 := by simpa using hj
    exact new_dg d ((w.alloc (Obj.cells #[Value.int .u64 d.1.toNat, Value.int .u64 d.2.toNat] 24)).alloc (Obj.cells #[Value.int .u64 0, Value.int .u64 0] 24)) (by simp)
  have hz : w.heap.size + 1 + 1 < (((w.alloc (Obj.cells #[Value.int .u64 d.1.toNat, Value.int .u64 d.2.toNat] 24)).alloc (Obj.cells #[Value.int .u64 0, Value.int .u64 0] 24)).alloc (Obj.cells #[Value.int .u64 d.1.toNat, Value.int .u64 d.2.toNat] 24)).heap.size := by rw [World.size_alloc, World.size_alloc, World.size_alloc]; omega
  have hw0 : Below w.heap.size w (((w.alloc (Obj.cells #[Value.int .u64 d.1.toNat, Value.int .u64 d.2.toNat] 24)).alloc (Obj.cells #[Value.int .u64 0, Value.int .u64 0] 24)).alloc (Obj.cells #[Value.int .u64 d.1.toNat, Value.int .u64 d.2.toNat] 24)) := (((Below.refl _ _).alloc (Nat.le_refl _) _).alloc (by simp) _).alloc (by simp <;> omega) _
  have ha : Below (w.heap.size + 1 + 1) ((w.alloc (Obj.cells #[Value.int .u64 d.1.toNat, Value.int .u64 d.2.toNat] 24)).alloc (Obj.cells #[Value.int .u64 0, Value.int .u64 0] 24)) (((w.alloc (Obj.cells #[Value.int .u64 d.1.toNat, Value.int .u64 d.2.toNat] 24)).alloc (Obj.cells #[Value.int .u64 0, Value.int .u64 0] 24)).alloc (Obj.cells #[Value.int .u64 d.1.toNat, Value.int .u64 d.2.toNat] 24)) := (Below.refl _ _).alloc (by simp <;> omega) _
  (with_reducible refine (C1.out _ _ hz hd).mono ?_); rintro e w1 ⟨rfl, hb1⟩
  have hr1 : ∀ o, w1.cell? ⟨w.heap.size + 1, o, none⟩ = ((w.alloc (Obj.cells #[Value.int .u64 d.1.toNat, Value.int .u64 d.2.toNat] 24)).alloc (Obj.cells #[Value.int .u64 0, Value.int .u64 0] 24)).cell? ⟨w.heap.size + 1, o, none⟩ := fun o => (bc hb1 (by omega) o).trans (bc ha (by omega) o)
  have hf1 : ∀ o, w1.frozen? ⟨w.heap.size + 1, o, none⟩ = ((w.alloc (Obj.cells #[Value.int .u64 d.1.toNat, Value.int .u64 d.2.toNat] 24)).alloc (Obj.cells #[Value.int .u64 0, Value.int .u64 0] 24)).frozen? ⟨w.heap.size + 1, o, none⟩ := fun o => (bf hb1 (by omega) o).trans (bf ha (by omega) o)
  go_wp2_with fail
  refine bodyPost_ret (v := dv (leafD d)) (by simp [results, Try.results48, go_sem, hr1]) rfl ⟨rfl, ?_⟩
  exact ((hw0.trans (hb1.mono (by omega))).setCell (by simp) _).setCell (by simp) _

set_option maxHeartbeats 2000000 in
theorem claimed_any (m : Nat) : ∀ (p : List Dg) (n : Nat) (nz : Int) (i : Int) (d : Dg) (ao : Option Addr) (len cap : Nat) (w : World), nz = n → p.length = len → len ≤ m → len ≤ cap → len ≤ 1000000 → 1 ≤ n → n ≤ 1099511627776 → 0 ≤ i → i < n → DSl w ao p → (resultD n i.toNat d p).2 = true →
    Calls Try.prog 48 #[.int .i64 nz, .int .i64 i, dv d, .slice ao len cap] w fun e w' => e = .returned (dv (resultD n i.toNat d p).1) ∧ Below w.heap.size w w' := by
  induction m with
  | zero =>
    intro p n nz i d ao len cap w hnz hp hm hcap hl hn1 hn hi0 hi1 hs hok
    obtain rfl : len = 0 := by omega
    subst hnz
    obtain rfl := List.eq_nil_of_length_eq_zero hp
    obtain rfl := result_nil_one hok
    rw [resultD_one]
    exact claimed_one i d ao cap w
  | succ m ih =>
    intro p n nz i d ao len cap w hnz hp hm hcap hl hn1 hn hi0 hi1 hs hok
    subst hnz
    by_cases h1 : n = 1
    · subst h1
      obtain rfl := result_one_nil hok
      obtain rfl : len = 0 := hp.symm
      rw [resultD_one]
      exact claimed_one i d ao cap w
    rcases List.eq_nil_or_concat p with rfl | ⟨q, e, hqe⟩
    · exact absurd (result_nil_one hok) h1
    · rw [List.concat_eq_append] at hqe
      subst hqe
      have IH := lid ih
      have HOK0 := lid hok
      clear ih hok
      obtain rfl : q.length + 1 = len := by simpa using hp
      obtain ⟨b, off, rfl, hb, hc⟩ : ∃ b off, ao = some ⟨b, off, none⟩ ∧ b < w.heap.size ∧ DCells w b off (q ++ [e]) := hs.resolve_left (by simp)
      obtain ⟨ce0, ce1⟩ := hc q.length (by simp)
      rw [List.getElem_concat_length rfl] at ce0 ce1
      have hsq : DSl w (some ⟨b, off, none⟩) q := .inr ⟨b, off, rfl, hb, by have := hc.take q.length; rwa [List.take_left' rfl] at this⟩
      have hn' : ((n : Int) == 1) = false := by simp; omega
      have hk0 := halfN_pos n
      have hk1 : halfN n < n := halfN_lt (by omega)
      have hn2 : 2 ≤ n := by omega
      have H1 := lid h1
      have hb' : b < w.heap.size + 1 := by omega
      have hwd : Below w.heap.size w ((w.alloc (Obj.cells #[Value.int .u64 d.1.toNat, Value.int .u64 d.2.toNat] 24)).alloc (Obj.cells #[Value.int .u64 0, Value.int .u64 0] 24)).drew := (((Below.refl _ _).alloc (Nat.le_refl _) _).alloc (by simp) _).drew
      have hzd : w.heap.size + 2 ≤ ((w.alloc (Obj.cells #[Value.int .u64 d.1.toNat, Value.int .u64 d.2.toNat] 24)).alloc (Obj.cells #[Value.int .u64 0, Value.int .u64 0] 24)).drew.heap.size := by show _ ≤ ((w.alloc (Obj.cells #[Value.int .u64 d.1.toNat, Value.int .u64 d.2.toNat] 24)).alloc (Obj.cells #[Value.int .u64 0, Value.int .u64 0] 24)).heap.size; rw [World.size_alloc, World.size_alloc]; omega
      have hce0 : ((w.alloc (Obj.cells #[Value.int .u64 d.1.toNat, Value.int .u64 d.2.toNat] 24)).alloc (Obj.cells #[Value.int .u64 0, Value.int .u64 0] 24)).cell? ⟨b, off + q.length * 2, none⟩ = _ := (hwd.cell (p := ⟨b, _, none⟩) hb).trans ce0
      have hce1 : ((w.alloc (Obj.cells #[Value.int .u64 d.1.toNat, Value.int .u64 d.2.toNat] 24)).alloc (Obj.cells #[Value.int .u64 0, Value.int .u64 0] 24)).cell? ⟨b, off + q.length * 2 + 1, none⟩ = _ := (hwd.cell (p := ⟨b, _, none⟩) hb).trans ce1
      clear hp hs hc h1 ce0 ce1
      by_cases hi : i < halfN n
      · have HR := lid (resultD_lo H1.out (i := i.toNat) (by omega) d q e)
        have HOK : Hid ((resultD (halfN n) i.toNat d q).2 = true) := by have := HOK0.out; rw [HR.out] at this; exact lid this
        have HC : Hid (∀ w1, DSl w1 (some ⟨b, off, none⟩) q → Calls Try.prog 48 #[.int .i64 (((halfN n) : Nat) : Int), .int .i64 i, dv d, .slice (some ⟨b, off, none⟩) q.length cap] w1 fun e w' => e = .returned (dv (resultD (halfN n) i.toNat d q).1) ∧ Below w1.heap.size w1 w') := lid fun w1 hs1 => by
          have h := IH.out q (halfN n) _ i d _ _ cap w1 rfl rfl (by omega) (by omega) (by omega) (by omega) (by omega) (by omega) (by omega) hs1 HOK.out
          exact h
        
        go_enter Try.func48, Try.ntmps48
        go_wp2_with fail
        (with_reducible refine (refLeft_any n _ hn2 hn).mono ?_); rintro e w1 ⟨rfl, rfl⟩
        go_wp2_with fail
        refine wp_region_seq (fun w' => ∃ s : Since (w.heap.size + 1) ((w.alloc (Obj.cells #[Value.int .u64 d.1.toNat, Value.int .u64 d.2.toNat] 24)).alloc (Obj.cells #[Value.int .u64 0, Value.int .u64 0] 24)), w' = s.world) [(0, true), (1, true), (2, true), (3, true), (4, true), (5, true), (7, true), (8, true), (9, true), (10, true), (6, false), (11, false), (12, false)] (by kernel_rfl) (by kernel_rfl) (by intro c d v a w h; cases d <;> exact h) (since (Below.refl _ _).drew) ?_
        repeat (first | (refine seq_skip (by rfl) (by rfl) ?_; simp only [Act.put, List.setIfInBounds_toArray, List.set_cons_succ, List.set_cons_zero]) | (refine seq_float (by rfl) (by rfl) (by rfl) ?_; intro K hK; go_big_quiet_op; go_big_quiet_on))
        refine seq_chain (by rfl) ?_
        intro K hK
        go_wp2_with fail
        (with_reducible refine (HC.out _ (hsq.below (hwd.mono (Nat.le_refl _)))).mono ?_); rintro e w1 ⟨rfl, hb1⟩
        have hs1 : Below (w.heap.size + 1) ((w.alloc (Obj.cells #[Value.int .u64 d.1.toNat, Value.int .u64 d.2.toNat] 24)).alloc (Obj.cells #[Value.int .u64 0, Value.int .u64 0] 24)) w1 := (Below.refl _ _).drew.trans (hb1.mono (by omega))
        have hz1 := Nat.le_trans hzd hb1.size
        go_wp2_with fail
        refine hK.out _ _ (since hs1) ?_
        clear hK K
        repeat (first | (refine seq_skip (by rfl) (by rfl) ?_; simp only [Act.put, List.setIfInBounds_toArray, List.set_cons_succ, List.set_cons_zero]) | (refine seq_float (by rfl) (by rfl) (by rfl) ?_; intro K hK; go_big_quiet_op; go_big_quiet_on))
        refine seq_chain (by rfl) ?_
        intro K hK
        go_wp2_with fail
        (with_reducible refine (pair_any (resultD (halfN n) i.toNat d q).1.1 (resultD (halfN n) i.toNat d q).1.2 e.1 e.2 _).mono ?_); rintro e w2 ⟨rfl, hb2⟩
        have hs2 : Below (w.heap.size + 1) ((w.alloc (Obj.cells #[Value.int .u64 d.1.toNat, Value.int .u64 d.2.toNat] 24)).alloc (Obj.cells #[Value.int .u64 0, Value.int .u64 0] 24)) w2 := hs1.trans (hb2.mono (by omega))
        have hr2 : ∀ o, w2.cell? ⟨w.heap.size + 1, o, none⟩ = ((w.alloc (Obj.cells #[Value.int .u64 d.1.toNat, Value.int .u64 d.2.toNat] 24)).alloc (Obj.cells #[Value.int .u64 0, Value.int .u64 0] 24)).cell? ⟨w.heap.size + 1, o, none⟩ := fun o => (bc hb2 (by omega) o).trans (bc hb1 (by omega) o)
        have hf2 : ∀ o, w2.frozen? ⟨w.heap.size + 1, o, none⟩ = ((w.alloc (Obj.cells #[Value.int .u64 d.1.toNat, Value.int .u64 d.2.toNat] 24)).alloc (Obj.cells #[Value.int .u64 0, Value.int .u64 0] 24)).frozen? ⟨w.heap.size + 1, o, none⟩ := fun o => (bf hb2 (by omega) o).trans (bf hb1 (by omega) o)
        go_wp2_with fail
        refine hK.out _ _ (since hs2) ?_
        clear hK K
        repeat (first | (refine seq_skip (by rfl) (by rfl) ?_; simp only [Act.put, List.setIfInBounds_toArray, List.set_cons_succ, List.set_cons_zero]) | (refine seq_float (by rfl) (by rfl) (by rfl) ?_; intro K hK; go_big_quiet_op; go_big_quiet_on))
        refine seq_chain (by rfl) ?_
        intro K hK
        go_wp2_with fail
        go_wp2_with fail
        refine hK.out _ _ (since ((hs2.setCell (by simp) _).setCell (by simp) _)) ?_
        clear hK K
        refine seq_nil ?_
        go_wp2_with fail
        refine bodyPost_ret (v := dv (pairD (resultD (halfN n) i.toNat d q).1 e)) (by simp [results, Try.results48, go_sem, hr2, pairD]) rfl ⟨by rw [HR.out], ?_⟩
        exact ((((Below.refl _ _).alloc (Nat.le_refl _) _).alloc (by simp) _).trans (hs2.mono (by omega))).setCell (by simp) _ |>.setCell (by simp) _
      · have HR := lid (resultD_hi H1.out (i := i.toNat) (by omega) d q e)
        have HOK : Hid ((resultD (n - halfN n) (i.toNat - halfN n) d q).2 = true) := by have := HOK0.out; rw [HR.out] at this; exact lid this
        have HC : Hid (∀ w1, DSl w1 (some ⟨b, off, none⟩) q → Calls Try.prog 48 #[.int .i64 (((n - halfN n) : Nat) : Int), .int .i64 (i - halfN n), dv d, .slice (some ⟨b, off, none⟩) q.length cap] w1 fun e w' => e = .returned (dv (resultD (n - halfN n) (i.toNat - halfN n) d q).1) ∧ Below w1.heap.size w1 w') := lid fun w1 hs1 => by
          have h := IH.out q (n - halfN n) _ (i - halfN n) d _ _ cap w1 rfl rfl (by omega) (by omega) (by omega) (by omega) (by omega) (by omega) (by omega) hs1 (by rw [show (i - halfN n).toNat = i.toNat - halfN n by omega]; exact HOK.out)
          rwa [show (i - halfN n).toNat = i.toNat - halfN n by omega] at h
        rw [show ((n - halfN n : Nat) : Int) = (n : Int) - (halfN n : Int) by omega] at HC
        go_enter Try.func48, Try.ntmps48
        go_wp2_with fail
        (with_reducible refine (refLeft_any n _ hn2 hn).mono ?_); rintro e w1 ⟨rfl, rfl⟩
        go_wp2_with fail
        refine wp_region_seq (fun w' => ∃ s : Since (w.heap.size + 1) ((w.alloc (Obj.cells #[Value.int .u64 d.1.toNat, Value.int .u64 d.2.toNat] 24)).alloc (Obj.cells #[Value.int .u64 0, Value.int .u64 0] 24)), w' = s.world) [(0, true), (1, true), (2, true), (3, true), (4, true), (5, true), (6, true), (7, true), (8, true), (9, true), (10, true), (11, true), (12, true), (13, true), (14, false), (15, false), (16, false)] (by kernel_rfl) (by kernel_rfl) (by intro c d v a w h; cases d <;> exact h) (since (Below.refl _ _).drew) ?_
        repeat (first | (refine seq_skip (by rfl) (by rfl) ?_; simp only [Act.put, List.setIfInBounds_toArray, List.set_cons_succ, List.set_cons_zero]) | (refine seq_float (by rfl) (by rfl) (by rfl) ?_; intro K hK; go_big_quiet_op; go_big_quiet_on))
        refine seq_chain (by rfl) ?_
        intro K hK
        go_wp2_with fail
        (with_reducible refine (HC.out _ (hsq.below (hwd.mono (Nat.le_refl _)))).mono ?_); rintro e w1 ⟨rfl, hb1⟩
        have hs1 : Below (w.heap.size + 1) ((w.alloc (Obj.cells #[Value.int .u64 d.1.toNat, Value.int .u64 d.2.toNat] 24)).alloc (Obj.cells #[Value.int .u64 0, Value.int .u64 0] 24)) w1 := (Below.refl _ _).drew.trans (hb1.mono (by omega))
        have hz1 := Nat.le_trans hzd hb1.size
        go_wp2_with fail
        refine hK.out _ _ (since hs1) ?_
        clear hK K
        repeat (first | (refine seq_skip (by rfl) (by rfl) ?_; simp only [Act.put, List.setIfInBounds_toArray, List.set_cons_succ, List.set_cons_zero]) | (refine seq_float (by rfl) (by rfl) (by rfl) ?_; intro K hK; go_big_quiet_op; go_big_quiet_on))
        refine seq_chain (by rfl) ?_
        intro K hK
        go_wp2_with fail
        (with_reducible refine (pair_any e.1 e.2 (resultD (n - halfN n) (i.toNat - halfN n) d q).1.1 (resultD (n - halfN n) (i.toNat - halfN n) d q).1.2 _).mono ?_); rintro e w2 ⟨rfl, hb2⟩
        have hs2 : Below (w.heap.size + 1) ((w.alloc (Obj.cells #[Value.int .u64 d.1.toNat, Value.int .u64 d.2.toNat] 24)).alloc (Obj.cells #[Value.int .u64 0, Value.int .u64 0] 24)) w2 := hs1.trans (hb2.mono (by omega))
        have hr2 : ∀ o, w2.cell? ⟨w.heap.size + 1, o, none⟩ = ((w.alloc (Obj.cells #[Value.int .u64 d.1.toNat, Value.int .u64 d.2.toNat] 24)).alloc (Obj.cells #[Value.int .u64 0, Value.int .u64 0] 24)).cell? ⟨w.heap.size + 1, o, none⟩ := fun o => (bc hb2 (by omega) o).trans (bc hb1 (by omega) o)
        have hf2 : ∀ o, w2.frozen? ⟨w.heap.size + 1, o, none⟩ = ((w.alloc (Obj.cells #[Value.int .u64 d.1.toNat, Value.int .u64 d.2.toNat] 24)).alloc (Obj.cells #[Value.int .u64 0, Value.int .u64 0] 24)).frozen? ⟨w.heap.size + 1, o, none⟩ := fun o => (bf hb2 (by omega) o).trans (bf hb1 (by omega) o)
        go_wp2_with fail
        refine hK.out _ _ (since hs2) ?_
        clear hK K
        repeat (first | (refine seq_skip (by rfl) (by rfl) ?_; simp only [Act.put, List.setIfInBounds_toArray, List.set_cons_succ, List.set_cons_zero]) | (refine seq_float (by rfl) (by rfl) (by rfl) ?_; intro K hK; go_big_quiet_op; go_big_quiet_on))
        refine seq_chain (by rfl) ?_
        intro K hK
        go_wp2_with fail
        go_wp2_with fail
        refine hK.out _ _ (since ((hs2.setCell (by simp) _).setCell (by simp) _)) ?_
        clear hK K
        refine seq_nil ?_
        go_wp2_with fail
        refine bodyPost_ret (v := dv (pairD e (resultD (n - halfN n) (i.toNat - halfN n) d q).1)) (by simp [results, Try.results48, go_sem, hr2, pairD]) rfl ⟨by rw [HR.out], ?_⟩
        exact ((((Below.refl _ _).alloc (Nat.le_refl _) _).alloc (by simp) _).trans (hs2.mono (by omega))).setCell (by simp) _ |>.setCell (by simp) _
end Go.Proofs.Ytchjmkmcgpbndaa
