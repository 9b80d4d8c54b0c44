/-
  digest.rootOf returns resultD.
-/
import Derived.Test.YtbghpjedldhnhaaDigRoot
import Derived.Test.YtbghpjedldhnhaaRegion
namespace Go.Proofs.Ytbghpjedldhnhaa
open Go.RowKit

/-- The slice value of a list of digests: where it has elements, their cells lie there. -/
def DSl (w : World) (ao : Option Addr) (p : List Dg) : Prop := p.length = 0 ∨ ∃ b off, ao = some ⟨b, off, none⟩ ∧ b < w.heap.size ∧ DCells w b off p
theorem DSl.below {w w' : World} {ao : Option Addr} {p : List Dg} (h : DSl w ao p) (hb : Below w.heap.size w w') : DSl w' ao p :=
  h.imp id fun ⟨b, off, e, hlt, hc⟩ => ⟨b, off, e, Nat.lt_of_lt_of_le hlt hb.size, hc.below hb hlt⟩

set_option maxHeartbeats 400000 in
theorem rootOf_one (p : List Dg) (i : Int) (d : Dg) (ao : Option Addr) (len cap : Nat) (w : World) (hp : p.length = len) (_hl : len ≤ 1000000) :
    Calls Try.prog 48 #[.int .i64 1, .int .i64 i, dv d, .slice ao len cap] w fun e w' => e = .returned (.tuple #[dv (resultD 1 i.toNat d p).1, .bool (resultD 1 i.toNat d p).2]) ∧ Below w.heap.size w w' := by
  have HR := lid (resultD_one i.toNat d p)
  have HP := lid hp
  have hlen : (bstr (0 :: bytesU d.1 d.2)).size ≤ maxLen := by simp [bytesU_length, maxLen]
  clear hp
  go_enter Try.func48, Try.ntmps48
  go_wp2_with fail
  (with_reducible refine (leaf_any d.1 d.2 _).mono ?_); rintro e w1 ⟨rfl, hb1⟩
  obtain ⟨hc1, hf1⟩ := bcell hb1
  go_wp2_with fail
  refine bodyPost_ret (v := .tuple #[dv (leafD d), .bool ((len : Int) == 0)]) (by simp [results, Try.results48, go_sem, hc1, leafD]) rfl ⟨?_, ?_⟩
  · rw [HR.out, HP.out]
    have : ((len : Int) == 0) = decide (len = 0) := by rw [Bool.eq_iff_iff]; simp
    rw [this]
  · exact (((((Below.refl _ _).alloc (Nat.le_refl _) _).alloc (by simp) _).trans (hb1.mono (by simp <;> omega))).setCell (by simp) _).setCell (by simp) _

set_option maxHeartbeats 400000 in
theorem rootOf_nil (n : Nat) (i : Int) (d : Dg) (ao : Option Addr) (cap : Nat) (w : World) (hn : ¬ n = 1) :
    Calls Try.prog 48 #[.int .i64 n, .int .i64 i, dv d, .slice ao 0 cap] w fun e w' => e = .returned (.tuple #[dv (resultD n i.toNat d []).1, .bool (resultD n i.toNat d []).2]) ∧ Below w.heap.size w w' := by
  have HR := lid (resultD_nil hn i.toNat d)
  have hn' : ((n : Int) == 1) = false := by simp; omega
  clear hn
  go_enter Try.func48, Try.ntmps48
  go_wp2_with fail
  refine bodyPost_ret (v := .tuple #[dv (0, 0), .bool false]) (by simp [results, Try.results48, go_sem]) rfl ⟨by rw [HR.out], ?_⟩
  exact ((Below.refl _ _).alloc (Nat.le_refl _) _).alloc (by simp) _

set_option maxHeartbeats 2000000 in
theorem rootOf_any (m : Nat) : ∀ (p : List Dg) (n : Nat) (nz : Int) (i : Int) (d : Dg) (ao : Option Addr) (len cap : Nat) (w : World), nz = n → p.length = len → len ≤ m → len ≤ cap → len ≤ 1000000 → 1 ≤ n → n ≤ 1099511627776 → 0 ≤ i → i < n → DSl w ao p →
    Calls Try.prog 48 #[.int .i64 nz, .int .i64 i, dv d, .slice ao len cap] w fun e w' => e = .returned (.tuple #[dv (resultD n i.toNat d p).1, .bool (resultD n i.toNat d p).2]) ∧ Below w.heap.size w w' := by
  induction m with
  | zero =>
    intro p n nz i d ao len cap w hnz hp hm hcap hl hn1 hn hi0 hi1 hs
    obtain rfl : len = 0 := by omega
    subst hnz
    by_cases h1 : n = 1
    · subst h1; exact rootOf_one p i d ao 0 cap w hp hl
    · rw [List.eq_nil_of_length_eq_zero hp]; exact rootOf_nil n i d ao cap w h1
  | succ m ih =>
    intro p n nz i d ao len cap w hnz hp hm hcap hl hn1 hn hi0 hi1 hs
    subst hnz
    by_cases h1 : n = 1
    · subst h1; exact rootOf_one p i d ao len cap w hp hl
    rcases List.eq_nil_or_concat p with rfl | ⟨q, e, hqe⟩
    · obtain rfl : len = 0 := hp.symm
      exact rootOf_nil n i d ao cap w h1
    · rw [List.concat_eq_append] at hqe
      subst hqe
      have IH := lid ih
      clear ih
      obtain rfl : q.length + 1 = len := by simpa using hp
      obtain ⟨b, off, rfl, hb, hc⟩ : ∃ b off, ao = some ⟨b, off, none⟩ ∧ b < w.heap.size ∧ DCells w b off (q ++ [e]) := hs.resolve_left (by simp)
      obtain ⟨ce0, ce1⟩ := hc q.length (by simp)
      rw [List.getElem_concat_length rfl] at ce0 ce1
      have hsq : DSl w (some ⟨b, off, none⟩) q := .inr ⟨b, off, rfl, hb, by have := hc.take q.length; rwa [List.take_left' rfl] at this⟩
      have hn' : ((n : Int) == 1) = false := by simp; omega
      have hk0 := halfN_pos n
      have hk1 : halfN n < n := halfN_lt (by omega)
      have hn2 : 2 ≤ n := by omega
      have H1 := lid h1
      have hwd0 : Below w.heap.size w ((w.alloc (Obj.cells #[Value.int .u64 d.1.toNat, Value.int .u64 d.2.toNat] 32)).alloc (Obj.cells #[Value.int .u64 0, Value.int .u64 0] 32)) := ((Below.refl _ _).alloc (Nat.le_refl _) _).alloc (by simp) _
      have hwd : Below w.heap.size w ((w.alloc (Obj.cells #[Value.int .u64 d.1.toNat, Value.int .u64 d.2.toNat] 32)).alloc (Obj.cells #[Value.int .u64 0, Value.int .u64 0] 32)).drew := (((Below.refl _ _).alloc (Nat.le_refl _) _).alloc (by simp) _).drew
      have hzd : w.heap.size + 2 ≤ ((w.alloc (Obj.cells #[Value.int .u64 d.1.toNat, Value.int .u64 d.2.toNat] 32)).alloc (Obj.cells #[Value.int .u64 0, Value.int .u64 0] 32)).drew.heap.size := by show _ ≤ ((w.alloc (Obj.cells #[Value.int .u64 d.1.toNat, Value.int .u64 d.2.toNat] 32)).alloc (Obj.cells #[Value.int .u64 0, Value.int .u64 0] 32)).heap.size; rw [World.size_alloc, World.size_alloc]; omega
      have hce0 : ((w.alloc (Obj.cells #[Value.int .u64 d.1.toNat, Value.int .u64 d.2.toNat] 32)).alloc (Obj.cells #[Value.int .u64 0, Value.int .u64 0] 32)).cell? ⟨b, off + q.length * 2, none⟩ = _ := (hwd.cell (p := ⟨b, _, none⟩) hb).trans ce0
      have hce1 : ((w.alloc (Obj.cells #[Value.int .u64 d.1.toNat, Value.int .u64 d.2.toNat] 32)).alloc (Obj.cells #[Value.int .u64 0, Value.int .u64 0] 32)).cell? ⟨b, off + q.length * 2 + 1, none⟩ = _ := (hwd.cell (p := ⟨b, _, none⟩) hb).trans ce1
      clear hp hs hc h1 ce0 ce1
      by_cases hi : i < halfN n
      · have HR := lid (resultD_lo H1.out (i := i.toNat) (by omega) d q e)
        go_enter Try.func48, Try.ntmps48
        go_wp2_with fail
        (with_reducible refine (half_any n _ hn2 hn).mono ?_); rintro e w1 ⟨rfl, rfl⟩
        go_wp2_with fail
        refine wp_region_two (fun w' => ∃ s : Since (w.heap.size + 1) ((w.alloc (Obj.cells #[Value.int .u64 d.1.toNat, Value.int .u64 d.2.toNat] 32)).alloc (Obj.cells #[Value.int .u64 0, Value.int .u64 0] 32)), w' = s.world) [(0, true), (1, true), (2, true), (3, true), (4, true), (5, true)] 6 10 [(7, true), (8, true), (9, true), (10, false), (11, false), (12, false)] [(6, false), (7, true), (8, true), (9, true), (11, false), (12, false)] (by kernel_rfl) (by kernel_rfl) (by intro c d v a w h; cases d <;> exact h) (since (Below.refl _ _).drew) ?_
        repeat (first | (refine seq_skip (by rfl) (by rfl) ?_; simp only [Act.put, List.setIfInBounds_toArray, List.set_cons_succ, List.set_cons_zero]) | (refine seq_float (by rfl) (by rfl) (by rfl) ?_; intro K hK; go_big_quiet_op; go_big_quiet_on))
        refine seq_nil ⟨?_, ?_⟩
        · refine seq_chain (by rfl) ?_
          intro K hK
          go_wp2_with fail
          (with_reducible refine (IH.out q (halfN n) _ i d _ _ _ _ (by omega) rfl (by omega) (by omega) (by omega) (by omega) (by omega) (by omega) (by omega) (hsq.below (hwd.mono (Nat.le_refl _)))).mono ?_); rintro e w1 ⟨rfl, hb1⟩
          have hz1 := Nat.le_trans hzd hb1.size
          have hs1 : Below (w.heap.size + 1) ((w.alloc (Obj.cells #[Value.int .u64 d.1.toNat, Value.int .u64 d.2.toNat] 32)).alloc (Obj.cells #[Value.int .u64 0, Value.int .u64 0] 32)) w1 := (Below.refl _ _).drew.trans (hb1.mono (by omega))
          go_wp2_with fail
          refine hK.out _ _ (since hs1) ?_
          clear hK K
          repeat (first | (refine seq_skip (by rfl) (by rfl) ?_; simp only [Act.put, List.setIfInBounds_toArray, List.set_cons_succ, List.set_cons_zero]) | (refine seq_float (by rfl) (by rfl) (by rfl) ?_; intro K hK; go_big_quiet_op; go_big_quiet_on))
          refine seq_chain (by rfl) ?_
          intro K hK
          go_wp2_with fail
          refine hK.out _ _ (since (hs1.alloc (by omega) _)) ?_
          clear hK K
          repeat (first | (refine seq_skip (by rfl) (by rfl) ?_; simp only [Act.put, List.setIfInBounds_toArray, List.set_cons_succ, List.set_cons_zero]) | (refine seq_float (by rfl) (by rfl) (by rfl) ?_; intro K hK; go_big_quiet_op; go_big_quiet_on))
          refine seq_chain (by rfl) ?_
          intro K hK
          go_wp2_with fail
          go_wp2_with fail
          refine hK.out _ _ (since (hs1.alloc (by omega) _)) ?_
          clear hK K
          repeat (first | (refine seq_skip (by rfl) (by rfl) ?_; simp only [Act.put, List.setIfInBounds_toArray, List.set_cons_succ, List.set_cons_zero]) | (refine seq_float (by rfl) (by rfl) (by rfl) ?_; intro K hK; go_big_quiet_op; go_big_quiet_on))
          refine seq_chain (by rfl) ?_
          intro K hK
          go_wp2_with fail
          refine hK.out _ _ (since (hs1.alloc (by omega) _)) ?_
          clear hK K
          repeat (first | (refine seq_skip (by rfl) (by rfl) ?_; simp only [Act.put, List.setIfInBounds_toArray, List.set_cons_succ, List.set_cons_zero]) | (refine seq_float (by rfl) (by rfl) (by rfl) ?_; intro K hK; go_big_quiet_op; go_big_quiet_on))
          refine seq_nil ?_
          have hr3 : ∀ o, (w1.alloc (Obj.cells #[Value.int .u64 (resultD (halfN n) i.toNat d q).1.1.toNat, Value.int .u64 (resultD (halfN n) i.toNat d q).1.2.toNat] 32)).cell? ⟨w.heap.size + 1, o, none⟩ = ((w.alloc (Obj.cells #[Value.int .u64 d.1.toNat, Value.int .u64 d.2.toNat] 32)).alloc (Obj.cells #[Value.int .u64 0, Value.int .u64 0] 32)).cell? ⟨w.heap.size + 1, o, none⟩ := fun o => (bc ((Below.refl _ _).alloc (Nat.le_refl _) _) (by omega) o).trans (bc hb1 (by omega) o)
          have hf3 : ∀ o, (w1.alloc (Obj.cells #[Value.int .u64 (resultD (halfN n) i.toNat d q).1.1.toNat, Value.int .u64 (resultD (halfN n) i.toNat d q).1.2.toNat] 32)).frozen? ⟨w.heap.size + 1, o, none⟩ = ((w.alloc (Obj.cells #[Value.int .u64 d.1.toNat, Value.int .u64 d.2.toNat] 32)).alloc (Obj.cells #[Value.int .u64 0, Value.int .u64 0] 32)).frozen? ⟨w.heap.size + 1, o, none⟩ := fun o => (bf ((Below.refl _ _).alloc (Nat.le_refl _) _) (by omega) o).trans (bf hb1 (by omega) o)
          have hp0 : (w1.alloc (Obj.cells #[Value.int .u64 (resultD (halfN n) i.toNat d q).1.1.toNat, Value.int .u64 (resultD (halfN n) i.toNat d q).1.2.toNat] 32)).cell? ⟨w1.heap.size, 0, none⟩ = some (.int .u64 (resultD (halfN n) i.toNat d q).1.1.toNat) := by simp
          have hp1 : (w1.alloc (Obj.cells #[Value.int .u64 (resultD (halfN n) i.toNat d q).1.1.toNat, Value.int .u64 (resultD (halfN n) i.toNat d q).1.2.toNat] 32)).cell? ⟨w1.heap.size, 1, none⟩ = some (.int .u64 (resultD (halfN n) i.toNat d q).1.2.toNat) := by simp
          have hz3 : w1.heap.size < (w1.alloc (Obj.cells #[Value.int .u64 (resultD (halfN n) i.toNat d q).1.1.toNat, Value.int .u64 (resultD (halfN n) i.toNat d q).1.2.toNat] 32)).heap.size := by rw [World.size_alloc]; omega
          have hs3 : Below (w.heap.size + 1) ((w.alloc (Obj.cells #[Value.int .u64 d.1.toNat, Value.int .u64 d.2.toNat] 32)).alloc (Obj.cells #[Value.int .u64 0, Value.int .u64 0] 32)) (w1.alloc (Obj.cells #[Value.int .u64 (resultD (halfN n) i.toNat d q).1.1.toNat, Value.int .u64 (resultD (halfN n) i.toNat d q).1.2.toNat] 32)) := hs1.alloc (by omega) _
          clear hs1 hb1
          generalize w1.alloc (Obj.cells #[Value.int .u64 (resultD (halfN n) i.toNat d q).1.1.toNat, Value.int .u64 (resultD (halfN n) i.toNat d q).1.2.toNat] 32) = w3 at *
          generalize w1.heap.size = pb at *
          go_wp2_with fail
          have hx0 := SinceX.cell (B := w3.heap.size) (X := w.heap.size + 1) (W := w3) pb 0 (by omega) (by omega) hp0
          have hx1 := SinceX.cell (B := w3.heap.size) (X := w.heap.size + 1) (W := w3) pb 1 (by omega) (by omega) hp1
          have hxe0 := SinceX.cell (B := w3.heap.size) (X := w.heap.size + 1) (W := w3) b _ (by omega) (by omega) ((bc hs3 (by omega) _).trans hce0)
          have hxe1 := SinceX.cell (B := w3.heap.size) (X := w.heap.size + 1) (W := w3) b _ (by omega) (by omega) ((bc hs3 (by omega) _).trans hce1)
          refine wp_region_seq (fun w' => ∃ s : SinceX w3.heap.size (w.heap.size + 1) w3, w' = s.world) [(0, true), (1, true), (2, true), (3, true), (4, true), (6, true), (5, false), (7, false), (8, false)] (by kernel_rfl) (by kernel_rfl) (by intro c d v a w h; cases d <;> exact h) (sincex (KeptX.refl _ _ _).drew) ?_
          repeat (first | (refine seq_skip (by rfl) (by rfl) ?_; simp only [Act.put, List.setIfInBounds_toArray, List.set_cons_succ, List.set_cons_zero]) | (refine seq_float (by rfl) (by rfl) (by rfl) ?_; intro K hK; go_big_quiet_op; go_big_quiet_on))
          refine seq_chain (by rfl) ?_
          intro K hK
          go_wp2_with fail
          (with_reducible refine (pair_any (resultD (halfN n) i.toNat d q).1.1 (resultD (halfN n) i.toNat d q).1.2 e.1 e.2 _).mono ?_); rintro e w4 ⟨rfl, hb4⟩
          have hk4 : KeptX w3.heap.size (w.heap.size + 1) w3 w4 := ((KeptX.refl _ _ _).drew).below hb4
          have hz4 : w3.heap.size ≤ w4.heap.size := hb4.size
          have hr4 := fun o => (bc hb4 (b := w.heap.size + 1) (by show _ < w3.heap.size; omega) o).trans (hr3 o)
          have hf4 := fun o => (bf hb4 (b := w.heap.size + 1) (by show _ < w3.heap.size; omega) o).trans (hf3 o)
          have hs4 : Below (w.heap.size + 1) ((w.alloc (Obj.cells #[Value.int .u64 d.1.toNat, Value.int .u64 d.2.toNat] 32)).alloc (Obj.cells #[Value.int .u64 0, Value.int .u64 0] 32)) w4 := hs3.trans ((Below.refl _ _).drew.trans (hb4.mono (by show _ ≤ w3.heap.size; omega)))
          go_wp2_with fail
          refine hK.out _ _ (sincex hk4) ?_
          clear hK K
          repeat (first | (refine seq_skip (by rfl) (by rfl) ?_; simp only [Act.put, List.setIfInBounds_toArray, List.set_cons_succ, List.set_cons_zero]) | (refine seq_float (by rfl) (by rfl) (by rfl) ?_; intro K hK; go_big_quiet_op; go_big_quiet_on))
          refine seq_chain (by rfl) ?_
          intro K hK
          go_wp2_with fail
          go_wp2_with fail
          refine hK.out _ _ (sincex ((hk4.setCell (.inl rfl) _).setCell (.inl rfl) _)) ?_
          clear hK K
          repeat (first | (refine seq_skip (by rfl) (by rfl) ?_; simp only [Act.put, List.setIfInBounds_toArray, List.set_cons_succ, List.set_cons_zero]) | (refine seq_float (by rfl) (by rfl) (by rfl) ?_; intro K hK; go_big_quiet_op; go_big_quiet_on))
          refine seq_chain (by rfl) ?_
          intro K hK
          go_wp2_with fail
          go_wp2_with fail
          refine hK.out _ _ (sincex ((hk4.setCell (.inl rfl) _).setCell (.inl rfl) _)) ?_
          clear hK K
          refine seq_nil ?_
          go_wp2_with fail
          refine bodyPost_ret (v := .tuple #[dv (pairD (resultD (halfN n) i.toNat d q).1 e), .bool (resultD (halfN n) i.toNat d q).2]) (by simp [results, Try.results48, go_sem, hr4, pairD]) rfl ⟨by rw [HR.out], ?_⟩
          exact (((((Below.refl _ _).alloc (Nat.le_refl _) _).alloc (by simp) _).trans (hs4.mono (by omega))).setCell (by simp) _).setCell (by simp) _
        · refine seq_chain (by rfl) ?_
          intro K hK
          go_wp2_with fail
          refine hK.out _ _ (since (((Below.refl _ _).drew).alloc (by omega) _)) ?_
          clear hK K
          repeat (first | (refine seq_skip (by rfl) (by rfl) ?_; simp only [Act.put, List.setIfInBounds_toArray, List.set_cons_succ, List.set_cons_zero]) | (refine seq_float (by rfl) (by rfl) (by rfl) ?_; intro K hK; go_big_quiet_op; go_big_quiet_on))
          have hzd2 : w.heap.size + 3 ≤ (((w.alloc (Obj.cells #[Value.int .u64 d.1.toNat, Value.int .u64 d.2.toNat] 32)).alloc (Obj.cells #[Value.int .u64 0, Value.int .u64 0] 32)).alloc (Obj.cells #[Value.int .u64 0, Value.int .u64 0] 32)).drew.heap.size := by show _ ≤ (((w.alloc (Obj.cells #[Value.int .u64 d.1.toNat, Value.int .u64 d.2.toNat] 32)).alloc (Obj.cells #[Value.int .u64 0, Value.int .u64 0] 32)).alloc (Obj.cells #[Value.int .u64 0, Value.int .u64 0] 32)).heap.size; rw [World.size_alloc, World.size_alloc, World.size_alloc]; omega
          have hwa : Below (w.heap.size + 2) ((w.alloc (Obj.cells #[Value.int .u64 d.1.toNat, Value.int .u64 d.2.toNat] 32)).alloc (Obj.cells #[Value.int .u64 0, Value.int .u64 0] 32)) (((w.alloc (Obj.cells #[Value.int .u64 d.1.toNat, Value.int .u64 d.2.toNat] 32)).alloc (Obj.cells #[Value.int .u64 0, Value.int .u64 0] 32)).alloc (Obj.cells #[Value.int .u64 0, Value.int .u64 0] 32)).drew := ((Below.refl _ _).alloc (by simp <;> omega) _).drew
          refine seq_chain (by rfl) ?_
          intro K hK
          go_wp2_with fail
          (with_reducible refine (IH.out q (halfN n) _ i d _ _ _ _ (by omega) rfl (by omega) (by omega) (by omega) (by omega) (by omega) (by omega) (by omega) (hsq.below (hwd0.trans (hwa.mono (by omega))))).mono ?_); rintro e w1 ⟨rfl, hb1⟩
          have hz1 := Nat.le_trans hzd2 hb1.size
          have hs1 : Below (w.heap.size + 1) ((w.alloc (Obj.cells #[Value.int .u64 d.1.toNat, Value.int .u64 d.2.toNat] 32)).alloc (Obj.cells #[Value.int .u64 0, Value.int .u64 0] 32)) w1 := (hwa.mono (by omega)).trans (hb1.mono (by omega))
          have hcp : ∀ o, w1.cell? ⟨w.heap.size + 1 + 1, o, none⟩ = (((w.alloc (Obj.cells #[Value.int .u64 d.1.toNat, Value.int .u64 d.2.toNat] 32)).alloc (Obj.cells #[Value.int .u64 0, Value.int .u64 0] 32)).alloc (Obj.cells #[Value.int .u64 0, Value.int .u64 0] 32)).drew.cell? ⟨w.heap.size + 1 + 1, o, none⟩ := fun o => bc hb1 (by omega) o
          have hfp : ∀ o, w1.frozen? ⟨w.heap.size + 1 + 1, o, none⟩ = (((w.alloc (Obj.cells #[Value.int .u64 d.1.toNat, Value.int .u64 d.2.toNat] 32)).alloc (Obj.cells #[Value.int .u64 0, Value.int .u64 0] 32)).alloc (Obj.cells #[Value.int .u64 0, Value.int .u64 0] 32)).drew.frozen? ⟨w.heap.size + 1 + 1, o, none⟩ := fun o => bf hb1 (by omega) o
          go_wp2_with fail
          refine hK.out _ _ (since hs1) ?_
          clear hK K
          repeat (first | (refine seq_skip (by rfl) (by rfl) ?_; simp only [Act.put, List.setIfInBounds_toArray, List.set_cons_succ, List.set_cons_zero]) | (refine seq_float (by rfl) (by rfl) (by rfl) ?_; intro K hK; go_big_quiet_op; go_big_quiet_on))
          refine seq_chain (by rfl) ?_
          intro K hK
          go_wp2_with fail
          go_wp2_with fail
          refine hK.out _ _ (since ((hs1.setCell (by simp <;> omega) _).setCell (by simp <;> omega) _)) ?_
          clear hK K
          repeat (first | (refine seq_skip (by rfl) (by rfl) ?_; simp only [Act.put, List.setIfInBounds_toArray, List.set_cons_succ, List.set_cons_zero]) | (refine seq_float (by rfl) (by rfl) (by rfl) ?_; intro K hK; go_big_quiet_op; go_big_quiet_on))
          refine seq_chain (by rfl) ?_
          intro K hK
          go_wp2_with fail
          refine hK.out _ _ (since ((hs1.setCell (by simp <;> omega) _).setCell (by simp <;> omega) _)) ?_
          clear hK K
          repeat (first | (refine seq_skip (by rfl) (by rfl) ?_; simp only [Act.put, List.setIfInBounds_toArray, List.set_cons_succ, List.set_cons_zero]) | (refine seq_float (by rfl) (by rfl) (by rfl) ?_; intro K hK; go_big_quiet_op; go_big_quiet_on))
          refine seq_nil ?_
          have hs3 : Below (w.heap.size + 1) ((w.alloc (Obj.cells #[Value.int .u64 d.1.toNat, Value.int .u64 d.2.toNat] 32)).alloc (Obj.cells #[Value.int .u64 0, Value.int .u64 0] 32)) ((w1.setCell ⟨w.heap.size + 1 + 1, 0, none⟩ (.int .u64 (resultD (halfN n) i.toNat d q).1.1.toNat)).setCell ⟨w.heap.size + 1 + 1, 1, none⟩ (.int .u64 (resultD (halfN n) i.toNat d q).1.2.toNat)) := (hs1.setCell (by simp <;> omega) _).setCell (by simp <;> omega) _
          have hq : Below (w.heap.size + 1 + 1) w1 ((w1.setCell ⟨w.heap.size + 1 + 1, 0, none⟩ (.int .u64 (resultD (halfN n) i.toNat d q).1.1.toNat)).setCell ⟨w.heap.size + 1 + 1, 1, none⟩ (.int .u64 (resultD (halfN n) i.toNat d q).1.2.toNat)) := ((Below.refl _ _).setCell (by simp) _).setCell (by simp) _
          have hr3 := fun o => (bc hq (b := w.heap.size + 1) (by omega) o).trans ((bc hb1 (by omega) o).trans (bc hwa (by omega) o))
          have hf3 := fun o => (bf hq (b := w.heap.size + 1) (by omega) o).trans ((bf hb1 (by omega) o).trans (bf hwa (by omega) o))
          have hp0 : ((w1.setCell ⟨w.heap.size + 1 + 1, 0, none⟩ (.int .u64 (resultD (halfN n) i.toNat d q).1.1.toNat)).setCell ⟨w.heap.size + 1 + 1, 1, none⟩ (.int .u64 (resultD (halfN n) i.toNat d q).1.2.toNat)).cell? ⟨w.heap.size + 1 + 1, 0, none⟩ = some (.int .u64 (resultD (halfN n) i.toNat d q).1.1.toNat) := by simp [go_sem, hcp]
          have hp1 : ((w1.setCell ⟨w.heap.size + 1 + 1, 0, none⟩ (.int .u64 (resultD (halfN n) i.toNat d q).1.1.toNat)).setCell ⟨w.heap.size + 1 + 1, 1, none⟩ (.int .u64 (resultD (halfN n) i.toNat d q).1.2.toNat)).cell? ⟨w.heap.size + 1 + 1, 1, none⟩ = some (.int .u64 (resultD (halfN n) i.toNat d q).1.2.toNat) := by simp [go_sem, hcp]
          have hz3 : w.heap.size + 1 + 1 < ((w1.setCell ⟨w.heap.size + 1 + 1, 0, none⟩ (.int .u64 (resultD (halfN n) i.toNat d q).1.1.toNat)).setCell ⟨w.heap.size + 1 + 1, 1, none⟩ (.int .u64 (resultD (halfN n) i.toNat d q).1.2.toNat)).heap.size := by simp [World.setCell]; omega
          have hzp : w.heap.size + 1 < w.heap.size + 1 + 1 := by omega
          clear hs1 hb1 hcp hfp hwa hq
          generalize (w1.setCell ⟨w.heap.size + 1 + 1, 0, none⟩ (.int .u64 (resultD (halfN n) i.toNat d q).1.1.toNat)).setCell ⟨w.heap.size + 1 + 1, 1, none⟩ (.int .u64 (resultD (halfN n) i.toNat d q).1.2.toNat) = w3 at *
          generalize w.heap.size + 1 + 1 = pb at *
          go_wp2_with fail
          have hx0 := SinceX.cell (B := w3.heap.size) (X := w.heap.size + 1) (W := w3) pb 0 (by omega) (by omega) hp0
          have hx1 := SinceX.cell (B := w3.heap.size) (X := w.heap.size + 1) (W := w3) pb 1 (by omega) (by omega) hp1
          have hxe0 := SinceX.cell (B := w3.heap.size) (X := w.heap.size + 1) (W := w3) b _ (by omega) (by omega) ((bc hs3 (by omega) _).trans hce0)
          have hxe1 := SinceX.cell (B := w3.heap.size) (X := w.heap.size + 1) (W := w3) b _ (by omega) (by omega) ((bc hs3 (by omega) _).trans hce1)
          refine wp_region_seq (fun w' => ∃ s : SinceX w3.heap.size (w.heap.size + 1) w3, w' = s.world) [(0, true), (1, true), (2, true), (3, true), (4, true), (6, true), (5, false), (7, false), (8, false)] (by kernel_rfl) (by kernel_rfl) (by intro c d v a w h; cases d <;> exact h) (sincex (KeptX.refl _ _ _).drew) ?_
          repeat (first | (refine seq_skip (by rfl) (by rfl) ?_; simp only [Act.put, List.setIfInBounds_toArray, List.set_cons_succ, List.set_cons_zero]) | (refine seq_float (by rfl) (by rfl) (by rfl) ?_; intro K hK; go_big_quiet_op; go_big_quiet_on))
          refine seq_chain (by rfl) ?_
          intro K hK
          go_wp2_with fail
          (with_reducible refine (pair_any (resultD (halfN n) i.toNat d q).1.1 (resultD (halfN n) i.toNat d q).1.2 e.1 e.2 _).mono ?_); rintro e w4 ⟨rfl, hb4⟩
          have hk4 : KeptX w3.heap.size (w.heap.size + 1) w3 w4 := ((KeptX.refl _ _ _).drew).below hb4
          have hz4 : w3.heap.size ≤ w4.heap.size := hb4.size
          have hr4 := fun o => (bc hb4 (b := w.heap.size + 1) (by show _ < w3.heap.size; omega) o).trans (hr3 o)
          have hf4 := fun o => (bf hb4 (b := w.heap.size + 1) (by show _ < w3.heap.size; omega) o).trans (hf3 o)
          have hs4 : Below (w.heap.size + 1) ((w.alloc (Obj.cells #[Value.int .u64 d.1.toNat, Value.int .u64 d.2.toNat] 32)).alloc (Obj.cells #[Value.int .u64 0, Value.int .u64 0] 32)) w4 := hs3.trans ((Below.refl _ _).drew.trans (hb4.mono (by show _ ≤ w3.heap.size; omega)))
          go_wp2_with fail
          refine hK.out _ _ (sincex hk4) ?_
          clear hK K
          repeat (first | (refine seq_skip (by rfl) (by rfl) ?_; simp only [Act.put, List.setIfInBounds_toArray, List.set_cons_succ, List.set_cons_zero]) | (refine seq_float (by rfl) (by rfl) (by rfl) ?_; intro K hK; go_big_quiet_op; go_big_quiet_on))
          refine seq_chain (by rfl) ?_
          intro K hK
          go_wp2_with fail
          go_wp2_with fail
          refine hK.out _ _ (sincex ((hk4.setCell (.inl rfl) _).setCell (.inl rfl) _)) ?_
          clear hK K
          repeat (first | (refine seq_skip (by rfl) (by rfl) ?_; simp only [Act.put, List.setIfInBounds_toArray, List.set_cons_succ, List.set_cons_zero]) | (refine seq_float (by rfl) (by rfl) (by rfl) ?_; intro K hK; go_big_quiet_op; go_big_quiet_on))
          refine seq_chain (by rfl) ?_
          intro K hK
          go_wp2_with fail
          go_wp2_with fail
          refine hK.out _ _ (sincex ((hk4.setCell (.inl rfl) _).setCell (.inl rfl) _)) ?_
          clear hK K
          refine seq_nil ?_
          go_wp2_with fail
          refine bodyPost_ret (v := .tuple #[dv (pairD (resultD (halfN n) i.toNat d q).1 e), .bool (resultD (halfN n) i.toNat d q).2]) (by simp [results, Try.results48, go_sem, hr4, pairD]) rfl ⟨by rw [HR.out], ?_⟩
          exact (((((Below.refl _ _).alloc (Nat.le_refl _) _).alloc (by simp) _).trans (hs4.mono (by omega))).setCell (by simp) _).setCell (by simp) _
      · have HR := lid (resultD_hi H1.out (i := i.toNat) (by omega) d q e)
        go_enter Try.func48, Try.ntmps48
        go_wp2_with fail
        (with_reducible refine (half_any n _ hn2 hn).mono ?_); rintro e w1 ⟨rfl, rfl⟩
        go_wp2_with fail
        refine wp_region_two (fun w' => ∃ s : Since (w.heap.size + 1) ((w.alloc (Obj.cells #[Value.int .u64 d.1.toNat, Value.int .u64 d.2.toNat] 32)).alloc (Obj.cells #[Value.int .u64 0, Value.int .u64 0] 32)), w' = s.world) [(0, true), (1, true), (2, true), (3, true), (4, true), (5, true), (6, true), (7, true), (8, true), (9, true)] 10 14 [(11, true), (12, true), (13, true), (14, false), (15, false), (16, false)] [(10, false), (11, true), (12, true), (13, true), (15, false), (16, false)] (by kernel_rfl) (by kernel_rfl) (by intro c d v a w h; cases d <;> exact h) (since (Below.refl _ _).drew) ?_
        repeat (first | (refine seq_skip (by rfl) (by rfl) ?_; simp only [Act.put, List.setIfInBounds_toArray, List.set_cons_succ, List.set_cons_zero]) | (refine seq_float (by rfl) (by rfl) (by rfl) ?_; intro K hK; go_big_quiet_op; go_big_quiet_on))
        refine seq_nil ⟨?_, ?_⟩
        · refine seq_chain (by rfl) ?_
          intro K hK
          go_wp2_with fail
          (with_reducible refine (IH.out q (n - halfN n) _ (i - halfN n) d _ _ _ _ (by omega) rfl (by omega) (by omega) (by omega) (by omega) (by omega) (by omega) (by omega) (hsq.below (hwd.mono (Nat.le_refl _)))).mono ?_); rintro e w1 ⟨rfl, hb1⟩
          have hz1 := Nat.le_trans hzd hb1.size
          have hs1 : Below (w.heap.size + 1) ((w.alloc (Obj.cells #[Value.int .u64 d.1.toNat, Value.int .u64 d.2.toNat] 32)).alloc (Obj.cells #[Value.int .u64 0, Value.int .u64 0] 32)) w1 := (Below.refl _ _).drew.trans (hb1.mono (by omega))
          go_wp2_with fail
          refine hK.out _ _ (since hs1) ?_
          clear hK K
          repeat (first | (refine seq_skip (by rfl) (by rfl) ?_; simp only [Act.put, List.setIfInBounds_toArray, List.set_cons_succ, List.set_cons_zero]) | (refine seq_float (by rfl) (by rfl) (by rfl) ?_; intro K hK; go_big_quiet_op; go_big_quiet_on))
          refine seq_chain (by rfl) ?_
          intro K hK
          go_wp2_with fail
          refine hK.out _ _ (since (hs1.alloc (by omega) _)) ?_
          clear hK K
          repeat (first | (refine seq_skip (by rfl) (by rfl) ?_; simp only [Act.put, List.setIfInBounds_toArray, List.set_cons_succ, List.set_cons_zero]) | (refine seq_float (by rfl) (by rfl) (by rfl) ?_; intro K hK; go_big_quiet_op; go_big_quiet_on))
          refine seq_chain (by rfl) ?_
          intro K hK
          go_wp2_with fail
          go_wp2_with fail
          refine hK.out _ _ (since (hs1.alloc (by omega) _)) ?_
          clear hK K
          repeat (first | (refine seq_skip (by rfl) (by rfl) ?_; simp only [Act.put, List.setIfInBounds_toArray, List.set_cons_succ, List.set_cons_zero]) | (refine seq_float (by rfl) (by rfl) (by rfl) ?_; intro K hK; go_big_quiet_op; go_big_quiet_on))
          refine seq_chain (by rfl) ?_
          intro K hK
          go_wp2_with fail
          refine hK.out _ _ (since (hs1.alloc (by omega) _)) ?_
          clear hK K
          repeat (first | (refine seq_skip (by rfl) (by rfl) ?_; simp only [Act.put, List.setIfInBounds_toArray, List.set_cons_succ, List.set_cons_zero]) | (refine seq_float (by rfl) (by rfl) (by rfl) ?_; intro K hK; go_big_quiet_op; go_big_quiet_on))
          refine seq_nil ?_
          have hr3 : ∀ o, (w1.alloc (Obj.cells #[Value.int .u64 (resultD (n - halfN n) (i.toNat - halfN n) d q).1.1.toNat, Value.int .u64 (resultD (n - halfN n) (i.toNat - halfN n) d q).1.2.toNat] 32)).cell? ⟨w.heap.size + 1, o, none⟩ = ((w.alloc (Obj.cells #[Value.int .u64 d.1.toNat, Value.int .u64 d.2.toNat] 32)).alloc (Obj.cells #[Value.int .u64 0, Value.int .u64 0] 32)).cell? ⟨w.heap.size + 1, o, none⟩ := fun o => (bc ((Below.refl _ _).alloc (Nat.le_refl _) _) (by omega) o).trans (bc hb1 (by omega) o)
          have hf3 : ∀ o, (w1.alloc (Obj.cells #[Value.int .u64 (resultD (n - halfN n) (i.toNat - halfN n) d q).1.1.toNat, Value.int .u64 (resultD (n - halfN n) (i.toNat - halfN n) d q).1.2.toNat] 32)).frozen? ⟨w.heap.size + 1, o, none⟩ = ((w.alloc (Obj.cells #[Value.int .u64 d.1.toNat, Value.int .u64 d.2.toNat] 32)).alloc (Obj.cells #[Value.int .u64 0, Value.int .u64 0] 32)).frozen? ⟨w.heap.size + 1, o, none⟩ := fun o => (bf ((Below.refl _ _).alloc (Nat.le_refl _) _) (by omega) o).trans (bf hb1 (by omega) o)
          have hp0 : (w1.alloc (Obj.cells #[Value.int .u64 (resultD (n - halfN n) (i.toNat - halfN n) d q).1.1.toNat, Value.int .u64 (resultD (n - halfN n) (i.toNat - halfN n) d q).1.2.toNat] 32)).cell? ⟨w1.heap.size, 0, none⟩ = some (.int .u64 (resultD (n - halfN n) (i.toNat - halfN n) d q).1.1.toNat) := by simp
          have hp1 : (w1.alloc (Obj.cells #[Value.int .u64 (resultD (n - halfN n) (i.toNat - halfN n) d q).1.1.toNat, Value.int .u64 (resultD (n - halfN n) (i.toNat - halfN n) d q).1.2.toNat] 32)).cell? ⟨w1.heap.size, 1, none⟩ = some (.int .u64 (resultD (n - halfN n) (i.toNat - halfN n) d q).1.2.toNat) := by simp
          have hz3 : w1.heap.size < (w1.alloc (Obj.cells #[Value.int .u64 (resultD (n - halfN n) (i.toNat - halfN n) d q).1.1.toNat, Value.int .u64 (resultD (n - halfN n) (i.toNat - halfN n) d q).1.2.toNat] 32)).heap.size := by rw [World.size_alloc]; omega
          have hs3 : Below (w.heap.size + 1) ((w.alloc (Obj.cells #[Value.int .u64 d.1.toNat, Value.int .u64 d.2.toNat] 32)).alloc (Obj.cells #[Value.int .u64 0, Value.int .u64 0] 32)) (w1.alloc (Obj.cells #[Value.int .u64 (resultD (n - halfN n) (i.toNat - halfN n) d q).1.1.toNat, Value.int .u64 (resultD (n - halfN n) (i.toNat - halfN n) d q).1.2.toNat] 32)) := hs1.alloc (by omega) _
          clear hs1 hb1
          generalize w1.alloc (Obj.cells #[Value.int .u64 (resultD (n - halfN n) (i.toNat - halfN n) d q).1.1.toNat, Value.int .u64 (resultD (n - halfN n) (i.toNat - halfN n) d q).1.2.toNat] 32) = w3 at *
          generalize w1.heap.size = pb at *
          go_wp2_with fail
          have hx0 := SinceX.cell (B := w3.heap.size) (X := w.heap.size + 1) (W := w3) pb 0 (by omega) (by omega) hp0
          have hx1 := SinceX.cell (B := w3.heap.size) (X := w.heap.size + 1) (W := w3) pb 1 (by omega) (by omega) hp1
          have hxe0 := SinceX.cell (B := w3.heap.size) (X := w.heap.size + 1) (W := w3) b _ (by omega) (by omega) ((bc hs3 (by omega) _).trans hce0)
          have hxe1 := SinceX.cell (B := w3.heap.size) (X := w.heap.size + 1) (W := w3) b _ (by omega) (by omega) ((bc hs3 (by omega) _).trans hce1)
          refine wp_region_seq (fun w' => ∃ s : SinceX w3.heap.size (w.heap.size + 1) w3, w' = s.world) [(0, true), (1, true), (2, true), (3, true), (4, true), (6, true), (5, false), (7, false), (8, false)] (by kernel_rfl) (by kernel_rfl) (by intro c d v a w h; cases d <;> exact h) (sincex (KeptX.refl _ _ _).drew) ?_
          repeat (first | (refine seq_skip (by rfl) (by rfl) ?_; simp only [Act.put, List.setIfInBounds_toArray, List.set_cons_succ, List.set_cons_zero]) | (refine seq_float (by rfl) (by rfl) (by rfl) ?_; intro K hK; go_big_quiet_op; go_big_quiet_on))
          refine seq_chain (by rfl) ?_
          intro K hK
          go_wp2_with fail
          (with_reducible refine (pair_any e.1 e.2 (resultD (n - halfN n) (i.toNat - halfN n) d q).1.1 (resultD (n - halfN n) (i.toNat - halfN n) d q).1.2 _).mono ?_); rintro e w4 ⟨rfl, hb4⟩
          have hk4 : KeptX w3.heap.size (w.heap.size + 1) w3 w4 := ((KeptX.refl _ _ _).drew).below hb4
          have hz4 : w3.heap.size ≤ w4.heap.size := hb4.size
          have hr4 := fun o => (bc hb4 (b := w.heap.size + 1) (by show _ < w3.heap.size; omega) o).trans (hr3 o)
          have hf4 := fun o => (bf hb4 (b := w.heap.size + 1) (by show _ < w3.heap.size; omega) o).trans (hf3 o)
          have hs4 : Below (w.heap.size + 1) ((w.alloc (Obj.cells #[Value.int .u64 d.1.toNat, Value.int .u64 d.2.toNat] 32)).alloc (Obj.cells #[Value.int .u64 0, Value.int .u64 0] 32)) w4 := hs3.trans ((Below.refl _ _).drew.trans (hb4.mono (by show _ ≤ w3.heap.size; omega)))
          go_wp2_with fail
          refine hK.out _ _ (sincex hk4) ?_
          clear hK K
          repeat (first | (refine seq_skip (by rfl) (by rfl) ?_; simp only [Act.put, List.setIfInBounds_toArray, List.set_cons_succ, List.set_cons_zero]) | (refine seq_float (by rfl) (by rfl) (by rfl) ?_; intro K hK; go_big_quiet_op; go_big_quiet_on))
          refine seq_chain (by rfl) ?_
          intro K hK
          go_wp2_with fail
          go_wp2_with fail
          refine hK.out _ _ (sincex ((hk4.setCell (.inl rfl) _).setCell (.inl rfl) _)) ?_
          clear hK K
          repeat (first | (refine seq_skip (by rfl) (by rfl) ?_; simp only [Act.put, List.setIfInBounds_toArray, List.set_cons_succ, List.set_cons_zero]) | (refine seq_float (by rfl) (by rfl) (by rfl) ?_; intro K hK; go_big_quiet_op; go_big_quiet_on))
          refine seq_chain (by rfl) ?_
          intro K hK
          go_wp2_with fail
          go_wp2_with fail
          refine hK.out _ _ (sincex ((hk4.setCell (.inl rfl) _).setCell (.inl rfl) _)) ?_
          clear hK K
          refine seq_nil ?_
          go_wp2_with fail
          refine bodyPost_ret (v := .tuple #[dv (pairD e (resultD (n - halfN n) (i.toNat - halfN n) d q).1), .bool (resultD (n - halfN n) (i.toNat - halfN n) d q).2]) (by simp [results, Try.results48, go_sem, hr4, pairD]) rfl ⟨by rw [HR.out], ?_⟩
          exact (((((Below.refl _ _).alloc (Nat.le_refl _) _).alloc (by simp) _).trans (hs4.mono (by omega))).setCell (by simp) _).setCell (by simp) _
        · refine seq_chain (by rfl) ?_
          intro K hK
          go_wp2_with fail
          refine hK.out _ _ (since (((Below.refl _ _).drew).alloc (by omega) _)) ?_
          clear hK K
          repeat (first | (refine seq_skip (by rfl) (by rfl) ?_; simp only [Act.put, List.setIfInBounds_toArray, List.set_cons_succ, List.set_cons_zero]) | (refine seq_float (by rfl) (by rfl) (by rfl) ?_; intro K hK; go_big_quiet_op; go_big_quiet_on))
          have hzd2 : w.heap.size + 3 ≤ (((w.alloc (Obj.cells #[Value.int .u64 d.1.toNat, Value.int .u64 d.2.toNat] 32)).alloc (Obj.cells #[Value.int .u64 0, Value.int .u64 0] 32)).alloc (Obj.cells #[Value.int .u64 0, Value.int .u64 0] 32)).drew.heap.size := by show _ ≤ (((w.alloc (Obj.cells #[Value.int .u64 d.1.toNat, Value.int .u64 d.2.toNat] 32)).alloc (Obj.cells #[Value.int .u64 0, Value.int .u64 0] 32)).alloc (Obj.cells #[Value.int .u64 0, Value.int .u64 0] 32)).heap.size; rw [World.size_alloc, World.size_alloc, World.size_alloc]; omega
          have hwa : Below (w.heap.size + 2) ((w.alloc (Obj.cells #[Value.int .u64 d.1.toNat, Value.int .u64 d.2.toNat] 32)).alloc (Obj.cells #[Value.int .u64 0, Value.int .u64 0] 32)) (((w.alloc (Obj.cells #[Value.int .u64 d.1.toNat, Value.int .u64 d.2.toNat] 32)).alloc (Obj.cells #[Value.int .u64 0, Value.int .u64 0] 32)).alloc (Obj.cells #[Value.int .u64 0, Value.int .u64 0] 32)).drew := ((Below.refl _ _).alloc (by simp <;> omega) _).drew
          refine seq_chain (by rfl) ?_
          intro K hK
          go_wp2_with fail
          (with_reducible refine (IH.out q (n - halfN n) _ (i - halfN n) d _ _ _ _ (by omega) rfl (by omega) (by omega) (by omega) (by omega) (by omega) (by omega) (by omega) (hsq.below (hwd0.trans (hwa.mono (by omega))))).mono ?_); rintro e w1 ⟨rfl, hb1⟩
          have hz1 := Nat.le_trans hzd2 hb1.size
          have hs1 : Below (w.heap.size + 1) ((w.alloc (Obj.cells #[Value.int .u64 d.1.toNat, Value.int .u64 d.2.toNat] 32)).alloc (Obj.cells #[Value.int .u64 0, Value.int .u64 0] 32)) w1 := (hwa.mono (by omega)).trans (hb1.mono (by omega))
          have hcp : ∀ o, w1.cell? ⟨w.heap.size + 1 + 1, o, none⟩ = (((w.alloc (Obj.cells #[Value.int .u64 d.1.toNat, Value.int .u64 d.2.toNat] 32)).alloc (Obj.cells #[Value.int .u64 0, Value.int .u64 0] 32)).alloc (Obj.cells #[Value.int .u64 0, Value.int .u64 0] 32)).drew.cell? ⟨w.heap.size + 1 + 1, o, none⟩ := fun o => bc hb1 (by omega) o
          have hfp : ∀ o, w1.frozen? ⟨w.heap.size + 1 + 1, o, none⟩ = (((w.alloc (Obj.cells #[Value.int .u64 d.1.toNat, Value.int .u64 d.2.toNat] 32)).alloc (Obj.cells #[Value.int .u64 0, Value.int .u64 0] 32)).alloc (Obj.cells #[Value.int .u64 0, Value.int .u64 0] 32)).drew.frozen? ⟨w.heap.size + 1 + 1, o, none⟩ := fun o => bf hb1 (by omega) o
          go_wp2_with fail
          refine hK.out _ _ (since hs1) ?_
          clear hK K
          repeat (first | (refine seq_skip (by rfl) (by rfl) ?_; simp only [Act.put, List.setIfInBounds_toArray, List.set_cons_succ, List.set_cons_zero]) | (refine seq_float (by rfl) (by rfl) (by rfl) ?_; intro K hK; go_big_quiet_op; go_big_quiet_on))
          refine seq_chain (by rfl) ?_
          intro K hK
          go_wp2_with fail
          go_wp2_with fail
          refine hK.out _ _ (since ((hs1.setCell (by simp <;> omega) _).setCell (by simp <;> omega) _)) ?_
          clear hK K
          repeat (first | (refine seq_skip (by rfl) (by rfl) ?_; simp only [Act.put, List.setIfInBounds_toArray, List.set_cons_succ, List.set_cons_zero]) | (refine seq_float (by rfl) (by rfl) (by rfl) ?_; intro K hK; go_big_quiet_op; go_big_quiet_on))
          refine seq_chain (by rfl) ?_
          intro K hK
          go_wp2_with fail
          refine hK.out _ _ (since ((hs1.setCell (by simp <;> omega) _).setCell (by simp <;> omega) _)) ?_
          clear hK K
          repeat (first | (refine seq_skip (by rfl) (by rfl) ?_; simp only [Act.put, List.setIfInBounds_toArray, List.set_cons_succ, List.set_cons_zero]) | (refine seq_float (by rfl) (by rfl) (by rfl) ?_; intro K hK; go_big_quiet_op; go_big_quiet_on))
          refine seq_nil ?_
          have hs3 : Below (w.heap.size + 1) ((w.alloc (Obj.cells #[Value.int .u64 d.1.toNat, Value.int .u64 d.2.toNat] 32)).alloc (Obj.cells #[Value.int .u64 0, Value.int .u64 0] 32)) ((w1.setCell ⟨w.heap.size + 1 + 1, 0, none⟩ (.int .u64 (resultD (n - halfN n) (i.toNat - halfN n) d q).1.1.toNat)).setCell ⟨w.heap.size + 1 + 1, 1, none⟩ (.int .u64 (resultD (n - halfN n) (i.toNat - halfN n) d q).1.2.toNat)) := (hs1.setCell (by simp <;> omega) _).setCell (by simp <;> omega) _
          have hq : Below (w.heap.size + 1 + 1) w1 ((w1.setCell ⟨w.heap.size + 1 + 1, 0, none⟩ (.int .u64 (resultD (n - halfN n) (i.toNat - halfN n) d q).1.1.toNat)).setCell ⟨w.heap.size + 1 + 1, 1, none⟩ (.int .u64 (resultD (n - halfN n) (i.toNat - halfN n) d q).1.2.toNat)) := ((Below.refl _ _).setCell (by simp) _).setCell (by simp) _
          have hr3 := fun o => (bc hq (b := w.heap.size + 1) (by omega) o).trans ((bc hb1 (by omega) o).trans (bc hwa (by omega) o))
          have hf3 := fun o => (bf hq (b := w.heap.size + 1) (by omega) o).trans ((bf hb1 (by omega) o).trans (bf hwa (by omega) o))
          have hp0 : ((w1.setCell ⟨w.heap.size + 1 + 1, 0, none⟩ (.int .u64 (resultD (n - halfN n) (i.toNat - halfN n) d q).1.1.toNat)).setCell ⟨w.heap.size + 1 + 1, 1, none⟩ (.int .u64 (resultD (n - halfN n) (i.toNat - halfN n) d q).1.2.toNat)).cell? ⟨w.heap.size + 1 + 1, 0, none⟩ = some (.int .u64 (resultD (n - halfN n) (i.toNat - halfN n) d q).1.1.toNat) := by simp [go_sem, hcp]
          have hp1 : ((w1.setCell ⟨w.heap.size + 1 + 1, 0, none⟩ (.int .u64 (resultD (n - halfN n) (i.toNat - halfN n) d q).1.1.toNat)).setCell ⟨w.heap.size + 1 + 1, 1, none⟩ (.int .u64 (resultD (n - halfN n) (i.toNat - halfN n) d q).1.2.toNat)).cell? ⟨w.heap.size + 1 + 1, 1, none⟩ = some (.int .u64 (resultD (n - halfN n) (i.toNat - halfN n) d q).1.2.toNat) := by simp [go_sem, hcp]
          have hz3 : w.heap.size + 1 + 1 < ((w1.setCell ⟨w.heap.size + 1 + 1, 0, none⟩ (.int .u64 (resultD (n - halfN n) (i.toNat - halfN n) d q).1.1.toNat)).setCell ⟨w.heap.size + 1 + 1, 1, none⟩ (.int .u64 (resultD (n - halfN n) (i.toNat - halfN n) d q).1.2.toNat)).heap.size := by simp [World.setCell]; omega
          have hzp : w.heap.size + 1 < w.heap.size + 1 + 1 := by omega
          clear hs1 hb1 hcp hfp hwa hq
          generalize (w1.setCell ⟨w.heap.size + 1 + 1, 0, none⟩ (.int .u64 (resultD (n - halfN n) (i.toNat - halfN n) d q).1.1.toNat)).setCell ⟨w.heap.size + 1 + 1, 1, none⟩ (.int .u64 (resultD (n - halfN n) (i.toNat - halfN n) d q).1.2.toNat) = w3 at *
          generalize w.heap.size + 1 + 1 = pb at *
          go_wp2_with fail
          have hx0 := SinceX.cell (B := w3.heap.size) (X := w.heap.size + 1) (W := w3) pb 0 (by omega) (by omega) hp0
          have hx1 := SinceX.cell (B := w3.heap.size) (X := w.heap.size + 1) (W := w3) pb 1 (by omega) (by omega) hp1
          have hxe0 := SinceX.cell (B := w3.heap.size) (X := w.heap.size + 1) (W := w3) b _ (by omega) (by omega) ((bc hs3 (by omega) _).trans hce0)
          have hxe1 := SinceX.cell (B := w3.heap.size) (X := w.heap.size + 1) (W := w3) b _ (by omega) (by omega) ((bc hs3 (by omega) _).trans hce1)
          refine wp_region_seq (fun w' => ∃ s : SinceX w3.heap.size (w.heap.size + 1) w3, w' = s.world) [(0, true), (1, true), (2, true), (3, true), (4, true), (6, true), (5, false), (7, false), (8, false)] (by kernel_rfl) (by kernel_rfl) (by intro c d v a w h; cases d <;> exact h) (sincex (KeptX.refl _ _ _).drew) ?_
          repeat (first | (refine seq_skip (by rfl) (by rfl) ?_; simp only [Act.put, List.setIfInBounds_toArray, List.set_cons_succ, List.set_cons_zero]) | (refine seq_float (by rfl) (by rfl) (by rfl) ?_; intro K hK; go_big_quiet_op; go_big_quiet_on))
          refine seq_chain (by rfl) ?_
          intro K hK
          go_wp2_with fail
          (with_reducible refine (pair_any e.1 e.2 (resultD (n - halfN n) (i.toNat - halfN n) d q).1.1 (resultD (n - halfN n) (i.toNat - halfN n) d q).1.2 _).mono ?_); rintro e w4 ⟨rfl, hb4⟩
          have hk4 : KeptX w3.heap.size (w.heap.size + 1) w3 w4 := ((KeptX.refl _ _ _).drew).below hb4
          have hz4 : w3.heap.size ≤ w4.heap.size := hb4.size
          have hr4 := fun o => (bc hb4 (b := w.heap.size + 1) (by show _ < w3.heap.size; omega) o).trans (hr3 o)
          have hf4 := fun o => (bf hb4 (b := w.heap.size + 1) (by show _ < w3.heap.size; omega) o).trans (hf3 o)
          have hs4 : Below (w.heap.size + 1) ((w.alloc (Obj.cells #[Value.int .u64 d.1.toNat, Value.int .u64 d.2.toNat] 32)).alloc (Obj.cells #[Value.int .u64 0, Value.int .u64 0] 32)) w4 := hs3.trans ((Below.refl _ _).drew.trans (hb4.mono (by show _ ≤ w3.heap.size; omega)))
          go_wp2_with fail
          refine hK.out _ _ (sincex hk4) ?_
          clear hK K
          repeat (first | (refine seq_skip (by rfl) (by rfl) ?_; simp only [Act.put, List.setIfInBounds_toArray, List.set_cons_succ, List.set_cons_zero]) | (refine seq_float (by rfl) (by rfl) (by rfl) ?_; intro K hK; go_big_quiet_op; go_big_quiet_on))
          refine seq_chain (by rfl) ?_
          intro K hK
          go_wp2_with fail
          go_wp2_with fail
          refine hK.out _ _ (sincex ((hk4.setCell (.inl rfl) _).setCell (.inl rfl) _)) ?_
          clear hK K
          repeat (first | (refine seq_skip (by rfl) (by rfl) ?_; simp only [Act.put, List.setIfInBounds_toArray, List.set_cons_succ, List.set_cons_zero]) | (refine seq_float (by rfl) (by rfl) (by rfl) ?_; intro K hK; go_big_quiet_op; go_big_quiet_on))
          refine seq_chain (by rfl) ?_
          intro K hK
          go_wp2_with fail
          go_wp2_with fail
          refine hK.out _ _ (sincex ((hk4.setCell (.inl rfl) _).setCell (.inl rfl) _)) ?_
          clear hK K
          refine seq_nil ?_
          go_wp2_with fail
          refine bodyPost_ret (v := .tuple #[dv (pairD e (resultD (n - halfN n) (i.toNat - halfN n) d q).1), .bool (resultD (n - halfN n) (i.toNat - halfN n) d q).2]) (by simp [results, Try.results48, go_sem, hr4, pairD]) rfl ⟨by rw [HR.out], ?_⟩
          exact (((((Below.refl _ _).alloc (Nat.le_refl _) _).alloc (by simp) _).trans (hs4.mono (by omega))).setCell (by simp) _).setCell (by simp) _
end Go.Proofs.Ytbghpjedldhnhaa
