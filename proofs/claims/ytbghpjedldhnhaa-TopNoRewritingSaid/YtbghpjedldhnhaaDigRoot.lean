/-
  digest.Root returns rootD of the digests of a slice, and makes new memory alone.
-/
import Derived.Test.YtbghpjedldhnhaaDigPair
import Derived.Test.YtbghpjedldhnhaaDigHalf
namespace Go.Proofs.Ytbghpjedldhnhaa
open Go.RowKit

set_option maxHeartbeats 400000 in
theorem root_nil_any (ao : Option Addr) (cap : Nat) (w : World) :
    Calls Try.prog 19 #[.slice ao 0 cap] w fun e w' => e = .returned (dv (rootD [])) ∧ Below w.heap.size w w' := by
  have h0 : (ByteArray.mk #[]).size ≤ maxLen := by simp [ByteArray.size, maxLen]
  go_enter Try.func19, Try.ntmps19
  go_wp2_with fail
  (with_reducible refine (of_any ⟨#[]⟩ _ h0).mono ?_); rintro e w1 ⟨rfl, hb1⟩
  obtain ⟨hc1, hf1⟩ := bcell hb1
  go_wp2_with fail
  refine bodyPost_ret (v := dv (ofU [])) (by simp [results, Try.results19, go_sem, hc1]) rfl ⟨by rw [rootD_nil], ?_⟩
  exact ((((Below.refl _ _).alloc (Nat.le_refl _) _).trans (hb1.mono (by simp))).setCell (by simp) _).setCell (by simp) _

set_option maxHeartbeats 1000000 in
theorem root_any (m : Nat) : ∀ (l : List Dg) (n b off cap : Nat) (w : World), l.length = n → n ≤ m → 1 ≤ n → n ≤ cap → n ≤ 1099511627776 → b < w.heap.size → DCells w b off l →
    Calls Try.prog 19 #[.slice (some ⟨b, off, none⟩) n cap] w fun e w' => e = .returned (dv (rootD l)) ∧ Below w.heap.size w w' := by
  induction m with
  | zero => intro l n b off cap w h1 h2; omega
  | succ m ih =>
    intro l n b off cap w hn hm h1 hcap hl hb hc
    have IH := lid ih
    clear ih
    by_cases h2 : 2 ≤ n
    · have hk0 := halfN_pos n
      have hk1 := halfN_lt h2
      have HT : Hid ((l.take (halfN n)).length = halfN n) := by show _ = _; simp; omega
      have HD : Hid ((l.drop (halfN n)).length = n - halfN n) := by show _ = _; simp; omega
      have HR : Hid (rootD l = pairD (rootD (l.take (halfN n))) (rootD (l.drop (halfN n)))) := by show _ = _; rw [rootD_more (by omega), hn]
      clear hn
      go_enter Try.func19, Try.ntmps19
      go_wp2_with fail
      (with_reducible refine (half_any n _ h2 hl).mono ?_); rintro e w1 ⟨rfl, rfl⟩
      go_wp2_with fail
      have hba : Below w.heap.size w (w.alloc (Obj.cells #[Value.int .u64 0, Value.int .u64 0] 32)).drew := ((Below.refl _ _).alloc (Nat.le_refl _) _).drew
      have hz0 : w.heap.size + 1 ≤ (w.alloc (Obj.cells #[Value.int .u64 0, Value.int .u64 0] 32)).drew.heap.size := by show _ ≤ (w.alloc _).heap.size; rw [World.size_alloc]; omega
      refine wp_region_seq (fun w' => ∃ s : Since w.heap.size (w.alloc (Obj.cells #[Value.int .u64 0, Value.int .u64 0] 32)), w' = s.world) [(0, true), (1, true), (2, true), (4, true), (5, true), (6, true), (3, false), (7, false), (8, false), (9, false)] (by kernel_rfl) (by kernel_rfl) (by intro c d v a w h; cases d <;> exact h) (since (Below.refl _ _).drew) ?_
      repeat (first | (refine seq_skip (by rfl) (by rfl) ?_; simp only [Act.put, List.setIfInBounds_toArray, List.set_cons_succ, List.set_cons_zero]) | (refine seq_float (by rfl) (by rfl) (by rfl) ?_; intro K hK; go_big_quiet_op; go_big_quiet_on))
      refine seq_chain (by rfl) ?_
      intro K hK
      go_wp2_with fail
      (with_reducible refine (IH.out (l.take (halfN n)) _ b off cap _ HT.out (by omega) (by omega) (by omega) (by omega) (by omega) ((hc.take _).below hba hb)).mono ?_); rintro e w1 ⟨rfl, hb1⟩
      have hs1 : Below w.heap.size (w.alloc (Obj.cells #[Value.int .u64 0, Value.int .u64 0] 32)) w1 := ((Below.refl _ _).drew).trans (hb1.mono (by omega))
      have hz1 := Nat.le_trans hz0 hb1.size
      go_wp2_with fail
      refine hK.out _ _ (since hs1) ?_
      clear hK K
      repeat (first | (refine seq_skip (by rfl) (by rfl) ?_; simp only [Act.put, List.setIfInBounds_toArray, List.set_cons_succ, List.set_cons_zero]) | (refine seq_float (by rfl) (by rfl) (by rfl) ?_; intro K hK; go_big_quiet_op; go_big_quiet_on))
      refine seq_chain (by rfl) ?_
      intro K hK
      go_wp2_with fail
      (with_reducible refine (IH.out (l.drop (halfN n)) _ b _ _ _ HD.out (by omega) (by omega) (by omega) (by omega) (by omega) (((hc.drop _).below hba hb).below hb1 (by omega))).mono ?_); rintro e w2 ⟨rfl, hb2⟩
      have hs2 : Below w.heap.size (w.alloc (Obj.cells #[Value.int .u64 0, Value.int .u64 0] 32)) w2 := hs1.trans (hb2.mono (by omega))
      have hz2 := Nat.le_trans hz1 hb2.size
      go_wp2_with fail
      refine hK.out _ _ (since hs2) ?_
      clear hK K
      repeat (first | (refine seq_skip (by rfl) (by rfl) ?_; simp only [Act.put, List.setIfInBounds_toArray, List.set_cons_succ, List.set_cons_zero]) | (refine seq_float (by rfl) (by rfl) (by rfl) ?_; intro K hK; go_big_quiet_op; go_big_quiet_on))
      refine seq_chain (by rfl) ?_
      intro K hK
      go_wp2_with fail
      (with_reducible refine (pair_any _ _ _ _ _).mono ?_); rintro e w3 ⟨rfl, hb3⟩
      have hs3 : Below w.heap.size (w.alloc (Obj.cells #[Value.int .u64 0, Value.int .u64 0] 32)) w3 := hs2.trans (hb3.mono (by omega))
      have ht3 : Below (w.heap.size + 1) (w.alloc (Obj.cells #[Value.int .u64 0, Value.int .u64 0] 32)) w3 := (((Below.refl _ _).drew.trans (hb1.mono hz0)).trans (hb2.mono hz1)).trans (hb3.mono hz2)
      obtain ⟨hc3, hf3⟩ := bcell ht3
      go_wp2_with fail
      refine hK.out _ _ (since hs3) ?_
      clear hK K
      repeat (first | (refine seq_skip (by rfl) (by rfl) ?_; simp only [Act.put, List.setIfInBounds_toArray, List.set_cons_succ, List.set_cons_zero]) | (refine seq_float (by rfl) (by rfl) (by rfl) ?_; intro K hK; go_big_quiet_op; go_big_quiet_on))
      refine seq_chain (by rfl) ?_
      intro K hK
      go_wp2_with fail
      go_wp2_with fail
      refine hK.out _ _ (since ((hs3.setCell (by simp) _).setCell (by simp) _)) ?_
      clear hK K
      refine seq_nil ?_
      go_wp2_with fail
      refine bodyPost_ret (v := dv (pairD (rootD (l.take (halfN n))) (rootD (l.drop (halfN n))))) (by simp [results, Try.results19, go_sem, hc3, pairD]) rfl ⟨by rw [HR.out], ?_⟩
      exact ((((Below.refl _ _).alloc (Nat.le_refl _) _).trans hs3).setCell (by simp) _).setCell (by simp) _
    · obtain rfl : n = 1 := by omega
      obtain ⟨d, rfl⟩ : ∃ d, l = [d] := List.length_eq_one_iff.1 hn
      obtain ⟨c0, c1⟩ := hc 0 (by simp)
      simp only [List.getElem_cons_zero, Nat.zero_mul, Nat.add_zero] at c0 c1
      have c0' : (w.alloc (Obj.cells #[Value.int .u64 0, Value.int .u64 0] 32)).cell? ⟨b, off, none⟩ = _ := (((Below.refl _ _).alloc (Nat.le_refl _) _).cell (p := ⟨b, off, none⟩) hb).trans c0
      have c1' : (w.alloc (Obj.cells #[Value.int .u64 0, Value.int .u64 0] 32)).cell? ⟨b, off + 1, none⟩ = _ := (((Below.refl _ _).alloc (Nat.le_refl _) _).cell (p := ⟨b, off + 1, none⟩) hb).trans c1
      clear hn hc
      go_enter Try.func19, Try.ntmps19
      go_wp2_with fail
      (with_reducible refine (leaf_any d.1 d.2 _).mono ?_); rintro e w1 ⟨rfl, hb1⟩
      obtain ⟨hc1, hf1⟩ := bcell hb1
      go_wp2_with fail
      refine bodyPost_ret (v := dv (leafD d)) (by simp [results, Try.results19, go_sem, hc1, leafD]) rfl ⟨by rw [rootD_one], ?_⟩
      exact ((((Below.refl _ _).alloc (Nat.le_refl _) _).trans (hb1.mono (by simp))).setCell (by simp) _).setCell (by simp) _
end Go.Proofs.Ytbghpjedldhnhaa
