/-
  The growth proofs: ledger's and its reference's.
-/
import Derived.Test.YtbghpjedldhnhaaLedHead
import Derived.Test.YtbghpjedldhnhaaRegionL
namespace Go.Proofs.Ytbghpjedldhnhaa
open Go.RowKit

/-- The proof that a ledger continues its first n records. -/
def growD (l : List Dg) (n : Nat) (whole : Bool) : List Dg :=
  if n = l.length then (if whole then [] else [rootD l])
  else if _h : 2 ≤ l.length then (if n ≤ halfN l.length then growD (l.take (halfN l.length)) n whole ++ [rootD (l.drop (halfN l.length))] else growD (l.drop (halfN l.length)) (n - halfN l.length) false ++ [rootD (l.take (halfN l.length))])
  else []
termination_by l.length
decreasing_by
  · have := halfN_lt _h
    simp
    omega
  · have := halfN_pos l.length
    simp
    omega
theorem growD_all (l : List Dg) (n : Nat) (h : n = l.length) (whole : Bool) : growD l n whole = if whole then [] else [rootD l] := by rw [growD, if_pos h]
theorem growD_lo {l : List Dg} {n : Nat} {whole : Bool} (h : ¬ n = l.length) (h2 : 2 ≤ l.length) (hk : n ≤ halfN l.length) : growD l n whole = growD (l.take (halfN l.length)) n whole ++ [rootD (l.drop (halfN l.length))] := by rw [growD, if_neg h, dif_pos h2, if_pos hk]
theorem growD_hi {l : List Dg} {n : Nat} {whole : Bool} (h : ¬ n = l.length) (h2 : 2 ≤ l.length) (hk : ¬ n ≤ halfN l.length) : growD l n whole = growD (l.drop (halfN l.length)) (n - halfN l.length) false ++ [rootD (l.take (halfN l.length))] := by rw [growD, if_neg h, dif_pos h2, if_neg hk]
theorem growD_len (m : Nat) : ∀ (l : List Dg) (n : Nat) (whole : Bool), l.length ≤ m → 1 ≤ l.length → (growD l n whole).length ≤ l.length := by
  induction m with
  | zero => intro l n whole h h1; omega
  | succ m ih =>
    intro l n whole h h1
    by_cases hn : n = l.length
    · rw [growD_all l n hn]
      split <;> simp
      omega
    · by_cases h2 : 2 ≤ l.length
      · have hk0 := halfN_pos l.length
        have hk1 := halfN_lt h2
        by_cases hk : n ≤ halfN l.length
        · rw [growD_lo hn h2 hk, List.length_append]
          have := ih (l.take (halfN l.length)) n whole (by simp; omega) (by simp; omega)
          simp at this ⊢
          omega
        · rw [growD_hi hn h2 hk, List.length_append]
          have := ih (l.drop (halfN l.length)) (n - halfN l.length) false (by simp; omega) (by simp; omega)
          simp at this ⊢
          omega
      · rw [growD, if_neg hn, dif_neg h2]
        simp
theorem growD_length (l : List Dg) (n : Nat) (whole : Bool) : (growD l n whole).length ≤ l.length + 1 := by
  by_cases h : 1 ≤ l.length
  · have := growD_len l.length l n whole (Nat.le_refl _) h
    omega
  · rw [growD]
    split
    · split <;> simp
    · rw [dif_neg (by omega)]
      simp

set_option maxRecDepth 100000 in
set_option maxHeartbeats 400000 in
theorem split_any (n : Nat) (w : World) (h2 : 2 ≤ n) (hn : n ≤ 1099511627776) :
    Calls Try.prog 31 #[.int .i64 n] w fun e w' => e = .returned (.int .i64 (halfN n)) ∧ w = w' := by
  go_enter Try.func31, Try.ntmps31
  go_wp2
  go_loop [3] (fun c => ∃ k : Nat, c = .int .i64 k ∧ k < n ∧ 1 ≤ k ∧ Hid (∃ j, k = 2 ^ j)) (fun c => n - (intOf c).toNat)
  case atStart => exact ⟨1, rfl, by omega, by omega, lid ⟨0, rfl⟩⟩
  case round =>
    obtain ⟨k, rfl, hk, h1, HJ⟩ := hrel
    by_cases hlt : 2 * k < n
    · go_wp2
      go_round
      case rel =>
        obtain ⟨j, hj⟩ := HJ.out
        exact ⟨k * 2, by go_num, by omega, by omega, lid ⟨j + 1, by rw [Nat.pow_succ, hj]⟩⟩
      case measure => simp [intOf]; omega
    · go_wp2
      go_ret
      obtain ⟨j, hj⟩ := HJ.out
      exact ⟨ret_int' (by rw [halfN_eq hj hk (by omega)]), rfl⟩

set_option maxRecDepth 100000 in
set_option maxHeartbeats 400000 in
theorem refLeft56_any (n : Nat) (w : World) (h2 : 2 ≤ n) (hn : n ≤ 1099511627776) :
    Calls Try.prog 24 #[.int .i64 n] w fun e w' => e = .returned (.int .i64 (halfN n)) ∧ w = w' := by
  go_enter Try.func24, Try.ntmps24
  go_wp2
  go_loop [3] (fun c => ∃ k : Nat, c = .int .i64 k ∧ k < n ∧ 1 ≤ k ∧ Hid (∃ j, k = 2 ^ j)) (fun c => n - (intOf c).toNat)
  case atStart => exact ⟨1, rfl, by omega, by omega, lid ⟨0, rfl⟩⟩
  case round =>
    obtain ⟨k, rfl, hk, h1, HJ⟩ := hrel
    by_cases hlt : 2 * k < n
    · go_wp2
      go_round
      case rel =>
        obtain ⟨j, hj⟩ := HJ.out
        exact ⟨k * 2, by go_num, by omega, by omega, lid ⟨j + 1, by rw [Nat.pow_succ, hj]⟩⟩
      case measure => simp [intOf]; omega
    · go_wp2
      go_ret
      obtain ⟨j, hj⟩ := HJ.out
      exact ⟨ret_int' (by rw [halfN_eq hj hk (by omega)]), rfl⟩

theorem grow_root (w : World) (ds : List Dg) {n b off cap : Nat} (hl : ds.length = n) (h1 : 1 ≤ n) (hc : n ≤ cap) (hn : n ≤ 1099511627776) (hb : b < w.heap.size) (hd : DCells w b off ds) :
    Calls Try.prog 19 #[.slice (some ⟨b, off, none⟩) n cap] w fun e w' => e = .returned (dv (rootD ds)) ∧ Below w.heap.size w w' := root_any n ds n b off cap w hl (Nat.le_refl _) h1 hc hn hb hd

set_option maxRecDepth 100000 in
set_option maxHeartbeats 8000000 in
theorem grow_any (bx : Nat) (m : Nat) : ∀ (l : List Dg) (n b off cap : Nat) (whole : Bool) (w : World), l.length ≤ m → l.length ≤ 10000 → 1 ≤ n → n ≤ l.length → l.length ≤ cap → b < w.heap.size → DCells w b off l → bx < w.heap.size → w.cell? ⟨bx, 0, none⟩ = some (.func (.func 30) #[] #[.pointer (some ⟨bx, 0, none⟩)]) → 
    Calls Try.prog 30 #[.int .i64 n, .slice (some ⟨b, off, none⟩) l.length cap, .bool whole, .pointer (some ⟨bx, 0, none⟩)] w fun e w' => ∃ v', e = .returned v' ∧ w'.ownsRow w.heap.size 32 2 v' (growD l n whole).length (dcells (growD l n whole)) ∧ Below w.heap.size w w' := by
  induction m with
  | zero =>
    intro l n b off cap whole w hl hm h1 h2 hc hb hd hbx hcx 
    omega
  | succ m ih =>
    intro l n b off cap whole w hl hm h1 h2 hc hb hd hbx hcx 
    have IH := lid ih
    have hl40 : l.length ≤ 1099511627776 := by omega
    clear ih
    by_cases hne : n = l.length
    · have hne1 : ((n : Int) == (l.length : Int)) = true := by simp; omega
      cases whole with
      | true =>
        have HV : Hid (growD l n true = []) := lid (growD_all l n hne true)
        clear hne
        go_enter Try.func30, Try.ntmps30
        go_wp2_with fail
        go_ret
        exact ⟨_, rfl, by rw [HV.out]; exact World.ownsRow_nil _ _ _ _, Below.refl _ _⟩
      | false =>
        have HV : Hid (growD l n false = [rootD l]) := lid (growD_all l n hne false)
        clear hne
        have HR := lid (grow_root w l rfl (by omega) hc hl40 hb hd)
        generalize rootD l = R at *
        go_enter Try.func30, Try.ntmps30
        go_wp2_with fail
        (with_reducible refine (HR.out).mono ?_); rintro e w1 ⟨rfl, hb1⟩
        go_wp2_with fail
        go_ret
        refine ⟨_, rfl, ?_, hb1.trans ((ba _ _).mono hb1.size)⟩
        rw [HV.out]
        have := World.ownsRow_lit (e := 32) (base := w.heap.size) (size := 2) w1 #[.int .u64 R.1.toNat, .int .u64 R.2.toNat] 1 hb1.size (by simp [maxLen]) rfl
        simpa [dcells] using this
    · have hne1 : ((n : Int) == (l.length : Int)) = false := by simp; omega
      have hk2 : 2 ≤ l.length := by omega
      have hk0 := halfN_pos l.length
      have hk1 : halfN l.length < l.length := halfN_lt hk2
      by_cases hk : n ≤ halfN l.length
      · have hki : (n : Int) ≤ (halfN l.length : Int) := by omega
        have HG : Hid (growD l n whole = growD (l.take (halfN l.length)) n whole ++ [rootD (l.drop (halfN l.length))]) := lid (growD_lo hne hk2 hk)
        have HLN : Hid ((growD (l.take (halfN l.length)) n whole).length ≤ l.length) := lid (Nat.le_trans (growD_length _ _ _) (by simp; omega))
        have HC : Hid (∀ w1, Below w.heap.size w w1 → Calls Try.prog 30 #[.int .i64 ((n : Nat) : Int), .slice (some ⟨b, off, none⟩) (halfN l.length) cap, .bool whole, .pointer (some ⟨bx, 0, none⟩)] w1 fun e w' => ∃ v', e = .returned v' ∧ w'.ownsRow w1.heap.size 32 2 v' (growD (l.take (halfN l.length)) n whole).length (dcells (growD (l.take (halfN l.length)) n whole)) ∧ Below w1.heap.size w1 w') := lid fun w1 hb1 => by
          have h := IH.out (l.take (halfN l.length)) n b off cap whole w1 (by simp; omega) (by simp; omega) (by omega) (by simp; omega) (by simp; omega) (Nat.lt_of_lt_of_le hb hb1.size) ((hd.take _).below hb1 hb) (Nat.lt_of_lt_of_le hbx hb1.size) ((bc hb1 hbx 0).trans hcx)
          simpa [List.length_take, Nat.min_eq_left (Nat.le_of_lt hk1)] using h
        have HR : Hid (∀ w1, Below w.heap.size w w1 → Calls Try.prog 19 #[.slice (some ⟨b, (off + halfN l.length * 2), none⟩) (l.length - halfN l.length) (cap - halfN l.length)] w1 fun e w' => e = .returned (dv (rootD (l.drop (halfN l.length)))) ∧ Below w1.heap.size w1 w') := lid fun w1 hb1 =>
          grow_root w1 (l.drop (halfN l.length)) (by simp) (by omega) (by omega) (by omega) (Nat.lt_of_lt_of_le hb hb1.size) ((hd.drop _).below hb1 hb)
        generalize growD (l.take (halfN l.length)) n whole = G at *
        generalize rootD (l.drop (halfN l.length)) = R at *
        generalize growD l n whole = V at *
        go_enter Try.func30, Try.ntmps30
        go_wp2_with fail
        (with_reducible refine (split_any l.length _ hk2 hl40).mono ?_); rintro e w1 ⟨rfl, rfl⟩
        go_wp2_with fail
        refine wp_region_seqL 13 (fun w' => ∃ s : Since w.heap.size w, w' = s.world) [(0, true), (1, true), (2, true), (3, true), (4, true), (5, true), (7, true), (8, true), (9, true), (6, false), (10, false), (11, false), (12, false), (13, false)] (by kernel_rfl) (by kernel_rfl) (by intro c d v a w h; cases d <;> exact h) (since (Below.refl _ _).drew) ?_
        repeat (first | (refine seqL_skip (by rfl) (by rfl) (by rfl) ?_; simp only [Act.put, List.setIfInBounds_toArray, List.set_cons_succ, List.set_cons_zero]) | (refine seqL_float (by rfl) (by rfl) (by rfl) (by rfl) ?_; intro K hK; go_big_quiet_op; go_big_quiet_on))
        refine seqL_chain (by rfl) ?_
        intro K hK
        go_wp2_with fail
        (with_reducible refine (HC.out _ (Below.refl _ _).drew).mono ?_); rintro e w2 ⟨v2, rfl, hown, hb2⟩
        have hw2 : Below w.heap.size w w2 := (Below.refl _ _).drew.trans hb2
        go_wp2_with fail
        refine hK.out _ _ (since hw2) ?_
        clear hK K
        repeat (first | (refine seqL_skip (by rfl) (by rfl) (by rfl) ?_; simp only [Act.put, List.setIfInBounds_toArray, List.set_cons_succ, List.set_cons_zero]) | (refine seqL_float (by rfl) (by rfl) (by rfl) (by rfl) ?_; intro K hK; go_big_quiet_op; go_big_quiet_on))
        refine seqL_chain (by rfl) ?_
        intro K hK
        go_wp2_with fail
        (with_reducible refine (HR.out _ hw2).mono ?_); rintro e w3 ⟨rfl, hb3⟩
        have hown3 := ownsRow_below hown hb3
        have hw3 := hw2.trans (hb3.mono hw2.size)
        go_wp2_with fail
        refine hK.out _ _ (since hw3) ?_
        clear hK K
        repeat (first | (refine seqL_skip (by rfl) (by rfl) (by rfl) ?_; simp only [Act.put, List.setIfInBounds_toArray, List.set_cons_succ, List.set_cons_zero]) | (refine seqL_float (by rfl) (by rfl) (by rfl) (by rfl) ?_; intro K hK; go_big_quiet_op; go_big_quiet_on))
        refine seqL_chain (by rfl) ?_
        intro K hK
        go_wp2_with fail
        refine hK.out _ _ (since (hw3.alloc hw3.size _)) ?_
        clear hK K
        repeat (first | (refine seqL_skip (by rfl) (by rfl) (by rfl) ?_; simp only [Act.put, List.setIfInBounds_toArray, List.set_cons_succ, List.set_cons_zero]) | (refine seqL_float (by rfl) (by rfl) (by rfl) (by rfl) ?_; intro K hK; go_big_quiet_op; go_big_quiet_on))
        refine seqL_chain (by rfl) ?_
        intro K hK
        go_wp2_with (at_builtin; go_must (refine wpList_append_new #[.int .u64 R.1.toNat, .int .u64 R.2.toNat] rfl _ _ 23 rfl w.heap.size 32 (.agg #[.int .u64 0, .int .u64 0]) 2 16 info_dgc Try.underlying23 rfl (by decide) _ _ _ hown3 rfl rfl rfl (by simp [Value.oneCell']) (by have := HLN.out; simp [maxLen]; omega) (by have := HLN.out; omega) hw3.size ?_))
        intro v5 w5 hown5 hb5 _
        have hw5 := hw3.trans hb5
        go_wp2_with fail
        refine hK.out _ _ (since hw5) ?_
        clear hK K
        repeat (first | (refine seqL_skip (by rfl) (by rfl) (by rfl) ?_; simp only [Act.put, List.setIfInBounds_toArray, List.set_cons_succ, List.set_cons_zero]) | (refine seqL_float (by rfl) (by rfl) (by rfl) (by rfl) ?_; intro K hK; go_big_quiet_op; go_big_quiet_on))
        refine seqL_last (by rfl) (by rfl) ?_
        intro K hK
        go_wp2_with fail
        refine hK.out _ _ ?_
        clear hK K
        go_wp2_with fail
        go_ret
        refine ⟨_, rfl, ?_, hw5⟩
        rw [HG.out, List.length_append, dcells_append]
        exact hown5
      · have hki : ((halfN l.length : Nat) : Int) < (n : Int) := by omega
        have HG : Hid (growD l n whole = growD (l.drop (halfN l.length)) (n - halfN l.length) false ++ [rootD (l.take (halfN l.length))]) := lid (growD_hi hne hk2 hk)
        have HLN : Hid ((growD (l.drop (halfN l.length)) (n - halfN l.length) false).length ≤ l.length) := lid (Nat.le_trans (growD_length _ _ _) (by simp; omega))
        have HC : Hid (∀ w1, Below w.heap.size w w1 → Calls Try.prog 30 #[.int .i64 ((n : Int) - ((halfN l.length : Nat) : Int)), .slice (some ⟨b, (off + halfN l.length * 2), none⟩) (l.length - halfN l.length) (cap - halfN l.length), .bool false, .pointer (some ⟨bx, 0, none⟩)] w1 fun e w' => ∃ v', e = .returned v' ∧ w'.ownsRow w1.heap.size 32 2 v' (growD (l.drop (halfN l.length)) (n - halfN l.length) false).length (dcells (growD (l.drop (halfN l.length)) (n - halfN l.length) false)) ∧ Below w1.heap.size w1 w') := lid fun w1 hb1 => by
          have h := IH.out (l.drop (halfN l.length)) (n - halfN l.length) b (off + halfN l.length * 2) (cap - halfN l.length) false w1 (by simp; omega) (by simp; omega) (by omega) (by simp; omega) (by simp; omega) (Nat.lt_of_lt_of_le hb hb1.size) ((hd.drop _).below hb1 hb) (Nat.lt_of_lt_of_le hbx hb1.size) ((bc hb1 hbx 0).trans hcx)
          simpa [List.length_drop, Nat.min_eq_left (Nat.le_of_lt hk1), Int.natCast_sub (Nat.le_of_lt (Nat.lt_of_not_le hk))] using h
        have HR : Hid (∀ w1, Below w.heap.size w w1 → Calls Try.prog 19 #[.slice (some ⟨b, off, none⟩) (halfN l.length) cap] w1 fun e w' => e = .returned (dv (rootD (l.take (halfN l.length)))) ∧ Below w1.heap.size w1 w') := lid fun w1 hb1 =>
          grow_root w1 (l.take (halfN l.length)) (by simp; omega) (by omega) (by omega) (by omega) (Nat.lt_of_lt_of_le hb hb1.size) ((hd.take _).below hb1 hb)
        generalize growD (l.drop (halfN l.length)) (n - halfN l.length) false = G at *
        generalize rootD (l.take (halfN l.length)) = R at *
        generalize growD l n whole = V at *
        go_enter Try.func30, Try.ntmps30
        go_wp2_with fail
        (with_reducible refine (split_any l.length _ hk2 hl40).mono ?_); rintro e w1 ⟨rfl, rfl⟩
        go_wp2_with fail
        refine wp_region_seqL 14 (fun w' => ∃ s : Since w.heap.size w, w' = s.world) [(0, true), (1, true), (2, true), (3, true), (4, true), (5, true), (6, true), (8, true), (9, true), (10, true), (7, false), (11, false), (12, false), (13, false), (14, false)] (by kernel_rfl) (by kernel_rfl) (by intro c d v a w h; cases d <;> exact h) (since (Below.refl _ _).drew) ?_
        repeat (first | (refine seqL_skip (by rfl) (by rfl) (by rfl) ?_; simp only [Act.put, List.setIfInBounds_toArray, List.set_cons_succ, List.set_cons_zero]) | (refine seqL_float (by rfl) (by rfl) (by rfl) (by rfl) ?_; intro K hK; go_big_quiet_op; go_big_quiet_on))
        refine seqL_chain (by rfl) ?_
        intro K hK
        go_wp2_with fail
        (with_reducible refine (HC.out _ (Below.refl _ _).drew).mono ?_); rintro e w2 ⟨v2, rfl, hown, hb2⟩
        have hw2 : Below w.heap.size w w2 := (Below.refl _ _).drew.trans hb2
        go_wp2_with fail
        refine hK.out _ _ (since hw2) ?_
        clear hK K
        repeat (first | (refine seqL_skip (by rfl) (by rfl) (by rfl) ?_; simp only [Act.put, List.setIfInBounds_toArray, List.set_cons_succ, List.set_cons_zero]) | (refine seqL_float (by rfl) (by rfl) (by rfl) (by rfl) ?_; intro K hK; go_big_quiet_op; go_big_quiet_on))
        refine seqL_chain (by rfl) ?_
        intro K hK
        go_wp2_with fail
        (with_reducible refine (HR.out _ hw2).mono ?_); rintro e w3 ⟨rfl, hb3⟩
        have hown3 := ownsRow_below hown hb3
        have hw3 := hw2.trans (hb3.mono hw2.size)
        go_wp2_with fail
        refine hK.out _ _ (since hw3) ?_
        clear hK K
        repeat (first | (refine seqL_skip (by rfl) (by rfl) (by rfl) ?_; simp only [Act.put, List.setIfInBounds_toArray, List.set_cons_succ, List.set_cons_zero]) | (refine seqL_float (by rfl) (by rfl) (by rfl) (by rfl) ?_; intro K hK; go_big_quiet_op; go_big_quiet_on))
        refine seqL_chain (by rfl) ?_
        intro K hK
        go_wp2_with fail
        refine hK.out _ _ (since (hw3.alloc hw3.size _)) ?_
        clear hK K
        repeat (first | (refine seqL_skip (by rfl) (by rfl) (by rfl) ?_; simp only [Act.put, List.setIfInBounds_toArray, List.set_cons_succ, List.set_cons_zero]) | (refine seqL_float (by rfl) (by rfl) (by rfl) (by rfl) ?_; intro K hK; go_big_quiet_op; go_big_quiet_on))
        refine seqL_chain (by rfl) ?_
        intro K hK
        go_wp2_with (at_builtin; go_must (refine wpList_append_new #[.int .u64 R.1.toNat, .int .u64 R.2.toNat] rfl _ _ 23 rfl w.heap.size 32 (.agg #[.int .u64 0, .int .u64 0]) 2 16 info_dgc Try.underlying23 rfl (by decide) _ _ _ hown3 rfl rfl rfl (by simp [Value.oneCell']) (by have := HLN.out; simp [maxLen]; omega) (by have := HLN.out; omega) hw3.size ?_))
        intro v5 w5 hown5 hb5 _
        have hw5 := hw3.trans hb5
        go_wp2_with fail
        refine hK.out _ _ (since hw5) ?_
        clear hK K
        repeat (first | (refine seqL_skip (by rfl) (by rfl) (by rfl) ?_; simp only [Act.put, List.setIfInBounds_toArray, List.set_cons_succ, List.set_cons_zero]) | (refine seqL_float (by rfl) (by rfl) (by rfl) (by rfl) ?_; intro K hK; go_big_quiet_op; go_big_quiet_on))
        refine seqL_last (by rfl) (by rfl) ?_
        intro K hK
        go_wp2_with fail
        refine hK.out _ _ ?_
        clear hK K
        go_wp2_with fail
        go_ret
        refine ⟨_, rfl, ?_, hw5⟩
        rw [HG.out, List.length_append, dcells_append]
        exact hown5

end Go.Proofs.Ytbghpjedldhnhaa
