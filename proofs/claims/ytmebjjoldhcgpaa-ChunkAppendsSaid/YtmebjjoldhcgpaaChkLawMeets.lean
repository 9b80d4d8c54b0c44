/-
  The law ChunkMeets returns true and makes new memory alone.
-/
import Derived.Test.YtmebjjoldhcgpaaChkLawLocal
namespace Go.Proofs.Ytmebjjoldhcgpaa
open Go.RowKit

/-- The bytes from each end of a piece on. -/
def distsOf : List ByteArray → List Int
  | [] => []
  | _ :: xs => (total xs : Int) :: distsOf xs
theorem distsOf_length (l : List ByteArray) : (distsOf l).length = l.length := by
  induction l with
  | nil => rfl
  | cons x l ih => simp [distsOf, ih]
theorem total_cons (x : ByteArray) (l : List ByteArray) : total (x :: l) = x.size + total l := by simp [total]
theorem dists_ends (l : List ByteArray) : ∀ st : Nat, (endsFrom st l).map (fun e => ((st + total l : Nat) : Int) - e) = distsOf l := by
  induction l with
  | nil => intro st; rfl
  | cons x l ih =>
    intro st
    rw [endsFrom, distsOf, List.map_cons, total_cons]
    congr 1
    · omega
    · rw [← ih (st + x.size)]
      apply List.map_congr_left
      intro e _
      omega
theorem distsOf_drop (l : List ByteArray) (i : Nat) : (distsOf l).drop i = distsOf (l.drop i) := by
  induction l generalizing i with
  | nil => simp [distsOf]
  | cons x l ih =>
    cases i with
    | zero => rfl
    | succ i => rw [distsOf, List.drop_succ_cons, List.drop_succ_cons, ih]
theorem distsOf_at (l : List ByteArray) (i : Nat) (h : i < l.length) : (distsOf l)[i]? = some (total (l.drop (i + 1)) : Int) := by
  induction l generalizing i with
  | nil => simp at h
  | cons x l ih =>
    cases i with
    | zero => simp [distsOf]
    | succ i => rw [distsOf, List.getElem?_cons_succ, ih i (by simpa using h), List.drop_succ_cons]
theorem distsOf_from (l : List ByteArray) (i : Nat) (h : i < l.length) : (distsOf l).drop i = (total (l.drop (i + 1)) : Int) :: distsOf (l.drop (i + 1)) := by
  rw [distsOf_drop, List.drop_eq_getElem_cons h, distsOf]
theorem total_append (a b : List ByteArray) : total (a ++ b) = total a + total b := by simp [total]
/-- From ends within a common rest on all chunks are the same. -/
theorem chunks_meet {l m v b : Nat} (s t r : ByteArray) (i k : Nat) (hst : ∃ x, s.data.toList = x ++ r.data.toList) (htt : ∃ x, t.data.toList = x ++ r.data.toList)
    (he : total ((chunksOf s l m v b).drop (i + 1)) = total ((chunksOf t l m v b).drop (k + 1))) (hr : total ((chunksOf s l m v b).drop (i + 1)) ≤ r.size) : (chunksOf s l m v b).drop (i + 1) = (chunksOf t l m v b).drop (k + 1) := by
  have key : ∀ (u : ByteArray) (j : Nat), (∃ x, u.data.toList = x ++ r.data.toList) → total ((chunksOf u l m v b).drop (j + 1)) ≤ r.size →
      (u.extract (total ((chunksOf u l m v b).take (j + 1))) u.size).data.toList = r.data.toList.drop (r.size - total ((chunksOf u l m v b).drop (j + 1))) := by
    rintro u j ⟨x, hx⟩ hle
    have h1 : total ((chunksOf u l m v b).take (j + 1)) + total ((chunksOf u l m v b).drop (j + 1)) = u.size := by rw [← total_append, List.take_append_drop, total_chunks]
    have h2 : u.size = x.length + r.size := by
      have := congrArg List.length hx
      rw [List.length_append] at this
      exact this
    rw [Lib.extract_to_end, hx, List.drop_append]
    rw [List.drop_eq_nil_of_le (by omega), List.nil_append]
    congr 1
    omega
  rw [← chunks_drop s (i + 1), ← chunks_drop t (k + 1)]
  have e1 := key s i hst hr
  have e2 := key t k htt (by rw [← he]; exact hr)
  rw [← he] at e2
  rw [bytes_ext (e1.trans e2.symm)]

set_option maxRecDepth 100000 in
set_option maxHeartbeats 4000000 in
theorem ends_any (s : ByteArray) (l m v b : Nat) (w : World) (hv1 : 1 ≤ v) (hvl : v ≤ l) (hs : s.size ≤ 65536) (hE : checkE l m v b = 0) :
    Calls Try.prog 14 #[.string s, .agg (pcells l m v b)] w fun e w' => ∃ ao n cap, e = .returned (.slice ao n cap) ∧ (chunksOf s l m v b).length = n ∧ n ≤ cap ∧ cap ≤ maxLen ∧ Sl w' 1 ao n (ivals (distsOf (chunksOf s l m v b))) ∧ Below w.heap.size w w' := by
  have hs' : (s.size : Int) ≤ 65536 := by omega
  have hcnt : (chunksOf s l m v b).length ≤ s.size := by rw [← cuts_len hv1 hvl]; exact cuts_length _ _ _ _ _
  have HE := lid hE
  have HK := lid (chunksI_ok (s := s) hE)
  clear hE
  go_enter Try.func14, Try.ntmps14
  go_wp2_with fail
  (with_reducible refine (Bounds_any s l m v b _ hs).mono ?_); rintro e w1 ⟨a1, n1, c1, rfl, hn1, hnc1, hcm1, hsl1, hb1⟩
  rw [HK.out] at hn1 hsl1
  rw [HE.out]
  have hbB : Below w.heap.size w w1 := ((Below.refl _ _).alloc (Nat.le_refl _) _).trans (hb1.mono (by simp))
  have HDE : Hid ((endsFrom 0 (chunksOf s l m v b)).map (fun e => (s.size : Int) - e) = distsOf (chunksOf s l m v b)) := lid (by
    have := dists_ends (chunksOf s l m v b) 0
    rwa [Nat.zero_add, total_chunks] at this)
  have HBd : Hid (∀ k (h : k < (chunksOf s l m v b).length), ∃ e : Nat, (endsFrom 0 (chunksOf s l m v b))[k]? = some (e : Int) ∧ e ≤ s.size) := lid fun k h => by
    refine ⟨_, endsFrom_at _ 0 k h, ?_⟩
    rw [Nat.zero_add]
    have := total_take (chunksOf s l m v b) (k + 1)
    rwa [total_chunks] at this
  generalize hC : chunksOf s l m v b = C at *
  have HC := lid hC
  have HN1 := lid hn1
  have HS1 := lid hsl1
  have hn1' : n1 ≤ 65536 := by omega
  clear hb1 hn1 hsl1 hC
  go_wp2_with fail
  go_loopw [7, 9, 19] (fun out _ i wr => ∃ k : Nat, k ≤ n1 ∧ i = .int .i64 k ∧ wr.ownsRow w1.heap.size 3 1 out k (ivals (((endsFrom 0 C).map (fun e => (s.size : Int) - e)).take k)) ∧ Below w1.heap.size w1 wr) (fun _ _ i _ => n1 - (intOf i).toNat)
  case atStart => exact ⟨0, Nat.zero_le _, rfl, ownsRow_empty rfl (Nat.le_refl _), (Below.refl _ _).alloc (Nat.le_refl _) _⟩
  case round =>
    obtain ⟨k, hk, rfl, hown, hbr⟩ := hrel
    have hzr := hbr.size
    by_cases hlt : k < n1
    · have hlC : k < C.length := by have := HN1.out; omega
      obtain ⟨e, he1, he2⟩ := HBd.out k hlC
      obtain ⟨b1, o1, rfl, hlb, hcell⟩ := (HS1.out.below hbr).at_ hlt
      have x0 := hcell k (.int .i64 e) (by rw [ivals, List.getElem?_map, he1]; rfl)
      have HT : Hid (((endsFrom 0 C).map (fun e => (s.size : Int) - e)).take (k + 1) = ((endsFrom 0 C).map (fun e => (s.size : Int) - e)).take k ++ [(s.size : Int) - e]) := lid (by
        rw [List.take_add_one, List.getElem?_map, he1]
        rfl)
      have he2' : (e : Int) ≤ s.size := by omega
      clear hcell he1
      go_wp2_with (at_builtin; go_must (refine wpList_append_new #[.int .i64 ((s.size : Int) - e)] rfl _ _ 32 rfl w1.heap.size 3 (.int .i64 0) 1 8 info_int Try.underlying32 rfl (by decide) _ k _ hown rfl rfl rfl (by simp [Value.oneCell']) (by simp [maxLen]; omega) (by omega) (by omega) ?_))
      intro v' w3 hown3 hb3 _
      go_wp2_with fail
      go_roundw
      case rel => exact ⟨k + 1, by omega, by go_num, by rw [HT.out]; simpa [ivals] using hown3, hbr.trans hb3⟩
      case measure => simp [intOf]; omega
    · obtain rfl : k = n1 := by omega
      go_wp2_with fail
      go_ret
      rw [List.take_of_length_le (by rw [List.length_map, endsFrom_length]; have := HN1.out; omega), HDE.out] at hown
      obtain ⟨ao, cap, rfl, h1, h2, h3⟩ := Sl.of_own hown
      have e1 := HC.out
      subst e1
      exact ⟨ao, _, cap, rfl, HN1.out, h1, h2, h3, hbB.trans (hbr.mono (by have := hbB.size; omega))⟩

/-- Not yet met: none of the first i ends of the one is an end of the other within the rest. -/
def NotMet (X Y : List Int) (r i : Nat) : Prop := ∀ i' k', i' < i → k' < Y.length → ∀ n, X[i']? = some n → Y[k']? = some n → ¬ (0 ≤ n ∧ n ≤ r)

set_option maxRecDepth 100000 in
set_option maxHeartbeats 8000000 in
theorem LawMeets_ok (a c r : ByteArray) (l m v b : Nat) (w : World) (ha : a.size ≤ 100) (hc : c.size ≤ 100) (hr : r.size ≤ 300) (h1 : 1 ≤ v) (h12 : v ≤ l) (hE : checkE l m v b = 0) :
    Calls Try.prog 5 #[.string a, .string c, .string r, .agg (pcells l m v b)] w fun e w' => e = .returned (.bool true) ∧ Below w.heap.size w w' := by
  have hb0 : Below w.heap.size w (w.alloc (Obj.cells (pcells l m v b) 23)) := ba _ _
  have hP0 := PC.new w l m v b 23
  have ha' : (a.size : Int) ≤ 100 := by omega
  have hc' : (c.size : Int) ≤ 100 := by omega
  have hr' : (r.size : Int) ≤ 300 := by omega
  have ha2 : decide ((100 : Int) < a.size) = false := by simp; omega
  have hc2 : decide ((100 : Int) < c.size) = false := by simp; omega
  have hr2 : decide ((300 : Int) < r.size) = false := by simp; omega
  have hZ1 : Hid ((a ++ r).size ≤ 65536) := lid (by simp [ByteArray.size_append]; omega)
  have hZ2 : Hid ((c ++ r).size ≤ 65536) := lid (by simp [ByteArray.size_append]; omega)
  have HE := lid hE
  clear hE
  go_enter Try.func5, Try.ntmps5
  go_wp2_with fail
  (with_reducible refine (Check_any l m v b _).mono ?_); rintro e w1 ⟨rfl, hb1⟩
  rw [HE.out]
  have hP1 := lid (hP0.below hb1 (by simp))
  have hw1 := hb0.trans (hb1.mono (by simp))
  have hq1 : w.heap.size < w1.heap.size := by have := hb1.size; rw [World.size_alloc] at this; omega
  clear hb1 hP0
  obtain ⟨p0, p1, p2, p3⟩ := hP1.out
  go_wp2_with fail
  refine wp_region_seq (fun w' => ∃ s : Since w1.heap.size w1, w' = s.world) [(0, true), (1, true), (2, true), (3, true), (5, true), (6, true), (7, true), (8, true), (4, false), (9, false), (10, false), (11, false)] (by kernel_rfl) (by kernel_rfl) (by intro c d v a w h; cases d <;> exact h) (since (Below.refl _ _).drew) ?_
  repeat (first | (refine seq_skip (by rfl) (by rfl) ?_; simp only [Act.put, List.setIfInBounds_toArray, List.set_cons_succ, List.set_cons_zero]) | (refine seq_float (by rfl) (by rfl) (by rfl) ?_; intro K hK; go_big_quiet_op; go_big_quiet_on))
  refine seq_chain (by rfl) ?_
  intro K hK
  go_wp2_with fail
  (with_reducible refine (ends_any (a ++ r) l m v b _ h1 h12 hZ1.out HE.out).mono ?_); rintro e w2 ⟨a1, n1, c1, rfl, hn1, hnc1, hcm1, hsl1, hb2⟩
  have hb12 : Below w1.heap.size w1 w2 := (Below.refl _ _).drew.trans hb2
  have HN1 := lid hn1
  have HS1 := lid hsl1
  clear hn1 hsl1 hb2
  go_wp2_with fail
  refine hK.out _ _ (since hb12) ?_
  clear hK K
  repeat (first | (refine seq_skip (by rfl) (by rfl) ?_; simp only [Act.put, List.setIfInBounds_toArray, List.set_cons_succ, List.set_cons_zero]) | (refine seq_float (by rfl) (by rfl) (by rfl) ?_; intro K hK; go_big_quiet_op; go_big_quiet_on))
  refine seq_chain (by rfl) ?_
  intro K hK
  go_wp2_with fail
  (with_reducible refine (ends_any (c ++ r) l m v b _ h1 h12 hZ2.out HE.out).mono ?_); rintro e w3 ⟨a2, n2, c2, rfl, hn2, hnc2, hcm2, hsl2, hb3⟩
  have hb13 := hb12.trans (hb3.mono hb12.size)
  have HN2 := lid hn2
  have HS2 := lid hsl2
  replace HS1 := lid (HS1.out.below hb3)
  clear hn2 hsl2 hb3
  go_wp2_with fail
  refine hK.out _ _ (since hb13) ?_
  clear hK K
  repeat (first | (refine seq_skip (by rfl) (by rfl) ?_; simp only [Act.put, List.setIfInBounds_toArray, List.set_cons_succ, List.set_cons_zero]) | (refine seq_float (by rfl) (by rfl) (by rfl) ?_; intro K hK; go_big_quiet_op; go_big_quiet_on))
  refine seq_chain (by rfl) ?_
  intro K hK
  go_wp2_with fail
  refine hK.out _ _ (since hb13) ?_
  clear hK K
  repeat (first | (refine seq_skip (by rfl) (by rfl) ?_; simp only [Act.put, List.setIfInBounds_toArray, List.set_cons_succ, List.set_cons_zero]) | (refine seq_float (by rfl) (by rfl) (by rfl) ?_; intro K hK; go_big_quiet_op; go_big_quiet_on))
  refine seq_chain (by rfl) ?_
  intro K hK
  go_wp2_with fail
  refine hK.out _ _ (since hb13) ?_
  clear hK K
  repeat (first | (refine seq_skip (by rfl) (by rfl) ?_; simp only [Act.put, List.setIfInBounds_toArray, List.set_cons_succ, List.set_cons_zero]) | (refine seq_float (by rfl) (by rfl) (by rfl) ?_; intro K hK; go_big_quiet_op; go_big_quiet_on))
  refine seq_nil ?_
  have hw3 := hw1.trans (hb13.mono hw1.size)
  have hn1' : n1 ≤ 400 := by
    rw [← HN1.out, ← cuts_len h1 h12]
    exact Nat.le_trans (cuts_length _ _ _ _ _) (by rw [show (a ++ r).data.toList.length = (a ++ r).size from rfl, ByteArray.size_append]; omega)
  have hn2' : n2 ≤ 400 := by
    rw [← HN2.out, ← cuts_len h1 h12]
    exact Nat.le_trans (cuts_length _ _ _ _ _) (by rw [show (c ++ r).data.toList.length = (c ++ r).size from rfl, ByteArray.size_append]; omega)
  have HM : Hid (∀ i k, i < n1 → k < n2 → total ((chunksOf (a ++ r) l m v b).drop (i + 1)) = total ((chunksOf (c ++ r) l m v b).drop (k + 1)) → total ((chunksOf (a ++ r) l m v b).drop (i + 1)) ≤ r.size → (chunksOf (a ++ r) l m v b).drop (i + 1) = (chunksOf (c ++ r) l m v b).drop (k + 1)) :=
    lid fun i k _ _ he hle => chunks_meet (a ++ r) (c ++ r) r i k ⟨a.data.toList, by simp [ByteArray.data_append]⟩ ⟨c.data.toList, by simp [ByteArray.data_append]⟩ he hle
  have HL1 : Hid (a.size + r.size = 0 ∨ 0 < n1) := lid (by
    rcases Nat.eq_zero_or_pos (a.size + r.size) with h | h
    · exact .inl h
    · right
      rw [← HN1.out, List.length_pos_iff]
      intro e
      have := total_chunks (a ++ r) l m v b
      rw [e, ByteArray.size_append] at this
      simp [total] at this
      omega)
  have HL2 : Hid (c.size + r.size = 0 ∨ 0 < n2) := lid (by
    rcases Nat.eq_zero_or_pos (c.size + r.size) with h | h
    · exact .inl h
    · right
      rw [← HN2.out, List.length_pos_iff]
      intro e
      have := total_chunks (c ++ r) l m v b
      rw [e, ByteArray.size_append] at this
      simp [total] at this
      omega)
  generalize chunksOf (a ++ r) l m v b = CA at *
  generalize chunksOf (c ++ r) l m v b = CB at *
  clear hb12 hb13 p0 p1 p2 p3 hP1 hZ1 hZ2
  have hn1i : (n1 : Int) ≤ 400 := by omega
  have hn2i : (n2 : Int) ≤ 400 := by omega
  go_wp2_with fail
  go_loopw [11, 12, 13, 14, 46] (fun _ _ _ _ i wr => ∃ k : Nat, k ≤ n1 ∧ i = .int .i64 k ∧ Hid (NotMet (distsOf CA) (distsOf CB) r.size k) ∧ wr = w3) (fun _ _ _ _ i _ => n1 - (intOf i).toNat)
  case atStart => exact ⟨0, Nat.zero_le _, rfl, lid (fun i' _ h => by omega), rfl⟩
  case round =>
    obtain ⟨i, hi, rfl, HNM, rfl⟩ := hrel
    by_cases hlt : i < n1
    · have hlA : i < CA.length := by have := HN1.out; omega
      obtain ⟨b1, o1, rfl, hlb1, hcell⟩ := HS1.out.at_ hlt
      have x0 := hcell i (.int .i64 (total (CA.drop (i + 1)) : Nat)) (by rw [ivals, List.getElem?_map, distsOf_at _ _ hlA]; rfl)
      clear hcell
      generalize hTA : total (CA.drop (i + 1)) = tA at *
      have HTA := lid hTA
      have HFA : Hid ((distsOf CA).drop i = (tA : Int) :: distsOf (CA.drop (i + 1)) ∧ (distsOf CA)[i]? = some (tA : Int)) := lid ⟨by rw [distsOf_from _ _ hlA, HTA.out], by rw [distsOf_at _ _ hlA, HTA.out]⟩
      clear hTA
      go_wp2_with fail
      obtain ⟨wo, rfl⟩ : ∃ wo : World, wo = wr := ⟨_, rfl⟩
      go_loopw [13, 14, 53] (fun _ _ j wr => ∃ k : Nat, k ≤ n2 ∧ j = .int .i64 k ∧ Hid (∀ k', k' < k → ∀ n, (distsOf CB)[k']? = some n → (tA : Int) = n → ¬ (0 ≤ n ∧ n ≤ r.size)) ∧ wr = wo) (fun _ _ j _ => n2 - (intOf j).toNat)
      case atStart => exact ⟨0, Nat.zero_le _, rfl, lid (fun k' h => by omega), rfl⟩
      case round =>
        obtain ⟨k, hk, rfl, HK, rfl⟩ := hrel
        by_cases hlk : k < n2
        · have hlB : k < CB.length := by have := HN2.out; omega
          obtain ⟨b2, o2, rfl, hlb2, hcell⟩ := HS2.out.at_ hlk
          have y0 := hcell k (.int .i64 (total (CB.drop (k + 1)) : Nat)) (by rw [ivals, List.getElem?_map, distsOf_at _ _ hlB]; rfl)
          clear hcell
          generalize hTB : total (CB.drop (k + 1)) = tB at *
          have HTB := lid hTB
          have HFB : Hid ((distsOf CB).drop k = (tB : Int) :: distsOf (CB.drop (k + 1)) ∧ (distsOf CB)[k]? = some (tB : Int)) := lid ⟨by rw [distsOf_from _ _ hlB, HTB.out], by rw [distsOf_at _ _ hlB, HTB.out]⟩
          clear hTB
          have hp0 : (0 : Int) ≤ tA := by omega
          have hp1 : decide ((0 : Int) ≤ tA) = true := by simp
          by_cases heq : tA = tB
          · have e1 : ((tA : Int) == (tB : Int)) = true := by rw [beq_iff_eq]; omega
            have HQ := lid heq
            clear heq
            by_cases hle : tA ≤ r.size
            · have f1 : decide ((tA : Int) ≤ (r.size : Int)) = true := by simp; omega
              have f2 : decide (tA ≤ r.size) = true := by simp; omega
              have HD : Hid ((distsOf CA).drop i = (distsOf CB).drop k) := lid (by
                rw [HFA.out.1, HFB.out.1, HQ.out]
                rw [HM.out i k hlt hlk (by rw [HTA.out, HTB.out, HQ.out]) (by rw [HTA.out]; exact hle)])
              have hca : ¬ c1 = i := by omega
              have hcb : ¬ c2 = k := by omega
              have g1 : (i : Int) ≤ n1 := by omega
              have g2 : (k : Int) ≤ n2 := by omega
              have g3 : (n1 : Int) ≤ c1 := by omega
              have g4 : (n2 : Int) ≤ c2 := by omega
              have T1 : Hid (Sl wr 1 (some ⟨b1, o1 + i, none⟩) (n1 - i) (ivals ((distsOf CA).drop i))) := lid (by
                have := HS1.out.drop (k := i) (c := c1) (by omega) hnc1
                rw [if_neg hca, Nat.mul_one] at this
                simpa only [Option.map_some, Addr.add_lit, ivals, List.map_drop] using this)
              have T2 : Hid (Sl wr 1 (some ⟨b2, o2 + k, none⟩) (n2 - k) (ivals ((distsOf CB).drop k))) := lid (by
                have := HS2.out.drop (k := k) (c := c2) (by omega) hnc2
                rw [if_neg hcb, Nat.mul_one] at this
                simpa only [Option.map_some, Addr.add_lit, ivals, List.map_drop] using this)
              have HL1' : Hid (((distsOf CA).drop i).length = n1 - i) := lid (by rw [List.length_drop, distsOf_length, HN1.out])
              have HL2' : Hid (((distsOf CB).drop k).length = n2 - k) := lid (by rw [List.length_drop, distsOf_length, HN2.out])
              have hbd1 : n1 - i ≤ 1099511627776 := by omega
              clear hle
              go_wp2_with fail
              refine wp_region_seq (fun w' => ∃ s : Since wr.heap.size wr, w' = s.world) [(0, true), (1, true), (2, true), (3, true), (4, true), (5, true), (6, false), (7, true), (8, false), (9, true), (10, false)] (by kernel_rfl) (by kernel_rfl) (by intro c d v a w h; cases d <;> exact h) (since (Below.refl _ _).drew) ?_
              repeat (first | (refine seq_skip (by rfl) (by rfl) ?_; simp only [Act.put, List.setIfInBounds_toArray, List.set_cons_succ, List.set_cons_zero]) | (refine seq_float (by rfl) (by rfl) (by rfl) ?_; intro K hK; go_big_quiet_op; go_big_quiet_on))
              refine seq_chain (by rfl) ?_
              intro K hK
              go_wp2_with fail
              (with_reducible refine (SameInts_any _ _ (n1 - i) (n2 - k) _ _ (c1 - i) (c2 - k) _ HL1'.out HL2'.out hbd1 T1.out.drew T2.out.drew).mono ?_); rintro e w4 ⟨rfl, hb4⟩
              rw [decide_eq_true HD.out]
              have hb34 : Below wr.heap.size wr w4 := (Below.refl _ _).drew.trans hb4
              go_wp2_with fail
              refine hK.out _ _ (since hb34) ?_
              clear hK K
              repeat (first | (refine seq_skip (by rfl) (by rfl) ?_; simp only [Act.put, List.setIfInBounds_toArray, List.set_cons_succ, List.set_cons_zero]) | (refine seq_float (by rfl) (by rfl) (by rfl) ?_; intro K hK; go_big_quiet_op; go_big_quiet_on))
              refine seq_chain (by rfl) ?_
              intro K hK
              go_wp2_with fail
              (with_reducible refine (awake_any _).mono ?_); rintro e w5 ⟨rfl, hb5⟩
              have hb35 := hb34.trans (hb5.mono hb34.size)
              go_wp2_with fail
              refine hK.out _ _ (since hb35) ?_
              clear hK K
              repeat (first | (refine seq_skip (by rfl) (by rfl) ?_; simp only [Act.put, List.setIfInBounds_toArray, List.set_cons_succ, List.set_cons_zero]) | (refine seq_float (by rfl) (by rfl) (by rfl) ?_; intro K hK; go_big_quiet_op; go_big_quiet_on))
              refine seq_chain (by rfl) ?_
              intro K hK
              go_wp2_with fail
              refine hK.out _ _ (since hb35) ?_
              clear hK K
              repeat (first | (refine seq_skip (by rfl) (by rfl) ?_; simp only [Act.put, List.setIfInBounds_toArray, List.set_cons_succ, List.set_cons_zero]) | (refine seq_float (by rfl) (by rfl) (by rfl) ?_; intro K hK; go_big_quiet_op; go_big_quiet_on))
              refine seq_nil ?_
              go_wp2_with fail
              go_ret
              exact ⟨rfl, hw3.trans (hb35.mono hw3.size)⟩
            · have f1 : decide ((tA : Int) ≤ (r.size : Int)) = false := by simp; omega
              have f2 : decide (tA ≤ r.size) = false := by simp; omega
              have HLE := lid hle
              clear hle
              go_wp2_with fail
              go_roundw
              case rel => exact ⟨k + 1, by omega, by go_num, lid (fun k' h n hn he => by
                rcases Nat.lt_or_ge k' k with h' | h'
                · exact HK.out k' h' n hn he
                · rintro ⟨_, hle⟩
                  have := HLE.out
                  omega), trivial⟩
              case measure => simp [intOf]; omega
          · have e1 : ((tA : Int) == (tB : Int)) = false := by rw [beq_eq_false_iff_ne]; omega
            have HQ := lid heq
            clear heq
            go_wp2_with fail
            go_roundw
            case rel => exact ⟨k + 1, by omega, by go_num, lid (fun k' h n hn he => by
              rcases Nat.lt_or_ge k' k with h' | h'
              · exact HK.out k' h' n hn he
              · obtain rfl : k' = k := by omega
                rw [HFB.out.2] at hn
                have := Option.some.inj hn
                have := HQ.out
                omega), trivial⟩
            case measure => simp [intOf]; omega
        · obtain rfl : k = n2 := by omega
          go_wp2_with fail
          go_roundw
          case rel => exact ⟨i + 1, by omega, by go_num, lid (fun i' k' hi' hk' n hx hy => by
            rcases Nat.lt_or_ge i' i with h | h
            · exact HNM.out i' k' h hk' n hx hy
            · obtain rfl : i' = i := by omega
              rw [HFA.out.2] at hx
              rw [distsOf_length, HN2.out] at hk'
              exact HK.out k' hk' n hy (Option.some.inj hx)), trivial⟩
          case measure => simp [intOf]; omega
    · obtain rfl : i = n1 := by omega
      have hz : a.size + r.size = 0 ∨ c.size + r.size = 0 := by
        rcases HL1.out with h | h
        · exact .inl h
        · rcases HL2.out with h' | h'
          · exact .inr h'
          · exfalso
            have q1 := distsOf_at CA (i - 1) (by rw [HN1.out]; omega)
            have q2 := distsOf_at CB (n2 - 1) (by rw [HN2.out]; omega)
            rw [show i - 1 + 1 = CA.length by rw [HN1.out]; omega, List.drop_length] at q1
            rw [show n2 - 1 + 1 = CB.length by rw [HN2.out]; omega, List.drop_length] at q2
            exact HNM.out (i - 1) (n2 - 1) (by omega) (by rw [distsOf_length, HN2.out]; omega) _ q1 q2 ⟨by simp, by simp [total]⟩
      by_cases hza : a.size + r.size = 0
      · have z1 : (((a.size : Int) + (r.size : Int)) == 0) = true := by rw [beq_iff_eq]; omega
        clear hz hza
        go_wp2_with fail
        (with_reducible refine (awake_any _).mono ?_); rintro e w4 ⟨rfl, hb4⟩
        go_wp2_with fail
        go_ret
        exact ⟨rfl, hw3.trans (hb4.mono hw3.size)⟩
      · have z1 : (((a.size : Int) + (r.size : Int)) == 0) = false := by rw [beq_eq_false_iff_ne]; omega
        have z2 : (((c.size : Int) + (r.size : Int)) == 0) = true := by rw [beq_iff_eq]; omega
        clear hz hza
        go_wp2_with fail
        (with_reducible refine (awake_any _).mono ?_); rintro e w4 ⟨rfl, hb4⟩
        go_wp2_with fail
        go_ret
        exact ⟨rfl, hw3.trans (hb4.mono hw3.size)⟩

set_option maxRecDepth 100000 in
set_option maxHeartbeats 8000000 in
theorem LawMeets_any (a c r : ByteArray) (l m v b : Int) (w : World) (ha : a.size ≤ maxLen) (hc : c.size ≤ maxLen) (hr : r.size ≤ maxLen) :
    Calls Try.prog 5 #[.string a, .string c, .string r, .agg (pcells l m v b)] w fun e w' => e = .returned (.bool true) ∧ Below w.heap.size w w' := by
  have hs1 : a.size ≤ 9223372036854775807 := ha
  have hs2 : c.size ≤ 9223372036854775807 := hc
  have hs3 : r.size ≤ 9223372036854775807 := hr
  have hb0 : Below w.heap.size w (w.alloc (Obj.cells (pcells l m v b) 23)) := ba _ _
  have hP0 := PC.new w l m v b 23
  by_cases h1 : a.size ≤ 100
  · have ha' : (a.size : Int) ≤ 100 := by omega
    have ha2 : decide ((100 : Int) < a.size) = false := by simp; omega
    by_cases h2 : c.size ≤ 100
    · have hc' : (c.size : Int) ≤ 100 := by omega
      have hc2 : decide ((100 : Int) < c.size) = false := by simp; omega
      by_cases h3 : r.size ≤ 300
      · have hr' : (r.size : Int) ≤ 300 := by omega
        have hr2 : decide ((300 : Int) < r.size) = false := by simp; omega
        by_cases hE : checkE l m v b = 0
        · obtain ⟨l, m, v, b, rfl, rfl, rfl, rfl, k1, k2, _⟩ := checkE_nat hE
          exact LawMeets_ok a c r l m v b w h1 h2 h3 k1 k2 hE
        · have HE := lid (checkE_two hE)
          clear hE
          go_enter Try.func5, Try.ntmps5
          go_wp2_with fail
          (with_reducible refine (Check_any l m v b _).mono ?_); rintro e w1 ⟨rfl, hb1⟩
          rw [HE.out]
          have hw1 := hb0.trans (hb1.mono (by simp))
          go_wp2_with fail
          (with_reducible refine (awake_any _).mono ?_); rintro e w2 ⟨rfl, hb2⟩
          go_wp2_with fail
          go_ret
          exact ⟨rfl, hw1.trans (hb2.mono hw1.size)⟩
      · have hr' : (300 : Int) < r.size := by omega
        have hr2 : decide ((300 : Int) < r.size) = true := by simp; omega
        go_enter Try.func5, Try.ntmps5
        go_wp2_with fail
        (with_reducible refine (awake_any _).mono ?_); rintro e w1 ⟨rfl, hb1⟩
        go_wp2_with fail
        go_ret
        exact ⟨rfl, hb0.trans (hb1.mono (by simp))⟩
    · have hc' : (100 : Int) < c.size := by omega
      have hc2 : decide ((100 : Int) < c.size) = true := by simp; omega
      go_enter Try.func5, Try.ntmps5
      go_wp2_with fail
      (with_reducible refine (awake_any _).mono ?_); rintro e w1 ⟨rfl, hb1⟩
      go_wp2_with fail
      go_ret
      exact ⟨rfl, hb0.trans (hb1.mono (by simp))⟩
  · have ha' : (100 : Int) < a.size := by omega
    have ha2 : decide ((100 : Int) < a.size) = true := by simp; omega
    go_enter Try.func5, Try.ntmps5
    go_wp2_with fail
    (with_reducible refine (awake_any _).mono ?_); rintro e w1 ⟨rfl, hb1⟩
    go_wp2_with fail
    go_ret
    exact ⟨rfl, hb0.trans (hb1.mono (by simp))⟩
end Go.Proofs.Ytmebjjoldhcgpaa
