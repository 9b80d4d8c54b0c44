/-
  The law ChunkDivides returns true and makes new memory alone.
-/
import Derived.Test.YtmebjjoldhcgpaaChkLawSplit
namespace Go.Proofs.Ytmebjjoldhcgpaa
open Go.RowKit

/-- Strings, one after the other. -/
def catS (l : List ByteArray) : ByteArray := bstr (l.flatMap fun c => c.data.toList)
theorem catS_snoc (l : List ByteArray) (c : ByteArray) : catS (l ++ [c]) = catS l ++ c := by
  rw [catS, List.flatMap_append, ← bstr_append]
  simp only [List.flatMap_cons, List.flatMap_nil, List.append_nil, bstr_of]
  rfl
theorem catS_size (l : List ByteArray) : (catS l).size = total l := by
  induction l with
  | nil => rfl
  | cons c l ih =>
    unfold catS total at ih ⊢
    rw [bstr_size] at ih ⊢
    simp only [List.flatMap_cons, List.length_append, List.map_cons, List.sum_cons, ih]
    rfl
theorem cat_chunks {l m v b : Nat} (hv : 1 ≤ v) (hvl : v ≤ l) (s : ByteArray) : catS (chunksOf s l m v b) = s := by
  rw [← sub_chunks hv hvl, catS, List.flatMap_map]
  have e : (cuts s.data.toList l m v b).flatMap (fun x => (sub s x).data.toList) = (cuts s.data.toList l m v b).flatMap (piece s.data.toList) := by
    congr 1
    funext x
    rw [sub_piece, bstr_list]
  rw [e, cuts_join, bstr_of]
theorem chunk_sizes {l m v b : Nat} (hv : 1 ≤ v) (hvl : v ≤ l) (hlm : l ≤ m) (s : ByteArray) {k : Nat} (hk : k < (chunksOf s l m v b).length) :
    1 ≤ ((chunksOf s l m v b)[k]).size ∧ ((chunksOf s l m v b)[k]).size ≤ m ∧ (l ≤ ((chunksOf s l m v b)[k]).size ∨ k + 1 = (chunksOf s l m v b).length) := by
  have hk' : k < (cuts s.data.toList l m v b).length := by rw [cuts_len hv hvl]; exact hk
  have e : (chunksOf s l m v b)[k] = sub s ((cuts s.data.toList l m v b)[k]) := by
    have : (chunksOf s l m v b)[k]? = some (sub s ((cuts s.data.toList l m v b)[k])) := by
      rw [← sub_chunks hv hvl, List.getElem?_map, List.getElem?_eq_getElem hk']
      rfl
    rw [List.getElem?_eq_getElem hk] at this
    exact Option.some.inj this
  obtain ⟨h1, h2, h3, h4⟩ := scan_sizes (s := s.data.toList) (l := l) (m := m) (v := v) (b := b) (by omega) hlm s.data.toList.length _ (List.getElem_mem hk')
  have h5 := cuts_last (s := s.data.toList) (l := l) (m := m) (v := v) (b := b) k _ (List.getElem?_eq_getElem hk')
  rw [e]
  have hl : s.data.toList.length = s.size := rfl
  rw [hl] at h2 h4 h5
  change (cuts s.data.toList l m v b)[k].1 < (cuts s.data.toList l m v b)[k].2 at h1
  change (cuts s.data.toList l m v b)[k].2 ≤ s.size at h2
  change (cuts s.data.toList l m v b)[k].2 - (cuts s.data.toList l m v b)[k].1 ≤ m at h3
  change l ≤ (cuts s.data.toList l m v b)[k].2 - (cuts s.data.toList l m v b)[k].1 ∨ (cuts s.data.toList l m v b)[k].2 = s.size at h4
  generalize (cuts s.data.toList l m v b)[k] = x at *
  have hz : (sub s x).size = x.2 - x.1 := by simp [sub, ByteArray.size_extract]; omega
  rw [hz]
  refine ⟨by omega, h3, ?_⟩
  rw [cuts_len hv hvl] at h5 hk'
  rcases h4 with h4 | h4
  · exact .inl h4
  · right
    rcases Nat.lt_or_ge (k + 1) (chunksOf s l m v b).length with h | h
    · have := h5 h; omega
    · omega

set_option maxRecDepth 100000 in
set_option maxHeartbeats 8000000 in
theorem LawDivides_any (s : ByteArray) (l m v b : Int) (w : World) (hs : s.size ≤ maxLen) :
    Calls Try.prog 3 #[.string s, .agg (pcells l m v b)] w fun e w' => e = .returned (.bool true) ∧ Below w.heap.size w w' := by
  have hs' : s.size ≤ 9223372036854775807 := hs
  have hb0 : Below w.heap.size w (w.alloc (Obj.cells (pcells l m v b) 23)) := ba _ _
  by_cases h2 : s.size ≤ 400
  · have h65 : s.size ≤ 65536 := by omega
    have h2' : (s.size : Int) ≤ 400 := by omega
    have hP0 := PC.new w l m v b 23
    have hcnt := chunksI_count s l m v b
    by_cases hE : checkE l m v b = 0
    · have hE0 := hE
      obtain ⟨l, m, v, b, rfl, rfl, rfl, rfl, h1, h12, h3, h4, h5⟩ := checkE_nat hE
      rw [chunksI_ok hE] at hcnt
      have HE := lid hE
      have HK := lid (chunksI_ok (s := s) hE)
      have hm : (m : Int) ≤ 65536 := by omega
      have hl0 : (0 : Int) ≤ l := by omega
      clear hE
      go_enter Try.func3, Try.ntmps3
      go_wp2_with fail
      (with_reducible refine (Split_any s l m v b _ h65).mono ?_); rintro e w1 ⟨a1, n1, c1, rfl, hn1, hnc1, hcm1, hsl1, hb1⟩
      rw [HK.out] at hn1 hsl1
      rw [HE.out]
      have hP1 := lid (hP0.below hb1 (by simp))
      have hw1 := hb0.trans (hb1.mono (by simp))
      have hq1 : w.heap.size < w1.heap.size := by have := hb1.size; rw [World.size_alloc] at this; omega
      have HCat := lid (cat_chunks (m := m) (b := b) h1 h12 s)
      have HSz : Hid (∀ k (hk : k < (chunksOf s l m v b).length), 1 ≤ ((chunksOf s l m v b)[k]).size ∧ ((chunksOf s l m v b)[k]).size ≤ m ∧ (l ≤ ((chunksOf s l m v b)[k]).size ∨ k + 1 = (chunksOf s l m v b).length)) := lid fun k hk => chunk_sizes h1 h12 h3 s hk
      have HTot := lid (total_chunks s l m v b)
      generalize chunksOf s l m v b = C at *
      have HN1 := lid hn1
      have HS1 := lid hsl1
      have hn1' : n1 ≤ 65536 := by omega
      clear hb1 hP0 hn1 hsl1
      go_wp2_with fail
      go_loopw [7, 8, 9, 36] (fun all _ _ i wr => ∃ k : Nat, k ≤ n1 ∧ i = .int .i64 k ∧ all = .string (catS (C.take k)) ∧ wr = w1) (fun _ _ _ i _ => n1 - (intOf i).toNat)
      case atStart => exact ⟨0, Nat.zero_le _, rfl, rfl, rfl⟩
      case round =>
        obtain ⟨k, hk, rfl, rfl, rfl⟩ := hrel
        by_cases hlt : k < n1
        · have hlC : k < C.length := by have := HN1.out; omega
          obtain ⟨b1, o1, rfl, hlb, hcell⟩ := HS1.out.at_ hlt
          have x0 := hcell k _ (svals_at hlC)
          clear hcell
          obtain ⟨p0, p1, p2, p3⟩ := hP1.out
          have HT : Hid (C.take (k + 1) = C.take k ++ [C[k]]) := lid (List.take_succ_eq_append_getElem hlC)
          have HA : Hid (catS (C.take (k + 1)) = catS (C.take k) ++ C[k]) := lid (by rw [HT.out, catS_snoc])
          have hz1 : (catS (C.take k)).size ≤ 400 := by rw [catS_size]; exact Nat.le_trans (total_take _ _) (by rw [HTot.out]; exact h2)
          obtain ⟨q1, q2, q3⟩ := HSz.out k hlC
          have hq4 : l ≤ (C[k]).size ∨ k + 1 = n1 := by rw [HN1.out] at q3; exact q3
          have hz2 : (C[k]).size ≤ 65536 := by omega
          generalize C[k] = ck at *
          generalize catS (C.take k) = ak at *
          have t1 : decide ((m : Int) < (ck.size : Int)) = false := by simp; omega
          have t1n : decide (m < ck.size) = false := by simp; omega
          have t2 : ((ck.size : Int) == 0) = false := by rw [beq_eq_false_iff_ne]; omega
          clear q3
          by_cases hlc : l ≤ ck.size
          · have t3 : decide ((ck.size : Int) < (l : Int)) = false := by simp; omega
            have t3n : decide (ck.size < l) = false := by simp; omega
            clear hq4
            go_wp2_with fail
            go_roundw
            case rel => exact ⟨k + 1, by omega, by go_num, by rw [HA.out], trivial⟩
            case measure => simp [intOf]; omega
          · have hkn : k + 1 = n1 := hq4.resolve_left hlc
            have t3 : decide ((ck.size : Int) < (l : Int)) = true := by simp; omega
            have t3n : decide (ck.size < l) = true := by simp; omega
            have t4 : ((k : Int) != (n1 : Int) - 1) = false := by simp; omega
            clear hq4 hkn
            go_wp2_with fail
            go_roundw
            case rel => exact ⟨k + 1, by omega, by go_num, by rw [HA.out], trivial⟩
            case measure => simp [intOf]; omega
        · obtain rfl : k = n1 := by omega
          have heq : catS (C.take k) = s := by rw [List.take_of_length_le (by have := HN1.out; omega)]; exact HCat.out
          rw [heq]
          have hss := str_eq (rfl : s = s)
          clear heq
          go_wp2_with fail
          (with_reducible refine (awake_any _).mono ?_); rintro e w3 ⟨rfl, hb3⟩
          go_wp2_with fail
          go_ret
          exact ⟨rfl, hw1.trans (hb3.mono hw1.size)⟩
    · have h2E := checkE_two hE
      have HE := lid h2E
      have HK := lid (chunksI_bad (s := s) hE)
      clear hE h2E
      go_enter Try.func3, Try.ntmps3
      go_wp2_with fail
      (with_reducible refine (Split_any s l m v b _ h65).mono ?_); rintro e w1 ⟨a1, n1, c1, rfl, hn1, hnc1, hcm1, hsl1, hb1⟩
      rw [HK.out] at hn1 hsl1
      rw [HE.out]
      obtain rfl : 0 = n1 := hn1
      obtain ⟨p0, p1, p2, p3⟩ := hP0.below hb1 (by simp)
      have hw1 := hb0.trans (hb1.mono (by simp))
      have hq1 : w.heap.size < w1.heap.size := by have := hb1.size; rw [World.size_alloc] at this; omega
      clear hb1 hP0 hsl1
      go_wp2_with fail
      (with_reducible refine (Check_any l m v b _).mono ?_); rintro e w2 ⟨rfl, hb2⟩
      rw [HE.out]
      have hw2 := hw1.trans (hb2.mono hw1.size)
      go_wp2_with fail
      (with_reducible refine (awake_any _).mono ?_); rintro e w3 ⟨rfl, hb3⟩
      go_wp2_with fail
      go_ret
      exact ⟨rfl, hw2.trans (hb3.mono hw2.size)⟩
  · have h2' : (400 : Int) < s.size := by omega
    go_enter Try.func3, Try.ntmps3
    go_wp2_with fail
    (with_reducible refine (awake_any _).mono ?_); rintro e w1 ⟨rfl, hb1⟩
    go_wp2_with fail
    go_ret
    exact ⟨rfl, hb0.trans (hb1.mono (by simp))⟩
end Go.Proofs.Ytmebjjoldhcgpaa
