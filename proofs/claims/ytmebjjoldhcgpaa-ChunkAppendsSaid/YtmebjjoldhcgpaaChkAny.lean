/-
  Split, Bounds and Manifest, and the reference's, for any parameters: what they return.
-/
import Derived.Test.YtmebjjoldhcgpaaChkRefSplit
import Derived.Test.YtmebjjoldhcgpaaDgSl
namespace Go.Proofs.Ytmebjjoldhcgpaa
open Go.RowKit

/-- The ends of pieces. -/
def endsFrom : Nat → List ByteArray → List Int
  | _, [] => []
  | st, x :: xs => ((st + x.size : Nat) : Int) :: endsFrom (st + x.size) xs
def total (l : List ByteArray) : Nat := (l.map (·.size)).sum
theorem total_snoc (l : List ByteArray) (x : ByteArray) : total (l ++ [x]) = total l + x.size := by simp [total]
theorem endsFrom_snoc (st : Nat) (l : List ByteArray) (x : ByteArray) : endsFrom st (l ++ [x]) = endsFrom st l ++ [((st + total l + x.size : Nat) : Int)] := by
  induction l generalizing st with
  | nil => simp [endsFrom, total]
  | cons y l ih =>
    rw [List.cons_append, endsFrom, ih, endsFrom, List.cons_append]
    congr 3
    simp [total]; omega
theorem endsFrom_length (st : Nat) (l : List ByteArray) : (endsFrom st l).length = l.length := by
  induction l generalizing st with
  | nil => rfl
  | cons y l ih => simp [endsFrom, ih]
theorem ends_places (ns : List Nat) : ∀ (t : List UInt8) (st : Nat), ns.sum ≤ t.length → endVals (places st ns) = ivals (endsFrom st ((pieces t ns).map bstr)) := by
  induction ns with
  | nil => intro t st _; rfl
  | cons n ns ih =>
    intro t st h
    rw [List.sum_cons] at h
    have hsz : (bstr (t.take n)).size = n := by rw [bstr_size, List.length_take]; omega
    rw [places, pieces, List.map_cons, endsFrom, hsz]
    show _ :: endVals _ = _ :: ivals _
    rw [ih (t.drop n) (st + n) (by rw [List.length_drop]; omega)]
theorem ends_chunks {l m v b : Nat} (hv : 1 ≤ v) (hvl : v ≤ l) (s : ByteArray) : endVals (cuts s.data.toList l m v b) = ivals (endsFrom 0 (chunksOf s l m v b)) := by
  rw [cuts_places hv hvl, chunksOf]
  exact ends_places _ _ _ (by rw [lens_sum]; exact Nat.le_refl _)
theorem cuts_len {l m v b : Nat} (hv : 1 ≤ v) (hvl : v ≤ l) (s : ByteArray) : (cuts s.data.toList l m v b).length = (chunksOf s l m v b).length := by
  rw [← sub_chunks hv hvl, List.length_map]
theorem subVals_chunks {l m v b : Nat} (hv : 1 ≤ v) (hvl : v ≤ l) (s : ByteArray) : subVals s (cuts s.data.toList l m v b) = svals (chunksOf s l m v b) := by
  rw [← sub_chunks hv hvl, subVals, svals, List.map_map]
  rfl
def digOf (c : ByteArray) : Dg := ofU c.data.toList
theorem digs_chunks {l m v b : Nat} (hv : 1 ≤ v) (hvl : v ≤ l) (s : ByteArray) : digs s (cuts s.data.toList l m v b) = (chunksOf s l m v b).map digOf := by
  rw [← sub_chunks hv hvl, digs, List.map_map]
  rfl

theorem total_pieces (ns : List Nat) : ∀ t : List UInt8, ns.sum ≤ t.length → total ((pieces t ns).map bstr) = ns.sum := by
  induction ns with
  | nil => intro t _; rfl
  | cons n ns ih =>
    intro t h
    rw [List.sum_cons] at h ⊢
    have hsz : (bstr (t.take n)).size = n := by rw [bstr_size, List.length_take]; omega
    have := ih (t.drop n) (by rw [List.length_drop]; omega)
    unfold total at this ⊢
    rw [pieces, List.map_cons, List.map_cons, List.sum_cons, hsz, this]
theorem total_chunks (s : ByteArray) (l m v b : Nat) : total (chunksOf s l m v b) = s.size := by
  rw [chunksOf, total_pieces _ _ (by rw [lens_sum]; exact Nat.le_refl _), lens_sum]
  rfl
theorem total_take (l : List ByteArray) (k : Nat) : total (l.take k) ≤ total l := by
  have h : total l = total (l.take k) + total (l.drop k) := by
    unfold total
    rw [← List.sum_append, ← List.map_append, List.take_append_drop]
  omega
/-- The chunks at any parameters. -/
def chunksI (s : ByteArray) (l m v b : Int) : List ByteArray := if checkE l m v b = 0 then chunksOf s l.toNat m.toNat v.toNat b.toNat else []
theorem checkE_nat {l m v b : Int} (h : checkE l m v b = 0) : ∃ l' m' v' b' : Nat, l = l' ∧ m = m' ∧ v = v' ∧ b = b' ∧ 1 ≤ v' ∧ v' ≤ l' ∧ l' ≤ m' ∧ m' ≤ 65536 ∧ b' ≤ 16 := by
  unfold checkE at h
  split at h
  · cases h
  · refine ⟨l.toNat, m.toNat, v.toNat, b.toNat, ?_, ?_, ?_, ?_, ?_, ?_, ?_, ?_, ?_⟩ <;> omega
theorem checkE_two {l m v b : Int} (h : ¬ checkE l m v b = 0) : checkE l m v b = 2 := by unfold checkE at h ⊢; split <;> simp_all
theorem chunksI_ok {s : ByteArray} {l m v b : Nat} (h : checkE l m v b = 0) : chunksI s l m v b = chunksOf s l m v b := by rw [chunksI, if_pos h]; rfl
theorem chunksI_bad {s : ByteArray} {l m v b : Int} (h : ¬ checkE l m v b = 0) : chunksI s l m v b = [] := by rw [chunksI, if_neg h]
theorem total_chunksI (s : ByteArray) (l m v b : Int) : total (chunksI s l m v b) ≤ s.size := by
  by_cases h : checkE l m v b = 0
  · obtain ⟨l, m, v, b, rfl, rfl, rfl, rfl, h1, h2, _⟩ := checkE_nat h
    rw [chunksI_ok h, total_chunks]
    exact Nat.le_refl _
  · rw [chunksI_bad h]; simp [total]
theorem size_total {l : List ByteArray} {c : ByteArray} (h : c ∈ l) : c.size ≤ total l := by
  induction l with
  | nil => cases h
  | cons d l ih =>
    unfold total at ih ⊢
    rw [List.map_cons, List.sum_cons]
    rcases List.mem_cons.1 h with rfl | h
    · omega
    · have := ih h; omega
theorem chunksI_size (s : ByteArray) (l m v b : Int) (c : ByteArray) (h : c ∈ chunksI s l m v b) : c.size ≤ s.size := Nat.le_trans (size_total h) (total_chunksI s l m v b)
theorem chunksI_count (s : ByteArray) (l m v b : Int) : (chunksI s l m v b).length ≤ s.size := by
  by_cases h : checkE l m v b = 0
  · obtain ⟨l, m, v, b, rfl, rfl, rfl, rfl, h1, h2, _⟩ := checkE_nat h
    rw [chunksI_ok h, ← cuts_len h1 h2]
    exact cuts_length _ _ _ _ _
  · rw [chunksI_bad h]; simp

set_option maxHeartbeats 1000000 in
theorem Bounds_err (s : ByteArray) (l m v b : Int) (w : World) (hs : s.size ≤ 65536) (hE : ¬ checkE l m v b = 0) :
    Calls Try.prog 12 #[.string s, .agg (pcells l m v b)] w fun e w' => e = .returned (.tuple #[.slice none 0 0, .int .i64 (checkE l m v b)]) ∧ Below w.heap.size w w' := by
  have h2 := checkE_two hE
  have HE := lid h2
  clear hE
  go_enter Try.func12, Try.ntmps12
  go_wp2_with fail
  with_reducible refine (checkAll_any l m v b (w.heap.size + 1) 1 1 _ (by omega) (by simp) (by omega) ?_).mono ?_
  · intro j hj
    obtain rfl : j = 0 := by omega
    exact ⟨s, by simp, hs⟩
  rintro e w1 ⟨rfl, hb1⟩
  rw [h2]
  go_wp2_with fail
  go_ret2
  exact ⟨by rw [HE.out]; rfl, (((Below.refl _ _).alloc (Nat.le_refl _) _).alloc (by simp) _).trans (hb1.mono (by simp; omega))⟩
set_option maxHeartbeats 1000000 in
theorem Split_err (s : ByteArray) (l m v b : Int) (w : World) (hs : s.size ≤ 65536) (hE : ¬ checkE l m v b = 0) :
    Calls Try.prog 10 #[.string s, .agg (pcells l m v b)] w fun e w' => e = .returned (.tuple #[.slice none 0 0, .int .i64 (checkE l m v b)]) ∧ Below w.heap.size w w' := by
  have h2 := checkE_two hE
  have HE := lid h2
  clear hE
  go_enter Try.func10, Try.ntmps10
  go_wp2_with fail
  with_reducible refine (checkAll_any l m v b (w.heap.size + 2) 1 1 _ (by omega) (by simp) (by omega) ?_).mono ?_
  · intro j hj
    obtain rfl : j = 0 := by omega
    exact ⟨s, by rw [cell_new_at (by simp)]; rfl, hs⟩
  rintro e w1 ⟨rfl, hb1⟩
  rw [h2]
  go_wp2_with fail
  go_ret2
  exact ⟨by rw [HE.out]; rfl, ((((Below.refl _ _).alloc (Nat.le_refl _) _).alloc (by simp) _).alloc (by simp; omega) _).trans (hb1.mono (by simp; omega))⟩
set_option maxHeartbeats 1000000 in
theorem Manifest_err (s : ByteArray) (l m v b : Int) (w : World) (hs : s.size ≤ 65536) (hE : ¬ checkE l m v b = 0) :
    Calls Try.prog 20 #[.string s, .agg (pcells l m v b)] w fun e w' => e = .returned (.tuple #[.slice none 0 0, .int .i64 (checkE l m v b)]) ∧ Below w.heap.size w w' := by
  have h2 := checkE_two hE
  have HE := lid h2
  clear hE
  go_enter Try.func20, Try.ntmps20
  go_wp2_with fail
  with_reducible refine (checkAll_any l m v b (w.heap.size + 2) 1 1 _ (by omega) (by simp) (by omega) ?_).mono ?_
  · intro j hj
    obtain rfl : j = 0 := by omega
    exact ⟨s, by rw [cell_new_at (by simp)]; rfl, hs⟩
  rintro e w1 ⟨rfl, hb1⟩
  rw [h2]
  go_wp2_with fail
  go_ret2
  exact ⟨by rw [HE.out]; rfl, ((((Below.refl _ _).alloc (Nat.le_refl _) _).alloc (by simp) _).alloc (by simp; omega) _).trans (hb1.mono (by simp; omega))⟩
set_option maxHeartbeats 1000000 in
theorem refSplit_err (s : ByteArray) (l m v b : Int) (w : World) (hE : ¬ checkE l m v b = 0) :
    Calls Try.prog 18 #[.string s, .agg (pcells l m v b)] w fun e w' => ∃ v', e = .returned (.tuple #[v', .int .i64 (checkE l m v b)]) ∧ w'.ownsRow w.heap.size 9 1 v' 0 [] ∧ Below w.heap.size w w' := by
  have h2 := checkE_two hE
  have HE := lid h2
  clear hE
  go_enter Try.func18, Try.ntmps18
  go_wp2_with fail
  (with_reducible refine (refCheck_any l m v b _).mono ?_); rintro e w1 ⟨rfl, hb1⟩
  rw [h2]
  go_wp2_with fail
  go_ret2
  have hb : Below w.heap.size w w1 := ((Below.refl _ _).alloc (Nat.le_refl _) _).trans (hb1.mono (by simp))
  exact ⟨_, by rw [HE.out]; rfl, ownsRow_empty rfl hb.size, hb.alloc hb.size _⟩

theorem Split_any (s : ByteArray) (l m v b : Int) (w : World) (hs : s.size ≤ 65536) :
    Calls Try.prog 10 #[.string s, .agg (pcells l m v b)] w fun e w' => ∃ ao n cap, e = .returned (.tuple #[.slice ao n cap, .int .i64 (checkE l m v b)]) ∧ (chunksI s l m v b).length = n ∧ n ≤ cap ∧ cap ≤ maxLen ∧ Sl w' 1 ao n (svals (chunksI s l m v b)) ∧ Below w.heap.size w w' := by
  by_cases h : checkE l m v b = 0
  · obtain ⟨l, m, v, b, rfl, rfl, rfl, rfl, h1, h2, h3, h4, h5⟩ := checkE_nat h
    refine (Split_ok s l m v b w h1 h2 h3 h4 h5 hs).mono ?_
    rintro e w' ⟨v', rfl, hown, hb⟩
    rw [cuts_len h1 h2, subVals_chunks h1 h2] at hown
    obtain ⟨ao, cap, rfl, hc1, hc2, hsl⟩ := Sl.of_own hown
    exact ⟨ao, _, cap, by rw [h], by rw [chunksI_ok h], hc1, hc2, by rw [chunksI_ok h]; exact hsl, hb⟩
  · refine (Split_err s l m v b w hs h).mono ?_
    rintro e w' ⟨rfl, hb⟩
    exact ⟨none, 0, 0, rfl, by rw [chunksI_bad h]; rfl, Nat.le_refl _, by simp [maxLen], by rw [chunksI_bad h]; exact Sl.nil, hb⟩
theorem refSplit_any (s : ByteArray) (l m v b : Int) (w : World) (hs : s.size ≤ 65536) :
    Calls Try.prog 18 #[.string s, .agg (pcells l m v b)] w fun e w' => ∃ ao n cap, e = .returned (.tuple #[.slice ao n cap, .int .i64 (checkE l m v b)]) ∧ (chunksI s l m v b).length = n ∧ n ≤ cap ∧ cap ≤ maxLen ∧ Sl w' 1 ao n (svals (chunksI s l m v b)) ∧ Below w.heap.size w w' := by
  by_cases h : checkE l m v b = 0
  · obtain ⟨l, m, v, b, rfl, rfl, rfl, rfl, h1, h2, h3, h4, h5⟩ := checkE_nat h
    refine (refSplit_ok s l m v b w h1 h2 h3 h4 h5 hs).mono ?_
    rintro e w' ⟨v', rfl, hown, hb⟩
    obtain ⟨ao, cap, rfl, hc1, hc2, hsl⟩ := Sl.of_own hown
    exact ⟨ao, _, cap, by rw [h], by rw [chunksI_ok h], hc1, hc2, by rw [chunksI_ok h]; exact hsl, hb⟩
  · refine (refSplit_err s l m v b w h).mono ?_
    rintro e w' ⟨v', rfl, hown, hb⟩
    obtain ⟨ao, cap, rfl, hc1, hc2, hsl⟩ := Sl.of_own hown
    exact ⟨ao, 0, cap, rfl, by rw [chunksI_bad h]; rfl, hc1, hc2, by rw [chunksI_bad h]; exact hsl, hb⟩
theorem Bounds_any (s : ByteArray) (l m v b : Int) (w : World) (hs : s.size ≤ 65536) :
    Calls Try.prog 12 #[.string s, .agg (pcells l m v b)] w fun e w' => ∃ ao n cap, e = .returned (.tuple #[.slice ao n cap, .int .i64 (checkE l m v b)]) ∧ (chunksI s l m v b).length = n ∧ n ≤ cap ∧ cap ≤ maxLen ∧ Sl w' 1 ao n (ivals (endsFrom 0 (chunksI s l m v b))) ∧ Below w.heap.size w w' := by
  by_cases h : checkE l m v b = 0
  · obtain ⟨l, m, v, b, rfl, rfl, rfl, rfl, h1, h2, h3, h4, h5⟩ := checkE_nat h
    refine (Bounds_ok s l m v b w h1 h2 h3 h4 h5 hs).mono ?_
    rintro e w' ⟨v', rfl, hown, hb⟩
    rw [cuts_len h1 h2, ends_chunks h1 h2] at hown
    obtain ⟨ao, cap, rfl, hc1, hc2, hsl⟩ := Sl.of_own hown
    exact ⟨ao, _, cap, by rw [h], by rw [chunksI_ok h], hc1, hc2, by rw [chunksI_ok h]; exact hsl, hb⟩
  · refine (Bounds_err s l m v b w hs h).mono ?_
    rintro e w' ⟨rfl, hb⟩
    exact ⟨none, 0, 0, rfl, by rw [chunksI_bad h]; rfl, Nat.le_refl _, by simp [maxLen], by rw [chunksI_bad h]; exact Sl.nil, hb⟩
theorem Manifest_any (s : ByteArray) (l m v b : Int) (w : World) (hs : s.size ≤ 65536) :
    Calls Try.prog 20 #[.string s, .agg (pcells l m v b)] w fun e w' => ∃ ao n cap, e = .returned (.tuple #[.slice ao n cap, .int .i64 (checkE l m v b)]) ∧ (chunksI s l m v b).length = n ∧ n ≤ cap ∧ cap ≤ maxLen ∧ Sl w' 2 ao n (dcells ((chunksI s l m v b).map digOf)) ∧ Below w.heap.size w w' := by
  by_cases h : checkE l m v b = 0
  · obtain ⟨l, m, v, b, rfl, rfl, rfl, rfl, h1, h2, h3, h4, h5⟩ := checkE_nat h
    refine (Manifest_ok s l m v b w h1 h2 h3 h4 h5 hs).mono ?_
    rintro e w' ⟨v', rfl, hown, hb⟩
    rw [cuts_len h1 h2, digs_chunks h1 h2] at hown
    obtain ⟨ao, cap, rfl, hc1, hc2, hsl⟩ := Sl.of_own hown
    exact ⟨ao, _, cap, by rw [h], by rw [chunksI_ok h], hc1, hc2, by rw [chunksI_ok h]; exact hsl, hb⟩
  · refine (Manifest_err s l m v b w hs h).mono ?_
    rintro e w' ⟨rfl, hb⟩
    exact ⟨none, 0, 0, rfl, by rw [chunksI_bad h]; rfl, Nat.le_refl _, by simp [maxLen], by rw [chunksI_bad h]; exact Sl.nil, hb⟩
end Go.Proofs.Ytmebjjoldhcgpaa
