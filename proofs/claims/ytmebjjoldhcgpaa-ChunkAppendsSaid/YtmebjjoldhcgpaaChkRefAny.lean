/-
  The reference's Bounds and Manifest for any parameters.
-/
import Derived.Test.YtmebjjoldhcgpaaChkAny
namespace Go.Proofs.Ytmebjjoldhcgpaa
open Go.RowKit

set_option maxHeartbeats 2000000 in
theorem refBounds_any (s : ByteArray) (l m v b : Int) (w : World) (hs : s.size ≤ 65536) :
    Calls Try.prog 19 #[.string s, .agg (pcells l m v b)] w fun e w' => ∃ ao n cap, e = .returned (.tuple #[.slice ao n cap, .int .i64 (checkE l m v b)]) ∧ (chunksI s l m v b).length = n ∧ n ≤ cap ∧ cap ≤ maxLen ∧ Sl w' 1 ao n (ivals (endsFrom 0 (chunksI s l m v b))) ∧ Below w.heap.size w w' := by
  have hcnt := chunksI_count s l m v b
  go_enter Try.func19, Try.ntmps19
  go_wp2_with fail
  (with_reducible refine (refSplit_any s l m v b _ hs).mono ?_); rintro e w1 ⟨a1, n1, c1, rfl, hn1, hnc1, hcm1, hsl1, hb1⟩
  have hbA : Below (w.heap.size + 1) (w.alloc (Obj.cells (pcells l m v b) 23)) w1 := by simpa using hb1
  have hz1 := hbA.size
  rw [World.size_alloc] at hz1
  have hbB : Below w.heap.size w w1 := ((Below.refl _ _).alloc (Nat.le_refl _) _).trans (hbA.mono (by omega))
  have htot : total (chunksI s l m v b) ≤ s.size := by
    by_cases h : checkE l m v b = 0
    · obtain ⟨l, m, v, b, rfl, rfl, rfl, rfl, h1, h2, _⟩ := checkE_nat h
      rw [chunksI_ok h, total_chunks]
      exact Nat.le_refl _
    · rw [chunksI_bad h]; simp [total]
  generalize hC : chunksI s l m v b = C at *
  generalize hE : checkE l m v b = E at *
  have HC := lid hC
  have HE := lid hE
  clear hC hE
  have hcnt' : n1 ≤ 65536 := by omega
  have HN := lid hn1
  have HS := lid hsl1
  clear hb1 hn1 hsl1
  go_wp2_with fail
  go_loopw [8, 9, 10] (fun out nv i wr => ∃ k : Nat, k ≤ n1 ∧ i = .int .i64 k ∧ nv = .int .i64 (total (C.take k) : Nat) ∧ wr.ownsRow w1.heap.size 3 1 out k (ivals (endsFrom 0 (C.take k))) ∧ Below w1.heap.size w1 wr) (fun _ _ i _ => n1 - (intOf i).toNat)
  case atStart => exact ⟨0, Nat.zero_le _, rfl, rfl, ownsRow_empty rfl (Nat.le_refl _), (Below.refl _ _).alloc (Nat.le_refl _) _⟩
  case round =>
    obtain ⟨k, hk, rfl, rfl, hown, hbr⟩ := hrel
    have hzr := hbr.size
    by_cases hlt : k < n1
    · have hlC : k < C.length := by have := HN.out; omega
      obtain ⟨b1, o1, rfl, hlb, hcell⟩ := (HS.out.below hbr).at_ hlt
      have x0 := hcell k _ (svals_at hlC)
      clear hcell
      have HT : Hid (C.take (k + 1) = C.take k ++ [C[k]]) := lid (List.take_succ_eq_append_getElem hlC)
      have htk : total (C.take (k + 1)) ≤ s.size := Nat.le_trans (total_take C (k + 1)) htot
      rw [HT.out, total_snoc] at htk
      have HTK : Hid (total (C.take (k + 1)) = total (C.take k) + (C[k]).size ∧ endsFrom 0 (C.take (k + 1)) = endsFrom 0 (C.take k) ++ [((total (C.take k) + (C[k]).size : Nat) : Int)]) := lid ⟨by rw [HT.out, total_snoc], by rw [HT.out, endsFrom_snoc, Nat.zero_add]⟩
      generalize C[k] = ck at *
      generalize total (C.take k) = tk at *
      go_wp2_with (at_builtin; go_must (refine wpList_append_new #[.int .i64 (tk + ck.size : Nat)] rfl _ _ 32 rfl w1.heap.size 3 (.int .i64 0) 1 8 info_int Try.underlying32 rfl (by decide) _ k _ hown rfl rfl rfl (by simp [Value.oneCell']) (by simp [maxLen]; omega) (by omega) (by omega) ?_))
      intro v' w3 hown3 hb3 _
      go_wp2_with fail
      go_roundw
      case rel => exact ⟨k + 1, by omega, by go_num, by rw [HTK.out.1]; go_num, by rw [HTK.out.2]; simpa [ivals] using hown3, hbr.trans hb3⟩
      case measure => simp [intOf]; omega
    · obtain rfl : k = n1 := by omega
      go_wp2_with fail
      go_ret2
      obtain ⟨ao, cap, rfl, h1, h2, h3⟩ := Sl.of_own hown
      rw [List.take_of_length_le (by have := HN.out; omega)] at h3
      have e1 := HC.out
      have e2 := HE.out
      subst e1 e2
      exact ⟨ao, _, cap, rfl, HN.out, h1, h2, h3, hbB.trans (hbr.mono (by omega))⟩

set_option maxHeartbeats 2000000 in
theorem refManifest_any (s : ByteArray) (l m v b : Int) (w : World) (hs : s.size ≤ 65536) :
    Calls Try.prog 21 #[.string s, .agg (pcells l m v b)] w fun e w' => ∃ ao n cap, e = .returned (.tuple #[.slice ao n cap, .int .i64 (checkE l m v b)]) ∧ (chunksI s l m v b).length = n ∧ n ≤ cap ∧ cap ≤ maxLen ∧ Sl w' 2 ao n (dcells ((chunksI s l m v b).map digOf)) ∧ Below w.heap.size w w' := by
  have hcnt := chunksI_count s l m v b
  go_enter Try.func21, Try.ntmps21
  go_wp2_with fail
  (with_reducible refine (refSplit_any s l m v b _ hs).mono ?_); rintro e w1 ⟨a1, n1, c1, rfl, hn1, hnc1, hcm1, hsl1, hb1⟩
  have hbA : Below (w.heap.size + 1) (w.alloc (Obj.cells (pcells l m v b) 23)) w1 := by simpa using hb1
  have hz1 := hbA.size
  rw [World.size_alloc] at hz1
  have hbB : Below w.heap.size w w1 := ((Below.refl _ _).alloc (Nat.le_refl _) _).trans (hbA.mono (by omega))
  have hsz : ∀ c ∈ chunksI s l m v b, c.size ≤ maxLen := fun c hc => Nat.le_trans (chunksI_size s l m v b c hc) (by simp [maxLen]; omega)
  generalize hC : chunksI s l m v b = C at *
  generalize hE : checkE l m v b = E at *
  have HC := lid hC
  have HE := lid hE
  have HZ := lid hsz
  clear hC hE hsz
  have hcnt' : n1 ≤ 65536 := by omega
  have HN := lid hn1
  have HS := lid hsl1
  clear hb1 hn1 hsl1
  go_wp2_with fail
  go_loopw [8, 9] (fun out i wr => ∃ k : Nat, k ≤ n1 ∧ i = .int .i64 k ∧ wr.ownsRow w1.heap.size 56 2 out k (dcells ((C.map digOf).take k)) ∧ Below w1.heap.size w1 wr) (fun _ i _ => n1 - (intOf i).toNat)
  case atStart => exact ⟨0, Nat.zero_le _, rfl, ownsRow_empty rfl (Nat.le_refl _), (Below.refl _ _).alloc (Nat.le_refl _) _⟩
  case round =>
    obtain ⟨k, hk, rfl, hown, hbr⟩ := hrel
    have hzr := hbr.size
    by_cases hlt : k < n1
    · have hlC : k < C.length := by have := HN.out; omega
      obtain ⟨b1, o1, rfl, hlb, hcell⟩ := (HS.out.below hbr).at_ hlt
      have x0 := hcell k _ (svals_at hlC)
      clear hcell
      have hck := HZ.out C[k] (List.getElem_mem hlC)
      have HT : Hid (C.take (k + 1) = C.take k ++ [C[k]]) := lid (List.take_succ_eq_append_getElem hlC)
      have HTK : Hid (dcells ((C.map digOf).take (k + 1)) = dcells ((C.map digOf).take k) ++ [.int .u64 (digOf C[k]).1.toNat, .int .u64 (digOf C[k]).2.toNat]) := by
        show _ = _
        rw [← List.map_take, ← List.map_take, HT.out, List.map_append, dcells_append]
        rfl
      generalize C[k] = ck at *
      go_wp2_with fail
      (with_reducible refine (refOf_any ck _ hck).mono ?_); rintro e w2 ⟨rfl, hb2⟩
      have hown2 := ownsRow_below hown hb2
      have hz2 := hb2.size
      change Hid (dcells ((C.map digOf).take (k + 1)) = dcells ((C.map digOf).take k) ++ [.int .u64 (ofU ck.data.toList).1.toNat, .int .u64 (ofU ck.data.toList).2.toNat]) at HTK
      generalize ofU ck.data.toList = dg at *
      go_wp2_with (at_builtin; go_must (refine wpList_append_new #[.int .u64 dg.1.toNat, .int .u64 dg.2.toNat] rfl _ _ 43 rfl w1.heap.size 56 (.agg #[.int .u64 0, .int .u64 0]) 2 16 info_dg Try.underlying43 rfl (by decide) _ k _ hown2 rfl rfl rfl (by simp [Value.oneCell']) (by simp [maxLen]; omega) (by omega) (by omega) ?_))
      intro v' w3 hown3 hb3 _
      go_wp2_with fail
      go_roundw
      case rel => exact ⟨k + 1, by omega, by go_num, by rw [HTK.out]; exact hown3, (hbr.trans (hb2.mono hzr)).trans hb3⟩
      case measure => simp [intOf]; omega
    · obtain rfl : k = n1 := by omega
      go_wp2_with fail
      go_ret2
      obtain ⟨ao, cap, rfl, h1, h2, h3⟩ := Sl.of_own hown
      rw [List.take_of_length_le (by have := HN.out; simp; omega)] at h3
      have e1 := HC.out
      have e2 := HE.out
      subst e1 e2
      exact ⟨ao, _, cap, rfl, HN.out, h1, h2, h3, hbB.trans (hbr.mono (by omega))⟩

/-- Is the string in the list? -/
def memB (x : ByteArray) (l : List ByteArray) : Bool := l.any fun y => decide (y = x)
theorem memB_iff {x : ByteArray} {l : List ByteArray} : memB x l = true ↔ x ∈ l := by
  unfold memB
  rw [List.any_eq_true]
  simp
theorem memB_snoc (x y : ByteArray) (l : List ByteArray) : memB x (l ++ [y]) = (memB x l || decide (y = x)) := by simp [memB]

set_option maxHeartbeats 1000000 in
theorem refHas_any (L : List ByteArray) (n : Nat) (ao : Option Addr) (cap : Nat) (x : ByteArray) (w : World) (hn : L.length = n) (hl : n ≤ 1099511627776) (hs : Sl w 1 ao n (svals L)) :
    Calls Try.prog 26 #[.slice ao n cap, .string x] w fun e w' => e = .returned (.bool (memB x L)) ∧ w = w' := by
  have HN := lid hn
  have HS := lid hs
  clear hs hn
  go_enter Try.func26, Try.ntmps26
  go_wp2
  go_loop [5] (fun i => ∃ k : Nat, k ≤ n ∧ i = .int .i64 k ∧ Hid (x ∉ L.take k)) (fun i => n - (intOf i).toNat)
  case atStart => exact ⟨0, Nat.zero_le _, rfl, lid (by simp)⟩
  case round =>
    obtain ⟨k, hk, rfl, HT⟩ := hrel
    by_cases hlt : k < n
    · have hlL : k < L.length := by have := HN.out; omega
      obtain ⟨b1, o1, rfl, hlb, hcell⟩ := HS.out.at_ hlt
      have x0 := hcell k _ (svals_at hlL)
      clear hcell
      have HK : Hid (L.take (k + 1) = L.take k ++ [L[k]]) := lid (List.take_succ_eq_append_getElem hlL)
      have HM : Hid (L[k] ∈ L) := lid (List.getElem_mem hlL)
      generalize L[k] = y at *
      by_cases hq : y = x
      · have hq' := str_eq hq
        have HQ := lid hq
        clear hq
        go_wp2
        go_ret
        refine ⟨ret_bool ?_, rfl⟩
        symm
        rw [memB_iff, ← HQ.out]
        exact HM.out
      · have hq' := str_ne hq
        have HQ := lid hq
        clear hq
        go_wp2
        go_round
        case rel => exact ⟨k + 1, by omega, by go_num, lid (by rw [HK.out]; simp [HT.out]; exact fun e => HQ.out e.symm)⟩
        case measure => simp [intOf]; omega
    · obtain rfl : k = n := by omega
      go_wp2
      go_ret
      refine ⟨ret_bool ?_, rfl⟩
      symm
      rw [Bool.eq_false_iff, ne_eq, memB_iff]
      have := HT.out
      rwa [List.take_of_length_le (by have := HN.out; omega)] at this

/-- How many bytes are in pieces that are not known. -/
def freshN (old new : List ByteArray) : Nat := total (new.filter fun c => !memB c old)
theorem freshN_snoc (old new : List ByteArray) (c : ByteArray) : freshN old (new ++ [c]) = freshN old new + if memB c old = true then 0 else c.size := by
  unfold freshN
  rw [List.filter_append, total, List.map_append, List.sum_append, ← total]
  cases h : memB c old <;> simp [h]
theorem freshN_le (old new : List ByteArray) : freshN old new ≤ total new := by
  unfold freshN
  induction new with
  | nil => simp [total]
  | cons c new ih =>
    rw [List.filter_cons]
    unfold total at ih ⊢
    split <;> simp <;> omega
theorem freshN_take (old new : List ByteArray) (k : Nat) : freshN old (new.take k) ≤ total new := Nat.le_trans (freshN_le _ _) (total_take _ _)

set_option maxHeartbeats 2000000 in
theorem refFresh_any (s t : ByteArray) (l m v b : Int) (w : World) (hs : s.size ≤ 65536) (ht : t.size ≤ 65536) :
    Calls Try.prog 17 #[.string s, .string t, .agg (pcells l m v b)] w fun e w' => e = .returned (.tuple #[.int .i64 (freshN (chunksI s l m v b) (chunksI t l m v b) : Nat), .int .i64 (checkE l m v b)]) ∧ Below w.heap.size w w' := by
  have hcs := chunksI_count s l m v b
  have hct := chunksI_count t l m v b
  have htt := total_chunksI t l m v b
  go_enter Try.func17, Try.ntmps17
  go_wp2_with fail
  (with_reducible refine (refSplit_any s l m v b _ hs).mono ?_); rintro e w1 ⟨a1, n1, c1, rfl, hn1, hnc1, hcm1, hsl1, hb1⟩
  have hbA : Below (w.heap.size + 1) (w.alloc (Obj.cells (pcells l m v b) 23)) w1 := by simpa using hb1
  have hz1 := hbA.size
  rw [World.size_alloc] at hz1
  have hbB : Below w.heap.size w w1 := ((Below.refl _ _).alloc (Nat.le_refl _) _).trans (hbA.mono (by omega))
  have k0 : w1.cell? ⟨w.heap.size, 0, none⟩ = some (.int .i64 l) := by rw [bc hbA (by omega)]; simp
  have k1 : w1.cell? ⟨w.heap.size, 1, none⟩ = some (.int .i64 m) := by rw [bc hbA (by omega)]; simp
  have k2 : w1.cell? ⟨w.heap.size, 2, none⟩ = some (.int .i64 v) := by rw [bc hbA (by omega)]; simp
  have k3 : w1.cell? ⟨w.heap.size, 3, none⟩ = some (.int .i64 b) := by rw [bc hbA (by omega)]; simp
  clear hb1
  go_wp2_with fail
  (with_reducible refine (refSplit_any t l m v b _ ht).mono ?_); rintro e w2 ⟨a2, n2, c2, rfl, hn2, hnc2, hcm2, hsl2, hb2⟩
  have hsl1' := hsl1.below hb2
  have hbC := hbB.trans (hb2.mono hbB.size)
  have hz2 := hbC.size
  clear hb2 hsl1 k0 k1 k2 k3
  by_cases hE : checkE l m v b = 0
  · have HE := lid hE
    rw [hE]
    clear hE
    generalize hC : chunksI s l m v b = C at *
    generalize hD : chunksI t l m v b = D at *
    have HC := lid hC
    have HD := lid hD
    have HN1 := lid hn1
    have HN2 := lid hn2
    have HS1 := lid hsl1'
    have HS2 := lid hsl2
    have hn1' : n1 ≤ 65536 := by omega
    have hn2' : n2 ≤ 65536 := by omega
    clear hC hD hn1 hn2 hsl1' hsl2
    go_wp2_with fail
    go_loopw [12, 13] (fun nv i wr => ∃ k : Nat, k ≤ n2 ∧ i = .int .i64 k ∧ nv = .int .i64 (freshN C (D.take k) : Nat) ∧ wr = w2) (fun _ i _ => n2 - (intOf i).toNat)
    case atStart => exact ⟨0, Nat.zero_le _, rfl, rfl, rfl⟩
    case round =>
      obtain ⟨k, hk, rfl, rfl, rfl⟩ := hrel
      by_cases hlt : k < n2
      · have hlD : k < D.length := by have := HN2.out; omega
        obtain ⟨b2, o2, rfl, hlb, hcell⟩ := HS2.out.at_ hlt
        have x0 := hcell k _ (svals_at hlD)
        clear hcell
        have HT : Hid (D.take (k + 1) = D.take k ++ [D[k]]) := lid (List.take_succ_eq_append_getElem hlD)
        have hfk : freshN C (D.take (k + 1)) ≤ t.size := Nat.le_trans (freshN_take _ _ _) htt
        have HF : Hid (freshN C (D.take (k + 1)) = freshN C (D.take k) + if memB D[k] C = true then 0 else (D[k]).size) := lid (by rw [HT.out, freshN_snoc])
        rw [HF.out] at hfk
        generalize D[k] = dk at *
        generalize freshN C (D.take k) = fk at *
        by_cases hin : memB dk C = true
        · have HI := lid hin
          have HF2 : Hid (freshN C (D.take (k + 1)) = fk) := lid (by rw [HF.out, if_pos hin]; rfl)
          rw [if_pos hin] at hfk
          have hdec : memB dk C = true := by simpa using hin
          clear hin
          go_wp2_with fail
          (with_reducible refine (refHas_any C n1 a1 c1 dk _ HN1.out (by omega) HS1.out).mono ?_); rintro e w3 ⟨rfl, rfl⟩
          rw [hdec]
          clear hdec
          go_wp2_with fail
          go_roundw
          case rel => exact ⟨k + 1, by omega, by go_num, by rw [HF2.out], trivial⟩
          case measure => simp [intOf]; omega
        · have HI := lid hin
          have HF2 : Hid (freshN C (D.take (k + 1)) = fk + dk.size) := lid (by rw [HF.out, if_neg hin])
          rw [if_neg hin] at hfk
          have hdec : memB dk C = false := by simpa using hin
          clear hin
          go_wp2_with fail
          (with_reducible refine (refHas_any C n1 a1 c1 dk _ HN1.out (by omega) HS1.out).mono ?_); rintro e w3 ⟨rfl, rfl⟩
          rw [hdec]
          clear hdec
          go_wp2_with fail
          go_roundw
          case rel => exact ⟨k + 1, by omega, by go_num, by rw [HF2.out]; go_num, trivial⟩
          case measure => simp [intOf]; omega
      · obtain rfl : k = n2 := by omega
        go_wp2_with fail
        go_ret2
        have e1 := HC.out
        have e2 := HD.out
        subst e1 e2
        refine ⟨?_, hbC⟩
        rw [HE.out, List.take_of_length_le (by have := HN2.out; omega)]
        rfl
  · have h2 := checkE_two hE
    have HE := lid h2
    have HF : Hid (freshN (chunksI s l m v b) (chunksI t l m v b) = 0) := lid (by rw [chunksI_bad (s := t) hE]; rfl)
    rw [h2]
    clear hE h2
    go_wp2_with fail
    go_ret2
    exact ⟨by rw [HE.out, HF.out]; rfl, hbC⟩
end Go.Proofs.Ytmebjjoldhcgpaa
