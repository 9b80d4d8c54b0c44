/-
  Ballots: the reference's Decide, Missing and Against.
-/
import Derived.Test.YtcpnpcbaifagbaaQuoRef2
namespace Go.Proofs.Ytcpnpcbaifagbaa
open Go.RowKit
theorem about_len {l : List Rw} {k : Dg} {M : Nat} (h : ∀ r ∈ l, r.vs.length ≤ M) : (aboutB (l.map Rw.bal) k).length ≤ M := by
  unfold aboutB
  cases hf : (l.map Rw.bal).find? fun b => decide (b.1 = k) with
  | none => simp
  | some b =>
    have := List.mem_of_find?_eq_some hf
    obtain ⟨r, hr, rfl⟩ := List.mem_map.1 this
    exact h r hr
theorem dec_skip {L : List Vt} {n : Int} {v : Vt} {m : List Vt} {r : ByteArray × Bool} (h : ¬ (1 ≤ n ∧ n ≤ cntV L v.2 ∧ (r.2 = false ∨ ltB v.2 r.1 = true))) : decGo L n (v :: m) r = decGo L n m r := by rw [decGo, if_neg h]
theorem dec_take {L : List Vt} {n : Int} {v : Vt} {m : List Vt} {r : ByteArray × Bool} (h : 1 ≤ n ∧ n ≤ cntV L v.2 ∧ (r.2 = false ∨ ltB v.2 r.1 = true)) : decGo L n (v :: m) r = decGo L n m (v.2, true) := by rw [decGo, if_pos h]

set_option maxRecDepth 100000 in
set_option maxHeartbeats 8000000 in
theorem refDecide_any (l : List Rw) (n cap : Nat) (ao : Option Addr) (k : Dg) (q : Int) (w : World) (hm : n ≤ 1000000) (h : BA w ao n cap l) (hv : ∀ r ∈ l, r.vs.length ≤ 1000000) :
    Calls Try.prog 27 #[.slice ao n cap, dv k, .int .i64 q] w fun e w' => e = .returned (.tuple #[.string (decB (aboutB (l.map Rw.bal) k) q).1, .bool (decB (aboutB (l.map Rw.bal) k) q).2]) ∧ Below w.heap.size w w' := by
  have CA := lid (refAbout_any l n cap ao k (w.alloc (.cells #[.int .u64 k.1.toNat, .int .u64 k.2.toNat] 25)) (by omega) (h.below (ba _ _)))
  have HLN := lid (about_len (k := k) hv)
  obtain ⟨L0, hAB⟩ : ∃ y, aboutB (l.map Rw.bal) k = y := ⟨_, rfl⟩
  rw [hAB] at CA HLN ⊢
  clear h hv hAB
  unfold dv
  go_enter Try.func27, Try.ntmps27
  go_wp2_with fail
  (with_reducible refine (CA.out).mono ?_); rintro e w1 ⟨L, aoL, nL, capL, rfl, hL, hVL, hb1⟩
  subst hL
  have hb := (ba w (.cells #[.int .u64 k.1.toNat, .int .u64 k.2.toNat] 25)).trans (hb1.mono (by simp))
  have HVL := lid hVL
  have hnL : nL ≤ 1000000 := by have := hVL.len; have := HLN.out; omega
  clear CA hVL hb1 HLN
  go_wp2_with fail
  go_loop [9, 10, 11] (fun o f i => ∃ (j : Nat) (r : ByteArray × Bool), j ≤ nL ∧ i = .int .i64 j ∧ o = .string r.1 ∧ f = .bool r.2 ∧ Hid (decB L q = decGo L q (L.drop j) r)) (fun _ _ i => nL - (intOf i).toNat)
  case atStart => exact ⟨0, noneR, Nat.zero_le _, rfl, rfl, rfl, lid rfl⟩
  case round =>
    obtain ⟨j, r, hj, rfl, rfl, rfl, HD⟩ := hrel
    by_cases hlt : j < nL
    · have hkl : j < L.length := by rw [HVL.out.len]; exact hlt
      obtain ⟨b1, o1, rfl, hlb, hcell⟩ := HVL.out.sl.at_ hlt
      have x0 := hcell (j * 2 + 0) _ (vcells_at hkl).1
      have x1 := hcell (j * 2 + 1) _ (vcells_at hkl).2
      rw [← Nat.add_assoc] at x1
      rw [Nat.add_zero] at x0
      have HC := lid (List.drop_eq_getElem_cons hkl)
      have dk : decide ((j : Int) < (nL : Int)) = true := by simp; omega
      obtain ⟨x, hx⟩ : ∃ x, L[j] = x := ⟨_, rfl⟩
      rw [hx] at x0 x1 HC
      clear hcell hx
      by_cases h1 : 1 ≤ q
      case neg =>
        have HV := lid (dec_skip (L := L) (n := q) (v := x) (m := L.drop (j + 1)) (r := r) (fun h => h1 h.1))
        have d1 : decide ((1 : Int) ≤ q) = false := by simpa using h1
        clear h1
        go_wp2_with fail
        go_round
        case rel => exact ⟨j + 1, r, by omega, by go_num, rfl, rfl, lid (by rw [HD.out, HC.out, HV.out])⟩
        case measure => simp [intOf]; omega
      have d1 : decide ((1 : Int) ≤ q) = true := by simpa using h1
      have CC := lid (refCount_any L nL capL _ x.2 w1 (by omega) HVL.out)
      have HS := lid (fun h => dec_skip (L := L) (n := q) (v := x) (m := L.drop (j + 1)) (r := r) h)
      have HT := lid (fun h => dec_take (L := L) (n := q) (v := x) (m := L.drop (j + 1)) (r := r) h)
      obtain ⟨c, hc⟩ : ∃ c, cntV L x.2 = c := ⟨_, rfl⟩
      rw [hc] at CC HS HT
      clear hc
      by_cases h2 : q ≤ (c : Int)
      case neg =>
        have HV := lid (HS.out (fun h => h2 h.2.1))
        have d2 : decide (q ≤ (c : Int)) = false := by simpa using h2
        clear h1 h2 HS HT
        go_wp2_with fail
        (with_reducible refine (CC.out).mono ?_); rintro e w2 ⟨rfl, rfl⟩
        go_wp2_with fail
        go_round
        case rel => exact ⟨j + 1, r, by omega, by go_num, rfl, rfl, lid (by rw [HD.out, HC.out, HV.out])⟩
        case measure => simp [intOf]; omega
      have d2 : decide (q ≤ (c : Int)) = true := by simpa using h2
      obtain ⟨ro, rf⟩ := r
      cases rf with
      | false =>
        have HV := lid (HT.out ⟨h1, h2, .inl rfl⟩)
        clear h1 h2 HS HT
        go_wp2_with fail
        (with_reducible refine (CC.out).mono ?_); rintro e w2 ⟨rfl, rfl⟩
        go_wp2_with fail
        go_round
        case rel => exact ⟨j + 1, (x.2, true), by omega, by go_num, rfl, rfl, lid (by rw [HD.out, HC.out, HV.out])⟩
        case measure => simp [intOf]; omega
      | true =>
        cases hl : ltB x.2 ro with
        | true =>
          have HV := lid (HT.out ⟨h1, h2, .inr hl⟩)
          have d3 : Op.bytesLess x.2.toList ro.toList = true := hl
          clear h1 h2 HS HT hl
          go_wp2_with fail
          (with_reducible refine (CC.out).mono ?_); rintro e w2 ⟨rfl, rfl⟩
          go_wp2_with fail
          go_round
          case rel => exact ⟨j + 1, (x.2, true), by omega, by go_num, rfl, rfl, lid (by rw [HD.out, HC.out, HV.out])⟩
          case measure => simp [intOf]; omega
        | false =>
          have HV := lid (HS.out (fun h => by rcases h.2.2 with h | h; · cases h
                                              · simp only at h; rw [hl] at h; cases h))
          have d3 : Op.bytesLess x.2.toList ro.toList = false := hl
          clear h1 h2 HS HT hl
          go_wp2_with fail
          (with_reducible refine (CC.out).mono ?_); rintro e w2 ⟨rfl, rfl⟩
          go_wp2_with fail
          go_round
          case rel => exact ⟨j + 1, (ro, true), by omega, by go_num, rfl, rfl, lid (by rw [HD.out, HC.out, HV.out])⟩
          case measure => simp [intOf]; omega
    · obtain rfl : j = nL := by omega
      have HV : Hid (decB L q = r) := lid (by rw [HD.out, List.drop_of_length_le (Nat.le_of_eq HVL.out.len)]; rfl)
      have dk : decide ((j : Int) < (j : Int)) = false := by simp
      go_wp2_with fail
      go_ret2
      exact ⟨by rw [HV.out]; rfl, hb⟩

set_option maxRecDepth 100000 in
set_option maxHeartbeats 8000000 in
theorem refMissing_any (l : List Rw) (n cap : Nat) (ao : Option Addr) (k : Dg) (q : Int) (w : World) (hm : n ≤ 1000000) (h : BA w ao n cap l) (hv : ∀ r ∈ l, r.vs.length ≤ 1000000) (hq : -9223372036854775808 ≤ q) (hq2 : q ≤ 9223372036854775807) :
    Calls Try.prog 28 #[.slice ao n cap, dv k, .int .i64 q] w fun e w' => e = .returned (.int .i64 (missB (aboutB (l.map Rw.bal) k) q)) ∧ Below w.heap.size w w' := by
  have CA := lid (refAbout_any l n cap ao k (w.alloc (.cells #[.int .u64 k.1.toNat, .int .u64 k.2.toNat] 25)) (by omega) (h.below (ba _ _)))
  have HLN := lid (about_len (k := k) hv)
  obtain ⟨L0, hAB⟩ : ∃ y, aboutB (l.map Rw.bal) k = y := ⟨_, rfl⟩
  rw [hAB] at CA HLN ⊢
  clear h hv hAB
  unfold dv
  go_enter Try.func28, Try.ntmps28
  go_wp2_with fail
  (with_reducible refine (CA.out).mono ?_); rintro e w1 ⟨L, aoL, nL, capL, rfl, hL, hVL, hb1⟩
  subst hL
  have hb := (ba w (.cells #[.int .u64 k.1.toNat, .int .u64 k.2.toNat] 25)).trans (hb1.mono (by simp))
  have HVL := lid hVL
  have hnL : nL ≤ 1000000 := by have := hVL.len; have := HLN.out; omega
  clear CA hVL hb1 HLN
  go_wp2_with fail
  go_loop [8, 9] (fun m i => ∃ j p : Nat, j ≤ nL ∧ i = .int .i64 j ∧ m = .int .i64 p ∧ p ≤ nL ∧ Hid (mostB L = mostGo L (L.drop j) p)) (fun _ i => nL - (intOf i).toNat)
  case atStart => exact ⟨0, 0, Nat.zero_le _, rfl, rfl, Nat.zero_le _, lid rfl⟩
  case round =>
    obtain ⟨j, p, hj, rfl, rfl, hp, HD⟩ := hrel
    by_cases hlt : j < nL
    · have hkl : j < L.length := by rw [HVL.out.len]; exact hlt
      obtain ⟨b1, o1, rfl, hlb, hcell⟩ := HVL.out.sl.at_ hlt
      have x0 := hcell (j * 2 + 0) _ (vcells_at hkl).1
      have x1 := hcell (j * 2 + 1) _ (vcells_at hkl).2
      rw [← Nat.add_assoc] at x1
      rw [Nat.add_zero] at x0
      have HC := lid (List.drop_eq_getElem_cons hkl)
      have dk : decide ((j : Int) < (nL : Int)) = true := by simp; omega
      obtain ⟨x, hx⟩ : ∃ x, L[j] = x := ⟨_, rfl⟩
      rw [hx] at x0 x1 HC
      have CC := lid (refCount_any L nL capL _ x.2 w1 (by omega) HVL.out)
      have HV : Hid (mostGo L (x :: L.drop (j + 1)) p = mostGo L (L.drop (j + 1)) (max p (cntV L x.2))) := lid rfl
      have hcn : cntV L x.2 ≤ nL := by have := cnt_le L x.2; rw [HVL.out.len] at this; exact this
      obtain ⟨c, hc⟩ : ∃ c, cntV L x.2 = c := ⟨_, rfl⟩
      rw [hc] at CC HV hcn
      clear hcell hx hc
      go_wp2_with fail
      (with_reducible refine (CC.out).mono ?_); rintro e w2 ⟨rfl, rfl⟩
      go_wp2_with fail
      go_round
      case rel => exact ⟨j + 1, max p c, by omega, by go_num, by congr 1; omega, by omega, lid (by rw [HD.out, HC.out, HV.out])⟩
      case measure => simp [intOf]; omega
    · obtain rfl : j = nL := by omega
      have HV : Hid (mostB L = p) := lid (by rw [HD.out, List.drop_of_length_le (Nat.le_of_eq HVL.out.len)]; rfl)
      have dk : decide ((j : Int) < (j : Int)) = false := by simp
      by_cases hqp : q ≤ (p : Int)
      · have HM : Hid (missB L q = 0) := lid (by unfold missB; rw [HV.out, if_pos hqp])
        have d1 : decide (q ≤ (p : Int)) = true := by simpa using hqp
        clear hqp
        go_wp2_with fail
        go_ret
        exact ⟨ret_i64 HM.out.symm, hb⟩
      · have HM : Hid (missB L q = q - p) := lid (by unfold missB; rw [HV.out, if_neg hqp])
        have d1 : decide (q ≤ (p : Int)) = false := by simpa using hqp
        go_wp2_with fail
        go_ret
        exact ⟨ret_i64 HM.out.symm, hb⟩

/-- A slice value reads as strings. -/
structure SA (w : World) (ao : Option Addr) (n cap : Nat) (l : List ByteArray) : Prop where
  len : l.length = n
  sl : Sl w 1 ao n (svals l)
  le : n ≤ cap
  max : cap ≤ maxLen
  z : ao = none → cap = 0
  sz : ∀ v ∈ l, v.size ≤ maxLen
theorem SA.below {w w' : World} {ao : Option Addr} {n cap : Nat} {l : List ByteArray} (h : SA w ao n cap l) (hb : Below w.heap.size w w') : SA w' ao n cap l := ⟨h.len, h.sl.below hb, h.le, h.max, h.z, h.sz⟩
theorem SA.of_own {w : World} {base : Nat} {e : TypeId} {v : Value} {n : Nat} {l : List ByteArray} (h : w.ownsRow base e 1 v n (svals l)) (hs : ∀ v ∈ l, v.size ≤ maxLen) : ∃ ao cap, v = .slice ao n cap ∧ SA w ao n cap l := by
  have hl := h.1
  rw [svals_length] at hl
  obtain ⟨ao, cap, rfl, h1, h2, h3⟩ := Sl.of_own h
  refine ⟨ao, cap, rfl, by omega, h3, h1, h2, fun e => ?_, hs⟩
  subst e
  rcases h.2 with ⟨hv, _⟩ | ⟨g, cap', cur, hv, _⟩
  · cases hv; rfl
  · cases hv
theorem info_str : (Try.prog.info? 9).map (fun i => (i.zero, i.size, i.bytes)) = some (some (.string ⟨#[]⟩), 1, 16) := by kernel_rfl
theorem against_snoc {L : List Vt} {k : Nat} {o : ByteArray} (hk : k < L.length) : againstB (L.take (k + 1)) o = againstB (L.take k) o ++ (if L[k].2 = o then [] else [L[k].1]) := by
  unfold againstB
  rw [List.take_succ_eq_append_getElem hk, List.filter_append, List.map_append]
  by_cases h : L[k].2 = o <;> simp [h]
theorem against_len (L : List Vt) (o : ByteArray) : (againstB L o).length ≤ L.length := by
  unfold againstB
  rw [List.length_map]
  exact List.length_filter_le _ _
theorem against_mem {L : List Vt} {o s : ByteArray} (h : s ∈ againstB L o) : ∃ v ∈ L, v.1 = s := by
  unfold againstB at h
  obtain ⟨v, hv, rfl⟩ := List.mem_map.1 h
  exact ⟨v, (List.mem_filter.1 hv).1, rfl⟩

set_option maxRecDepth 100000 in
set_option maxHeartbeats 8000000 in
theorem refAgainst_any (l : List Rw) (n cap : Nat) (ao : Option Addr) (k : Dg) (o : ByteArray) (w : World) (hm : n ≤ 1000000) (h : BA w ao n cap l) (hv : ∀ r ∈ l, r.vs.length ≤ 1000000) :
    Calls Try.prog 29 #[.slice ao n cap, dv k, .string o] w fun e w' => ∃ (S : List ByteArray) (ao' : Option Addr) (n' cap' : Nat), e = .returned (.slice ao' n' cap') ∧ S = againstB (aboutB (l.map Rw.bal) k) o ∧ SA w' ao' n' cap' S ∧ Below w.heap.size w w' := by
  have CA := lid (refAbout_any l n cap ao k (w.alloc (.cells #[.int .u64 k.1.toNat, .int .u64 k.2.toNat] 25)) (by omega) (h.below (ba _ _)))
  have HLN := lid (about_len (k := k) hv)
  obtain ⟨L0, hAB⟩ : ∃ y, aboutB (l.map Rw.bal) k = y := ⟨_, rfl⟩
  rw [hAB] at CA HLN ⊢
  clear h hv hAB
  unfold dv
  go_enter Try.func29, Try.ntmps29
  go_wp2_with fail
  (with_reducible refine (CA.out).mono ?_); rintro e w1 ⟨L, aoL, nL, capL, rfl, hL, hVL, hb1⟩
  subst hL
  have hb := (ba w (.cells #[.int .u64 k.1.toNat, .int .u64 k.2.toNat] 25)).trans (hb1.mono (by simp))
  have HVL := lid hVL
  have hnL : nL ≤ 1000000 := by have := hVL.len; have := HLN.out; omega
  clear CA hVL hb1 HLN
  go_wp2_with fail
  have hs1 := hb.size
  go_loopw [8, 9] (fun vo i wr => ∃ j m : Nat, j ≤ nL ∧ i = .int .i64 j ∧ m ≤ j ∧ Hid (wr.ownsRow w1.heap.size 9 1 vo m (svals (againstB (L.take j) o))) ∧ Below w1.heap.size w1 wr) (fun _ i _ => nL - (intOf i).toNat)
  case atStart => exact ⟨0, 0, Nat.zero_le _, rfl, Nat.le_refl _, lid (ownsRow_empty rfl (Nat.le_refl _)), ba _ _⟩
  case round =>
    obtain ⟨j, m, hj, rfl, hmj, HO, hb1⟩ := hrel
    obtain ⟨aoO, capO, rfl⟩ := own_slice HO.out
    by_cases hlt : j < nL
    · have hkl : j < L.length := by rw [HVL.out.len]; exact hlt
      obtain ⟨b1, o1, rfl, hlb, hcell⟩ := (HVL.out.below hb1).sl.at_ hlt
      have x0 := hcell (j * 2 + 0) _ (vcells_at hkl).1
      have x1 := hcell (j * 2 + 1) _ (vcells_at hkl).2
      rw [← Nat.add_assoc] at x1
      rw [Nat.add_zero] at x0
      have HC := lid (against_snoc (o := o) hkl)
      have dk : decide ((j : Int) < (nL : Int)) = true := by simp; omega
      obtain ⟨x, hx⟩ : ∃ x, L[j] = x := ⟨_, rfl⟩
      rw [hx] at x0 x1 HC
      clear hcell hx
      by_cases he : x.2 = o
      · rw [if_pos he, List.append_nil] at HC
        have d := str_eq he
        clear he
        go_wp2_with fail
        go_roundw
        case rel => exact ⟨j + 1, m, by omega, by go_num, by omega, lid (by rw [HC.out]; exact HO.out), hb1⟩
        case measure => simp [intOf]; omega
      · rw [if_neg he] at HC
        have d := str_ne he
        clear he
        go_wp2_with (at_builtin; go_must (refine wpList_append_new (w := wr) #[.string x.1] rfl _ _ 43 rfl w1.heap.size 9 (.string ⟨#[]⟩) 1 16 info_str Try.underlying43 rfl (by decide) _ m _ HO.out rfl rfl rfl (by intro u hu; simp only [List.mem_cons, List.not_mem_nil, or_false] at hu; rw [hu]; rfl) (by simp only [maxLen]; omega) (by omega) hb1.size ?_))
        intro v9 w9 hown9 hb9 _
        have HO9 : Hid (w9.ownsRow w1.heap.size 9 1 v9 (m + 1) (svals (againstB (L.take (j + 1)) o))) := lid (by rw [HC.out]; unfold svals; rw [List.map_append]; exact hown9)
        have hb19 := hb1.trans hb9
        clear hown9 hb9
        go_wp2_with fail
        go_roundw
        case rel => exact ⟨j + 1, m + 1, by omega, by go_num, by omega, HO9, hb19⟩
        case measure => simp [intOf]; omega
    · obtain rfl : j = nL := by omega
      have HTK : Hid (L.take j = L) := lid (List.take_of_length_le (Nat.le_of_eq HVL.out.len))
      rw [HTK.out] at HO
      have dk : decide ((j : Int) < (j : Int)) = false := by simp
      go_wp2_with fail
      go_ret
      obtain ⟨ao9, cap9, e9, h9⟩ := SA.of_own HO.out (fun s hs => by obtain ⟨v, hv, rfl⟩ := against_mem hs; exact (HVL.out.sz v hv).1)
      exact ⟨_, _, _, _, congrArg Ending.returned e9, rfl, h9, hb.trans (hb1.mono hs1)⟩
end Go.Proofs.Ytcpnpcbaifagbaa
