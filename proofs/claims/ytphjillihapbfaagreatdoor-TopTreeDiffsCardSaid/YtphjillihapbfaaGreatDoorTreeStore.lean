/-
  tree.store.
-/
import Derived.Test.YtphjillihapbfaaGreatDoorGrpQ
import Derived.Test.YtphjillihapbfaaGreatDoorTreeKeys
import Derived.Test.YtphjillihapbfaaGreatDoorGrpR
import Derived.Test.YtphjillihapbfaaGreatDoorGrpO
namespace Go.Proofs.YtphjillihapbfaaGreatDoor
open Go.RowKit

/-- What tree.store does with files whose paths have at most k bytes. -/
def StoreOK (k : Nat) : Prop := ∀ (p : List It) (l : List Fl) (n cap np capp : Nat) (ao aop : Option Addr) (w : World), GoodP p → PA w aop np capp p → Lo w aop → FA w ao n cap l → NF l → (∀ f ∈ l, f.2.size ≤ 200) → (∀ f ∈ l, f.1.size ≤ k) → k ≤ 200 → n ≤ 10 → np + wt l ≤ 80000 →
    Calls Tryz.prog 13 #[.slice aop np capp, .slice ao n cap] w fun e w' => Below w.heap.size w w' ∧ ∃ (a : Option Addr) (n' c : Nat) (d : Dg) (e' : Int), e = .returned (.tuple #[.slice a n' c, dv d, .int .i64 e']) ∧
      ((e' = 0 ∧ ∃ q, storeP (k + 1) p l = some (q, d) ∧ PA w' a n' c q ∧ From w aop a ∧ Lo w' a) ∨ (e' ≠ 0 ∧ storeP (k + 1) p l = none))
set_option maxRecDepth 100000 in
set_option maxHeartbeats 32000000 in
theorem store_step (k : Nat) (ih : ∀ k', k = k' + 1 → StoreOK k') : StoreOK k := by
  intro p l n cap np capp ao aop w hg hp hlo hf hl hz hk hk2 hn hnp
  have HIH := lid ih
  clear ih
  have HN := lid hf.len
  have HS : Hid (Sl w 2 ao n (fcells l)) := lid hf.sl
  have hmm := @run_makeMap Tryz.prog
  go_enter Tryz.func13, Tryz.ntmps13
  go_wp2_with fail
  have hmade := World.ownsMap_made (H := Value)
  obtain ⟨W0, hW0⟩ : ∃ W0, (((w.alloc (Obj.cells #[.int .u64 0, .int .u64 0] 31)).alloc (Obj.map #[] 0)).alloc (Obj.map #[] 0)) = W0 := ⟨_, rfl⟩
  have hs0 : W0.heap.size = w.heap.size + 3 := by rw [← hW0]; simp
  have hb0 : Below w.heap.size w W0 := by rw [← hW0]; exact ((ba w _).alloc (by simp) _).alloc (by simp; omega) _
  have hD0 : W0.heap[w.heap.size]? = some (.cells #[.int .u64 0, .int .u64 0] 31 (0, 0)) := by rw [← hW0]; exact (h_old (by simp; omega) _).trans ((h_old (by simp) _).trans (h_new rfl _))
  have hMB : HM W0 (w.heap.size + 1) 0 (gF fun _ => none) := by
    rw [← hW0]
    have h1 := HM.new (hmade (w.alloc (Obj.cells #[.int .u64 0, .int .u64 0] 31)) Tryz.prog 9 heldR)
    have h2 := h1.below (ba _ (Obj.map #[] 0))
    rw [World.size_alloc] at h2
    exact h2
  have hMF : HM W0 (w.heap.size + 1 + 1) 0 (filF []) := by
    rw [← hW0]
    have h1 := HM.new (hmade ((w.alloc (Obj.cells #[.int .u64 0, .int .u64 0] 31)).alloc (Obj.map #[] 0)) Tryz.prog 9 heldR)
    rw [World.size_alloc, World.size_alloc] at h1
    exact h1
  rw [hW0]
  generalize hbF : w.heap.size + 1 + 1 = bF at hMF ⊢
  generalize hbB : w.heap.size + 1 = bB at hMB ⊢
  have hlb : w.heap.size < bB := by omega
  have hlf : bB < bF := by omega
  have hlW : bF < W0.heap.size := by omega
  have HGP := lid hg
  have HPW := lid hp
  have HLO := lid hlo
  have HNF := lid hl
  have HZ := lid hz
  have HK := lid hk
  have HFS := lid hf.sz
  have HB0 := lid hb0
  have HD0 := lid hD0
  clear hW0 hs0 hbF hbB hmade hmm hg hp hlo hf hl hz hk hb0 hD0
  go_loopw [26] (fun i wr => ∃ (j : Nat) (G : GM), j ≤ n ∧ i = .int .i64 j ∧ Hid (HM wr bB j (gF G)) ∧ Hid (HM wr bF j (filF (l.take j))) ∧ Hid (BelM W0.heap.size wr G (l.take j)) ∧ Below bB W0 wr) (fun i _ => n - (intOf i).toNat)
  case atStart => exact ⟨0, _, Nat.zero_le _, rfl, lid hMB, lid hMF, lid (BelM.nil _ _), Below.refl _ _⟩
  case round =>
    obtain ⟨j, G, hj, rfl, HMB, HMF, HBE, hb⟩ := hrel
    by_cases hlt : j < n
    · have hjl : j < l.length := by rw [HN.out]; exact hlt
      have hbw : Below w.heap.size w wr := HB0.out.trans (hb.mono (Nat.le_of_lt hlb))
      obtain ⟨b1, o1, rfl, hlb1, hcell⟩ := (HS.out.below hbw).at_ hlt
      have x0 := hcell (j * 2 + 0) _ (fcells_at hjl).1
      have x1 := hcell (j * 2 + 1) _ (fcells_at hjl).2
      rw [← Nat.add_assoc] at x1
      rw [Nat.add_zero] at x0
      have dk : decide ((j : Int) < (n : Int)) = true := by simp; omega
      have HNE := lid (take_ne HNF.out hjl)
      have HT : Hid (l.take (j + 1) = l.take j ++ [l[j]]) := lid (List.take_succ_eq_append_getElem hjl)
      have HSZ := lid (HFS.out _ (List.getElem_mem hjl))
      have HKJ := lid (HK.out _ (List.getElem_mem hjl))
      obtain ⟨⟨p1, d1⟩, hv⟩ : ∃ v, l[j] = v := ⟨_, rfl⟩
      rw [hv] at x0 x1 HNE HT HSZ HKJ
      replace x0 : wr.cell? ⟨b1, o1 + j * 2, none⟩ = some (Value.string p1) := x0
      replace x1 : wr.cell? ⟨b1, o1 + j * 2 + 1, none⟩ = some (Value.string d1) := x1
      have CC := lid (fun w1 => cut_any p1 w1 (by have := HKJ.out; show p1.size ≤ 1000000; have : p1.size ≤ k := HKJ.out; omega))
      clear hcell hv
      go_wp2_with fail
      obtain ⟨W1, hW1⟩ : ∃ W1, wr.alloc (Obj.cells #[.string p1, .string d1] 45) = W1 := ⟨_, rfl⟩
      have hb1 : Below wr.heap.size wr W1 := by rw [← hW1]; exact ba _ _
      have hR : W1.heap[wr.heap.size]? = some (.cells #[.string p1, .string d1] 45 (0, 0)) := by rw [← hW1]; exact h_new rfl _
      rw [hW1]
      clear hW1 x0 x1
      (with_reducible refine (CC.out _).mono ?_); rintro e w2 ⟨rfl, hb2⟩
      have h12 := hb1.trans (hb2.mono hb1.size)
      have HR2 := lid ((hb2.block _ (row_lt hR)).trans hR)
      have y0 : w2.cell? ⟨wr.heap.size, 0, none⟩ = some (.string p1) := row_cell HR2.out 0
      have y1 : w2.cell? ⟨wr.heap.size, 1, none⟩ = some (.string d1) := row_cell HR2.out 1
      have lr := row_lt HR2.out
      have HMB2 := lid (HMB.out.below h12)
      have HMF2 := lid (HMF.out.below h12)
      have HBE2 := lid (HBE.out.below h12)
      have hW2 : Below bB W0 w2 := hb.trans (h12.mono (by have := hb.size; omega))
      clear hb1 hb2 hR HMB HMF HBE
      cases hr : restB p1 with
      | none =>
        have HE := lid (first_none hr)
        go_wp2_with (at_mapUpdate; go_must (refine wpList_hm_put _ rfl _ _ _ 75 45 rfl Tryz.underlying75 bF j _ rfl HMF2.out (by simp only [maxLen]; omega) (firstB p1) (.agg #[.string p1, .string d1]) rfl rfl (by rw [HE.out]; exact HSZ.out.1) ?_))
        intro w3 hm3 hg3
        have HMF3 : Hid (HM w3 bF (j + 1) (filF (l.take (j + 1)))) := lid (by
          rw [HT.out, filF_file hr HNE.out]
          rw [HE.out] at hm3
          exact hm3)
        have HMB3 := lid ((HMB2.out.grown hg3 (by intro e; cases e; omega)).more (Nat.le_succ j))
        have HBE3 : Hid (BelM W0.heap.size w3 G (l.take (j + 1))) := lid (by
          rw [HT.out]
          exact (HBE2.out.grown hg3 (fun r e => by cases e; exact hlW)).file hr)
        have hW3 : Below bB W0 w3 := hW2.grown hg3 (by have := hW2.size; omega) (fun r e => by cases e; omega)
        clear hm3 hg3 hW2 y0 y1
        go_wp2_with fail
        go_roundw
        case rel => exact ⟨j + 1, G, by omega, by go_num, HMB3, HMF3, HBE3, hW3⟩
        case measure => simp [intOf]; omega
      | some r =>
        have HL := lid (HMB2.out.look Tryz.underlying74 (zero_files w2) (firstB p1) (by
          have h1 := congrArg List.length (first_some hr)
          rw [List.length_append, List.length_cons, size_list, size_list, size_list] at h1
          have := HSZ.out.1
          show (firstB p1).size ≤ maxLen
          omega))
        have HCU := lid (HBE2.out.cur (firstB p1))
        have hsl := sub_len (firstB p1) (l.take j)
        rw [List.length_take] at hsl
        obtain ⟨v0, hv0⟩ : ∃ v0, (gF G (firstB p1)).getD (.slice none 0 0) = v0 := ⟨_, rfl⟩
        have HV0 := lid hv0
        rw [hv0] at HL
        rw [show ((G (firstB p1)).map s3).getD (.slice none 0 0) = v0 from hv0] at HCU
        clear hv0
        go_wp2_with (first | (at_lookup; go_must (refine wpList_lookc _ false rfl _ _ 74 rfl _ _ _ rfl rfl HL.out ?_)) | (at_builtin; go_must (refine wpList_append_new_at (w := w2) (fca (r, d1)) rfl _ _ 28 rfl W0.heap.size 45 (.agg #[.string ⟨#[]⟩, .string ⟨#[]⟩]) 2 32 info_fl Tryz.underlying28 rfl (by decide) v0 _ _ HCU.out rfl rfl rfl (by intro u hu; simp at hu; rcases hu with rfl | rfl <;> rfl) (by simp only [maxLen]; omega) (by omega) (by have := hW2.size; omega) ?_)))
        intro v4 w4 hown4 hg4 hat4
        obtain ⟨u4, rfl⟩ := s3_of hown4
        have hbn : some bB ≠ v0.ownBlock := fun e => by have := (HCU.out.lt bB e.symm).1; omega
        have HBE4 : Hid (BelM W0.heap.size w4 (fun y => if y = firstB p1 then some u4 else G y) (l.take (j + 1))) := lid (by
          rw [HT.out]
          have e0 : ((G (firstB p1)).map s3).getD (.slice none 0 0) = v0 := HV0.out
          exact HBE2.out.dir (f := (p1, d1)) hr (ba w2 _) hown4 (by rw [e0]; exact hg4) (by rw [e0, World.size_alloc]; exact hat4))
        have HMB4 := lid ((HMB2.out.below (ba w2 (Obj.cells (fca (r, d1)) 45))).grown hg4 hbn)
        have HMF4 := lid ((HMF2.out.below (ba w2 (Obj.cells (fca (r, d1)) 45))).grown hg4 (fun e => by have := (HCU.out.lt bF e.symm).1; omega))
        have hz2 := hW2.size
        have hW4 : Below bB W0 w4 := (hW2.trans ((ba w2 (Obj.cells (fca (r, d1)) 45)).mono (by omega))).grown hg4 (by simp; omega) (fun q e => by have := (HCU.out.lt q e).1; omega)
        have HSF : Hid ((firstB p1).size ≤ maxLen) := lid (by
          have h1 := congrArg List.length (first_some hr)
          rw [List.length_append, List.length_cons, size_list, size_list, size_list] at h1
          have := HSZ.out.1
          show (firstB p1).size ≤ maxLen
          omega)
        clear hown4 hg4 hat4 hW2 y0 y1
        go_wp2_with (at_mapUpdate; go_must (refine wpList_hm_put _ rfl _ _ _ 74 28 rfl Tryz.underlying74 bB j _ rfl HMB4.out (by simp only [maxLen]; omega) (firstB p1) (s3 u4) rfl rfl HSF.out ?_))
        intro w5 hm5 hg5
        have HMB5 : Hid (HM w5 bB (j + 1) (gF (fun y => if y = firstB p1 then some u4 else G y))) := lid (by rw [gF_put] at hm5; exact hm5)
        have HMF5 : Hid (HM w5 bF (j + 1) (filF (l.take (j + 1)))) := lid (by
          rw [HT.out, filF_dir hr]
          exact (HMF4.out.grown hg5 (by intro e; cases e; omega)).more (Nat.le_succ j))
        have HBE5 := lid (HBE4.out.grown hg5 (fun q e => by cases e; omega))
        have hW5 : Below bB W0 w5 := hW4.grown hg5 (by have := hW4.size; omega) (fun q e => by cases e; omega)
        clear hm5 hg5 hW4
        go_wp2_with fail
        go_roundw
        case rel => exact ⟨j + 1, _, by omega, by go_num, HMB5, HMF5, HBE5, hW5⟩
        case measure => simp [intOf]; omega
    · obtain rfl : j = n := by omega
      have HTK : Hid (l.take j = l) := lid (List.take_of_length_le (by rw [HN.out]; omega))
      rw [HTK.out] at HMF HBE
      go_wp2_with fail
      have hbwr : Below w.heap.size w wr := HB0.out.trans (hb.mono (Nat.le_of_lt hlb))
      have hzr := hb.size
      (with_reducible refine (keysF_fn bF wr).mono ?_); rintro e w1 ⟨rfl, rfl⟩
      go_wp2_with fail
      (with_reducible refine (collectF_any bF j (filF l) wr HMF.out (by omega)).mono ?_); rintro e w2 ⟨v2, K1, rfl, hown2, hnd2, hmem2, hlen2, hb2⟩
      have h2 : Below wr.heap.size wr w2 := (ba wr _).trans (hb2.mono (Nat.le_succ _))
      have hz2 := h2.size
      have hz2' : wr.heap.size + 1 ≤ w2.heap.size := by have := hb2.size; rw [World.size_alloc] at this; exact this
      obtain ⟨a2, c2, rfl, _⟩ := Sl.of_own hown2
      have HMB2 := lid (HMB.out.below h2)
      go_wp2_with fail
      (with_reducible refine (keysL_fn bB w2).mono ?_); rintro e w3 ⟨rfl, rfl⟩
      go_wp2_with fail
      (with_reducible refine (appendSeqL_any bB j (gF G) w2 HMB2.out (by omega) (wr.heap.size + 1) a2 c2 K1 hown2 hz2' (by omega)).mono ?_); rintro e w3 ⟨v3, K2, rfl, hown3, hnd3, hmem3, hlen3, hb3⟩
      have h3 : Below wr.heap.size wr w3 := h2.trans (hb3.mono (Nat.le_succ _))
      have hndA : (K1 ++ K2).Nodup := by
        rw [List.nodup_append]
        refine ⟨hnd2, hnd3, fun x hx y hy e => ?_⟩
        subst e
        have e1 := (hmem2 x).1 hx
        have e2 := (hmem3 x).1 hy
        unfold filF at e1
        unfold gF at e2
        rw [Option.isSome_map] at e1 e2
        obtain ⟨d, hd⟩ := Option.isSome_iff_exists.1 e1
        obtain ⟨u, hu⟩ := Option.isSome_iff_exists.1 e2
        exact (HBE.out.row x u hu).2 (file_not_dir HNF.out hd)
      have hlenA : (K1 ++ K2).length ≤ 1000000 := by rw [List.length_append]; omega
      have CS := lid (sort_own v3 (K1 ++ K2) (wr.heap.size + 1) w3 hown3 hndA hlenA (by have := hb3.size; omega))
      go_wp2_with fail
      (with_reducible refine (CS.out).mono ?_); rintro e w4 ⟨rfl, M, hown4, hlen4, hasc, hmem4, hb4⟩
      have h4 : Below wr.heap.size wr w4 := h3.trans (hb4.mono (Nat.le_succ _))
      have HM4 : Hid (M = namesP l) := lid (names_eq hasc fun x => by
        rw [hmem4, List.mem_append, hmem2, hmem3]
        unfold filF gF
        rw [Option.isSome_map, Option.isSome_map]
        refine or_congr Iff.rfl ⟨fun h => ?_, fun h => ?_⟩
        · obtain ⟨u, hu⟩ := Option.isSome_iff_exists.1 h
          exact (HBE.out.row x u hu).2
        · cases hG : G x with
          | some u => rfl
          | none => exact absurd (HBE.out.no x hG) h)
      rw [← hlen4] at hown4
      rw [HM4.out] at hown4
      have hNL := namesP_len l
      obtain ⟨N, hN⟩ : ∃ N, (namesP l).length = N := ⟨_, rfl⟩
      have HNL := lid hN
      have HNSZ : Hid (∀ nm ∈ namesP l, nm.size ≤ maxLen) := lid (fun nm hin => by
        obtain ⟨f, hf, e⟩ := mem_namesP.1 hin
        have h1 := (HFS.out f hf).1
        rw [← e]
        cases hr : restB f.1 with
        | none => rw [first_none hr]; exact h1
        | some r =>
          have h2 := congrArg List.length (first_some hr)
          rw [List.length_append, List.length_cons, size_list, size_list, size_list] at h2
          omega)
      have hN10 : N ≤ 10 := by have := HN.out; omega
      rw [hN] at hown4 hNL
      obtain ⟨a3, c3, rfl, hc3, hc3', hsl3⟩ := Sl.of_own hown4
      have HW4 := lid (hb.trans (h4.mono (by omega)))
      have HMB4 := lid (HMB.out.below h4)
      have HMF4 := lid (HMF.out.below h4)
      have HBE4 := lid (HBE.out.below h4)
      have HSN := lid hsl3
      have HSNB : Hid (∀ x, a3 = some x → x.block < w4.heap.size ∧ wr.heap.size < x.block) := lid (fun x hx => by
        rcases hown4.2 with ⟨e, h0⟩ | ⟨g, cap, cur, e, hgb, hgg, _⟩
        · injection e with e1; rw [hx] at e1; cases e1
        · injection e with e1
          rw [hx] at e1
          cases e1
          exact ⟨(Array.getElem?_eq_some_iff.1 hgg).1, by show wr.heap.size < g; omega⟩)
      clear CS hown2 hown3 hown4 hnd2 hnd3 hndA hmem2 hmem3 hmem4 hb2 hb3 hb4 h2 h3 hasc hlen4 hsl3 HMB HMF HBE HMB2 hb h4 hlenA hN
      have HPL := lid HPW.out.len
      go_wp2_with fail
      obtain ⟨W5, hW5⟩ : ∃ y, w4.alloc (Obj.cells (ocells (obE []) none 0 0 none 0 0) 72) = y := ⟨_, rfl⟩
      have hb5 : Below w4.heap.size w4 W5 := by rw [← hW5]; exact ba _ _
      have hz5' : W5.heap.size = w4.heap.size + 1 := by rw [← hW5]; simp
      have hO5 : W5.heap[w4.heap.size]? = some (.cells (ocells (obE []) none 0 0 none 0 0) 72 (0, 0)) := by rw [← hW5]; exact h_new rfl _
      rw [show w4.alloc (Obj.cells #[.int .i64 2, .string ⟨#[]⟩, .slice none 0 0, .int .u64 0, .int .u64 0, .slice none 0 0, .string ⟨#[]⟩, .int .i64 0, .string ⟨#[]⟩] 72) = W5 from hW5]
      have HW5 := lid (HW4.out.trans (hb5.mono (by have := HW4.out.size; omega)))
      have HMB5 := lid (HMB4.out.below hb5)
      have HMF5 := lid (HMF4.out.below hb5)
      have HBE5 := lid (HBE4.out.below hb5)
      have HBB : Hid (∀ x u, G x = some u → ∀ y, u.1 = some y → y.block < w4.heap.size) := lid fun x u hx y hy => ((HBE4.out.fa hx HFS.out).2 y hy).2
      have HSN5 := lid (HSN.out.below hb5)
      have HD5 : Hid (W5.heap[w.heap.size]? = some (.cells #[.int .u64 0, .int .u64 0] 31 (0, 0))) := lid ((HW5.out.block _ hlb).trans HD0.out)
      have HBW5 : Hid (Below w.heap.size w W5) := lid (HB0.out.trans (HW5.out.mono (Nat.le_of_lt hlb)))
      have HP5 := lid (HPW.out.below HBW5.out)
      have hz4 : W0.heap.size ≤ w4.heap.size := HW4.out.size
      have hw0 : w.heap.size < w4.heap.size := by omega
      have hz5 : w4.heap.size < W5.heap.size := by omega
      clear hW5 hb5 hz5' HMB4 HMF4 HBE4 HSN HW4
      go_loopw [0, 65] (fun u0 u65 wr => ∃ (i : Nat) (a : Option Addr) (n' c : Nat) (q : List It) (es : List Ent) (ae : Option Addr) (ne ce : Nat), i ≤ N ∧ u0 = .slice a n' c ∧ u65 = .int .i64 i ∧ Hid (goP (storeP k) l p ((namesP l).take i) = some (q, es)) ∧ Hid (PA wr a n' c q) ∧ Hid (Lo wr a) ∧ Hid (From w aop a) ∧ Hid (wr.heap[w4.heap.size]? = some (.cells (ocells (obE []) ae ne ce none 0 0) 72 (0, 0))) ∧ Hid (wr.ownsRow W5.heap.size 83 4 (.slice ae ne ce) ne (ecells es) ∧ es.length = ne) ∧ Hid (W5.grownBy wr (some w4.heap.size)) ∧ Hid (∀ x, a = some x → x.block ≠ w4.heap.size ∧ some x.block ≠ (Value.slice ae ne ce).ownBlock ∧ x.block ≠ w.heap.size)) (fun _ u65 _ => N - (intOf u65).toNat)
      case atStart =>
        refine ⟨0, aop, np, capp, p, [], none, 0, 0, Nat.zero_le _, rfl, rfl, lid rfl, HP5, lid (HLO.out.mono HBW5.out.size), lid (From.refl _ _), lid hO5, lid ⟨World.ownsRow_nil _ _ _ _, rfl⟩, lid ⟨rfl, rfl, rfl, Nat.le_refl _, fun _ _ _ => rfl⟩, lid fun x hx => ⟨?_, (fun e => by cases e), ?_⟩⟩
        · have := HLO.out x hx
          omega
        · have := HLO.out x hx
          omega
      case round =>
        obtain ⟨i, a, n', c, q, es, ae, ne, ce, hi, rfl, rfl, HGO, HPA, HLO2, HFR, HOB, HOW0, HGR, HNB⟩ := hrel
        have HOW := lid HOW0.out.1
        have HEL := lid HOW0.out.2
        have HBWR : Hid (Below w.heap.size w wr) := lid (HBW5.out.grown HGR.out HBW5.out.size (fun r e => by cases e; omega))
        have HPF := lid (go_prefix HGP.out HNF.out HZ.out HGO.out)
        have hne10 : ne ≤ i := by rw [← HEL.out]; exact HPF.out.2.2
        have hnq : n' ≤ np + wt l := by rw [← HPA.out.len, ← HPL.out]; exact HPF.out.2.1
        have hnc : n' ≤ c := HPA.out.le
        have hcm : c ≤ maxLen := HPA.out.max
        have hzg : W5.heap.size ≤ wr.heap.size := HGR.out.size
        have HD6 : Hid (wr.heap[w.heap.size]? = some (.cells #[.int .u64 0, .int .u64 0] 31 (0, 0))) := lid ((HGR.out.block _ (row_lt HD5.out) (by intro e; have := Option.some.inj e; omega)).trans HD5.out)
        by_cases hlt2 : i < N
        · have hiN : i < (namesP l).length := by rw [HNL.out]; exact hlt2
          have HSN2 := lid (HSN5.out.grown HGR.out (fun x hx e => by have := (HSNB.out x hx).1; have := Option.some.inj e; omega))
          obtain ⟨b3, o3, rfl, hlb3, hc3c⟩ := HSN2.out.at_ hlt2
          have x0 := hc3c i _ (svals_at hiN)
          have dk : decide ((i : Int) < (N : Int)) = true := by simp; omega
          obtain ⟨nm, hnm⟩ : ∃ nm, (namesP l)[i] = nm := ⟨_, rfl⟩
          have HNM := lid hnm
          have HIN : Hid (nm ∈ namesP l) := lid (by rw [← hnm]; exact List.getElem_mem hiN)
          rw [hnm] at x0
          obtain ⟨W6, hW6⟩ : ∃ y, wr.alloc (Obj.cells #[.string nm, .bool false, .int .u64 0, .int .u64 0] 83) = y := ⟨_, rfl⟩
          have hb6 : Below wr.heap.size wr W6 := by rw [← hW6]; exact ba _ _
          have hE6 : W6.heap[wr.heap.size]? = some (.cells #[.string nm, .bool false, .int .u64 0, .int .u64 0] 83 (0, 0)) := by rw [← hW6]; exact h_new rfl _
          have HMF6 := lid ((HMF5.out.grown HGR.out (by intro e; have := Option.some.inj e; omega)).below hb6)
          have HMB6 := lid ((HMB5.out.grown HGR.out (by intro e; have := Option.some.inj e; omega)).below hb6)
          have HSZN : Hid (nm.size ≤ maxLen) := lid (HNSZ.out nm HIN.out)
          have HL := lid (HMF6.out.look_ok Tryz.underlying75 (zero_file W6) nm HSZN.out)
          have HW6 := lid hW6
          have HE6 := lid hE6
          have le6 := row_lt hE6
          clear hnm hc3c hW6 hE6
          go_wp2_with fail
          rw [HW6.out]
          cases hfp : fileP nm l with
          | some d1 =>
            have HFP := lid hfp
            have hfv : filF l nm = some (.agg #[.string nm, .string d1]) := by unfold filF; rw [hfp]; rfl
            rw [hfv] at HL
            replace HL : Hid ((Instr.lookup 75 (.map (some bF)) (.string nm) true).run Tryz.prog W6 = .ok (.tuple #[.agg #[.string nm, .string d1], .bool true]) W6) := HL
            clear hfv
            rw [HL.out]
            obtain ⟨W7, hW7⟩ : ∃ y, W6.alloc (Obj.cells #[.string nm, .string d1] 45) = y := ⟨_, rfl⟩
            have hb7 : Below W6.heap.size W6 W7 := by rw [← hW7]; exact ba _ _
            have hF7 : W7.heap[W6.heap.size]? = some (.cells #[.string nm, .string d1] 45 (0, 0)) := by rw [← hW7]; exact h_new rfl _
            have HW7 := lid hW7
            have f1 : W7.cell? ⟨W6.heap.size, 1, none⟩ = some (.string d1) := row_cell hF7 1
            have lf7 := row_lt hF7
            have hm1 := HZ.out _ (find_mem hfp)
            have hd1 : d1.size ≤ 200 := hm1
            have hsz1 : d1.size ≤ maxLen := (HFS.out _ (find_mem hfp)).2
            have hb67 := hb6.trans (hb7.mono hb6.size)
            have CB := lid (blob_any d1 W7)
            clear hW7 hF7 hfp hm1
            go_wp2_with fail
            rw [HW7.out]
            go_wp2_with fail
            (with_reducible refine (CB.out).mono ?_); rintro e w8 ⟨rfl, hb8⟩
            have hb68 := hb67.trans (hb8.mono hb67.size)
            have hob : ObjA w8 none 0 none 0 (obB d1) := ObjA.blob w8 hsz1
            have CP := lid (put_any (obB d1) none none 0 0 0 0 q n' c a w8 hob (Nat.le_refl _) (show d1.size ≤ 60000 by omega) (HPA.out.below hb68) (HLO2.out.mono hb68.size) HPF.out.1.asc (by omega))
            clear hob f1 lf7
            go_wp2_with fail
            (with_reducible refine (CP.out).mono ?_); rintro e w9 ⟨hb9, a', n'', c', dd, e', rfl, hres⟩
            have hb69 : Below wr.heap.size wr w9 := hb68.trans (hb9.mono hb68.size)
            have hz6 : wr.heap.size < w8.heap.size := by have h1 := hb7.size; have h2 := hb8.size; omega
            replace hres : (e' = 0 ∧ ∃ q', putP q (obB d1) = some (q', dd) ∧ PA w9 a' n'' c' q' ∧ From w8 a a' ∧ Lo w9 a') ∨ (e' ≠ 0 ∧ putP q (obB d1) = none) := by
              rcases hres with ⟨h1, q', h2, h3, _, h5, h6⟩ | h1
              · exact .inl ⟨h1, q', h2, h3, h5, h6⟩
              · exact .inr h1
            rw [show (∃ q', putP q (obB d1) = some (q', dd) ∧ PA w9 a' n'' c' q' ∧ From w8 a a' ∧ Lo w9 a') = (∃ q', putP q (obB d1) = some (q', dd) ∧ PA w9 a' n'' c' q' ∧ From w8 a a' ∧ Lo w9 a') from rfl] at hres
            have HE9 : Hid (w9.heap[wr.heap.size]? = some (.cells #[.string nm, .bool false, .int .u64 0, .int .u64 0] 83 (0, 0))) := lid (by
              have h1 := hb7.trans ((hb8.trans (hb9.mono hb8.size)).mono hb7.size)
              exact (h1.block _ (row_lt HE6.out)).trans HE6.out)
            have HO9 := lid ((hb69.block _ (row_lt HOB.out)).trans HOB.out)
            have HD9 := lid ((hb69.block _ (row_lt HD6.out)).trans HD6.out)
            have HB9 := lid hb69
            have HG9 := lid (grown_on HGR.out (grown_below hb69 none) (fun r e => by cases e))
            have HBW9 := lid (HBWR.out.trans (hb69.mono HBWR.out.size))
            clear hb6 hb7 hb8 hb9 hb67 hb68 hb69 CB CP
            rcases hres with ⟨rfl, q', hq', hpa', hfr', hlo'⟩ | ⟨he, hno⟩
            · have HGO' : Hid (goP (storeP k) l p ((namesP l).take (i + 1)) = some (q', es ++ [(nm, false, dd)])) := lid (by
                rw [List.take_succ_eq_append_getElem hiN, HNM.out]
                exact goP_snoc HGO.out (step_file HFP.out hq'))
              have HFR' : Hid (From w aop a') := lid (HFR.out.trans hfr' (Nat.le_trans HBWR.out.size (Nat.le_of_lt hz6)))
              have hne' : ∀ x, a' = some x → x.block ≠ w4.heap.size ∧ some x.block ≠ (Value.slice ae ne ce).ownBlock ∧ x.block ≠ wr.heap.size ∧ x.block < w9.heap.size ∧ x.block ≠ w.heap.size := fun x hx => by
                refine ⟨?_, ?_, ?_, hlo' x hx, ?_⟩
                · rcases hfr' x hx with ⟨y, hy, e⟩ | h2
                  · rw [← e]; exact (HNB.out y hy).1
                  · have := HGR.out.size; omega
                · rcases hfr' x hx with ⟨y, hy, e⟩ | h2
                  · rw [← e]; exact (HNB.out y hy).2.1
                  · intro e2
                    have := (HOW.out.lt _ e2.symm).2
                    omega
                · rcases hfr' x hx with ⟨y, hy, e⟩ | h2
                  · rw [← e]; have := HLO2.out y hy; omega
                  · omega
                · rcases hfr' x hx with ⟨y, hy, e⟩ | h2
                  · rw [← e]; exact (HNB.out y hy).2.2
                  · have := HBWR.out.size; omega
              obtain ⟨w10, hw10⟩ : ∃ y, (w9.setCell ⟨wr.heap.size, 2, none⟩ (.int .u64 dd.1.toNat)).setCell ⟨wr.heap.size, 3, none⟩ (.int .u64 dd.2.toNat) = y := ⟨_, rfl⟩
              have hg10 : w9.grownBy w10 (some wr.heap.size) := by rw [← hw10]; exact (grown_set w9 _ _ _).trans (grown_set _ _ _ _)
              have hE10 : w10.heap[wr.heap.size]? = some (.cells #[.string nm, .bool false, .int .u64 dd.1.toNat, .int .u64 dd.2.toNat] 83 (0, 0)) := by
                rw [← hw10]
                have h1 := row_set HE9.out 2 (.int .u64 dd.1.toNat)
                have h2 := row_set h1 3 (.int .u64 dd.2.toNat)
                simpa using h2
              have hO10 : w10.heap[w4.heap.size]? = some (.cells (ocells (obE []) ae ne ce none 0 0) 72 (0, 0)) := (hg10.block _ (row_lt HO9.out) (by intro e; have := Option.some.inj e; omega)).trans HO9.out
              have hg9' : W5.grownBy w10 (some w4.heap.size) := grown_on HG9.out hg10 (fun r e => by cases e; exact .inr hzg)
              have HOW10 : Hid (w10.ownsRow W5.heap.size 83 4 (.slice ae ne ce) ne (ecells es)) := lid ((HOW.out.kept (grown_below (HB9.out) none) (by cases hv : (Value.slice ae ne ce).ownBlock <;> simp)).kept hg10 (by
                cases hv : (Value.slice ae ne ce).ownBlock with
                | none => exact .inl rfl
                | some g => exact .inr (fun e => by have := (HOW.out.lt g hv).2; have := Option.some.inj e; omega)))
              have HPA10 : Hid (PA w10 a' n'' c' q') := lid (hpa'.grown hg10 (fun x hx => by have := (hne' x hx).2.2.1; intro e; have := Option.some.inj e; omega))
              have HNE' := lid hne'
              have hz10 : w9.heap.size ≤ w10.heap.size := hg10.size
              have HO10 := lid hO10
              have HG10 := lid hg9'
              have HW10 := lid hw10
              have e0 : w10.cell? ⟨wr.heap.size, 0, none⟩ = some (.string nm) := row_cell hE10 0
              have e1 : w10.cell? ⟨wr.heap.size, 1, none⟩ = some (.bool false) := row_cell hE10 1
              have e2 : w10.cell? ⟨wr.heap.size, 2, none⟩ = some (.int .u64 dd.1.toNat) := row_cell hE10 2
              have e3 : w10.cell? ⟨wr.heap.size, 3, none⟩ = some (.int .u64 dd.2.toNat) := row_cell hE10 3
              have o2 : w10.cell? ⟨w4.heap.size, 2, none⟩ = some (.slice ae ne ce) := row_cell hO10 2
              have le10 := row_lt hE10
              have lo10 := row_lt hO10
              have z2 : w9.cell? ⟨wr.heap.size, 2, none⟩ = some (.int .u64 0) := row_cell HE9.out 2
              have z3 : w9.cell? ⟨wr.heap.size, 3, none⟩ = some (.int .u64 0) := row_cell HE9.out 3
              have zf2 : w9.frozen? ⟨wr.heap.size, 2, none⟩ = false := row_fz HE9.out 2
              have zf3 : w9.frozen? ⟨wr.heap.size, 3, none⟩ = false := row_fz HE9.out 3
              have le9 := row_lt HE9.out
              obtain ⟨sv, hsv⟩ : ∃ sv, Value.slice ae ne ce = sv := ⟨_, rfl⟩
              have HSV := lid hsv
              rw [hsv] at o2
              have HOWS : Hid (w10.ownsRow W5.heap.size 83 4 sv ne (ecells es)) := lid (by rw [← hsv]; exact HOW10.out)
              clear hq' hpa' hfr' hne' hg10 hE10 hO10 hg9' hw10 hsv
              go_wp2_with (first | (with_reducible refine swap_world HW10.out ?_) | (at_builtin; go_must (refine wpList_append_new_at (w := w10) #[.string nm, .bool false, .int .u64 dd.1.toNat, .int .u64 dd.2.toNat] rfl _ _ 70 rfl W5.heap.size 83 (.agg #[.string ⟨#[]⟩, .bool false, .int .u64 0, .int .u64 0]) 4 40 info_ent Tryz.underlying70 rfl (by decide) sv ne _ HOWS.out rfl rfl rfl (by intro u hu; simp at hu; rcases hu with rfl | rfl | rfl | rfl <;> rfl) (by simp only [maxLen]; omega) (by omega) (by have := HG10.out.size; omega) ?_)))
              clear z2 z3 zf2 zf3
              intro v11 w11 hown11 hg11 hat11
              rw [← HSV.out] at hg11 hat11
              obtain ⟨a11, c11, rfl, _⟩ := Sl.of_own hown11
              have hgA : w10.grownBy w11 (Value.slice ae ne ce).ownBlock := ((grown_below (ba w10 _) _).trans hg11)
              have hob : (Value.slice ae ne ce).ownBlock ≠ some w4.heap.size := fun e => by have := (HOW10.out.lt _ e).1; omega
              have hO11 : w11.heap[w4.heap.size]? = some (.cells (ocells (obE []) ae ne ce none 0 0) 72 (0, 0)) := (hgA.block _ lo10 (fun e => hob e.symm)).trans HO10.out
              have HOW11 := lid hown11
              have HPA11 : Hid (PA w11 a' n'' c' q') := lid (HPA10.out.grown hgA (fun x hx => (HNE'.out x hx).2.1))
              have HG11 : Hid (W5.grownBy w11 (some w4.heap.size)) := lid (grown_on HG10.out hgA (fun r e => .inr (HOW10.out.lt r e).1))
              have HAT : Hid ((Value.slice a11 (ne + 1) c11).ownBlock = (Value.slice ae ne ce).ownBlock ∨ (Value.slice a11 (ne + 1) c11).ownBlock = some (w10.heap.size + 1)) := lid (by simpa using hat11)
              have hz11 : w10.heap.size ≤ w11.heap.size := hgA.size
              have HO11 := lid hO11
              have p2 : w11.cell? ⟨w4.heap.size, 2, none⟩ = some (.slice ae ne ce) := row_cell hO11 2
              have pf2 : w11.frozen? ⟨w4.heap.size, 2, none⟩ = false := row_fz hO11 2
              have lo11 := row_lt hO11
              rw [HSV.out] at p2
              clear hown11 hg11 hat11 hgA hO11 e0 e1 e2 e3 o2 HO10 HG10
              go_wp2_with fail
              go_roundw
              case rel =>
                refine ⟨i + 1, a', n'', c', q', es ++ [(nm, false, dd)], a11, ne + 1, c11, by omega, by rfl, by go_num, HGO', lid (HPA11.out.grown (grown_set w11 _ _ _) (fun x hx e => (HNE'.out x hx).1 (Option.some.inj e))), lid ?_, HFR', lid ?_, lid ?_, lid (HG11.out.trans (grown_set w11 _ _ _)), lid ?_⟩
                · exact fun x hx => by have := (HNE'.out x hx).2.2.2.1; simp [World.setCell]; omega
                · have := row_set HO11.out 2 (.slice a11 (ne + 1) c11)
                  simpa using this
                · rw [ecells_snoc, List.length_append]
                  refine ⟨HOW11.out.kept (grown_set w11 _ _ _) (.inr fun e => by have := (HOW11.out.lt _ e).1; omega), by simp [HEL.out]⟩
                · intro x hx
                  obtain ⟨h1, h2, h3, h4, h6⟩ := HNE'.out x hx
                  refine ⟨h1, fun e => ?_, h6⟩
                  rcases HAT.out with h5 | h5
                  · rw [h5] at e; exact h2 e
                  · rw [h5] at e
                    have := Option.some.inj e
                    omega
              case measure => simp [intOf]; omega
            · have uK : (e' == 0) = false := by simpa using he
              have HVN := lid he
              have HNO : Hid (storeP (k + 1) p l = none) := lid (store_fail hiN HNM.out HGO.out (fail_file HFP.out hno))
              have hD9 : w9.heap[w.heap.size]? = some (.cells #[.int .u64 0, .int .u64 0] 31 (0, 0)) := HD9.out
              obtain ⟨w10, hw10⟩ : ∃ y, (w9.setCell ⟨wr.heap.size, 2, none⟩ (.int .u64 dd.1.toNat)).setCell ⟨wr.heap.size, 3, none⟩ (.int .u64 dd.2.toNat) = y := ⟨_, rfl⟩
              have hD10 : w10.heap[w.heap.size]? = some (.cells #[.int .u64 0, .int .u64 0] 31 (0, 0)) := by
                rw [← hw10]
                exact row_other (row_other hD9 (by omega)) (by omega)
              have HB10 : Hid (Below w.heap.size w w10) := lid (by
                rw [← hw10]
                exact (HBW9.out.setCell (p := ⟨wr.heap.size, 2, none⟩) (by show w.heap.size ≤ wr.heap.size; omega) _).setCell (p := ⟨wr.heap.size, 3, none⟩) (by show w.heap.size ≤ wr.heap.size; omega) _)
              have HW10 := lid hw10
              have y0 : w10.cell? ⟨w.heap.size, 0, none⟩ = some (.int .u64 0) := row_cell hD10 0
              have y1 : w10.cell? ⟨w.heap.size, 1, none⟩ = some (.int .u64 0) := row_cell hD10 1
              have yf0 : w10.frozen? ⟨w.heap.size, 0, none⟩ = false := row_fz hD10 0
              have yf1 : w10.frozen? ⟨w.heap.size, 1, none⟩ = false := row_fz hD10 1
              have ly := row_lt hD10
              have z2 : w9.cell? ⟨wr.heap.size, 2, none⟩ = some (.int .u64 0) := row_cell HE9.out 2
              have z3 : w9.cell? ⟨wr.heap.size, 3, none⟩ = some (.int .u64 0) := row_cell HE9.out 3
              have zf2 : w9.frozen? ⟨wr.heap.size, 2, none⟩ = false := row_fz HE9.out 2
              have zf3 : w9.frozen? ⟨wr.heap.size, 3, none⟩ = false := row_fz HE9.out 3
              have le9 := row_lt HE9.out
              clear he hno hw10 hD9 hD10
              go_wp2_with (with_reducible refine swap_world HW10.out ?_)
              clear z2 z3 zf2 zf3
              go_wp2_with fail
              refine bodyPost_ret (v := .tuple #[.slice none 0 0, .agg #[.int .u64 0, .int .u64 0], .int .i64 e']) (by
                obtain ⟨z0, z1⟩ := two_set (.int .u64 0) (.int .u64 0) y0 y1
                simp [results, Tryz.results13, go_sem, z0, z1]) rfl ⟨(HB10.out.setCell (p := ⟨w.heap.size, 0, none⟩) (Nat.le_refl _) _).setCell (p := ⟨w.heap.size, 1, none⟩) (Nat.le_refl _) _, none, 0, 0, (0, 0), e', rfl, .inr ⟨HVN.out, HNO.out⟩⟩
          | none =>
            have HFP := lid hfp
            have hfv : filF l nm = none := by unfold filF; rw [hfp]; rfl
            rw [hfv] at HL
            replace HL : Hid ((Instr.lookup 75 (.map (some bF)) (.string nm) true).run Tryz.prog W6 = .ok (.tuple #[.agg #[.string ⟨#[]⟩, .string ⟨#[]⟩], .bool false]) W6) := HL
            have hsb : subP nm l ≠ [] := by
              rcases (names_or nm).1 HIN.out with h | h
              · rw [hfp] at h; cases h
              · exact h
            have hG : ∃ u, G nm = some u := by
              cases hG : G nm with
              | some u => exact ⟨u, rfl⟩
              | none => exact absurd (HBE5.out.no nm hG) hsb
            obtain ⟨u, hGu⟩ := hG
            clear hfv hfp
            rw [HL.out]
            have hbo : ∀ x, u.1 = some x → x.block ≠ w4.heap.size := fun x hx e => by
              have := HBB.out nm u hGu x hx
              omega
            have b1 : W6.cell? ⟨wr.heap.size, 1, none⟩ = some (.bool false) := row_cell HE6.out 1
            have bf1 : W6.frozen? ⟨wr.heap.size, 1, none⟩ = false := row_fz HE6.out 1
            obtain ⟨V, hV⟩ : ∃ y, W6.setCell ⟨wr.heap.size, 1, none⟩ (.bool true) = y := ⟨_, rfl⟩
            have hgV : W6.grownBy V (some wr.heap.size) := by rw [← hV]; exact grown_set _ _ _ _
            have hEV : V.heap[wr.heap.size]? = some (.cells #[.string nm, .bool true, .int .u64 0, .int .u64 0] 83 (0, 0)) := by
              rw [← hV]
              have := row_set HE6.out 1 (.bool true)
              simpa using this
            have hbV : Below wr.heap.size wr V := by rw [← hV]; exact hb6.setCell (p := ⟨wr.heap.size, 1, none⟩) (Nat.le_refl _) _
            obtain ⟨w8, hw8⟩ : ∃ y, V.alloc (Obj.cells #[.string ⟨#[]⟩, .string ⟨#[]⟩] 45) = y := ⟨_, rfl⟩
            have hb8 : Below V.heap.size V w8 := by rw [← hw8]; exact ba _ _
            have hE8 : w8.heap[wr.heap.size]? = some (.cells #[.string nm, .bool true, .int .u64 0, .int .u64 0] 83 (0, 0)) := (hb8.block _ (row_lt hEV)).trans hEV
            have hbk : Below wr.heap.size wr w8 := hbV.trans (hb8.mono hbV.size)
            have hlt8 : wr.heap.size < w8.heap.size := row_lt hE8
            have hHM8 := ((HMB6.out.grown hgV (by intro e; have := Option.some.inj e; omega)).below hb8)
            rw [← hV] at hw8
            have HW8 := lid hw8
            have HL8 := lid (hHM8.look Tryz.underlying74 (zero_files w8) nm HSZN.out)
            obtain ⟨hfa, hfb⟩ := HBE5.out.fa hGu HFS.out
            have hgu : gF G nm = some (s3 u) := by unfold gF; rw [hGu]; rfl
            rw [hgu] at HL8
            replace HL8 : Hid ((Instr.lookup 74 (.map (some bB)) (.string nm) false).run Tryz.prog w8 = .ok (s3 u) w8) := HL8
            have hfa8 : FA w8 u.1 u.2.1 u.2.2 (subP nm l) := (hfa.grown HGR.out (fun x hx e => hbo x hx (Option.some.inj e))).below hbk
            have hrm := go_room HNF.out HGO.out hiN (by rw [HNM.out]; exact HFP.out)
            rw [HNM.out, HPA.out.len, HPL.out] at hrm
            have hk1 : ∀ f ∈ subP nm l, f.1.size + 1 ≤ k := fun f hf => by
              obtain ⟨g, hg1, _, e2⟩ := sub_mem hf
              have h1 := HK.out g hg1
              have h2 := congrArg List.length e2
              rw [List.length_append, List.length_cons, size_list, size_list, size_list] at h2
              omega
            obtain ⟨k', hk'⟩ : ∃ k', k = k' + 1 := by
              obtain ⟨f, hf⟩ := List.exists_mem_of_ne_nil _ hsb
              have := hk1 f hf
              exact ⟨k - 1, by omega⟩
            have CP := lid (HIH.out k' hk' q (subP nm l) u.2.1 u.2.2 n' c u.1 a w8 HPF.out.1 (HPA.out.below hbk) (HLO2.out.mono hbk.size) hfa8 (HNF.out.sub nm) (fun f hf => by
              obtain ⟨g, hg1, e1, _⟩ := sub_mem hf
              rw [← e1]
              exact HZ.out g hg1) (fun f hf => by have := hk1 f hf; omega) (by omega) (by rw [← hfa8.len]; have := sub_len nm l; have := HN.out; omega) (by omega))
            have HFA8 := lid hfa8.len
            obtain ⟨u1, u2, u3⟩ := u
            have HK1 := lid hk'
            clear hw8 hV hEV hfa hfb hfa8 hgu hk1 hrm hGu hHM8 hgV hbV hb8
            go_wp2_with (first | (with_reducible refine swap_world HW8.out ?_) | (at_lookup; go_must (refine wpList_lookc _ false rfl _ _ 74 rfl _ _ _ rfl rfl HL8.out ?_)))
            rw [show s3 (u1, u2, u3) = Value.slice u1 u2 u3 from rfl]
            (with_reducible refine (CP.out).mono ?_); rintro e w9 ⟨hb9, a', n'', c', dd, e', rfl, hres⟩
            have hb69 : Below wr.heap.size wr w9 := hbk.trans (hb9.mono hbk.size)
            have hz6 : wr.heap.size < w8.heap.size := hlt8
            rw [← HK1.out] at hres
            have HE9 : Hid (w9.heap[wr.heap.size]? = some (.cells #[.string nm, .bool true, .int .u64 0, .int .u64 0] 83 (0, 0))) := lid ((hb9.block _ (row_lt hE8)).trans hE8)
            have HO9 := lid ((hb69.block _ (row_lt HOB.out)).trans HOB.out)
            have HD9 := lid ((hb69.block _ (row_lt HD6.out)).trans HD6.out)
            have HB9 := lid hb69
            have HG9 := lid (grown_on HGR.out (grown_below hb69 none) (fun r e => by cases e))
            have HBW9 := lid (HBWR.out.trans (hb69.mono HBWR.out.size))
            clear hb6 hb9 hb69 CP hbk hE8 b1 bf1 hlt8
            rcases hres with ⟨rfl, q', hq', hpa', hfr', hlo'⟩ | ⟨he, hno⟩
            · have HGO' : Hid (goP (storeP k) l p ((namesP l).take (i + 1)) = some (q', es ++ [(nm, true, dd)])) := lid (by
                rw [List.take_succ_eq_append_getElem hiN, HNM.out]
                exact goP_snoc HGO.out (step_dir HFP.out hq'))
              have HFR' : Hid (From w aop a') := lid (HFR.out.trans hfr' (Nat.le_trans HBWR.out.size (Nat.le_of_lt hz6)))
              have hne' : ∀ x, a' = some x → x.block ≠ w4.heap.size ∧ some x.block ≠ (Value.slice ae ne ce).ownBlock ∧ x.block ≠ wr.heap.size ∧ x.block < w9.heap.size ∧ x.block ≠ w.heap.size := fun x hx => by
                refine ⟨?_, ?_, ?_, hlo' x hx, ?_⟩
                · rcases hfr' x hx with ⟨y, hy, e⟩ | h2
                  · rw [← e]; exact (HNB.out y hy).1
                  · have := HGR.out.size; omega
                · rcases hfr' x hx with ⟨y, hy, e⟩ | h2
                  · rw [← e]; exact (HNB.out y hy).2.1
                  · intro e2
                    have := (HOW.out.lt _ e2.symm).2
                    omega
                · rcases hfr' x hx with ⟨y, hy, e⟩ | h2
                  · rw [← e]; have := HLO2.out y hy; omega
                  · omega
                · rcases hfr' x hx with ⟨y, hy, e⟩ | h2
                  · rw [← e]; exact (HNB.out y hy).2.2
                  · have := HBWR.out.size; omega
              obtain ⟨w10, hw10⟩ : ∃ y, (w9.setCell ⟨wr.heap.size, 2, none⟩ (.int .u64 dd.1.toNat)).setCell ⟨wr.heap.size, 3, none⟩ (.int .u64 dd.2.toNat) = y := ⟨_, rfl⟩
              have hg10 : w9.grownBy w10 (some wr.heap.size) := by rw [← hw10]; exact (grown_set w9 _ _ _).trans (grown_set _ _ _ _)
              have hE10 : w10.heap[wr.heap.size]? = some (.cells #[.string nm, .bool true, .int .u64 dd.1.toNat, .int .u64 dd.2.toNat] 83 (0, 0)) := by
                rw [← hw10]
                have h1 := row_set HE9.out 2 (.int .u64 dd.1.toNat)
                have h2 := row_set h1 3 (.int .u64 dd.2.toNat)
                simpa using h2
              have hO10 : w10.heap[w4.heap.size]? = some (.cells (ocells (obE []) ae ne ce none 0 0) 72 (0, 0)) := (hg10.block _ (row_lt HO9.out) (by intro e; have := Option.some.inj e; omega)).trans HO9.out
              have hg9' : W5.grownBy w10 (some w4.heap.size) := grown_on HG9.out hg10 (fun r e => by cases e; exact .inr hzg)
              have HOW10 : Hid (w10.ownsRow W5.heap.size 83 4 (.slice ae ne ce) ne (ecells es)) := lid ((HOW.out.kept (grown_below (HB9.out) none) (by cases hv : (Value.slice ae ne ce).ownBlock <;> simp)).kept hg10 (by
                cases hv : (Value.slice ae ne ce).ownBlock with
                | none => exact .inl rfl
                | some g => exact .inr (fun e => by have := (HOW.out.lt g hv).2; have := Option.some.inj e; omega)))
              have HPA10 : Hid (PA w10 a' n'' c' q') := lid (hpa'.grown hg10 (fun x hx => by have := (hne' x hx).2.2.1; intro e; have := Option.some.inj e; omega))
              have HNE' := lid hne'
              have hz10 : w9.heap.size ≤ w10.heap.size := hg10.size
              have HO10 := lid hO10
              have HG10 := lid hg9'
              have HW10 := lid hw10
              have e0 : w10.cell? ⟨wr.heap.size, 0, none⟩ = some (.string nm) := row_cell hE10 0
              have e1 : w10.cell? ⟨wr.heap.size, 1, none⟩ = some (.bool true) := row_cell hE10 1
              have e2 : w10.cell? ⟨wr.heap.size, 2, none⟩ = some (.int .u64 dd.1.toNat) := row_cell hE10 2
              have e3 : w10.cell? ⟨wr.heap.size, 3, none⟩ = some (.int .u64 dd.2.toNat) := row_cell hE10 3
              have o2 : w10.cell? ⟨w4.heap.size, 2, none⟩ = some (.slice ae ne ce) := row_cell hO10 2
              have le10 := row_lt hE10
              have lo10 := row_lt hO10
              have z2 : w9.cell? ⟨wr.heap.size, 2, none⟩ = some (.int .u64 0) := row_cell HE9.out 2
              have z3 : w9.cell? ⟨wr.heap.size, 3, none⟩ = some (.int .u64 0) := row_cell HE9.out 3
              have zf2 : w9.frozen? ⟨wr.heap.size, 2, none⟩ = false := row_fz HE9.out 2
              have zf3 : w9.frozen? ⟨wr.heap.size, 3, none⟩ = false := row_fz HE9.out 3
              have le9 := row_lt HE9.out
              obtain ⟨sv, hsv⟩ : ∃ sv, Value.slice ae ne ce = sv := ⟨_, rfl⟩
              have HSV := lid hsv
              rw [hsv] at o2
              have HOWS : Hid (w10.ownsRow W5.heap.size 83 4 sv ne (ecells es)) := lid (by rw [← hsv]; exact HOW10.out)
              clear hq' hpa' hfr' hne' hg10 hE10 hO10 hg9' hw10 hsv
              go_wp2_with (first | (with_reducible refine swap_world HW10.out ?_) | (at_builtin; go_must (refine wpList_append_new_at (w := w10) #[.string nm, .bool true, .int .u64 dd.1.toNat, .int .u64 dd.2.toNat] rfl _ _ 70 rfl W5.heap.size 83 (.agg #[.string ⟨#[]⟩, .bool false, .int .u64 0, .int .u64 0]) 4 40 info_ent Tryz.underlying70 rfl (by decide) sv ne _ HOWS.out rfl rfl rfl (by intro u hu; simp at hu; rcases hu with rfl | rfl | rfl | rfl <;> rfl) (by simp only [maxLen]; omega) (by omega) (by have := HG10.out.size; omega) ?_)))
              clear z2 z3 zf2 zf3
              intro v11 w11 hown11 hg11 hat11
              rw [← HSV.out] at hg11 hat11
              obtain ⟨a11, c11, rfl, _⟩ := Sl.of_own hown11
              have hgA : w10.grownBy w11 (Value.slice ae ne ce).ownBlock := ((grown_below (ba w10 _) _).trans hg11)
              have hob : (Value.slice ae ne ce).ownBlock ≠ some w4.heap.size := fun e => by have := (HOW10.out.lt _ e).1; omega
              have hO11 : w11.heap[w4.heap.size]? = some (.cells (ocells (obE []) ae ne ce none 0 0) 72 (0, 0)) := (hgA.block _ lo10 (fun e => hob e.symm)).trans HO10.out
              have HOW11 := lid hown11
              have HPA11 : Hid (PA w11 a' n'' c' q') := lid (HPA10.out.grown hgA (fun x hx => (HNE'.out x hx).2.1))
              have HG11 : Hid (W5.grownBy w11 (some w4.heap.size)) := lid (grown_on HG10.out hgA (fun r e => .inr (HOW10.out.lt r e).1))
              have HAT : Hid ((Value.slice a11 (ne + 1) c11).ownBlock = (Value.slice ae ne ce).ownBlock ∨ (Value.slice a11 (ne + 1) c11).ownBlock = some (w10.heap.size + 1)) := lid (by simpa using hat11)
              have hz11 : w10.heap.size ≤ w11.heap.size := hgA.size
              have HO11 := lid hO11
              have p2 : w11.cell? ⟨w4.heap.size, 2, none⟩ = some (.slice ae ne ce) := row_cell hO11 2
              have pf2 : w11.frozen? ⟨w4.heap.size, 2, none⟩ = false := row_fz hO11 2
              have lo11 := row_lt hO11
              rw [HSV.out] at p2
              clear hown11 hg11 hat11 hgA hO11 e0 e1 e2 e3 o2 HO10 HG10
              go_wp2_with fail
              go_roundw
              case rel =>
                refine ⟨i + 1, a', n'', c', q', es ++ [(nm, true, dd)], a11, ne + 1, c11, by omega, by rfl, by go_num, HGO', lid (HPA11.out.grown (grown_set w11 _ _ _) (fun x hx e => (HNE'.out x hx).1 (Option.some.inj e))), lid ?_, HFR', lid ?_, lid ?_, lid (HG11.out.trans (grown_set w11 _ _ _)), lid ?_⟩
                · exact fun x hx => by have := (HNE'.out x hx).2.2.2.1; simp [World.setCell]; omega
                · have := row_set HO11.out 2 (.slice a11 (ne + 1) c11)
                  simpa using this
                · rw [ecells_snoc, List.length_append]
                  refine ⟨HOW11.out.kept (grown_set w11 _ _ _) (.inr fun e => by have := (HOW11.out.lt _ e).1; omega), by simp [HEL.out]⟩
                · intro x hx
                  obtain ⟨h1, h2, h3, h4, h6⟩ := HNE'.out x hx
                  refine ⟨h1, fun e => ?_, h6⟩
                  rcases HAT.out with h5 | h5
                  · rw [h5] at e; exact h2 e
                  · rw [h5] at e
                    have := Option.some.inj e
                    omega
              case measure => simp [intOf]; omega
            · have uK : (e' == 0) = false := by simpa using he
              have HVN := lid he
              have HNO : Hid (storeP (k + 1) p l = none) := lid (store_fail hiN HNM.out HGO.out (fail_dir HFP.out hno))
              have hD9 : w9.heap[w.heap.size]? = some (.cells #[.int .u64 0, .int .u64 0] 31 (0, 0)) := HD9.out
              obtain ⟨w10, hw10⟩ : ∃ y, (w9.setCell ⟨wr.heap.size, 2, none⟩ (.int .u64 dd.1.toNat)).setCell ⟨wr.heap.size, 3, none⟩ (.int .u64 dd.2.toNat) = y := ⟨_, rfl⟩
              have hD10 : w10.heap[w.heap.size]? = some (.cells #[.int .u64 0, .int .u64 0] 31 (0, 0)) := by
                rw [← hw10]
                exact row_other (row_other hD9 (by omega)) (by omega)
              have HB10 : Hid (Below w.heap.size w w10) := lid (by
                rw [← hw10]
                exact (HBW9.out.setCell (p := ⟨wr.heap.size, 2, none⟩) (by show w.heap.size ≤ wr.heap.size; omega) _).setCell (p := ⟨wr.heap.size, 3, none⟩) (by show w.heap.size ≤ wr.heap.size; omega) _)
              have HW10 := lid hw10
              have y0 : w10.cell? ⟨w.heap.size, 0, none⟩ = some (.int .u64 0) := row_cell hD10 0
              have y1 : w10.cell? ⟨w.heap.size, 1, none⟩ = some (.int .u64 0) := row_cell hD10 1
              have yf0 : w10.frozen? ⟨w.heap.size, 0, none⟩ = false := row_fz hD10 0
              have yf1 : w10.frozen? ⟨w.heap.size, 1, none⟩ = false := row_fz hD10 1
              have ly := row_lt hD10
              have z2 : w9.cell? ⟨wr.heap.size, 2, none⟩ = some (.int .u64 0) := row_cell HE9.out 2
              have z3 : w9.cell? ⟨wr.heap.size, 3, none⟩ = some (.int .u64 0) := row_cell HE9.out 3
              have zf2 : w9.frozen? ⟨wr.heap.size, 2, none⟩ = false := row_fz HE9.out 2
              have zf3 : w9.frozen? ⟨wr.heap.size, 3, none⟩ = false := row_fz HE9.out 3
              have le9 := row_lt HE9.out
              clear he hno hw10 hD9 hD10
              go_wp2_with (with_reducible refine swap_world HW10.out ?_)
              clear z2 z3 zf2 zf3
              go_wp2_with fail
              refine bodyPost_ret (v := .tuple #[.slice none 0 0, .agg #[.int .u64 0, .int .u64 0], .int .i64 e']) (by
                obtain ⟨z0, z1⟩ := two_set (.int .u64 0) (.int .u64 0) y0 y1
                simp [results, Tryz.results13, go_sem, z0, z1]) rfl ⟨(HB10.out.setCell (p := ⟨w.heap.size, 0, none⟩) (Nat.le_refl _) _).setCell (p := ⟨w.heap.size, 1, none⟩) (Nat.le_refl _) _, none, 0, 0, (0, 0), e', rfl, .inr ⟨HVN.out, HNO.out⟩⟩
        · obtain rfl : i = N := by omega
          have HTI : Hid ((namesP l).take i = namesP l) := lid (List.take_of_length_le (by rw [HNL.out]; exact Nat.le_refl _))
          rw [HTI.out] at HGO
          obtain ⟨g1, g2, g3⟩ := HPF.out
          have hoa : ObjA wr ae ne none 0 (obE es) := by
            obtain ⟨ae', ce', e1, k1, k2, k3⟩ := Sl.of_own HOW.out
            injection e1 with e1 _ e3
            subst e1; subst e3
            refine ⟨HEL.out, k3, by unfold maxLen; omega, fun e he => ?_, rfl, (ObjA.blob wr (Nat.zero_le maxLen) (s := ⟨#[]⟩)).ps, Nat.zero_le _, Nat.zero_le _, Nat.zero_le _, Nat.zero_le _⟩
            have h1 : e.1 ∈ namesP l := by rw [← goP_names HGO.out]; exact List.mem_map.2 ⟨e, he, rfl⟩
            exact HNSZ.out _ h1
          have CP := lid (put_any (obE es) ae none ne ce 0 0 q n' c a wr hoa (Nat.le_refl _) (Nat.zero_le _) HPA.out HLO2.out g1.asc (by omega))
          rw [show Value.agg (ocells (obE es) ae ne ce none 0 0) = Value.agg #[.int .i64 2, .string ⟨#[]⟩, .slice ae ne ce, .int .u64 0, .int .u64 0, .slice none 0 0, .string ⟨#[]⟩, .int .i64 0, .string ⟨#[]⟩] from rfl] at CP
          have o0 : wr.cell? ⟨w4.heap.size, 0, none⟩ = some (.int .i64 2) := row_cell HOB.out 0
          have o1 : wr.cell? ⟨w4.heap.size, 1, none⟩ = some (.string ⟨#[]⟩) := row_cell HOB.out 1
          have o2 : wr.cell? ⟨w4.heap.size, 2, none⟩ = some (.slice ae ne ce) := row_cell HOB.out 2
          have o3 : wr.cell? ⟨w4.heap.size, 3, none⟩ = some (.int .u64 0) := row_cell HOB.out 3
          have o4 : wr.cell? ⟨w4.heap.size, 4, none⟩ = some (.int .u64 0) := row_cell HOB.out 4
          have o5 : wr.cell? ⟨w4.heap.size, 5, none⟩ = some (.slice none 0 0) := row_cell HOB.out 5
          have o6 : wr.cell? ⟨w4.heap.size, 6, none⟩ = some (.string ⟨#[]⟩) := row_cell HOB.out 6
          have o7 : wr.cell? ⟨w4.heap.size, 7, none⟩ = some (.int .i64 0) := row_cell HOB.out 7
          have o8 : wr.cell? ⟨w4.heap.size, 8, none⟩ = some (.string ⟨#[]⟩) := row_cell HOB.out 8
          have lo := row_lt HOB.out
          clear hoa g1 g2 g3
          go_wp2_with fail
          (with_reducible refine (CP.out).mono ?_); rintro e w9 ⟨hb9, a', n'', c', dd, e', rfl, hres⟩
          have hD9 := (hb9.block _ (row_lt HD6.out)).trans HD6.out
          have HBW9 := lid (HBWR.out.trans (hb9.mono HBWR.out.size))
          have y0 : w9.cell? ⟨w.heap.size, 0, none⟩ = some (.int .u64 0) := row_cell hD9 0
          have y1 : w9.cell? ⟨w.heap.size, 1, none⟩ = some (.int .u64 0) := row_cell hD9 1
          have f0 : w9.frozen? ⟨w.heap.size, 0, none⟩ = false := row_fz hD9 0
          have f1 : w9.frozen? ⟨w.heap.size, 1, none⟩ = false := row_fz hD9 1
          have ly := row_lt hD9
          have HRES := lid hres
          have HB9 := lid hb9
          clear hres hD9 hb9 o0 o1 o2 o3 o4 o5 o6 o7 o8 lo
          go_wp2_with fail
          have hset : w9.grownBy ((w9.setCell ⟨w.heap.size, 0, none⟩ (.int .u64 dd.1.toNat)).setCell ⟨w.heap.size, 1, none⟩ (.int .u64 dd.2.toNat)) (some w.heap.size) := (grown_set w9 _ _ _).trans (grown_set _ _ _ _)
          refine bodyPost_ret (v := .tuple #[.slice a' n'' c', dv dd, .int .i64 e']) (by
            obtain ⟨z0, z1⟩ := two_set (.int .u64 dd.1.toNat) (.int .u64 dd.2.toNat) y0 y1
            simp [results, Tryz.results13, go_sem, z0, z1]) rfl ⟨(HBW9.out.setCell (p := ⟨w.heap.size, 0, none⟩) (Nat.le_refl _) _).setCell (p := ⟨w.heap.size, 1, none⟩) (Nat.le_refl _) _, a', n'', c', dd, e', rfl, ?_⟩
          rcases HRES.out with ⟨h1, q', h2, h3, _, h5, h6⟩ | ⟨h1, h2⟩
          · refine .inl ⟨h1, q', by unfold storeP; rw [HGO.out]; exact h2, h3.grown hset (fun x hx e => ?_), HFR.out.trans h5 HBWR.out.size, h6.mono hset.size⟩
            have he := Option.some.inj e
            rcases h5 x hx with ⟨y, hy, e2⟩ | h7
            · exact (HNB.out y hy).2.2 (e2.trans he)
            · have := HBWR.out.size
              have h9 := row_lt HD6.out
              omega
          · exact .inr ⟨h1, by unfold storeP; rw [HGO.out]; exact h2⟩
theorem store_any : ∀ k, StoreOK k
  | 0 => store_step 0 (fun k' h => by omega)
  | k + 1 => store_step (k + 1) (fun k' h => by obtain rfl : k = k' := (by omega); exact store_any k)
end Go.Proofs.YtphjillihapbfaaGreatDoor
