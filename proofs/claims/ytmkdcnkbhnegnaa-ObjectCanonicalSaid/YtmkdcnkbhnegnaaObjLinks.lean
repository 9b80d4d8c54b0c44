/-
  Links of both.
-/
import Derived.Test.YtmkdcnkbhnegnaaObjTop
import Derived.Test.YtmkdcnkbhnegnaaAppSl
import Derived.Test.YtmkdcnkbhnegnaaAppG
namespace Go.Proofs.Ytmkdcnkbhnegnaa
open Go.RowKit

theorem info_dgo : (Try.prog.info? 25).map (fun i => (i.zero, i.size, i.bytes)) = some (some (.agg #[.int .u64 0, .int .u64 0]), 2, 16) := by kernel_rfl
theorem dcells_one (l : List Dg) : ∀ u ∈ dcells l, u.oneCell' = true := by
  intro u hu
  simp only [dcells, List.mem_flatMap] at hu
  obtain ⟨r, _, hu⟩ := hu
  simp only [List.mem_cons, List.not_mem_nil, or_false] at hu
  rcases hu with rfl | rfl <;> rfl
theorem dsl_sl {w : World} {ao : Option Addr} {l : List Dg} {n : Nat} (h : DSl w ao l) (hn : l.length = n) : Sl w 2 ao n (dcells l) := by
  refine ⟨by rw [dcells_length, hn], ?_⟩
  rcases h with h | ⟨b, off, e, hlt, hc⟩
  · exact .inl (by omega)
  · refine .inr ⟨b, off, e, hlt, fun j u hu => ?_⟩
    have hj : j < l.length * 2 := by
      have := (List.getElem?_eq_some_iff.1 hu).1
      rwa [dcells_length] at this
    have hk : j / 2 < l.length := by omega
    obtain ⟨c0, c1⟩ := hc.at hk
    have e0 : ∀ (l : List Dg) (i : Nat) (h : i < l.length), (dcells l)[i * 2]? = some (.int .u64 (l[i]).1.toNat) ∧ (dcells l)[i * 2 + 1]? = some (.int .u64 (l[i]).2.toNat) := by
      intro l
      induction l with
      | nil => intro i h; simp at h
      | cons d l ih =>
        intro i h
        cases i with
        | zero => simp [dcells]
        | succ i =>
          have := ih i (by simpa using h)
          rw [show (i + 1) * 2 = i * 2 + 2 by omega, show i * 2 + 2 + 1 = i * 2 + 1 + 2 by omega]
          simpa [dcells] using this
    obtain ⟨d0, d1⟩ := e0 l _ hk
    rcases (by omega : j % 2 = 0 ∨ j % 2 = 1) with h | h
    · rw [show j = j / 2 * 2 by omega] at hu ⊢
      rw [d0] at hu
      rw [c0, hu]
    · rw [show j = j / 2 * 2 + 1 by omega] at hu ⊢
      rw [d1] at hu
      rw [← Nat.add_assoc, c1, hu]
/-- The digests that the entries name. -/
def entD (o : Ob) (k : Nat) : List Dg := (o.ents.take k).map (·.2.2)
def linksL (o : Ob) : List Dg := if checkO o = 0 then entD o o.ents.length ++ (if o.kind = 3 then o.tree :: o.pars else []) else []
theorem entD_succ {o : Ob} {k : Nat} (h : k < o.ents.length) : entD o (k + 1) = entD o k ++ [(o.ents[k]).2.2] := by
  unfold entD
  rw [List.take_succ_eq_append_getElem h, List.map_append]
  rfl
theorem entD_zero (o : Ob) : entD o 0 = [] := rfl
theorem dcells_snoc (l : List Dg) (d : Dg) : dcells (l ++ [d]) = dcells l ++ #[Value.int .u64 d.1.toNat, .int .u64 d.2.toNat].toList := by rw [dcells_append]; rfl
/-- A list of digests as result. -/
def RetL (x : List Dg) (w : World) (e : Ending) (w' : World) : Prop :=
  ∃ ao' n' cap', e = .returned (.slice ao' n' cap') ∧ x.length = n' ∧ n' ≤ cap' ∧ Sl w' 2 ao' n' (dcells x) ∧ Below w.heap.size w w'
theorem RetL.own {x y : List Dg} {w w' : World} {base n : Nat} {v : Value} (h : w'.ownsRow base 25 2 v n (dcells y)) (hx : y = x) (hn : x.length = n) (hb : Below w.heap.size w w') : RetL x w (.returned v) w' := by
  subst hx
  obtain ⟨ao, cap, rfl, h1, _, h3⟩ := Sl.of_own h
  exact ⟨ao, n, cap, rfl, hn, h1, h3, hb⟩
theorem RetL.none {x : List Dg} (w : World) {w' : World} (hx : [] = x) (hb : Below w.heap.size w w') : RetL x w (.returned (.slice none 0 0)) w' := by
  subst hx
  exact ⟨_, _, _, rfl, rfl, Nat.le_refl _, Sl.nil, hb⟩
theorem checkO_noents {o : Ob} (h : checkO o = 0) (hk : o.kind ≠ 2) : o.ents = [] := by
  have hk' := checkO_kind h
  unfold checkO at h
  have key : hasE o = false := by
    cases hE : hasE o with
    | false => rfl
    | true =>
      exfalso
      rcases hk' with k | k | k | k
      · rw [if_pos (.inl k)] at h; simp [hE] at h
      · exact hk k
      · rw [if_neg (by omega), if_neg (by omega), if_pos k] at h; simp [hE] at h
      · rw [if_pos (.inr k)] at h; simp [hE] at h
  unfold hasE at key
  have := of_decide_eq_false key
  exact List.eq_nil_of_length_eq_zero (by omega)
theorem checkO_nopars {o : Ob} (h : checkO o = 0) (hk : o.kind ≠ 3) : o.pars = [] := by
  have hk' := checkO_kind h
  unfold checkO at h
  have key : hasC o = false := by
    cases hC : hasC o with
    | false => rfl
    | true =>
      exfalso
      rcases hk' with k | k | k | k
      · rw [if_pos (.inl k)] at h; simp [hC] at h
      · rw [if_neg (by omega), if_pos k] at h; simp [hC] at h
      · exact hk k
      · rw [if_pos (.inr k)] at h; simp [hC] at h
  unfold hasC at key
  simp only [Bool.or_eq_false_iff] at key
  have := of_decide_eq_false key.2.1
  exact List.eq_nil_of_length_eq_zero (by omega)
theorem checkO_ne {o : Ob} (h : checkO o = 0) : o.ents.length ≤ 200 := by
  by_cases hk : o.kind = 2
  · exact (checkO_ents h hk).1
  · rw [checkO_noents h hk]; simp
theorem checkO_np {o : Ob} (h : checkO o = 0) : o.pars.length ≤ 8 := by
  by_cases hk : o.kind = 3
  · exact (checkO_comm h hk).1
  · rw [checkO_nopars h hk]; simp
set_option maxRecDepth 100000 in
set_option maxHeartbeats 8000000 in
theorem objLinks_any (o : Ob) (ae ap : Option Addr) (ne ce np cp : Nat) (w : World) (h : ObjA w ae ne ap np o) (hc : np ≤ cp) (hz : ap = none → cp = 0) (hd : o.data.size ≤ 60000) :
    Calls Try.prog 15 #[.agg (ocells o ae ne ce ap np cp)] w fun e w' => RetL (linksL o) w e w' := by
  have hb0 := ba w (Obj.cells (ocells o ae ne ce ap np cp) 28)
  have HO0 := OBox.new w o ae ne ce ap np cp 28
  obtain ⟨W, hW⟩ : ∃ W, w.alloc (Obj.cells (ocells o ae ne ce ap np cp) 28) = W := ⟨_, rfl⟩
  rw [hW] at hb0 HO0
  have HA := lid (h.below hb0)
  have HW := lid hW
  have HEN := lid HW.out
  have HO := lid HO0
  have CC := lid (fun w (h : ObjA w ae ne ap np o) => objCheck_any o ae ap ne ce np cp w h hc hd)
  have HN := lid h.plen
  have HM := lid h.elen
  have nm' : np ≤ 9223372036854775807 := h.pmax
  have mm' : ne ≤ 9223372036854775807 := h.emax
  have HZ := lid hz
  clear hW h HO0 hd hz
  have O1 := HO.out
  obtain ⟨l0, c0, c1, c2, c3, c4, c5, c6, c7, c8⟩ := O1
  rw [← HW.out] at c0 c1 c2 c3 c4 c5 c6 c7 c8
  go_enter Try.func15, Try.ntmps15
  go_wp2_with fail
  rw [HW.out]
  clear HW HEN c0 c1 c2 c3 c4 c5 c6 c7 c8
  (with_reducible refine (CC.out _ HA.out).mono ?_); rintro e w1 ⟨rfl, hw1⟩
  by_cases hv : checkO o = 0
  case neg =>
    have uK : (checkO o == 0) = false := by simpa using hv
    have HV : Hid ([] = linksL o) := lid (by unfold linksL; rw [if_neg hv])
    clear hv
    go_wp2_with fail
    go_ret
    exact RetL.none w HV.out (hb0.trans (hw1.mono hb0.size))
  have HC := lid hv
  have HV : Hid (linksL o = entD o o.ents.length ++ (if o.kind = 3 then o.tree :: o.pars else [])) := lid (by unfold linksL; rw [if_pos hv])
  have n200 : ne ≤ 200 := by rw [← HM.out]; exact checkO_ne hv
  have n8 : np ≤ 8 := by rw [← HN.out]; exact checkO_np hv
  rw [hv]
  clear hv
  obtain ⟨l1, c0, c1, c2, c3, c4, c5, c6, c7, c8⟩ := HO.out.below hw1
  clear c0 c1 c3 c4 c5 c6 c7 c8
  go_wp2_with fail
  go_loopw [3, 5, 12] (fun v _ i wr => ∃ k : Nat, k ≤ ne ∧ i = .int .i64 k ∧ Hid (wr.ownsRow W.heap.size 25 2 v k (dcells (entD o k))) ∧ Below W.heap.size W wr) (fun _ _ i _ => ne - (intOf i).toNat)
  case atStart => exact ⟨0, Nat.zero_le _, rfl, lid (by rw [entD_zero]; exact World.ownsRow_nil _ _ _ _), hw1⟩
  case round =>
    clear hw1 l1 c2
    obtain ⟨k, hk, rfl, HR, hwr⟩ := hrel
    by_cases hlt : k < ne
    · have hkl : k < o.ents.length := by rw [HM.out]; exact hlt
      obtain ⟨b1, o1, rfl, hlb, hcell⟩ := (HA.out.es.below hwr).at_ hlt
      have x0 := hcell (k * 4 + 0) _ (ecells_at hkl).1
      have x1 := hcell (k * 4 + 1) _ (ecells_at hkl).2.1
      have x2 := hcell (k * 4 + 2) _ (ecells_at hkl).2.2.1
      have x3 := hcell (k * 4 + 3) _ (ecells_at hkl).2.2.2
      rw [← Nat.add_assoc] at x1 x2 x3
      rw [Nat.add_zero] at x0
      have HSU := lid (entD_succ hkl)
      have dk : decide ((k : Int) < (ne : Int)) = true := by simp; omega
      clear hcell
      obtain ⟨r, hrk⟩ : ∃ r, o.ents[k] = r := ⟨_, rfl⟩
      rw [hrk] at x0 x1 x2 x3 HSU
      obtain ⟨a, dir, d⟩ := r
      simp only at x0 x1 x2 x3
      clear hrk
      have hzr := hwr.size
      have HR1 := lid (HR.out.alloc (Obj.cells #[.string a, .bool dir, .int .u64 d.1.toNat, .int .u64 d.2.toNat] 45))
      go_wp2_with (at_builtin; go_must (refine wpList_append_new #[.int .u64 d.1.toNat, .int .u64 d.2.toNat] rfl _ _ 26 rfl W.heap.size 25 (.agg #[.int .u64 0, .int .u64 0]) 2 16 info_dgo Try.underlying26 rfl (by decide) _ k _ HR1.out rfl (by rw [World.size_alloc]; rfl) rfl (by simp [Value.oneCell']) (by unfold maxLen; omega) (by omega) (by rw [World.size_alloc]; omega) ?_))
      intro v' w2 hown' hb' _
      have hwa : Below W.heap.size W (wr.alloc (Obj.cells #[.string a, .bool dir, .int .u64 d.1.toNat, .int .u64 d.2.toNat] 45)) := hwr.alloc hzr _
      have hw2 := hwa.trans hb'
      have HR2 : Hid (w2.ownsRow W.heap.size 25 2 v' (k + 1) (dcells (entD o (k + 1)))) := lid (by rw [HSU.out, dcells_snoc]; exact hown')
      clear hown' hb' hwa x0 x1 x2 x3
      go_wp2_with fail
      go_roundw
      case rel => exact ⟨k + 1, by omega, by go_num, HR2, hw2⟩
      case measure => simp [intOf]; omega
    · obtain rfl : k = ne := by omega
      obtain ⟨lr, c0, c1, c2, c3, c4, c5, c6, c7, c8⟩ := HO.out.below hwr
      have hzr := hwr.size
      by_cases kk : o.kind = 3
      case neg =>
        have k3 : (o.kind == 3) = false := by simpa using kk
        have HE : Hid (entD o k = linksL o ∧ (linksL o).length = k) := lid (by
          rw [HV.out, if_neg kk, List.append_nil, HM.out]
          exact ⟨rfl, by unfold entD; rw [List.length_map, List.length_take, HM.out, Nat.min_self]⟩)
        clear kk
        go_wp2_with fail
        go_ret
        exact RetL.own HR.out HE.out.1 HE.out.2 (hb0.trans (hwr.mono hb0.size))
      have k3 : (o.kind == 3) = true := by simpa using kk
      have HE : Hid (entD o k ++ [o.tree] ++ o.pars = linksL o ∧ (linksL o).length = k + 1 + np) := lid (by
        rw [HV.out, if_pos kk, HM.out]
        exact ⟨by simp, by unfold entD; simp [HM.out, HN.out]; omega⟩)
      have HPS := lid (dsl_sl HA.out.ps HN.out)
      clear kk
      go_wp2_with (at_builtin; go_must (refine wpList_append_new #[.int .u64 o.tree.1.toNat, .int .u64 o.tree.2.toNat] rfl _ _ 26 rfl W.heap.size 25 (.agg #[.int .u64 0, .int .u64 0]) 2 16 info_dgo Try.underlying26 rfl (by decide) _ k _ HR.out rfl rfl rfl (by simp [Value.oneCell']) (by unfold maxLen; omega) (by omega) hzr ?_))
      intro v' w2 hown' hb' _
      have hw2 := hwr.trans hb'
      have HR2 : Hid (w2.ownsRow W.heap.size 25 2 v' (k + 1) (dcells (entD o k ++ [o.tree]))) := lid (by rw [dcells_snoc]; exact hown')
      have HP2 := lid (HPS.out.below hw2)
      obtain ⟨l2, d0, d1, d2, d3, d4, d5, d6, d7, d8⟩ := HO.out.below hw2
      clear hown' hb' c0 c1 c2 c3 c4 c5 c6 c7 c8 d0 d1 d2 d3 d4 d6 d7 d8
      have hz2 := hw2.size
      go_wp2_with (at_builtin; go_must (refine wpList_append_sl rfl _ _ 26 rfl W.heap.size 25 (.agg #[.int .u64 0, .int .u64 0]) 2 16 info_dgo Try.underlying26 rfl (by decide) _ (k + 1) _ HR2.out rfl ap np cp (dcells o.pars) rfl HP2.out HZ.out (dcells_one _) (by unfold maxLen; omega) (by omega) hz2 ?_))
      intro v3 w3 hown3 hb3
      have hw3 := hw2.trans hb3
      have HR3 := lid hown3
      clear hown3
      go_wp2_with fail
      go_ret
      exact RetL.own (by rw [← dcells_append] at HR3; exact HR3.out) HE.out.1 HE.out.2 (hb0.trans (hw3.mono hb0.size))
set_option maxRecDepth 100000 in
set_option maxHeartbeats 8000000 in
theorem refLinks_any (o : Ob) (ae ap : Option Addr) (ne ce np cp : Nat) (w : World) (h : ObjA w ae ne ap np o) (hc : np ≤ cp) (hz : ap = none → cp = 0) (hd : o.data.size ≤ 60000) :
    Calls Try.prog 16 #[.agg (ocells o ae ne ce ap np cp)] w fun e w' => RetL (linksL o) w e w' := by
  have hb0 := ba w (Obj.cells (ocells o ae ne ce ap np cp) 28)
  have HO0 := OBox.new w o ae ne ce ap np cp 28
  obtain ⟨W, hW⟩ : ∃ W, w.alloc (Obj.cells (ocells o ae ne ce ap np cp) 28) = W := ⟨_, rfl⟩
  rw [hW] at hb0 HO0
  have HA := lid (h.below hb0)
  have HW := lid hW
  have HEN := lid HW.out
  have HO := lid HO0
  have CC := lid (fun w (h : ObjA w ae ne ap np o) => refCheck_any o ae ap ne ce np cp w h hc hd)
  have HN := lid h.plen
  have HM := lid h.elen
  have nm' : np ≤ 9223372036854775807 := h.pmax
  have mm' : ne ≤ 9223372036854775807 := h.emax
  have HZ := lid hz
  clear h HO0 hd hz
  obtain ⟨W0, hW0⟩ : ∃ W0, W.alloc (Obj.cells #[] 25) = W0 := ⟨_, rfl⟩
  have hw0 : Below W.heap.size W W0 := by rw [← hW0]; exact ba _ _
  have l4 : W.heap.size = w.heap.size + 1 := by rw [← hW]; simp
  have HR0 : Hid (W0.ownsRow W.heap.size 25 2 (.slice (some ⟨w.heap.size + 1, 0, none⟩) 0 0) 0 (dcells [])) := lid (by rw [← hW0, ← l4]; exact World.ownsRow_lit W #[] 0 (Nat.le_refl _) (by simp [maxLen]) rfl)
  have HA0 := lid (HA.out.below hw0)
  obtain ⟨l0, c0, c1, c2, c3, c4, c5, c6, c7, c8⟩ := HO.out.below hw0
  have HW0 := lid hW0
  clear hW0 l4 c0 c1 c2 c3 c4 c5 c6 c7 c8 l0 hW
  go_enter Try.func16, Try.ntmps16
  go_wp2_with fail
  rw [HW.out, HW0.out]
  clear HW HW0 HEN
  (with_reducible refine (CC.out _ HA0.out).mono ?_); rintro e w1 ⟨rfl, hb1⟩
  have hw1 := hw0.trans (hb1.mono hw0.size)
  have HR1 := lid (own_below HR0.out hb1)
  clear HR0 hw0 HA0
  by_cases hv : checkO o = 0
  case neg =>
    have uK : (checkO o == 0) = false := by simpa using hv
    have HV : Hid ([] = linksL o) := lid (by unfold linksL; rw [if_neg hv])
    clear hv
    go_wp2_with fail
    go_ret
    exact RetL.own HR1.out HV.out (by rw [← HV.out]; rfl) (hb0.trans (hw1.mono hb0.size))
  have HC := lid hv
  have HV : Hid (linksL o = entD o o.ents.length ++ (if o.kind = 3 then o.tree :: o.pars else [])) := lid (by unfold linksL; rw [if_pos hv])
  have n200 : ne ≤ 200 := by rw [← HM.out]; exact checkO_ne hv
  have n8 : np ≤ 8 := by rw [← HN.out]; exact checkO_np hv
  rw [hv]
  clear hv
  obtain ⟨l1, c0, c1, c2, c3, c4, c5, c6, c7, c8⟩ := HO.out.below hw1
  clear c0 c1 c3 c4 c5 c6 c7 c8
  go_wp2_with fail
  go_loopw [3, 4] (fun v i wr => ∃ k : Nat, k ≤ ne ∧ i = .int .i64 k ∧ Hid (wr.ownsRow W.heap.size 25 2 v k (dcells (entD o k))) ∧ Below W.heap.size W wr) (fun _ i _ => ne - (intOf i).toNat)
  case atStart => exact ⟨0, Nat.zero_le _, rfl, lid (by rw [entD_zero]; exact HR1.out), hw1⟩
  case round =>
    clear hw1 l1 c2 HR1
    obtain ⟨k, hk, rfl, HR, hwr⟩ := hrel
    obtain ⟨lr, c0, c1, c2, c3, c4, c5, c6, c7, c8⟩ := HO.out.below hwr
    by_cases hlt : k < ne
    · have hkl : k < o.ents.length := by rw [HM.out]; exact hlt
      obtain ⟨b1, o1, rfl, hlb, hcell⟩ := (HA.out.es.below hwr).at_ hlt
      have x0 := hcell (k * 4 + 0) _ (ecells_at hkl).1
      have x1 := hcell (k * 4 + 1) _ (ecells_at hkl).2.1
      have x2 := hcell (k * 4 + 2) _ (ecells_at hkl).2.2.1
      have x3 := hcell (k * 4 + 3) _ (ecells_at hkl).2.2.2
      rw [← Nat.add_assoc] at x1 x2 x3
      rw [Nat.add_zero] at x0
      have HSU := lid (entD_succ hkl)
      have dk : decide ((k : Int) < (ne : Int)) = true := by simp; omega
      clear hcell
      obtain ⟨r, hrk⟩ : ∃ r, o.ents[k] = r := ⟨_, rfl⟩
      rw [hrk] at x0 x1 x2 x3 HSU
      obtain ⟨a, dir, d⟩ := r
      simp only at x0 x1 x2 x3
      clear hrk
      clear c0 c1 c3 c4 c5 c6 c7 c8
      have hzr := hwr.size
      go_wp2_with (at_builtin; go_must (refine wpList_append_new #[.int .u64 d.1.toNat, .int .u64 d.2.toNat] rfl _ _ 26 rfl W.heap.size 25 (.agg #[.int .u64 0, .int .u64 0]) 2 16 info_dgo Try.underlying26 rfl (by decide) _ k _ HR.out rfl rfl rfl (by simp [Value.oneCell']) (by unfold maxLen; omega) (by omega) hzr ?_))
      intro v' w2 hown' hb' _
      have hw2 := hwr.trans hb'
      have HR2 : Hid (w2.ownsRow W.heap.size 25 2 v' (k + 1) (dcells (entD o (k + 1)))) := lid (by rw [HSU.out, dcells_snoc]; exact hown')
      clear hown' hb' x0 x1 x2 x3
      go_wp2_with fail
      go_roundw
      case rel => exact ⟨k + 1, by omega, by go_num, HR2, hw2⟩
      case measure => simp [intOf]; omega
    · obtain rfl : k = ne := by omega
      have hzr := hwr.size
      have HPS := lid (dsl_sl HA.out.ps HN.out)
      by_cases kk : o.kind = 3
      case neg =>
        have k3 : (o.kind == 3) = false := by simpa using kk
        have HE : Hid (entD o k ++ o.pars = linksL o ∧ (linksL o).length = k + np) := lid (by
          have hp := checkO_nopars HC.out kk
          have hn := HN.out
          rw [hp] at hn
          rw [HV.out, if_neg kk, List.append_nil, HM.out, hp, List.append_nil]
          exact ⟨rfl, by unfold entD; rw [List.length_map, List.length_take, HM.out, Nat.min_self, ← hn]; rfl⟩)
        have HP2 := lid (HPS.out.below hwr)
        clear kk c1 c3 c4 c6 c7 c8
        go_wp2_with (at_builtin; go_must (refine wpList_append_sl rfl _ _ 26 rfl W.heap.size 25 (.agg #[.int .u64 0, .int .u64 0]) 2 16 info_dgo Try.underlying26 rfl (by decide) _ k _ HR.out rfl ap np cp (dcells o.pars) rfl HP2.out HZ.out (dcells_one _) (by unfold maxLen; omega) (by omega) hzr ?_))
        intro v3 w3 hown3 hb3
        have hw3 := hwr.trans hb3
        have HR3 := lid hown3
        clear hown3
        go_wp2_with fail
        go_ret
        exact RetL.own (by rw [← dcells_append] at HR3; exact HR3.out) HE.out.1 HE.out.2 (hb0.trans (hw3.mono hb0.size))
      have k3 : (o.kind == 3) = true := by simpa using kk
      have HE : Hid (entD o k ++ [o.tree] ++ o.pars = linksL o ∧ (linksL o).length = k + 1 + np) := lid (by
        rw [HV.out, if_pos kk, HM.out]
        exact ⟨by simp, by unfold entD; simp [HM.out, HN.out]; omega⟩)
      clear kk
      go_wp2_with (at_builtin; go_must (refine wpList_append_new #[.int .u64 o.tree.1.toNat, .int .u64 o.tree.2.toNat] rfl _ _ 26 rfl W.heap.size 25 (.agg #[.int .u64 0, .int .u64 0]) 2 16 info_dgo Try.underlying26 rfl (by decide) _ k _ HR.out rfl rfl rfl (by simp [Value.oneCell']) (by unfold maxLen; omega) (by omega) hzr ?_))
      intro v' w2 hown' hb' _
      have hw2 := hwr.trans hb'
      have HR2 : Hid (w2.ownsRow W.heap.size 25 2 v' (k + 1) (dcells (entD o k ++ [o.tree]))) := lid (by rw [dcells_snoc]; exact hown')
      have HP2 := lid (HPS.out.below hw2)
      obtain ⟨l2, d0, d1, d2, d3, d4, d5, d6, d7, d8⟩ := HO.out.below hw2
      clear hown' hb' c0 c1 c2 c3 c4 c5 c6 c7 c8 d0 d1 d2 d3 d4 d6 d7 d8
      have hz2 := hw2.size
      go_wp2_with (at_builtin; go_must (refine wpList_append_sl rfl _ _ 26 rfl W.heap.size 25 (.agg #[.int .u64 0, .int .u64 0]) 2 16 info_dgo Try.underlying26 rfl (by decide) _ (k + 1) _ HR2.out rfl ap np cp (dcells o.pars) rfl HP2.out HZ.out (dcells_one _) (by unfold maxLen; omega) (by omega) hz2 ?_))
      intro v3 w3 hown3 hb3
      have hw3 := hw2.trans hb3
      have HR3 := lid hown3
      clear hown3
      go_wp2_with fail
      go_ret
      exact RetL.own (by rw [← dcells_append] at HR3; exact HR3.out) HE.out.1 HE.out.2 (hb0.trans (hw3.mono hb0.size))
end Go.Proofs.Ytmkdcnkbhnegnaa
