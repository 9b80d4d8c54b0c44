/-
  TopSelfApproval: the law holds.
-/
import Derived.Test.YtefehgdckmajiaaGreatDoorTopEqu
import Derived.Test.YtefehgdckmajiaaGreatDoorAppSl
namespace Go.Proofs.YtefehgdckmajiaaGreatDoor
open Go.RowKit

theorem fcells_set : ∀ {l : List Fl} {k : Nat} {p d : ByteArray} (hk : k < l.length), l[k].1 = p → (fcells l).set (k * 2 + 1) (.string d) = fcells (l.set k (p, d))
  | [], k, _, _, hk, _ => by cases hk
  | a :: l, 0, p, d, _, hp => by
    have hp : a.1 = p := hp
    show (([Value.string a.1, Value.string a.2] ++ fcells l).set (0 * 2 + 1) (.string d) : List Value) = [.string p, .string d] ++ fcells l
    rw [hp]
    rfl
  | a :: l, k + 1, p, d, hk, hp => by
    have hk' : k < l.length := by simpa using hk
    have ih := fcells_set (d := d) hk' (show l[k].1 = p from hp)
    show (([Value.string a.1, Value.string a.2] ++ fcells l).set ((k + 1) * 2 + 1) (.string d) : List Value) = [.string a.1, .string a.2] ++ fcells (l.set k (p, d))
    rw [← ih, show (k + 1) * 2 + 1 = (k * 2 + 1) + 2 by omega]
    rfl
theorem great_len {l : List Fl} (h : fgreat l = false) : l.length ≤ 10 ∧ ∀ f ∈ l, f.1.size ≤ 120 ∧ f.2.size ≤ 200 := by
  unfold fgreat at h
  rw [Bool.or_eq_false_iff] at h
  refine ⟨by simpa using h.1, fun f hf => ?_⟩
  have h2 := List.any_eq_false.1 h.2 f hf
  unfold longF at h2
  simp only [Bool.or_eq_true, decide_eq_true_eq] at h2
  omega
theorem FA.of_own {w : World} {base n : Nat} {v : SV} {l : List Fl} (h : w.ownsRow base 27 2 (slv v) n (fcells l)) (hn : l.length = n) (hz : ∀ f ∈ l, f.1.size ≤ maxLen ∧ f.2.size ≤ maxLen) : FA w v.1 v.2.1 v.2.2 l := by
  obtain ⟨h1, h2⟩ := SlC.of_own (c := fun _ => True) h (fun _ _ => trivial)
  exact ⟨by rw [hn]; exact h2.symm, h1.sl, h1.le, h1.max, h1.z, hz⟩
set_option maxRecDepth 100000 in
set_option maxHeartbeats 16000000 in
theorem TopSelf_any (l1 l2 : List Fl) (n1 cap1 n2 cap2 : Nat) (a1 a2 : Option Addr) (p d : ByteArray) (w : World) (h1 : FA w a1 n1 cap1 l1) (h2 : FA w a2 n2 cap2 l2) (hp : p.size ≤ maxLen) (hd : d.size ≤ maxLen) :
    Calls Tryz.prog 3 #[.slice a1 n1 cap1, .slice a2 n2 cap2, .string p, .string d] w fun e w' => e = .returned (.bool true) ∧ Below w.heap.size w w' := by
  have CA := lid approved_awake
  have H1 := lid h1
  have H2 := lid h2
  obtain ⟨W, hW⟩ : ∃ W, w.alloc (Obj.cells #[.string p] 9) = W := ⟨_, rfl⟩
  have hbW : Below w.heap.size w W := by rw [← hW]; exact ba _ _
  have hP : W.heap[w.heap.size]? = some (.cells #[.string p] 9 (0, 0)) := by rw [← hW]; exact h_new rfl _
  have HP := lid hP
  have HF1 := lid (h1.below hbW)
  have HF2 := lid (h2.below hbW)
  have HW := lid hW
  have HBW := lid hbW
  have CG1 := lid (fGreat_any l1 n1 cap1 a1 W HF1.out)
  have CG2 := lid (fGreat_any l2 n2 cap2 a2 W HF2.out)
  have hzW : W.heap.size = w.heap.size + 1 := by rw [← hW]; simp
  have HZW := lid hzW
  have y0 := row_cell hP 0
  have lP := row_lt hP
  have hp9 : p.size ≤ 9223372036854775807 := hp
  have hd9 : d.size ≤ 9223372036854775807 := hd
  clear h1 h2 hbW hW hP hzW
  cases hg1 : fgreat l1 with
  | true =>
    rw [hg1] at CG1
    clear hg1
    go_enter Tryz.func3, Tryz.ntmps3
    go_wp2_with fail
    rw [HW.out]
    (with_reducible refine (CG1.out).mono ?_); rintro e w1 ⟨rfl, rfl⟩
    go_wp2_with fail
    (with_reducible refine (CA.out _).mono ?_); rintro e w2 ⟨rfl, hb2⟩
    go_wp2_with fail
    go_ret
    exact ⟨rfl, HBW.out.trans (hb2.mono HBW.out.size)⟩
  | false =>
  cases hg2 : fgreat l2 with
  | true =>
    rw [hg1] at CG1
    rw [hg2] at CG2
    clear hg1 hg2
    go_enter Tryz.func3, Tryz.ntmps3
    go_wp2_with fail
    rw [HW.out]
    (with_reducible refine (CG1.out).mono ?_); rintro e w1 ⟨rfl, rfl⟩
    go_wp2_with fail
    (with_reducible refine (CG2.out).mono ?_); rintro e w1 ⟨rfl, rfl⟩
    go_wp2_with fail
    (with_reducible refine (CA.out _).mono ?_); rintro e w2 ⟨rfl, hb2⟩
    go_wp2_with fail
    go_ret
    exact ⟨rfl, HBW.out.trans (hb2.mono HBW.out.size)⟩
  | false =>
  rw [hg1] at CG1
  rw [hg2] at CG2
  obtain ⟨hl1, hs1⟩ := great_len hg1
  obtain ⟨hl2, hs2⟩ := great_len hg2
  have HS1 := lid hs1
  have HS2 := lid hs2
  have HN1 := lid HF1.out.len
  have HN2 := lid HF2.out.len
  have hn1 : n1 ≤ 10 := by rw [← HN1.out]; exact hl1
  have hn2 : n2 ≤ 10 := by rw [← HN2.out]; exact hl2
  clear hg1 hg2 hs1 hs2 hl1 hl2
  by_cases h120 : 120 < p.size
  · have d1 : decide ((120 : Int) < (p.size : Int)) = true := by simp; omega
    clear h120
    go_enter Tryz.func3, Tryz.ntmps3
    go_wp2_with fail
    rw [HW.out]
    (with_reducible refine (CG1.out).mono ?_); rintro e w1 ⟨rfl, rfl⟩
    go_wp2_with fail
    (with_reducible refine (CG2.out).mono ?_); rintro e w1 ⟨rfl, rfl⟩
    go_wp2_with fail
    (with_reducible refine (CA.out _).mono ?_); rintro e w2 ⟨rfl, hb2⟩
    go_wp2_with fail
    go_ret
    exact ⟨rfl, HBW.out.trans (hb2.mono HBW.out.size)⟩
  have d1 : decide ((120 : Int) < (p.size : Int)) = false := by simp; omega
  by_cases h200 : 200 < d.size
  · have d2 : decide ((200 : Int) < (d.size : Int)) = true := by simp; omega
    clear h120 h200
    go_enter Tryz.func3, Tryz.ntmps3
    go_wp2_with fail
    rw [HW.out]
    (with_reducible refine (CG1.out).mono ?_); rintro e w1 ⟨rfl, rfl⟩
    go_wp2_with fail
    (with_reducible refine (CG2.out).mono ?_); rintro e w1 ⟨rfl, rfl⟩
    go_wp2_with fail
    (with_reducible refine (CA.out _).mono ?_); rintro e w2 ⟨rfl, hb2⟩
    go_wp2_with fail
    go_ret
    exact ⟨rfl, HBW.out.trans (hb2.mono HBW.out.size)⟩
  have d2 : decide ((200 : Int) < (d.size : Int)) = false := by simp; omega
  have HPS : Hid (p.size ≤ 120) := lid (by omega)
  have HDS : Hid (d.size ≤ 200) := lid (by omega)
  clear h120 h200
  go_enter Tryz.func3, Tryz.ntmps3
  go_wp2_with fail
  rw [HW.out]
  (with_reducible refine (CG1.out).mono ?_); rintro e w1 ⟨rfl, rfl⟩
  go_wp2_with fail
  (with_reducible refine (CG2.out).mono ?_); rintro e w1 ⟨rfl, rfl⟩
  have HO0 : Hid ((w1.alloc (Obj.cells #[] 27)).ownsRow (w.heap.size + 1) 27 2 (.slice (some ⟨w1.heap.size, 0, none⟩) 0 0) 0 []) := lid (ownsRow_empty rfl (by have := HZW.out; omega))
  have hsl2 : Hid (Sl (w1.alloc (Obj.cells #[] 27)) 2 a2 n2 (fcells l2)) := lid (HF2.out.sl.alloc _)
  have hbs : w.heap.size + 1 ≤ (w1.alloc (Obj.cells #[] 27)).heap.size := by have := HZW.out; simp; omega
  go_wp2_with (at_builtin; go_must (refine wpList_append_slg rfl _ _ 22 rfl (w.heap.size + 1) 27 (.agg #[.string ⟨#[]⟩, .string ⟨#[]⟩]) 2 32 info_fl Tryz.underlying22 rfl (by decide) _ 0 [] HO0.out rfl a2 n2 cap2 (fcells l2) rfl hsl2.out HF2.out.z (fcells_one l2) (by simp only [maxLen]; omega) (by omega) hbs ?_))
  intro v' w5 hown5 hb5 _
  have hown5 : w5.ownsRow (w.heap.size + 1) 27 2 v' n2 (fcells l2) := by simpa using hown5
  obtain ⟨a5, c5, rfl⟩ := slv_of hown5
  rw [show slv (a5, n2, c5) = Value.slice a5 n2 c5 from rfl]
  have hown5' : w5.ownsRow (w.heap.size + 1) 27 2 (.slice a5 n2 c5) n2 (fcells l2) := hown5
  have HB5 : Hid (Below w.heap.size w w5) := lid (HBW.out.trans (((ba w1 (Obj.cells #[] 27)).mono HBW.out.size).trans (hb5.mono (Nat.le_succ _))))
  have hp5 : w5.heap[w.heap.size]? = some (.cells #[.string p] 9 (0, 0)) := (hb5.block _ (Nat.lt_succ_self _)).trans ((h_old lP _).trans HP.out)
  have HFO := lid (FA.of_own hown5 HN2.out HF2.out.sz)
  have hsl5 : Sl w5 2 a5 n2 (fcells l2) := HFO.out.sl
  have hc5 : n2 ≤ c5 := HFO.out.le
  have CI := lid (IndexFl_any w.heap.size p l2 n2 c5 a5 w5 hp5 hsl5 HN2.out hc5 (by omega))
  have HP5 := lid hp5
  have HO5 := lid hown5'
  clear hown5 hown5' hb5 hp5 hsl5 y0 lP HO0 hsl2 hbs CG1 CG2
  go_wp2_with fail
  (with_reducible refine (CI.out).mono ?_); rintro e w6 ⟨hb6, hix⟩
  have HB6 := lid (HB5.out.trans (hb6.mono HB5.out.size))
  have HO6 := lid (ownsRow_below HO5.out hb6)
  have hp6 := (hb6.block _ (row_lt HP5.out)).trans HP5.out
  have HP6 := lid hp6
  have y0 := row_cell hp6 0
  have lP := row_lt hp6
  clear hb6 hp6
  rcases hix with ⟨rfl, hno⟩ | ⟨k, hk, rfl, hkp⟩
  · have dn : decide ((-1 : Int) < 0) = true := by decide
    clear hno
    go_wp2_with fail
    (with_reducible refine (CA.out _).mono ?_); rintro e w7 ⟨rfl, hb7⟩
    go_wp2_with fail
    go_ret
    exact ⟨rfl, HB6.out.trans (hb7.mono HB6.out.size)⟩
  have dn : decide ((k : Int) < 0) = false := by simp
  have hk2 : k < n2 := by rw [← HN2.out]; exact hk
  have HK := lid hk
  have HKP := lid hkp
  have CF := lid (Find_any l1 n1 cap1 a1 p w6 (H1.out.below HB6.out) (by omega))
  obtain ⟨g, rfl⟩ : ∃ g, a5 = some ⟨g, 0, none⟩ := by
    rcases HO6.out.2 with ⟨_, h0⟩ | ⟨g, cap, cur, e, _⟩
    · omega
    · cases e; exact ⟨g, rfl⟩
  have q0 : w6.cell? ⟨g, k * 2 + 1, none⟩ = some (.string l2[k].2) := by
    rw [HO6.out.cellAt _ (by omega)]
    exact (fcells_at hk).2
  have qf : w6.frozen? ⟨g, k * 2 + 1, none⟩ = false := HO6.out.frozenAt _
  have lg : g < w6.heap.size := (HO6.out.lt g rfl).2
  obtain ⟨d0, hd0⟩ : ∃ d0, l2[k].2 = d0 := ⟨_, rfl⟩
  rw [hd0] at q0
  have HD0 := lid hd0
  clear hkp hd0
  cases hf : findF l1 p with
  | none =>
    rw [hf] at CF
    have CF' : Hid (Calls Tryz.prog 8 #[.slice a1 n1 cap1, .string p] w6 fun e w' => e = .returned (.tuple #[.string ⟨#[]⟩, .bool false]) ∧ w' = w6) := CF
    clear hf CF
    go_wp2_with fail
    (with_reducible refine (CF'.out).mono ?_); rintro e w7 ⟨rfl, rfl⟩
    go_wp2_with fail
    (with_reducible refine (CA.out _).mono ?_); rintro e w8 ⟨rfl, hb8⟩
    go_wp2_with fail
    go_ret
    exact ⟨rfl, HB6.out.trans (hb8.mono HB6.out.size)⟩
  | some b =>
  rw [hf] at CF
  have CF' : Hid (Calls Tryz.prog 8 #[.slice a1 n1 cap1, .string p] w6 fun e w' => e = .returned (.tuple #[.string b, .bool true]) ∧ w' = w6) := CF
  have HF := lid hf
  clear hf CF
  by_cases hb1 : b = d0
  · have u1 := str_eq hb1
    clear hb1
    go_wp2_with fail
    (with_reducible refine (CF'.out).mono ?_); rintro e w7 ⟨rfl, rfl⟩
    go_wp2_with fail
    (with_reducible refine (CA.out _).mono ?_); rintro e w8 ⟨rfl, hb8⟩
    go_wp2_with fail
    go_ret
    exact ⟨rfl, HB6.out.trans (hb8.mono HB6.out.size)⟩
  have u1 := str_ne hb1
  have HNE1 := lid hb1
  clear hb1
  by_cases hb2 : b = d
  · have u2 := str_eq hb2
    clear hb2
    go_wp2_with fail
    (with_reducible refine (CF'.out).mono ?_); rintro e w7 ⟨rfl, rfl⟩
    go_wp2_with fail
    (with_reducible refine (CA.out _).mono ?_); rintro e w8 ⟨rfl, hb8⟩
    go_wp2_with fail
    go_ret
    exact ⟨rfl, HB6.out.trans (hb8.mono HB6.out.size)⟩
  have u2 := str_ne hb2
  have HNE2 := lid hb2
  clear hb2
  go_wp2_with fail
  (with_reducible refine (CF'.out).mono ?_); rintro e w7 ⟨rfl, rfl⟩
  have hst := (HO6.out.stored (k * 2 + 1) (.string d)).1
  rw [fcells_set HK.out HKP.out] at hst
  have hgb : w.heap.size + 1 ≤ g := ownsRow_row HO6.out g rfl
  have HB7 : Hid (Below w.heap.size w (w7.setCell ⟨g, k * 2 + 1, none⟩ (.string d))) := lid (HB6.out.setCell (p := ⟨g, k * 2 + 1, none⟩) (show w.heap.size ≤ g by omega) _)
  have HFA7 : Hid (FA (w7.setCell ⟨g, k * 2 + 1, none⟩ (.string d)) (some ⟨g, 0, none⟩) n2 c5 (l2.set k (p, d))) := lid (FA.of_own (v := (some ⟨g, 0, none⟩, n2, c5)) hst (by rw [List.length_set]; exact HN2.out) (fun f hf => by
    rcases List.mem_or_eq_of_mem_set hf with h | rfl
    · exact HF2.out.sz f h
    · exact ⟨hp, hd⟩))
  have HSO : Hid (∀ f ∈ l2.set k (p, d), f.1.size ≤ 1000000 ∧ f.2.size ≤ 60000) := lid (fun f hf => by
    rcases List.mem_or_eq_of_mem_set hf with h | rfl
    · have := HS2.out f h; omega
    · have h1 := HPS.out; have h2 := HDS.out; show p.size ≤ 1000000 ∧ d.size ≤ 60000; omega)
  have HL1 : Hid (∀ f ∈ l1, f.1.size ≤ 1000000 ∧ f.2.size ≤ 60000) := lid (fun f hf => by have := HS1.out f hf; omega)
  have HL2 : Hid (∀ f ∈ l2, f.1.size ≤ 1000000 ∧ f.2.size ≤ 60000) := lid (fun f hf => by have := HS2.out f hf; omega)
  obtain ⟨hpe, hpr⟩ := self_plain (d := d) HK.out HKP.out HF.out (fun e => HNE1.out (e.trans HD0.out)) HNE2.out
  have HPE := lid hpe
  have HPR := lid hpr
  clear hst hpe hpr
  go_wp2_with fail
  obtain ⟨W7, hW7⟩ : ∃ W7, w7.setCell ⟨g, k * 2 + 1, none⟩ (.string d) = W7 := ⟨_, rfl⟩
  rw [hW7] at HB7 HFA7 ⊢
  clear hW7 q0 qf lg y0 lP
  have CM1 := lid (Missing_any [] 0 0 none 1 l1 l2 n1 cap1 n2 cap2 a1 a2 W7 rfl Sl.nil (fun a ha => by cases ha) (Nat.le_refl _) (by decide) (H1.out.below HB7.out) (H2.out.below HB7.out) (by omega) (by omega) HL1.out HL2.out)
  (with_reducible refine (CM1.out).mono ?_); rintro e w8 ⟨⟨av, nq, cv⟩, x1, rfl, hb8, hx1, hs1, hz1⟩
  have HX1 := lid hx1
  have HGS1 := lid hs1
  have HGZ1 := lid hz1
  have hb08 := HB7.out.trans (hb8.mono HB7.out.size)
  have CM2 := lid (Missing_any [] 0 0 none 1 l1 (l2.set k (p, d)) n1 cap1 n2 c5 a1 (some ⟨g, 0, none⟩) w8 rfl Sl.nil (fun a ha => by cases ha) (Nat.le_refl _) (by decide) (H1.out.below hb08) (HFA7.out.below hb8) (by omega) (by omega) HL1.out HSO.out)
  have HB8 := lid hb08
  clear hx1 hs1 hz1 hb8 hb08 CM1
  go_wp2_with fail
  (with_reducible refine (CM2.out).mono ?_); rintro e w9 ⟨⟨aw, nw, cw⟩, x2, rfl, hb9, hx2, hs2, hz2⟩
  have HB9 := lid (HB8.out.trans (hb9.mono HB8.out.size))
  obtain rfl : x2 = x1 := by rw [hx2, HX1.out, HPE.out]
  have HEQ : Hid (∃ (c1 c2 : Nat → Prop) (gs : List (List ByteArray)), GS c1 w9 (av, nq, cv) gs ∧ GS c2 w9 (aw, nw, cw) gs ∧ gs.length ≤ 10000000 ∧ ∀ g ∈ gs, g.length ≤ 1000000) := lid (by
    by_cases hz : x2 = 0
    · refine ⟨_, fun k => w8.heap.size ≤ k ∧ k < w9.heap.size, missF (reqF l1 l2) [], (HGS1.out hz).keep (KeepC.below hb9), ?_, ?_, ?_⟩
      · have h3 := hs2 hz
        rw [← HPR.out (by rw [← HX1.out]; exact hz)] at h3
        exact h3
      · have h1 : (missF (reqF l1 l2) []).length ≤ (reqF l1 l2).length := List.length_filter_le _ _
        have h2 := reqF_len (l1 := l1) (l2 := l2)
        have h3 := diff_len (l1 := l1) (l2 := l2)
        have e1 := HN1.out
        have e2 := HN2.out
        omega
      · intro g hg
        have := (req_small (l1 := l1) (l2 := l2) (fun f hf => (HL1.out f hf).2) g (List.mem_filter.1 hg).1).1
        omega
    · have e1 := HGZ1.out hz
      have e2 := hz2 hz
      rw [e1, e2]
      exact ⟨fun _ => True, fun _ => True, [], GS.nil _ _, GS.nil _ _, by simp, fun g hg => by cases hg⟩)
  obtain ⟨q1, q2, gs, hq1, hq2, hq3, hq4⟩ := HEQ.out
  have CE := lid (EqualF_same q1 q2 gs (av, nq, cv) (aw, nw, cw) w9 hq1 hq2 hq3 hq4)
  have ux : ((x2 : Int) == x2) = true := by simp
  clear hx2 hs2 hz2 hb9 hq1 hq2 hq3 hq4 CM2
  go_wp2_with fail
  (with_reducible refine (CE.out).mono ?_); rintro e w10 ⟨rfl, hb10⟩
  have hb010 := HB9.out.trans (hb10.mono HB9.out.size)
  clear hb10
  go_wp2_with fail
  (with_reducible refine (CA.out _).mono ?_); rintro e w11 ⟨rfl, hb11⟩
  go_wp2_with fail
  go_ret
  exact ⟨rfl, hb010.trans (hb11.mono hb010.size)⟩
end Go.Proofs.YtefehgdckmajiaaGreatDoor
