/-
  Tell of the reference.
-/
import Derived.Test.YtnjcoejnknpfoaaMix
import Derived.Test.YtnjcoejnknpfoaaMinRApi
namespace Go.Proofs.Ytnjcoejnknpfoaa
open Go.RowKit Go.Shelf
theorem own_apart {w : World} {base base' : Nat} {e e' : TypeId} {size size' : Nat} {v v' : Value} {n n' : Nat} {xs xs' : List Value} (h : w.ownsRow base e size v n xs) (h' : w.ownsRow base' e' size' v' n' xs') (hne : e ≠ e') : v'.ownBlock = none ∨ v'.ownBlock ≠ v.ownBlock := by
  rcases h'.2 with ⟨rfl, _⟩ | ⟨g', cap', cur', rfl, _, hg', _⟩
  · exact .inl rfl
  · refine .inr (fun e2 => ?_)
    rcases h.2 with ⟨rfl, _⟩ | ⟨g, cap, cur, rfl, _, hg, _⟩
    · cases e2
    · obtain rfl : g' = g := Option.some.inj e2
      rw [hg] at hg'
      cases hg'
      exact hne rfl
/-- Two copies under way: the known answers and the set. -/
def RT2 (B : Nat) (W : World) (k : Nat) (xs : List Value) (s : Nat → Bool) (vs : List Value) (w : World) : Prop :=
  ∃ x y z, vs = [x, y, z] ∧ Below B W w ∧ (s 2 = true → s 5 = false → w.ownsRow B 55 2 x 0 []) ∧ (s 5 = true → w.ownsRow B 55 2 y k xs) ∧ (s 6 = true → w.ownsRow B 3 1 z 0 [])
theorem RT2.start (B : Nat) (W W' : World) (h : Below B W W') (k : Nat) (xs : List Value) (s : Nat → Bool) (h2 : s 2 = false) (h5 : s 5 = false) (h6 : s 6 = false) : RT2 B W k xs s [undef, undef, undef] W' :=
  ⟨_, _, _, rfl, h, fun e => (by rw [h2] at e; cases e), fun e => (by rw [h5] at e; cases e), fun e => (by rw [h6] at e; cases e)⟩
theorem RT2.one {B : Nat} {W w : World} {k : Nat} {xs : List Value} {s : Nat → Bool} {x y z : Value} (h : RT2 B W k xs s [x, y, z] w) (hB : B ≤ w.heap.size) : RT2 B W k xs (upd s 2) [.slice (some ⟨w.heap.size, 0, none⟩) 0 0, y, z] (w.alloc (.cells #[] 55)) := by
  obtain ⟨x', y', z', e, hb, h2, h5, h6⟩ := h
  cases e
  refine ⟨_, _, _, rfl, hb.alloc hB _, fun _ _ => ownsRow_empty rfl hB, fun e => ?_, fun e => ?_⟩
  · rw [upd_ne s (by decide)] at e
    exact ownsRow_below (h5 e) (ba _ _)
  · rw [upd_ne s (by decide)] at e
    exact ownsRow_below (h6 e) (ba _ _)
theorem RT2.three {B : Nat} {W w : World} {k : Nat} {xs : List Value} {s : Nat → Bool} {x y z : Value} (h : RT2 B W k xs s [x, y, z] w) (hB : B ≤ w.heap.size) : RT2 B W k xs (upd s 6) [x, y, .slice (some ⟨w.heap.size, 0, none⟩) 0 0] (w.alloc (.cells #[] 3)) := by
  obtain ⟨x', y', z', e, hb, h2, h5, h6⟩ := h
  cases e
  refine ⟨_, _, _, rfl, hb.alloc hB _, fun e1 e2 => ?_, fun e => ?_, fun _ => ownsRow_empty rfl hB⟩
  · rw [upd_ne s (by decide)] at e1 e2
    exact ownsRow_below (h2 e1 e2) (ba _ _)
  · rw [upd_ne s (by decide)] at e
    exact ownsRow_below (h5 e) (ba _ _)
theorem RT2.two {B : Nat} {W w w' : World} {k : Nat} {xs : List Value} {s : Nat → Bool} {x y z v : Value} (h : RT2 B W k xs s [x, y, z] w) (h2 : s 2 = true) (h5 : s 5 = false) (hown : w'.ownsRow B 55 2 v k xs) (hb' : Below B w w') (hg : w.grownBy w' x.ownBlock) : RT2 B W k xs (upd s 5) [x, v, z] w' := by
  obtain ⟨x', y', z', e, hb, h2', h5', h6⟩ := h
  cases e
  refine ⟨_, _, _, rfl, hb.trans hb', fun _ e => ?_, fun _ => hown, fun e => ?_⟩
  · rw [upd_same] at e
    cases e
  · rw [upd_ne s (by decide)] at e
    exact (h6 e).kept hg (own_apart (h2' h2 h5) (h6 e) (by decide))
theorem kx_of {B X : Nat} {W W' : World} (h : Below B W W') : KeptX B X W W' := fun q hq _ => h.block q hq
theorem set2_keptx {W W' : World} {B X : Nat} {v0 v1 : Value} (h : KeptX B X W W') : KeptX B X W ((W'.setCell ⟨X, 0, none⟩ v0).setCell ⟨X, 1, none⟩ v1) := by
  refine KeptX.setCell (p := ⟨X, 1, none⟩) ?_ (.inl rfl) v1
  refine KeptX.setCell (p := ⟨X, 0, none⟩) ?_ (.inl rfl) v0
  exact h
/-- A known answer put behind the others. -/
theorem sl_kn {w : World} {k : Nat} {us : Array Value} {t : TypeId} (h : w.heap[k]? = some (.cells us t (0, 0))) (hu : us.size = 2) : Sl w 2 (some ⟨k, 0, none⟩) 1 us.toList := sl_one2 h hu
set_option maxRecDepth 100000 in
set_option maxHeartbeats 8000000 in
theorem refTell_any (N : Int) (hN : GoodN N) (l : List Kw) (k cap : Nat) (ao : Option Addr) (set : List Int) (n2 c2 : Nat) (a2 : Option Addr) (bad : Bool) (w : World) (hk : k ≤ 100) (h : KA w ao k cap l) (hl : ∀ r ∈ l, r.vs.length ≤ 20) (h2 : IA w a2 n2 c2 set) (hn2 : n2 ≤ 20) :
    Calls Try.prog 24 #[.agg #[.int .i64 N, .slice ao k cap], .slice a2 n2 c2, .bool bad] w (TlP l N set bad w) := by
  have CE := lid (fun w1 (hb : Below w.heap.size w w1) => refCheck_any N hN l k cap ao w1 hk (h.below hb) hl)
  have CF := lid (fun (n : Nat) (hn : n ≤ 10) (w1 : World) (hb : Below w.heap.size w w1) => refFollow_any n hn l k cap ao w1 hk (h.below hb) hl)
  have HK := lid h
  have HL := lid hl
  have H2 := lid h2
  have HKL := lid h.len
  clear h hl h2
  go_enter Try.func24, Try.ntmps24
  go_wp2_with fail
  obtain ⟨W1, hW1⟩ : ∃ y, (w.alloc (.cells #[.int .i64 N, .slice ao k cap] 24)).alloc (.cells #[.int .i64 0, .slice none 0 0] 24) = y := ⟨_, rfl⟩
  have g1 : Below w.heap.size w W1 := by rw [← hW1]; exact (ba _ _).alloc (by simp) _
  have rS : W1.heap[w.heap.size]? = some (.cells #[.int .i64 N, .slice ao k cap] 24 (0, 0)) := by rw [← hW1]; exact (h_old (by simp) _).trans (h_new rfl _)
  have rR : W1.heap[w.heap.size + 1]? = some (.cells #[.int .i64 0, .slice none 0 0] 24 (0, 0)) := by rw [← hW1]; exact h_new (by simp) _
  rw [hW1]
  clear hW1
  (with_reducible refine (CE.out W1 g1).mono ?_); rintro e w2 ⟨r, hE, rfl, hb⟩
  have HE := lid hE
  have HB := lid (g1.trans (hb.mono g1.size))
  have HS := lid ((hb.block _ (row_lt rS)).trans rS)
  have HR := lid ((hb.block _ (row_lt rR)).trans rR)
  clear hE hb rS rR g1
  have lS := row_lt HS.out
  have lR := row_lt HR.out
  have s0 := row_cell HS.out 0
  have s1 := row_cell HS.out 1
  have q0 := row_cell HR.out 0
  have q1 := row_cell HR.out 1
  have y0 := row_fz HR.out 0
  have y1 := row_fz HR.out 1
  by_cases h0 : r.err = 0
  · have HRO : Hid (∃ (n : Nat), N = n ∧ n ≤ 10) := lid (by
      rcases HE.out with ⟨_, e⟩ | ⟨n, st, e, h10, _, _⟩
      · rw [e] at h0; cases h0
      · exact ⟨n, e, h10⟩)
    obtain ⟨n, rfl, hn10⟩ := HRO.out
    clear HRO
    rw [h0]
    go_wp2_with fail
    (with_reducible refine (CF.out n hn10 w2 HB.out).mono ?_); rintro e w3 ⟨st, a1, n1, c1, hL, rfl, hI, hb, hf⟩
    have HS3 := lid ((hb.block _ lS).trans HS.out)
    have HR3 := lid ((hb.block _ lR).trans HR.out)
    have HB3 := lid (HB.out.trans (hb.mono HB.out.size))
    have HRE : Hid (r = if st.used ≠ (l.map Kw.kn).length then ⟨11, false, []⟩ else ⟨0, st.done, st.set⟩) := lid (HE.out.det (Exm.mk hL hn10))
    have HRD : Hid (r = ⟨0, st.done, st.set⟩) := lid (by
      have := HRE.out
      split at this
      · rw [this] at h0; cases h0
      · exact this)
    have HLN : Hid (n1 ≤ 10) := lid (by have := hL.len; have := hI.len; omega)
    have HI := lid hI
    clear hL hI hb hf s0 s1 q0 q1 y0 y1 lS lR h0 HRE
    have lS := row_lt HS3.out
    have lR := row_lt HR3.out
    have s0 := row_cell HS3.out 0
    have s1 := row_cell HS3.out 1
    have q0 := row_cell HR3.out 0
    have q1 := row_cell HR3.out 1
    have y0 := row_fz HR3.out 0
    have y1 := row_fz HR3.out 1
    cases hd : st.done with
    | true =>
      rw [hd] at HRD
      have HT : Hid (tellE r set = 18) := lid (by rw [HRD.out]; rfl)
      clear hd
      go_wp2_with fail
      exact bodyPost_ret (res_tell rfl _ _ (w.heap.size + 1) _ _ _ _ _ rfl rfl ((h_old (by simp; omega) _).trans (set2_row HR3.out _ _))) rfl ⟨r, [], 0, 0, none, HE.out, by rw [HT.out]; rfl, ka_nil _, by rw [HT.out]; rfl, (fun q hq => by cases hq), (set2_below HB3.out (by omega)).alloc (by have := HB3.out.size; simp; omega) _, (fun b o e => by cases e), (fun q hq => by cases hq)⟩
    | false =>
      rw [hd] at HRD
      clear hd
      go_wp2_with fail
      obtain ⟨wa, hwa⟩ : ∃ y, w3.alloc (.cells #[.slice a1 n1 c1, .bool false, .int .i64 st.used] 60) = y := ⟨_, rfl⟩
      have ga : Below w3.heap.size w3 wa := by rw [← hwa]; exact ba _ _
      rw [hwa]
      have CS := lid (SameSet_any st.set set n1 c1 n2 c2 a1 a2 wa (by have := HLN.out; omega) (by omega) (HI.out.below ga) ((H2.out.below HB3.out).below ga))
      (with_reducible refine (CS.out).mono ?_); rintro e w5 ⟨rfl, hb5⟩
      have g5 := ga.trans (hb5.mono ga.size)
      have HS5 := lid ((g5.block _ lS).trans HS3.out)
      have HR5 := lid ((g5.block _ lR).trans HR3.out)
      have HB5 := lid (HB3.out.trans (g5.mono HB3.out.size))
      have HK5 := lid (HK.out.below HB5.out)
      have H25 := lid (H2.out.below HB5.out)
      clear hwa ga hb5 g5 CS s0 s1 q0 q1 y0 y1 lS lR HI
      have lS := row_lt HS5.out
      have lR := row_lt HR5.out
      by_cases hse : st.set = set
      · rw [decide_eq_true hse]
        have HT : Hid (tellE r set = 0) := lid (by unfold tellE; rw [HRD.out]; simp [hse])
        have HSE : Hid (r.set = set) := lid (by rw [HRD.out]; exact hse)
        clear hse
        have s0 := row_cell HS5.out 0
        have s1 := row_cell HS5.out 1
        go_wp2_with fail
        have t0 := SinceX.cell (B := w5.heap.size) (X := w.heap.size + 1) (W := w5) w.heap.size 0 lS (by omega) s0
        have t1 := SinceX.cell (B := w5.heap.size) (X := w.heap.size + 1) (W := w5) w.heap.size 1 lS (by omega) s1
        refine wp_region_mix (fun w' => ∃ s : SinceX w5.heap.size (w.heap.size + 1) w5, w' = s.world) [(0, true), (1, true), (3, true), (4, true), (7, true), (9, true)] [(2, []), (5, [2]), (6, [])] [(8, false), (10, true), (11, false), (12, false), (13, true), (14, false), (15, false)] (by kernel_rfl) (by kernel_rfl) (by intro c d v a w h; cases d <;> exact h) (sincex (KeptX.refl _ _ _).drew) ?_
        repeat (first | (refine seq_skip (by rfl) (by rfl) ?_; simp only [Act.put, List.setIfInBounds_toArray, List.set_cons_succ, List.set_cons_zero]) | (refine seq_float (by rfl) (by rfl) (by rfl) ?_; intro K hK; go_big_quiet_op; go_big_quiet_on))
        refine seq_nil (mix_go [26, 29, 30] [undef, undef, undef] (RT2 w5.heap.size w5 k (kcells l)) rfl (by simp only [putAll, Act.put, List.setIfInBounds_toArray, List.set_cons_succ, List.set_cons_zero]) (fun s h => RT2.start _ _ _ (Below.refl _ _).drew _ _ s (h (2, []) (by simp)) (h (5, [2]) (by simp)) (h (6, []) (by simp))) ⟨?_, ?_, ?_, trivial⟩ ?_)
        · intro s vs wm _ _ hneed _ hR
          have hR' := lid hR
          obtain ⟨x, y, z, rfl, hB1, -, -, -⟩ := hR
          have hs1 := hB1.size
          simp only [putAll, Act.put, List.setIfInBounds_toArray, List.set_cons_succ, List.set_cons_zero]
          refine mix_op (by rfl) ?_
          intro K hK
          go_wp2_with fail
          exact hK.out _ _ ⟨sincex (kx_of (hB1.alloc hs1 _)), [_, y, z], rfl, by simp only [putAll, Act.put, List.setIfInBounds_toArray, List.set_cons_succ, List.set_cons_zero], hR'.out.one hs1⟩
        · intro s vs wm _ hfalse hneed _ hR
          have hR' := lid hR
          obtain ⟨x, y, z, rfl, hB1, h2o, -, -⟩ := hR
          have hs1 := hB1.size
          have hown := h2o (hneed 2 (by simp)) hfalse
          simp only [putAll, Act.put, List.setIfInBounds_toArray, List.set_cons_succ, List.set_cons_zero]
          refine mix_op (by rfl) ?_
          intro K hK
          go_wp2_with (at_builtin; go_must (refine wpList_append_slg rfl _ _ 22 rfl w5.heap.size 55 (.agg #[.slice none 0 0, .bool false]) 2 32 info_known Try.underlying22 rfl (by decide) _ 0 [] hown rfl ao k cap (kcells l) rfl (HK5.out.below hB1).sl (HK5.out.below hB1).z (kcells_one l) (by simp only [maxLen]; omega) (by omega) hs1 ?_))
          intro v8 w8 hown8 hb8 hg8
          have hown8' : w8.ownsRow w5.heap.size 55 2 v8 k (kcells l) := by simpa using hown8
          go_wp2_with fail
          exact hK.out _ _ ⟨sincex (kx_of (hB1.trans hb8)), [x, v8, z], rfl, by simp only [putAll, Act.put, List.setIfInBounds_toArray, List.set_cons_succ, List.set_cons_zero], hR'.out.two (hneed 2 (by simp)) hfalse hown8' hb8 hg8⟩
        · intro s vs wm _ _ hneed _ hR
          have hR' := lid hR
          obtain ⟨x, y, z, rfl, hB1, -, -, -⟩ := hR
          have hs1 := hB1.size
          simp only [putAll, Act.put, List.setIfInBounds_toArray, List.set_cons_succ, List.set_cons_zero]
          refine mix_op (by rfl) ?_
          intro K hK
          go_wp2_with fail
          exact hK.out _ _ ⟨sincex (kx_of (hB1.alloc hs1 _)), [x, y, _], rfl, by simp only [putAll, Act.put, List.setIfInBounds_toArray, List.set_cons_succ, List.set_cons_zero], hR'.out.three hs1⟩
        · intro s vs wm _ hall _ hR
          obtain ⟨x, y, z, rfl, hB1, -, h5o, h6o⟩ := hR
          have hown5 := h5o (hall (5, [2]) (by simp))
          have hown6 := h6o (hall (6, []) (by simp))
          have hs1 := hB1.size
          clear hall h5o h6o
          simp only [putAll, Act.put, List.setIfInBounds_toArray, List.set_cons_succ, List.set_cons_zero]
          refine seq_chain (by rfl) ?_
          intro K hK
          go_wp2_with (at_builtin; go_must (refine wpList_append_slg rfl _ _ 30 rfl w5.heap.size 3 (.int .i64 0) 1 8 info_int Try.underlying30 rfl (by decide) _ 0 [] hown6 rfl a2 n2 c2 (ivals set) rfl (H25.out.below hB1).sl (H25.out.below hB1).z (ivals_one _) (by simp only [maxLen]; omega) (by omega) hs1 ?_))
          intro v8 w8 hown8 hb8 hg8
          have hown8' : w8.ownsRow w5.heap.size 3 1 v8 n2 (ivals set) := by simpa using hown8
          have HO5 := lid (hown5.kept hg8 (own_apart hown6 hown5 (by decide)))
          have HO8 := lid hown8'
          have HB8 := lid (hB1.trans hb8)
          obtain ⟨a8, c8, rfl⟩ := own_slice HO8.out
          have h8 := HB8.out.size
          clear hown8 hown8' hown5 hown6 hg8 hb8 hB1
          go_wp2_with fail
          refine hK.out _ _ (sincex (kx_of HB8.out)) ?_
          clear hK K
          repeat (first | (refine seq_skip (by rfl) (by rfl) ?_; simp only [Act.put, List.setIfInBounds_toArray, List.set_cons_succ, List.set_cons_zero]) | (refine seq_float (by rfl) (by rfl) (by rfl) ?_; intro K hK; go_big_quiet_op; go_big_quiet_on))
          refine seq_chain (by rfl) ?_
          intro K hK
          go_wp2_with fail
          obtain ⟨w6, hw6⟩ : ∃ y, w8.alloc (.cells #[.slice a8 n2 c8, .bool bad] 55) = y := ⟨_, rfl⟩
          have h86 : Below w8.heap.size w8 w6 := by rw [← hw6]; exact ba _ _
          have HLAY : Hid (w6.heap[w8.heap.size]? = some (.cells #[.slice a8 n2 c8, .bool bad] 55 (0, 0))) := lid (by rw [← hw6]; exact h_new rfl _)
          have HOW : Hid (w6.ownsRow w5.heap.size 55 2 y k (kcells l)) := lid (ownsRow_below HO5.out h86)
          have HOI : Hid (w6.ownsRow w5.heap.size 3 1 (.slice a8 n2 c8) n2 (ivals set)) := lid (ownsRow_below HO8.out h86)
          have HGA := lid (HB8.out.trans (h86.mono HB8.out.size))
          rw [hw6]
          clear hw6 h86 HO5 HO8
          refine hK.out _ _ (sincex (kx_of HGA.out)) ?_
          clear hK K
          repeat (first | (refine seq_skip (by rfl) (by rfl) ?_; simp only [Act.put, List.setIfInBounds_toArray, List.set_cons_succ, List.set_cons_zero]) | (refine seq_float (by rfl) (by rfl) (by rfl) ?_; intro K hK; go_big_quiet_op; go_big_quiet_on))
          refine seq_chain (by rfl) ?_
          intro K hK
          go_wp2_with (at_builtin; go_must (refine wpList_append_slg rfl _ _ 22 rfl w5.heap.size 55 (.agg #[.slice none 0 0, .bool false]) 2 32 info_known Try.underlying22 rfl (by decide) _ _ _ HOW.out rfl _ 1 1 #[.slice a8 n2 c8, .bool bad].toList rfl (sl_one2 HLAY.out rfl) (by intro h; cases h) (by simp [Value.oneCell']) (by simp only [maxLen]; omega) (by omega) HGA.out.size ?_))
          intro v12 w12 hown12 hb12 hg12
          have HI12 := lid (HOI.out.kept hg12 (own_apart HOW.out HOI.out (by decide)))
          obtain ⟨a9, c9, e9, hIA⟩ := IA.of_own HI12.out
          cases e9
          have HIA := lid hIA
          have HAF : Hid (∀ b o, a8 = some ⟨b, o, none⟩ → w.heap.size + 1 < b) := lid (fun b o e => by
            have := ownsRow_row HI12.out b (by rw [e]; rfl)
            omega)
          have HO12 : Hid (w12.ownsRow w5.heap.size 55 2 v12 (k + 1) (kcells (l ++ [⟨set, bad, a8, c8⟩]))) := lid (by
            rw [kcells_append]
            have e : kcells [⟨set, bad, a8, c8⟩] = #[.slice a8 n2 c8, .bool bad].toList := by
              show [Value.slice a8 set.length c8, Value.bool bad] = _
              rw [H2.out.len]
            rw [e]
            exact hown12)
          have g12 := HGA.out.trans hb12
          have HG12 := lid g12
          have h12 := g12.size
          obtain ⟨ao5, cap5, rfl⟩ := own_slice HO12.out
          have RR12 := lid ((g12.block _ lR).trans HR5.out)
          have q0 := row_cell RR12.out 0
          have q1 := row_cell RR12.out 1
          have y0 := row_fz RR12.out 0
          have y1 := row_fz RR12.out 1
          have lt1 := row_lt RR12.out
          clear hown12 hb12 hg12 hIA g12
          go_wp2_with fail
          refine hK.out _ _ (sincex (kx_of HG12.out)) ?_
          clear hK K
          repeat (first | (refine seq_skip (by rfl) (by rfl) ?_; simp only [Act.put, List.setIfInBounds_toArray, List.set_cons_succ, List.set_cons_zero]) | (refine seq_float (by rfl) (by rfl) (by rfl) ?_; intro K hK; go_big_quiet_op; go_big_quiet_on))
          refine seq_chain (by rfl) ?_
          intro K hK
          go_wp2_with fail
          refine hK.out _ _ (sincex (set2_keptx (kx_of HG12.out))) ?_
          clear hK K
          repeat (first | (refine seq_skip (by rfl) (by rfl) ?_; simp only [Act.put, List.setIfInBounds_toArray, List.set_cons_succ, List.set_cons_zero]) | (refine seq_float (by rfl) (by rfl) (by rfl) ?_; intro K hK; go_big_quiet_op; go_big_quiet_on))
          refine seq_chain (by rfl) ?_
          intro K hK
          go_wp2_with fail
          refine hK.out _ _ (sincex (set2_keptx (kx_of HG12.out))) ?_
          clear hK K
          repeat (first | (refine seq_skip (by rfl) (by rfl) ?_; simp only [Act.put, List.setIfInBounds_toArray, List.set_cons_succ, List.set_cons_zero]) | (refine seq_float (by rfl) (by rfl) (by rfl) ?_; intro K hK; go_big_quiet_op; go_big_quiet_on))
          refine seq_nil ?_
          go_wp2_with fail
          refine bodyPost_ret (res_tell rfl _ _ (w.heap.size + 1) _ _ _ _ _ rfl rfl (set2_row RR12.out _ _)) rfl ⟨r, l ++ [⟨set, bad, a8, c8⟩], k + 1, cap5, ao5, HE.out, by rw [HT.out]; rfl, ?_, by rw [HT.out, HSE.out]; simp [Kw.kn], ?_, set2_below (HB5.out.trans (HG12.out.mono HB5.out.size)) (by omega), (fun b o e => by have := ownsRow_row HO12.out b (by rw [e]; rfl); have := HB5.out.size; omega), ?_⟩
          · exact ka_fin (own_cell (own_cell HO12.out (by omega)) (by omega)) (fun q hq => by
              rcases List.mem_append.1 hq with hq | hq
              · exact (HK.out.below (set2_below (HB5.out.trans (HG12.out.mono HB5.out.size)) (by omega))).ok q hq
              · rw [List.mem_singleton.1 hq]
                show IA _ a8 set.length c8 set
                rw [H2.out.len]
                exact ia_set (ia_set HIA.out (fun b o e => by have := HAF.out b o e; omega)) (fun b o e => by have := HAF.out b o e; omega))
          · intro q hq
            rcases List.mem_append.1 hq with hq | hq
            · exact HL.out q hq
            · rw [List.mem_singleton.1 hq]
              show set.length ≤ 20
              rw [H2.out.len]
              exact hn2
          · intro q hq
            rcases List.mem_append.1 hq with hq | hq
            · exact .inl hq
            · rw [List.mem_singleton.1 hq]
              exact .inr (fun b o e => by have := HAF.out b o e; omega)
      · rw [decide_eq_false hse]
        have HT : Hid (tellE r set = 11) := lid (by unfold tellE; rw [HRD.out]; simp [Ne.symm hse])
        clear hse
        have q0 := row_cell HR5.out 0
        have q1 := row_cell HR5.out 1
        have y0 := row_fz HR5.out 0
        have y1 := row_fz HR5.out 1
        go_wp2_with fail
        exact bodyPost_ret (res_tell rfl _ _ (w.heap.size + 1) _ _ _ _ _ rfl rfl (set2_row HR5.out _ _)) rfl ⟨r, [], 0, 0, none, HE.out, by rw [HT.out]; rfl, ka_nil _, by rw [HT.out]; rfl, (fun q hq => by cases hq), set2_below HB5.out (by omega), (fun b o e => by cases e), (fun q hq => by cases hq)⟩
  · have HT : Hid (tellE r set = 1) := lid (by unfold tellE; simp [h0])
    have dne : (r.err != 0) = true := by simpa using h0
    clear h0
    go_wp2_with fail
    exact bodyPost_ret (res_tell rfl _ _ (w.heap.size + 1) _ _ _ _ _ rfl rfl (set2_row HR.out _ _)) rfl ⟨r, [], 0, 0, none, HE.out, by rw [HT.out]; rfl, ka_nil _, by rw [HT.out]; rfl, (fun q hq => by cases hq), set2_below HB.out (by omega), (fun b o e => by cases e), (fun q hq => by cases hq)⟩
end Go.Proofs.Ytnjcoejnknpfoaa
