/-
  slices.Clone of known answers; Tell of the program.
-/
import Derived.Test.YtnjcoejnknpfoaaForkL
import Derived.Test.YtnjcoejnknpfoaaMinApi
namespace Go.Proofs.Ytnjcoejnknpfoaa
open Go.RowKit Go.Shelf
theorem info_known : (Try.prog.info? 55).map (fun i => (i.zero, i.size, i.bytes)) = some (some (.agg #[.slice none 0 0, .bool false]), 2, 32) := by kernel_rfl
set_option maxRecDepth 100000 in
set_option maxHeartbeats 4000000 in
theorem Clone_kn (l : List Kw) (n cap : Nat) (ao : Option Addr) (w : World) (hl : l.length = n) (hs : Sl w 2 ao n (kcells l)) (hz : ao = none → cap = 0) (hn : n ≤ 1000000) :
    Calls Try.prog 35 #[.slice ao n cap] w fun e w' => ∃ v', e = .returned v' ∧ w'.ownsRow w.heap.size 55 2 v' n (kcells l) ∧ Below w.heap.size w w' := by
  cases ao with
  | none =>
    obtain rfl := hz rfl
    obtain rfl : n = 0 := by
      rcases hs.2 with h0 | ⟨b, o, e', _⟩
      · exact h0
      · cases e'
    obtain rfl : l = [] := List.eq_nil_of_length_eq_zero hl
    clear hs hz hn hl
    go_enter Try.func35, Try.ntmps35
    go_wp2_with fail
    rw [run_eql_slice_nil' _ _ _ _ _ _ _ _ Try.underlying22]
    go_wp2_with fail
    go_ret
    exact ⟨_, rfl, World.ownsRow_nil _ _ _ _, Below.refl _ _⟩
  | some a =>
    have HA := lid hs
    clear hs hz
    go_enter Try.func35, Try.ntmps35
    go_wp2_with fail
    rw [run_eql_slice_nil' _ _ _ _ _ _ _ _ Try.underlying22]
    go_wp2_with (at_builtin; go_must (refine wpList_append_sl rfl _ _ 22 rfl w.heap.size 55 (.agg #[.slice none 0 0, .bool false]) 2 32 info_known Try.underlying22 rfl (by decide) _ 0 [] (World.ownsRow_lit w #[] 0 (Nat.le_refl _) (by simp [maxLen]) rfl) rfl (some a) n cap (kcells l) rfl (HA.out.below (ba _ _)) (by intro h; cases h) (kcells_one l) (by simp [maxLen]; omega) (by omega) (by simp) ?_))
    intro v5 w5 hown5 hb5
    go_wp2_with fail
    go_ret
    refine ⟨_, rfl, ?_, (ba _ _).trans hb5⟩
    simpa using hown5
/-- What Tell says. -/
def tellE (r : Ex) (set : List Int) : Int := if r.err ≠ 0 then 1 else if r.done then 18 else if set = r.set then 0 else 11
/-- What Tell gives. -/
def TlP (l : List Kw) (N : Int) (set : List Int) (bad : Bool) (w : World) (e : Ending) (w' : World) : Prop :=
  ∃ (r : Ex) (l' : List Kw) (k' c' : Nat) (a' : Option Addr), Exm (l.map Kw.kn) N r ∧ e = .returned (.tuple #[.agg #[.int .i64 (if tellE r set = 0 then N else 0), .slice a' k' c'], .int .i64 (tellE r set)]) ∧ KA w' a' k' c' l' ∧
    l'.map Kw.kn = (if tellE r set = 0 then l.map Kw.kn ++ [(r.set, bad)] else []) ∧ (∀ q ∈ l', q.vs.length ≤ 20) ∧ Below w.heap.size w w' ∧ (∀ b o, a' = some ⟨b, o, none⟩ → w.heap.size ≤ b) ∧ (∀ q ∈ l', q ∈ l ∨ ∀ b o, q.ao = some ⟨b, o, none⟩ → w.heap.size ≤ b)
theorem sl_one2 {w : World} {k : Nat} {us : Array Value} {t : TypeId} (h : w.heap[k]? = some (.cells us t (0, 0))) (hu : us.size = 2) : Sl w 2 (some ⟨k, 0, none⟩) 1 us.toList := by
  refine ⟨by simp [hu], .inr ⟨k, 0, rfl, (Array.getElem?_eq_some_iff.1 h).1, fun j u hj => ?_⟩⟩
  rw [Nat.zero_add, cell_of_row _ _ _ us t (0, 0) h]
  simpa using hj
theorem set2_row {W : World} {b : Nat} {x0 x1 : Value} {t : TypeId} (h : W.heap[b]? = some (.cells #[x0, x1] t (0, 0))) (v0 v1 : Value) :
    ((W.setCell ⟨b, 0, none⟩ v0).setCell ⟨b, 1, none⟩ v1).heap[b]? = some (.cells #[v0, v1] t (0, 0)) := by
  have := row_set (row_set h 0 v0) 1 v1
  simpa using this
theorem set2_below {W W0 : World} {b B : Nat} {v0 v1 : Value} (h : Below B W0 W) (hb : B ≤ b) : Below B W0 ((W.setCell ⟨b, 0, none⟩ v0).setCell ⟨b, 1, none⟩ v1) := (h.setCell (p := ⟨b, 0, none⟩) hb _).setCell (p := ⟨b, 1, none⟩) hb _
theorem KA.of_own {w : World} {base : Nat} {e : TypeId} {v : Value} {n : Nat} {l : List Kw} (h : w.ownsRow base e 2 v n (kcells l)) (hs : ∀ r ∈ l, IA w r.ao r.vs.length r.cap r.vs) : ∃ ao cap, v = .slice ao n cap ∧ KA w ao n cap l := by
  have hl := h.1
  rw [kcells_length] at hl
  obtain ⟨ao, cap, rfl, h1, h2, h3⟩ := Sl.of_own h
  refine ⟨ao, cap, rfl, by omega, h3, h1, h2, fun e => ?_, hs⟩
  subst e
  rcases h.2 with ⟨hv, _⟩ | ⟨g, cap', cur, hv, _⟩
  · cases hv; rfl
  · cases hv
theorem ka_fin {w : World} {base : Nat} {e : TypeId} {n cap : Nat} {ao : Option Addr} {l : List Kw} (h : w.ownsRow base e 2 (.slice ao n cap) n (kcells l)) (hs : ∀ r ∈ l, IA w r.ao r.vs.length r.cap r.vs) : KA w ao n cap l := by
  obtain ⟨ao', cap', e, h'⟩ := KA.of_own h hs
  cases e
  exact h'
theorem own_cell {w : World} {base : Nat} {e : TypeId} {size n b j : Nat} {v u : Value} {xs : List Value} (h : w.ownsRow base e size v n xs) (hb : b < base) : (w.setCell ⟨b, j, none⟩ u).ownsRow base e size v n xs := by
  refine h.kept (row := some b) ⟨rfl, rfl, rfl, (KeepsWalks.setCell w _ u).size, fun k _ hk => Below.heap_setCell _ _ _ k (fun e => hk (by rw [e]))⟩ ?_
  cases hv : v.ownBlock with
  | none => exact .inl rfl
  | some g =>
    refine .inr (fun e => ?_)
    have h1 := ownsRow_row h g hv
    cases e
    omega
theorem ka_nil (w : World) : KA w none 0 0 [] := ⟨rfl, Sl.nil, Nat.le_refl _, by simp [maxLen], fun _ => rfl, fun r hr => (by cases hr)⟩
theorem res_tell {fn : Func} (hf : fn.results = #[.cell 6 24, .tmp 7]) (t : Array Value) (w : World) (k : Nat) (N c : Int) (ao : Option Addr) (n cap : Nat) (h6 : t.getD 6 undef = .pointer (some ⟨k, 0, none⟩)) (h7 : t.getD 7 undef = .int .i64 c)
    (e : w.heap[k]? = some (.cells #[.int .i64 N, .slice ao n cap] 24 (0, 0))) : (results fn t).run Try.prog w = .ok (.tuple #[.agg #[.int .i64 N, .slice ao n cap], .int .i64 c]) w := by
  have e0 := row_cell e 0
  have e1 := row_cell e 1
  rw [Array.getD_eq_getD_getElem?] at h6 h7
  unfold results
  rw [hf]
  simp [go_sem, h6, h7, e0, e1, asAddr]
set_option maxRecDepth 100000 in
set_option maxHeartbeats 8000000 in
theorem Tell_any (N : Int) (hN : GoodN N) (l : List Kw) (k cap : Nat) (ao : Option Addr) (set : List Int) (n2 c2 : Nat) (a2 : Option Addr) (bad : Bool) (w : World) (hk : k ≤ 100) (h : KA w ao k cap l) (hl : ∀ r ∈ l, r.vs.length ≤ 20) (h2 : IA w a2 n2 c2 set) (hn2 : n2 ≤ 20) :
    Calls Try.prog 23 #[.agg #[.int .i64 N, .slice ao k cap], .slice a2 n2 c2, .bool bad] w (TlP l N set bad w) := by
  have CE := lid (fun w1 (hb : Below w.heap.size w w1) => exam2 N hN l k cap ao w1 hk (h.below hb) hl)
  have HK := lid h
  have HL := lid hl
  have H2 := lid h2
  clear h hl h2
  go_enter Try.func23, Try.ntmps23
  go_wp2_with fail
  (with_reducible refine (CE.out _ ((ba _ _).alloc (by simp) _)).mono ?_); rintro e w1 ⟨r, a1, n1, c1, hE, rfl, hI, hb, hf⟩
  obtain ⟨W1, hW1⟩ : ∃ y, (w.alloc (.cells #[.int .i64 N, .slice ao k cap] 24)).alloc (.cells #[.int .i64 0, .slice none 0 0] 24) = y := ⟨_, rfl⟩
  rw [hW1] at hb hf
  have hz1 : W1.heap.size = w.heap.size + 2 := by rw [← hW1]; simp
  have g1 : Below w.heap.size w W1 := by rw [← hW1]; exact (ba _ _).alloc (by simp) _
  have rS : W1.heap[w.heap.size]? = some (.cells #[.int .i64 N, .slice ao k cap] 24 (0, 0)) := by rw [← hW1]; exact (h_old (by simp) _).trans (h_new rfl _)
  have rR : W1.heap[w.heap.size + 1]? = some (.cells #[.int .i64 0, .slice none 0 0] 24 (0, 0)) := by rw [← hW1]; exact h_new (by simp) _
  have hw1 : Below w.heap.size w w1 := g1.trans (hb.mono g1.size)
  have HS := lid ((hb.block _ (row_lt rS)).trans rS)
  have HR := lid ((hb.block _ (row_lt rR)).trans rR)
  have hz : w.heap.size + 2 ≤ w1.heap.size := by have := hb.size; omega
  have HE := lid hE
  have HI := lid hI
  have HB := lid hw1
  have HFR : Hid (∀ b o, a1 = some ⟨b, o, none⟩ → w.heap.size + 2 ≤ b) := lid (fun b o e => by have := hf b o e; omega)
  clear hW1 rS rR g1 hb hz1 hE hI hw1 hf
  have lR := row_lt HR.out
  have lS := row_lt HS.out
  have q0 := row_cell HR.out 0
  have q1 := row_cell HR.out 1
  have y0 := row_fz HR.out 0
  have y1 := row_fz HR.out 1
  by_cases h0 : r.err = 0
  · cases hd : r.done with
    | true =>
      rw [stV_done h0 hd]
      have HT : Hid (tellE r set = 18) := lid (by unfold tellE; simp [h0, hd])
      clear hd h0
      go_wp2_with fail
      exact bodyPost_ret (res_tell rfl _ _ (w.heap.size + 1) _ _ _ _ _ rfl rfl ((h_old (by simp; omega) _).trans (set2_row HR.out _ _))) rfl ⟨r, [], 0, 0, none, HE.out, by rw [HT.out]; rfl, ka_nil _, by rw [HT.out]; rfl, (fun q hq => by cases hq), (set2_below HB.out (by omega)).alloc (by have := HB.out.size; simp; omega) _, (fun b o e => by cases e), (fun q hq => by cases hq)⟩
    | false =>
      rw [stV_open h0 hd]
      have HP := lid (And.intro h0 hd)
      clear hd h0
      go_wp2_with fail
      obtain ⟨wa, hwa⟩ : ∃ y, w1.alloc (.cells #[.int .i64 0, .bool false, .slice a1 n1 c1, .slice none 0 0] 57) = y := ⟨_, rfl⟩
      have ga : Below w1.heap.size w1 wa := by rw [← hwa]; exact ba _ _
      have ra : wa.heap[w1.heap.size]? = some (.cells #[.int .i64 0, .bool false, .slice a1 n1 c1, .slice none 0 0] 57 (0, 0)) := by rw [← hwa]; exact h_new rfl _
      rw [hwa]
      have CE := lid (Equal_any set r.set n2 c2 n1 c1 a2 a1 wa (by omega) (by have := HI.out.len; have := HE.out.len; omega) ((H2.out.below HB.out).below ga) (HI.out.below ga))
      (with_reducible refine (CE.out).mono ?_); rintro e w2 ⟨rfl, hb2⟩
      have g2 := ga.trans (hb2.mono ga.size)
      have HS2 := lid ((g2.block _ lS).trans HS.out)
      have HR2 := lid ((g2.block _ lR).trans HR.out)
      have HA2 := lid ((hb2.block _ (row_lt ra)).trans ra)
      have HB2 := lid (HB.out.trans (g2.mono HB.out.size))
      have HI2 := lid (HI.out.below g2)
      have HK2 := lid (HK.out.below HB2.out)
      have lS2 := row_lt HS2.out
      have lR2 := row_lt HR2.out
      have lA2 := row_lt HA2.out
      have p1 := row_cell HS2.out 1
      have p2 := row_cell HA2.out 2
      replace q0 := row_cell HR2.out 0
      replace q1 := row_cell HR2.out 1
      replace y0 := row_fz HR2.out 0
      replace y1 := row_fz HR2.out 1
      have HKL := lid HK2.out.len
      clear ra hwa ga hb2 g2 CE
      by_cases hse : set = r.set
      · rw [decide_eq_true hse]
        have HT : Hid (tellE r set = 0) := lid (by unfold tellE; simp [HP.out.1, HP.out.2, hse])
        have HSE := lid hse
        clear hse
        go_wp2_with fail
        refine wp_region_otl 10 (fun w' => ∃ s : Since w2.heap.size w2, w' = s.world) (.seq [(0, true), (1, true), (3, true), (4, true), (5, true), (6, true)] (.two 2 7 (.leaf [(7, false), (8, false), (9, true), (10, false)]) (.leaf [(2, false), (8, false), (9, true), (10, false)]))) (by kernel_rfl) (by kernel_rfl) (by intro c d v a w h; cases d <;> exact h) (since (Below.refl _ _).drew) ?_
        refine otl_seq ?_
        repeat (first | (refine seqL_skip (by rfl) (by rfl) (by rfl) ?_; simp only [Act.put, List.setIfInBounds_toArray, List.set_cons_succ, List.set_cons_zero]) | (refine seqL_float (by rfl) (by rfl) (by rfl) (by rfl) ?_; intro K hK; go_big_quiet_op; go_big_quiet_on))
        refine seqL_nil (otl_two ?_ ?_)
        · refine seqL_chain (by rfl) ?_
          intro K hK
          go_wp2_with fail
          (with_reducible refine (Clone_kn l k cap ao w2.drew HKL.out (HK2.out.below (Below.refl _ _).drew).sl HK2.out.z (by omega)).mono ?_); rintro e w4 ⟨v4, rfl, hown4, hb4⟩
          have g4 : Below w2.heap.size w2 w4 := (Below.refl _ _).drew.trans hb4
          have HO4 := lid hown4
          clear hown4 hb4
          go_wp2_with fail
          refine hK.out _ _ (since g4) ?_
          clear hK K
          repeat (first | (refine seqL_skip (by rfl) (by rfl) (by rfl) ?_; simp only [Act.put, List.setIfInBounds_toArray, List.set_cons_succ, List.set_cons_zero]) | (refine seqL_float (by rfl) (by rfl) (by rfl) (by rfl) ?_; intro K hK; go_big_quiet_op; go_big_quiet_on))
          refine seqL_nil (otl_leaf ?_)
          refine seqL_chain (by rfl) ?_
          intro K hK
          go_wp2_with fail
          obtain ⟨w6, hw6⟩ : ∃ y, w4.alloc (.cells #[.slice a1 n1 c1, .bool bad] 55) = y := ⟨_, rfl⟩
          have h64 : Below w4.heap.size w4 w6 := by rw [← hw6]; exact ba _ _
          have HLAY : Hid (w6.heap[w4.heap.size]? = some (.cells #[.slice a1 n1 c1, .bool bad] 55 (0, 0))) := lid (by rw [← hw6]; exact h_new rfl _)
          have HOW : Hid (w6.ownsRow w2.heap.size 55 2 v4 k (kcells l)) := lid (ownsRow_below (ownsRow_base HO4.out (Nat.le_refl _)) h64)
          have HGA := lid (g4.trans (h64.mono g4.size))
          rw [hw6]
          clear hw6 h64 HO4
          refine hK.out _ _ (since HGA.out) ?_
          clear hK K
          repeat (first | (refine seqL_skip (by rfl) (by rfl) (by rfl) ?_; simp only [Act.put, List.setIfInBounds_toArray, List.set_cons_succ, List.set_cons_zero]) | (refine seqL_float (by rfl) (by rfl) (by rfl) (by rfl) ?_; intro K hK; go_big_quiet_op; go_big_quiet_on))
          refine seqL_chain (by rfl) ?_
          intro K hK
          go_wp2_with (at_builtin; go_must (refine wpList_append_sl rfl _ _ 22 rfl w2.heap.size 55 (.agg #[.slice none 0 0, .bool false]) 2 32 info_known Try.underlying22 rfl (by decide) _ _ _ HOW.out rfl _ 1 1 #[.slice a1 n1 c1, .bool bad].toList rfl (sl_one2 HLAY.out rfl) (by intro h; cases h) (by simp [Value.oneCell']) (by simp only [maxLen]; omega) (by omega) HGA.out.size ?_))
          intro v5 w5 hown5 hb5
          have g5 := HGA.out.trans hb5
          have HO5 : Hid (w5.ownsRow w2.heap.size 55 2 v5 (k + 1) (kcells (l ++ [⟨r.set, bad, a1, c1⟩]))) := lid (by
            rw [kcells_append]
            have e : kcells [⟨r.set, bad, a1, c1⟩] = #[.slice a1 n1 c1, .bool bad].toList := by
              show [Value.slice a1 r.set.length c1, Value.bool bad] = _
              rw [HI2.out.len]
            rw [e]
            exact hown5)
          have HG5 := lid g5
          have h5 := g5.size
          obtain ⟨ao5, cap5, rfl⟩ := own_slice HO5.out
          have RS5 := lid ((g5.block _ (row_lt HS2.out)).trans HS2.out)
          have RR5 := lid ((g5.block _ (row_lt HR2.out)).trans HR2.out)
          have b0 := row_cell RS5.out 0
          have b1 := row_cell RS5.out 1
          have e1 := row_fz RS5.out 1
          have f0 := row_cell RR5.out 0
          have f1 := row_cell RR5.out 1
          have i0 := row_fz RR5.out 0
          have i1 := row_fz RR5.out 1
          have lt0 := row_lt RS5.out
          have lt1 := row_lt RR5.out
          clear hown5 hb5 g5
          go_wp2_with fail
          refine hK.out _ _ (since HG5.out) ?_
          clear hK K
          repeat (first | (refine seqL_skip (by rfl) (by rfl) (by rfl) ?_; simp only [Act.put, List.setIfInBounds_toArray, List.set_cons_succ, List.set_cons_zero]) | (refine seqL_float (by rfl) (by rfl) (by rfl) (by rfl) ?_; intro K hK; go_big_quiet_op; go_big_quiet_on))
          refine seqL_last (by rfl) (by rfl) ?_
          intro K hK
          go_wp2_with fail
          refine hK.out _ _ ?_
          clear hK K
          go_wp2_with fail
          refine bodyPost_ret (res_tell rfl _ _ (w.heap.size + 1) _ _ _ _ _ rfl rfl (set2_row (row_other RR5.out (by omega)) _ _)) rfl ⟨r, l ++ [⟨r.set, bad, a1, c1⟩], k + 1, cap5, ao5, HE.out, by rw [HT.out]; rfl, ?_, by rw [HT.out]; simp [Kw.kn], ?_, set2_below ((HB2.out.trans (HG5.out.mono HB2.out.size)).setCell (p := ⟨w.heap.size, 1, none⟩) (Nat.le_refl _) _) (by omega), (fun b o e => by have := ownsRow_row HO5.out b (by rw [e]; rfl); have := HB2.out.size; omega), ?_⟩
          · exact ka_fin (own_cell (own_cell (own_cell HO5.out (by omega)) (by omega)) (by omega)) (fun q hq => by
              rcases List.mem_append.1 hq with hq | hq
              · exact (HK.out.below (set2_below ((HB2.out.trans (HG5.out.mono HB2.out.size)).setCell (p := ⟨w.heap.size, 1, none⟩) (Nat.le_refl _) _) (by omega))).ok q hq
              · rw [List.mem_singleton.1 hq]
                show IA _ a1 r.set.length c1 r.set
                rw [HI2.out.len]
                exact ia_set (ia_set (ia_set (HI2.out.below HG5.out) (fun b o e => by have := HFR.out b o e; omega)) (fun b o e => by have := HFR.out b o e; omega)) (fun b o e => by have := HFR.out b o e; omega))
          · intro q hq
            rcases List.mem_append.1 hq with hq | hq
            · exact HL.out q hq
            · rw [List.mem_singleton.1 hq]
              show r.set.length ≤ 20
              rw [← HSE.out, H2.out.len]
              exact hn2
          · intro q hq
            rcases List.mem_append.1 hq with hq | hq
            · exact .inl hq
            · rw [List.mem_singleton.1 hq]
              exact .inr (fun b o e => by have := HFR.out b o e; omega)
        · refine seqL_chain (by rfl) ?_
          intro K hK
          go_wp2_with fail
          obtain ⟨w6, hw6⟩ : ∃ y, (w2.alloc (.cells #[.slice a1 n1 c1, .bool bad] 55)).drew = y := ⟨_, rfl⟩
          have h6 : Below w2.heap.size w2 w6 := by rw [← hw6]; exact (ba _ _).drew
          have hlay : w6.heap[w2.heap.size]? = some (.cells #[.slice a1 n1 c1, .bool bad] 55 (0, 0)) := by
            rw [← hw6]
            show (w2.alloc _).heap[_]? = _
            exact h_new rfl _
          rw [hw6]
          have HL6 := lid hlay
          have HG6 := lid h6
          clear hw6 hlay
          refine hK.out _ _ (since h6) ?_
          clear hK K
          repeat (first | (refine seqL_skip (by rfl) (by rfl) (by rfl) ?_; simp only [Act.put, List.setIfInBounds_toArray, List.set_cons_succ, List.set_cons_zero]) | (refine seqL_float (by rfl) (by rfl) (by rfl) (by rfl) ?_; intro K hK; go_big_quiet_op; go_big_quiet_on))
          refine seqL_nil (otl_leaf ?_)
          refine seqL_chain (by rfl) ?_
          intro K hK
          go_wp2_with fail
          (with_reducible refine (Clone_kn l k cap ao w6 HKL.out (HK2.out.below HG6.out).sl HK2.out.z (by omega)).mono ?_); rintro e w4 ⟨v4, rfl, hown4, hb4⟩
          have g4 : Below w2.heap.size w2 w4 := HG6.out.trans (hb4.mono HG6.out.size)
          have HOW : Hid (w4.ownsRow w2.heap.size 55 2 v4 k (kcells l)) := lid (ownsRow_base hown4 HG6.out.size)
          have HLAY : Hid (w4.heap[w2.heap.size]? = some (.cells #[.slice a1 n1 c1, .bool bad] 55 (0, 0))) := lid ((hb4.block _ (row_lt HL6.out)).trans HL6.out)
          have HGA := lid g4
          clear hown4 hb4 h6
          go_wp2_with fail
          refine hK.out _ _ (since g4) ?_
          clear hK K
          repeat (first | (refine seqL_skip (by rfl) (by rfl) (by rfl) ?_; simp only [Act.put, List.setIfInBounds_toArray, List.set_cons_succ, List.set_cons_zero]) | (refine seqL_float (by rfl) (by rfl) (by rfl) (by rfl) ?_; intro K hK; go_big_quiet_op; go_big_quiet_on))
          refine seqL_chain (by rfl) ?_
          intro K hK
          go_wp2_with (at_builtin; go_must (refine wpList_append_sl rfl _ _ 22 rfl w2.heap.size 55 (.agg #[.slice none 0 0, .bool false]) 2 32 info_known Try.underlying22 rfl (by decide) _ _ _ HOW.out rfl _ 1 1 #[.slice a1 n1 c1, .bool bad].toList rfl (sl_one2 HLAY.out rfl) (by intro h; cases h) (by simp [Value.oneCell']) (by simp only [maxLen]; omega) (by omega) HGA.out.size ?_))
          intro v5 w5 hown5 hb5
          have g5 := HGA.out.trans hb5
          have HO5 : Hid (w5.ownsRow w2.heap.size 55 2 v5 (k + 1) (kcells (l ++ [⟨r.set, bad, a1, c1⟩]))) := lid (by
            rw [kcells_append]
            have e : kcells [⟨r.set, bad, a1, c1⟩] = #[.slice a1 n1 c1, .bool bad].toList := by
              show [Value.slice a1 r.set.length c1, Value.bool bad] = _
              rw [HI2.out.len]
            rw [e]
            exact hown5)
          have HG5 := lid g5
          have h5 := g5.size
          obtain ⟨ao5, cap5, rfl⟩ := own_slice HO5.out
          have RS5 := lid ((g5.block _ (row_lt HS2.out)).trans HS2.out)
          have RR5 := lid ((g5.block _ (row_lt HR2.out)).trans HR2.out)
          have b0 := row_cell RS5.out 0
          have b1 := row_cell RS5.out 1
          have e1 := row_fz RS5.out 1
          have f0 := row_cell RR5.out 0
          have f1 := row_cell RR5.out 1
          have i0 := row_fz RR5.out 0
          have i1 := row_fz RR5.out 1
          have lt0 := row_lt RS5.out
          have lt1 := row_lt RR5.out
          clear hown5 hb5 g5
          go_wp2_with fail
          refine hK.out _ _ (since HG5.out) ?_
          clear hK K
          repeat (first | (refine seqL_skip (by rfl) (by rfl) (by rfl) ?_; simp only [Act.put, List.setIfInBounds_toArray, List.set_cons_succ, List.set_cons_zero]) | (refine seqL_float (by rfl) (by rfl) (by rfl) (by rfl) ?_; intro K hK; go_big_quiet_op; go_big_quiet_on))
          refine seqL_last (by rfl) (by rfl) ?_
          intro K hK
          go_wp2_with fail
          refine hK.out _ _ ?_
          clear hK K
          go_wp2_with fail
          refine bodyPost_ret (res_tell rfl _ _ (w.heap.size + 1) _ _ _ _ _ rfl rfl (set2_row (row_other RR5.out (by omega)) _ _)) rfl ⟨r, l ++ [⟨r.set, bad, a1, c1⟩], k + 1, cap5, ao5, HE.out, by rw [HT.out]; rfl, ?_, by rw [HT.out]; simp [Kw.kn], ?_, set2_below ((HB2.out.trans (HG5.out.mono HB2.out.size)).setCell (p := ⟨w.heap.size, 1, none⟩) (Nat.le_refl _) _) (by omega), (fun b o e => by have := ownsRow_row HO5.out b (by rw [e]; rfl); have := HB2.out.size; omega), ?_⟩
          · exact ka_fin (own_cell (own_cell (own_cell HO5.out (by omega)) (by omega)) (by omega)) (fun q hq => by
              rcases List.mem_append.1 hq with hq | hq
              · exact (HK.out.below (set2_below ((HB2.out.trans (HG5.out.mono HB2.out.size)).setCell (p := ⟨w.heap.size, 1, none⟩) (Nat.le_refl _) _) (by omega))).ok q hq
              · rw [List.mem_singleton.1 hq]
                show IA _ a1 r.set.length c1 r.set
                rw [HI2.out.len]
                exact ia_set (ia_set (ia_set (HI2.out.below HG5.out) (fun b o e => by have := HFR.out b o e; omega)) (fun b o e => by have := HFR.out b o e; omega)) (fun b o e => by have := HFR.out b o e; omega))
          · intro q hq
            rcases List.mem_append.1 hq with hq | hq
            · exact HL.out q hq
            · rw [List.mem_singleton.1 hq]
              show r.set.length ≤ 20
              rw [← HSE.out, H2.out.len]
              exact hn2
          · intro q hq
            rcases List.mem_append.1 hq with hq | hq
            · exact .inl hq
            · rw [List.mem_singleton.1 hq]
              exact .inr (fun b o e => by have := HFR.out b o e; omega)
      · rw [decide_eq_false hse]
        have HT : Hid (tellE r set = 11) := lid (by unfold tellE; simp [HP.out.1, HP.out.2, hse])
        clear hse
        go_wp2_with fail
        exact bodyPost_ret (res_tell rfl _ _ (w.heap.size + 1) _ _ _ _ _ rfl rfl (set2_row HR2.out _ _)) rfl ⟨r, [], 0, 0, none, HE.out, by rw [HT.out]; rfl, ka_nil _, by rw [HT.out]; rfl, (fun q hq => by cases hq), set2_below HB2.out (by omega), (fun b o e => by cases e), (fun q hq => by cases hq)⟩
  · rw [stV_err h0]
    have HT : Hid (tellE r set = 1) := lid (by unfold tellE; simp [h0])
    have dne : (r.err != 0) = true := by simpa using h0
    clear h0
    go_wp2_with fail
    exact bodyPost_ret (res_tell rfl _ _ (w.heap.size + 1) _ _ _ _ _ rfl rfl ((h_old (by simp; omega) _).trans (set2_row HR.out _ _))) rfl ⟨r, [], 0, 0, none, HE.out, by rw [HT.out]; rfl, ka_nil _, by rw [HT.out]; rfl, (fun q hq => by cases hq), (set2_below HB.out (by omega)).alloc (by have := HB.out.size; simp; omega) _, (fun b o e => by cases e), (fun q hq => by cases hq)⟩
end Go.Proofs.Ytnjcoejnknpfoaa
