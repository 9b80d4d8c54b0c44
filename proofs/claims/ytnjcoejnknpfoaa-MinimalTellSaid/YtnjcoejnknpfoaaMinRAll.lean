/-
  all of the reference.
-/
import Derived.Test.YtnjcoejnknpfoaaMinRAsk
namespace Go.Proofs.Ytnjcoejnknpfoaa
open Go.RowKit Go.Shelf
/-- A question of the reference, its results named. -/
def AskO (kn : List Kn) (u : Nat) (xs : List Int) (a2 : Option Addr) (n2 c2 : Nat) (u' : Int) (aq : Option Addr) (nq cq : Nat) (sp b : Bool) : Prop :=
  (sp = false ∧ aq = none ∧ nq = 0 ∧ cq = 0 ∧ ∃ v : Nat, u' = v ∧ ask1 kn u xs = some (b, v)) ∨ (sp = true ∧ b = false ∧ u' = u ∧ aq = a2 ∧ nq = n2 ∧ cq = c2 ∧ ask1 kn u xs = none)
theorem refAsk2 (l : List Kw) (k cap : Nat) (ao : Option Addr) (u : Nat) (xs : List Int) (a2 : Option Addr) (n2 c2 : Nat) (w : World) (hk : k ≤ 100) (huk : u ≤ k) (h : KA w ao k cap l) (hl : ∀ r ∈ l, r.vs.length ≤ 20) (hx : IA w a2 n2 c2 xs) (hn2 : n2 ≤ 20) :
    Calls Try.prog 43 #[askV ao k cap u none 0 0 false, .slice a2 n2 c2] w fun e w' => ∃ (u' : Int) (aq : Option Addr) (nq cq : Nat) (sp b : Bool), e = .returned (.tuple #[askV ao k cap u' aq nq cq sp, .bool b]) ∧ AskO (l.map Kw.kn) u xs a2 n2 c2 u' aq nq cq sp b ∧ Below w.heap.size w w' := by
  refine (refAsk_any l k cap ao u none 0 0 xs a2 n2 c2 w hk huk h hl hx hn2).mono ?_
  rintro e w' ⟨hb, hm⟩
  cases hq : ask1 (l.map Kw.kn) u xs with
  | none =>
    rw [hq] at hm
    exact ⟨_, _, _, _, _, _, hm, .inr ⟨rfl, rfl, rfl, rfl, rfl, rfl, hq⟩, hb⟩
  | some z =>
    obtain ⟨b, v⟩ := z
    rw [hq] at hm
    exact ⟨_, _, _, _, _, _, hm, .inl ⟨rfl, rfl, rfl, rfl, v, rfl, hq⟩, hb⟩
/-- What the reference's runs give. -/
def rStP (kn : List Kn) (n : Nat) (w : World) (e : Ending) (w' : World) : Prop := ∃ (st : St) (a1 : Option Addr) (n1 c1 : Nat), Leads kn n st ∧ e = .returned (.agg #[.slice a1 n1 c1, .bool st.done, .int .i64 st.used]) ∧ IA w' a1 n1 c1 st.set ∧ Below w.heap.size w w' ∧ ∀ b o, a1 = some ⟨b, o, none⟩ → w.heap.size + 2 ≤ b
theorem res_state {fn : Func} (hf : fn.results = #[.cell 4 60]) (t : Array Value) (w : World) (q : Nat) (u : Int) (a1 : Option Addr) (n1 c1 : Nat) (dn : Bool) (h4 : t.getD 4 undef = .pointer (some ⟨q, 0, none⟩))
    (e : w.heap[q]? = some (.cells #[.slice a1 n1 c1, .bool dn, .int .i64 u] 60 (0, 0))) : (results fn t).run Try.prog w = .ok (.agg #[.slice a1 n1 c1, .bool dn, .int .i64 u]) w := by
  have e0 := row_cell e 0
  have e1 := row_cell e 1
  have e2 := row_cell e 2
  rw [Array.getD_eq_getD_getElem?] at h4
  unfold results
  rw [hf]
  simp [go_sem, h4, e0, e1, e2, asAddr]
theorem set3_row {W : World} {b : Nat} {x0 x1 x2 : Value} {t : TypeId} (h : W.heap[b]? = some (.cells #[x0, x1, x2] t (0, 0))) (v0 v1 v2 : Value) :
    (((W.setCell ⟨b, 0, none⟩ v0).setCell ⟨b, 1, none⟩ v1).setCell ⟨b, 2, none⟩ v2).heap[b]? = some (.cells #[v0, v1, v2] t (0, 0)) := by
  have := row_set (row_set (row_set h 0 v0) 1 v1) 2 v2
  simpa using this
theorem set3_below {W W0 : World} {b B : Nat} {v0 v1 v2 : Value} (h : Below B W0 W) (hb : B ≤ b) : Below B W0 (((W.setCell ⟨b, 0, none⟩ v0).setCell ⟨b, 1, none⟩ v1).setCell ⟨b, 2, none⟩ v2) :=
  ((h.setCell (p := ⟨b, 0, none⟩) hb _).setCell (p := ⟨b, 1, none⟩) hb _).setCell (p := ⟨b, 2, none⟩) hb _
theorem set3_ia {W : World} {ao : Option Addr} {n cap b0 : Nat} {l : List Int} {v0 v1 v2 : Value} (h : IA W ao n cap l) (hf : ∀ b o, ao = some ⟨b, o, none⟩ → b0 < b) : IA (((W.setCell ⟨b0, 0, none⟩ v0).setCell ⟨b0, 1, none⟩ v1).setCell ⟨b0, 2, none⟩ v2) ao n cap l :=
  ia_set (ia_set (ia_set h hf) hf) hf
theorem set3_keptx {W W' : World} {B X : Nat} {v0 v1 v2 : Value} (h : KeptX B X W W') : KeptX B X W (((W'.setCell ⟨X, 0, none⟩ v0).setCell ⟨X, 1, none⟩ v1).setCell ⟨X, 2, none⟩ v2) := by
  refine KeptX.setCell (p := ⟨X, 2, none⟩) ?_ (.inl rfl) v2
  refine KeptX.setCell (p := ⟨X, 1, none⟩) ?_ (.inl rfl) v1
  refine KeptX.setCell (p := ⟨X, 0, none⟩) ?_ (.inl rfl) v0
  exact h
theorem KeptX.ia {W W' : World} {X n cap : Nat} {ao : Option Addr} {l : List Int} (h : KeptX W.heap.size X W W') (hz : W.heap.size ≤ W'.heap.size) (hi : IA W ao n cap l) (hf : ∀ b o, ao = some ⟨b, o, none⟩ → b ≠ X) : IA W' ao n cap l := by
  refine ⟨hi.len, ⟨hi.sl.1, ?_⟩, hi.le, hi.max, hi.z⟩
  rcases hi.sl.2 with h0 | ⟨b, o, e, hb, hc⟩
  · exact .inl h0
  · refine .inr ⟨b, o, e, Nat.lt_of_lt_of_le hb hz, fun j u hu => ?_⟩
    rw [World.cell?_of_block (a := ⟨b, o + j, none⟩) (h b hb (hf b o e))]
    exact hc j u hu
theorem set4_keptx' {W W' : World} {B X : Nat} {v0 v1 v2 v3 : Value} (h : KeptX B X W W') : KeptX B X W ((((W'.setCell ⟨X, 0, none⟩ v0).setCell ⟨X, 1, none⟩ v1).setCell ⟨X, 2, none⟩ v2).setCell ⟨X, 3, none⟩ v3) := by
  refine KeptX.setCell (p := ⟨X, 3, none⟩) ?_ (.inl rfl) v3
  refine KeptX.setCell (p := ⟨X, 2, none⟩) ?_ (.inl rfl) v2
  refine KeptX.setCell (p := ⟨X, 1, none⟩) ?_ (.inl rfl) v1
  refine KeptX.setCell (p := ⟨X, 0, none⟩) ?_ (.inl rfl) v0
  exact h
theorem set4_far {W : World} {b c o : Nat} {v0 v1 v2 v3 : Value} (h : c ≠ b) : ((((W.setCell ⟨b, 0, none⟩ v0).setCell ⟨b, 1, none⟩ v1).setCell ⟨b, 2, none⟩ v2).setCell ⟨b, 3, none⟩ v3).cell? ⟨c, o, none⟩ = W.cell? ⟨c, o, none⟩ := by
  have h1 : ∀ i, (⟨c, o, none⟩ : Addr) ≠ ⟨b, i, none⟩ := fun i e => h (congrArg Addr.block e)
  rw [World.cell?_setCell_other _ _ _ _ (by first | exact h1 3 | exact (h1 3).symm), World.cell?_setCell_other _ _ _ _ (by first | exact h1 2 | exact (h1 2).symm), World.cell?_setCell_other _ _ _ _ (by first | exact h1 1 | exact (h1 1).symm), World.cell?_setCell_other _ _ _ _ (by first | exact h1 0 | exact (h1 0).symm)]
theorem run_none {kn : List Kn} {n u : Nat} {s : List Int} {r : List (List Int)} (h : ask1 kn u s = none) : runF kn n (s :: r) u = ⟨s, false, u⟩ := by
  rw [runF, h]
theorem run_bad {kn : List Kn} {n u v : Nat} {s : List Int} {r : List (List Int)} (h : ask1 kn u s = some (true, v)) : runF kn n (s :: r) u = ⟨s, true, v⟩ := by
  rw [runF, h]
theorem run_good {kn : List Kn} {n u v : Nat} {s : List Int} {r : List (List Int)} (h : ask1 kn u s = some (false, v)) : runF kn n (s :: r) u = runF kn n r v := by
  rw [runF, h]
set_option maxRecDepth 100000 in
set_option maxHeartbeats 8000000 in
theorem refAll_any (n : Nat) (hn5 : n ≤ 5) (l : List Kw) (k cap : Nat) (ao : Option Addr) (w : World) (hk : k ≤ 100) (h : KA w ao k cap l) (hl : ∀ r ∈ l, r.vs.length ≤ 20) :
    Calls Try.prog 39 #[askV ao k cap 0 none 0 0 false, .int .i64 n] w (rStP (l.map Kw.kn) n w) := by
  have HK := lid h
  have HL := lid hl
  obtain ⟨kn, hkn⟩ : ∃ y, l.map Kw.kn = y := ⟨_, rfl⟩
  have HKN := lid hkn
  have HKL : Hid (kn.length = k) := lid (by rw [← hkn, List.length_map]; exact h.len)
  have HASK : Hid (∀ (u : Nat) (xs : List Int) (a2 : Option Addr) (n2 c2 : Nat) (w1 : World), u ≤ k → Below w.heap.size w w1 → IA w1 a2 n2 c2 xs → n2 ≤ 20 → Calls Try.prog 43 #[askV ao k cap u none 0 0 false, .slice a2 n2 c2] w1 fun e w' => ∃ (u' : Int) (aq : Option Addr) (nq cq : Nat) (sp b : Bool), e = .returned (.tuple #[askV ao k cap u' aq nq cq sp, .bool b]) ∧ AskO kn u xs a2 n2 c2 u' aq nq cq sp b ∧ Below w1.heap.size w1 w') := lid (fun u xs a2 n2 c2 w1 hu hb hx hn => by
    rw [← hkn]
    exact refAsk2 l k cap ao u xs a2 n2 c2 w1 hk hu (h.below hb) hl hx hn)
  rw [hkn]
  have HLD : Hid (∀ st, st = runF kn n (fromK n 0) 0 → Leads kn n st) := lid (fun st e => by unfold Leads; rw [if_pos hn5]; exact e)
  clear h hl hkn
  go_enter Try.func39, Try.ntmps39
  go_wp2_with fail
  obtain ⟨W1, hW1⟩ : ∃ y, (w.alloc (.cells (askC ao k cap 0 none 0 0 false) 73)).alloc (.cells #[.slice none 0 0, .bool false, .int .i64 0] 60) = y := ⟨_, rfl⟩
  have g1 : Below w.heap.size w W1 := by rw [← hW1]; exact (ba _ _).alloc (by simp) _
  have rA : Hid (W1.heap[w.heap.size]? = some (.cells (askC ao k cap ((0 : Nat) : Int) none 0 0 false) 73 (0, 0))) := lid (by rw [← hW1]; exact (h_old (by simp) _).trans (h_new rfl _))
  have rR : Hid (W1.heap[w.heap.size + 1]? = some (.cells #[.slice none 0 0, .bool false, .int .i64 0] 60 (0, 0))) := lid (by rw [← hW1]; exact h_new (by simp) _)
  rw [hW1]
  clear hW1
  go_loopw [5, 6, 7, 8, 9] (fun jj _ _ _ _ wr => ∃ j u : Nat, j ≤ n ∧ u ≤ k ∧ jj = .int .i64 j ∧ Hid (runF kn n (fromK n 0) 0 = runF kn n (fromK n j) u) ∧ Hid (wr.heap[w.heap.size]? = some (.cells (askC ao k cap u none 0 0 false) 73 (0, 0))) ∧ Hid (wr.heap[w.heap.size + 1]? = some (.cells #[.slice none 0 0, .bool false, .int .i64 0] 60 (0, 0))) ∧ Below w.heap.size w wr) (fun jj _ _ _ _ _ => n - (intOf jj).toNat)
  case atStart => exact ⟨0, 0, Nat.zero_le _, Nat.zero_le _, rfl, lid rfl, rA, rR, g1⟩
  case round =>
    obtain ⟨j, u, hj, huk, rfl, HRUN, HA, HR, hb⟩ := hrel
    obtain ⟨wq, rfl⟩ : ∃ y, y = wr := ⟨_, rfl⟩
    by_cases hlt : j < n
    · have dj : decide ((j : Int) < (n : Int)) = true := by simp; omega
      have CI : Hid (Calls Try.prog 28 #[.int .i64 0, .int .i64 n, .int .i64 j] wq fun e w' => ∃ (rs : List Sw) (vo : Value), e = .returned vo ∧ rs.map Sw.vs = setsL n j 0 ∧ OutF w' wq.heap.size vo rs ∧ Below wq.heap.size wq w') := lid (Sets_any n (by omega) j (by omega) 0 (by omega) wq)
      go_wp2_with fail
      (with_reducible refine (CI.out).mono ?_); rintro e w2 ⟨r2, v2, rfl, hM2, hG2, hb2⟩
      obtain ⟨a2, c2, rfl, _⟩ := hG2.g.ga
      have HM2 := lid hM2
      have hr32 : r2.length ≤ 32 := by
        have h1 := congrArg List.length hM2
        rw [List.length_map] at h1
        have := sets_bound n (by omega) j (by omega) 0 (by omega)
        omega
      have HG2 := lid hG2
      have HF2 := lid hG2.fr
      have HA2 := lid ((hb2.block _ (row_lt HA.out)).trans HA.out)
      have HR2 := lid ((hb2.block _ (row_lt HR.out)).trans HR.out)
      have g2 := hb.trans (hb2.mono hb.size)
      have HRUN2 : Hid (runF kn n (fromK n 0) 0 = runF kn n ((setsL n j 0).drop 0 ++ fromK n (j + 1)) u) := lid (by rw [HRUN.out, fromK_step hlt, List.drop_zero])
      have HSZ := lid hb.size
      have HLT : Hid (w.heap.size + 1 < wq.heap.size) := lid (row_lt HR.out)
      have HW0 := lid (Nat.lt_of_lt_of_le (row_lt HR.out) hb2.size)
      clear CI hM2 hG2 hb2 HA HR hb HRUN
      go_wp2_with fail
      obtain ⟨u0, hu0⟩ : ∃ y, y = u := ⟨_, rfl⟩
      rw [← hu0] at huk HA2 HRUN2
      clear hu0
      go_loopw [7, 8, 9] (fun i _ _ wr => ∃ p u : Nat, p ≤ r2.length ∧ u ≤ k ∧ i = .int .i64 p ∧ Hid (runF kn n (fromK n 0) 0 = runF kn n ((setsL n j 0).drop p ++ fromK n (j + 1)) u) ∧ Hid (wr.heap[w.heap.size]? = some (.cells (askC ao k cap u none 0 0 false) 73 (0, 0))) ∧ Hid (wr.heap[w.heap.size + 1]? = some (.cells #[.slice none 0 0, .bool false, .int .i64 0] 60 (0, 0))) ∧ Hid (KeptX w2.heap.size w.heap.size w2 wr) ∧ w2.heap.size ≤ wr.heap.size ∧ Below w.heap.size w wr) (fun i _ _ _ => r2.length - (intOf i).toNat)
      case atStart => exact ⟨0, u0, Nat.zero_le _, huk, rfl, HRUN2, HA2, HR2, lid (KeptX.refl _ _ _), Nat.le_refl _, g2⟩
      case round =>
        obtain ⟨p, u, hp, huk, rfl, HRUN, HA, HR, HKX, hsz, hb⟩ := hrel
        have lA := row_lt HA.out
        have lR := row_lt HR.out
        have p0 := row_cell HA.out 0
        have p1 := row_cell HA.out 1
        have p2 := row_cell HA.out 2
        have p3 := row_cell HA.out 3
        by_cases hpl : p < r2.length
        · have dp : decide ((p : Int) < (r2.length : Int)) = true := by simp; omega
          obtain ⟨b1, o1, rfl, hlb, hcell⟩ := (own_sl HG2.out.g.own).at_ hpl
          have hlbr : b1 < wr.heap.size := Nat.lt_of_lt_of_le hlb hsz
          have hb1X : b1 ≠ w.heap.size := by
            have h1 := ownsRow_row HG2.out.g.own b1 rfl
            have := HLT.out
            omega
          have x0 := (World.cell?_of_block (a := ⟨b1, o1 + p, none⟩) (HKX.out b1 hlb hb1X)).trans (hcell p _ (gcells_at hpl))
          have HDROP : Hid ((setsL n j 0).drop p = (r2[p]).vs :: (setsL n j 0).drop (p + 1)) := lid (by
            have hpl' : p < (setsL n j 0).length := by rw [← HM2.out, List.length_map]; exact hpl
            rw [List.drop_eq_getElem_cons hpl']
            congr 1
            simp only [← HM2.out, List.getElem_map])
          have HI := lid (KeptX.ia HKX.out hsz (HG2.out.g.ok _ (List.getElem_mem hpl)) (fun b o e => by
            have h1 := (HF2.out _ (List.getElem_mem hpl) b o e).1
            have := HLT.out
            omega))
          have HL5 : Hid ((r2[p]).vs.length = j) := lid (setsL_len' n j 0 _ (by rw [← HM2.out]; exact List.mem_map.2 ⟨_, List.getElem_mem hpl, rfl⟩))
          have HXB : Hid (∀ b o, (r2[p]).ao = some ⟨b, o, none⟩ → w.heap.size + 1 < b) := lid (fun b o e => by
            have h1 := (HF2.out _ (List.getElem_mem hpl) b o e).1
            have := HLT.out
            omega)
          obtain ⟨x, hx⟩ : ∃ x, r2[p] = x := ⟨_, rfl⟩
          rw [hx] at x0 HDROP HI HL5 HXB
          obtain ⟨m, hm⟩ : ∃ m, x.vs.length = m := ⟨_, rfl⟩
          have HLM := lid hm
          rw [hm] at HI HL5
          replace x0 : wr.cell? ⟨b1, o1 + p, none⟩ = some (.slice x.ao m x.cap) := by rw [x0, ← hm]
          have hm5 : m ≤ 5 := by rw [HL5.out]; omega
          have CE := lid (fun (w5 : World) (hb5 : Below wr.heap.size wr w5) => HASK.out u x.vs x.ao m x.cap w5 huk (hb.trans (hb5.mono hb.size)) (HI.out.below hb5) (by omega))
          have y1 := hcell
          clear hcell hx hm y1
          go_wp2_with fail
          refine wp_region_two (fun w' => ∃ s : Since wr.heap.size wr, w' = s.world) [(0, true), (1, true), (2, true), (3, true), (4, true)] 5 9 [(6, true), (7, true), (8, true), (9, false), (10, false), (11, false)] [(5, false), (6, true), (7, true), (8, true), (10, false), (11, false)] (by kernel_rfl) (by kernel_rfl) (by intro c d v a w h; first | (cases d <;> exact h) | cases h.1) (since (Below.refl _ _).drew) ?_
          repeat (first | (refine seq_skip (by rfl) (by rfl) ?_; simp only [Act.put, List.setIfInBounds_toArray, List.set_cons_succ, List.set_cons_zero]) | (refine seq_float (by rfl) (by rfl) (by rfl) ?_; intro K hK; go_big_quiet_op; go_big_quiet_on))
          refine seq_nil ⟨?_, ?_⟩
          · refine seq_chain (by rfl) ?_
            intro K hK
            go_wp2_with fail
            (with_reducible refine (CE.out _ (Below.refl _ _).drew).mono ?_); rintro e w4 ⟨u1, aq, nq, cq, sp, b, rfl, HO, hb4⟩
            have g4 : Below wr.heap.size wr w4 := (Below.refl _ _).drew.trans hb4
            have h4 := g4.size
            go_wp2_with fail
            refine hK.out _ _ (since g4) ?_
            clear hK K
            repeat (first | (refine seq_skip (by rfl) (by rfl) ?_; simp only [Act.put, List.setIfInBounds_toArray, List.set_cons_succ, List.set_cons_zero]) | (refine seq_float (by rfl) (by rfl) (by rfl) ?_; intro K hK; go_big_quiet_op; go_big_quiet_on))
            refine seq_chain (by rfl) ?_
            intro K hK
            go_wp2_with fail
            refine hK.out _ _ (since (g4.alloc g4.size _)) ?_
            clear hK K
            repeat (first | (refine seq_skip (by rfl) (by rfl) ?_; simp only [Act.put, List.setIfInBounds_toArray, List.set_cons_succ, List.set_cons_zero]) | (refine seq_float (by rfl) (by rfl) (by rfl) ?_; intro K hK; go_big_quiet_op; go_big_quiet_on))
            refine seq_chain (by rfl) ?_
            intro K hK
            go_wp2_with fail
            go_wp2_with fail
            refine hK.out _ _ (since (g4.alloc g4.size _)) ?_
            clear hK K
            repeat (first | (refine seq_skip (by rfl) (by rfl) ?_; simp only [Act.put, List.setIfInBounds_toArray, List.set_cons_succ, List.set_cons_zero]) | (refine seq_float (by rfl) (by rfl) (by rfl) ?_; intro K hK; go_big_quiet_op; go_big_quiet_on))
            refine seq_chain (by rfl) ?_
            intro K hK
            go_wp2_with fail
            refine hK.out _ _ (since (g4.alloc g4.size _)) ?_
            clear hK K
            repeat (first | (refine seq_skip (by rfl) (by rfl) ?_; simp only [Act.put, List.setIfInBounds_toArray, List.set_cons_succ, List.set_cons_zero]) | (refine seq_float (by rfl) (by rfl) (by rfl) ?_; intro K hK; go_big_quiet_op; go_big_quiet_on))
            refine seq_nil ?_
            obtain ⟨W9, hW9⟩ : ∃ y, w4.alloc (.cells (askC ao k cap u1 aq nq cq sp) 73) = y := ⟨_, rfl⟩
            have g9 : Below wr.heap.size wr W9 := by rw [← hW9]; exact g4.alloc g4.size _
            have r9 : Hid (W9.heap[w4.heap.size]? = some (.cells (askC ao k cap u1 aq nq cq sp) 73 (0, 0))) := lid (by rw [← hW9]; exact h_new rfl _)
            obtain ⟨b9, hb9⟩ : ∃ y, w4.heap.size = y := ⟨_, rfl⟩
            rw [hW9]
            rw [hb9] at r9 h4 ⊢
            clear hW9 hb9 g4 hb4
            have HAW := lid ((g9.block _ lA).trans HA.out)
            have HRW := lid ((g9.block _ lR).trans HR.out)
            have hz9 := g9.size
            have hb09 := hb.trans (g9.mono hb.size)
            have HKX9 : Hid (KeptX w2.heap.size w.heap.size w2 W9) := lid (fun q hq hx => (g9.block q (Nat.lt_of_lt_of_le hq hsz)).trans (HKX.out q hq hx))
            have HI9 := lid (HI.out.below g9)
            have HX9 := lid ((bc g9 hlbr _).trans x0)
            have lA9 := row_lt HAW.out
            have lR9 := row_lt HRW.out
            have l9 := row_lt r9.out
            clear p0 p1 p2 p3 x0 CE HI HA HR HKX hb g9
            have q0 := row_cell r9.out 0
            have q1 := row_cell r9.out 1
            have q2 := row_cell r9.out 2
            have q3 := row_cell r9.out 3
            have p0 := row_cell HAW.out 0
            have p1 := row_cell HAW.out 1
            have p2 := row_cell HAW.out 2
            have p3 := row_cell HAW.out 3
            have f0 := row_fz HAW.out 0
            have f1 := row_fz HAW.out 1
            have f2 := row_fz HAW.out 2
            have f3 := row_fz HAW.out 3
            have y0 := row_cell HRW.out 0
            have y1 := row_cell HRW.out 1
            have y2 := row_cell HRW.out 2
            have z0 := row_fz HRW.out 0
            have z1 := row_fz HRW.out 1
            have z2 := row_fz HRW.out 2
            have HNE : Hid (b9 ≠ w.heap.size) := lid (by omega)
            have HOO := lid HO
            clear HO
            rcases HOO.out with ⟨rfl, rfl, rfl, rfl, v, rfl, hq⟩ | ⟨rfl, rfl, rfl, rfl, rfl, rfl, hq⟩
            · have HQ := lid hq
              clear hq HOO
              cases b with
              | false =>
                go_wp2_with fail
                go_roundw
                case rel => exact ⟨p + 1, v, by omega, by have := (ask1_le HQ.out (by rw [HKL.out]; exact huk)).2; rw [HKL.out] at this; exact this, by go_num, lid (by rw [HRUN.out, HDROP.out, List.cons_append, run_good HQ.out]), lid (set4_row HAW.out _ _ _ _), lid (row_other (row_other (row_other (row_other HRW.out (by omega)) (by omega)) (by omega)) (by omega)), lid (set4_keptx' HKX9.out), (by simp only [World.size_setCell]; omega), set4_below hb09 (Nat.le_refl _)⟩
                case measure => simp [intOf]; omega
              | true =>
                go_wp2_with fail
                obtain ⟨W13, hW13⟩ : ∃ y, (((W9.setCell ⟨w.heap.size, 0, none⟩ (.slice ao k cap)).setCell ⟨w.heap.size, 1, none⟩ (.int .i64 v)).setCell ⟨w.heap.size, 2, none⟩ (.slice none 0 0)).setCell ⟨w.heap.size, 3, none⟩ (.bool false) = y := ⟨_, rfl⟩
                have RA13 : Hid (W13.heap[w.heap.size]? = some (.cells (askC ao k cap v none 0 0 false) 73 (0, 0))) := lid (by rw [← hW13]; exact set4_row HAW.out _ _ _ _)
                have RR13 : Hid (W13.heap[w.heap.size + 1]? = some (.cells #[.slice none 0 0, .bool false, .int .i64 0] 60 (0, 0))) := lid (by rw [← hW13]; exact row_other (row_other (row_other (row_other HRW.out (by omega)) (by omega)) (by omega)) (by omega))
                have HX13 : Hid (W13.cell? ⟨b1, o1 + p, none⟩ = some (.slice x.ao m x.cap)) := lid (by rw [← hW13, set4_far hb1X]; exact HX9.out)
                have hz13 : W13.heap.size = W9.heap.size := by rw [← hW13]; simp only [World.size_setCell]
                have HI13 : Hid (IA W13 x.ao m x.cap x.vs) := lid (by rw [← hW13]; exact set4_ia HI9.out (fun b o e => by have := HXB.out b o e; omega))
                have HB13 : Hid (Below w.heap.size w W13) := lid (by rw [← hW13]; exact set4_below hb09 (Nat.le_refl _))
                rw [hW13]
                have lA13 := row_lt RA13.out
                have lR13 := row_lt RR13.out
                have lb13 : b1 < W13.heap.size := by omega
                have hb1R : b1 ≠ w.heap.size + 1 := by
                  have h1 := ownsRow_row HG2.out.g.own b1 rfl
                  have := HLT.out
                  omega
                have t0 := SinceX.cell (B := W13.heap.size) (X := w.heap.size + 1) (W := W13) w.heap.size 1 lA13 (by omega) (row_cell RA13.out 1)
                have t1 := SinceX.cell (B := W13.heap.size) (X := w.heap.size + 1) (W := W13) b1 (o1 + p) lb13 hb1R HX13.out
                clear hW13 p0 p1 p2 p3 f0 f1 f2 f3 q0 q1 q2 q3
                replace y0 := row_cell RR13.out 0
                replace z0 := row_fz RR13.out 0
                replace y1 := row_cell RR13.out 1
                replace z1 := row_fz RR13.out 1
                replace y2 := row_cell RR13.out 2
                replace z2 := row_fz RR13.out 2
                refine wp_region_seq (fun w' => ∃ s : SinceX W13.heap.size (w.heap.size + 1) W13, w' = s.world) [(0, true), (1, true), (2, true), (3, true), (4, true), (5, true), (6, true), (7, false)] (by kernel_rfl) (by kernel_rfl) (by intro c d v a w h; first | (cases d <;> exact h) | cases h.1) (sincex (KeptX.refl _ _ _).drew) ?_
                repeat (first | (refine seq_skip (by rfl) (by rfl) ?_; simp only [Act.put, List.setIfInBounds_toArray, List.set_cons_succ, List.set_cons_zero]) | (refine seq_float (by rfl) (by rfl) (by rfl) ?_; intro K hK; go_big_quiet_op; go_big_quiet_on))
                refine seq_chain (by rfl) ?_
                intro K hK
                go_wp2_with fail
                obtain ⟨W14, hW14⟩ : ∃ y, (((W13.setCell ⟨w.heap.size + 1, 0, none⟩ (.slice x.ao m x.cap)).setCell ⟨w.heap.size + 1, 1, none⟩ (.bool true)).setCell ⟨w.heap.size + 1, 2, none⟩ (.int .i64 v)).drew = y := ⟨_, rfl⟩
                have hX14 : KeptX W13.heap.size (w.heap.size + 1) W13 W14 := by rw [← hW14]; exact (set3_keptx (KeptX.refl _ _ _)).drew
                have RR14 : Hid (W14.heap[w.heap.size + 1]? = some (.cells #[.slice x.ao m x.cap, .bool true, .int .i64 v] 60 (0, 0))) := lid (by rw [← hW14]; exact set3_row RR13.out _ _ _)
                have HI14 : Hid (IA W14 x.ao m x.cap x.vs) := lid (by rw [← hW14]; exact (set3_ia HI13.out (fun b o e => by have := HXB.out b o e; omega)).below (Below.refl _ _).drew)
                have HB14 : Hid (Below w.heap.size w W14) := lid (by rw [← hW14]; exact (set3_below HB13.out (by omega)).drew)
                rw [hW14]
                clear hW14
                refine hK.out _ _ (sincex hX14) ?_
                clear hK K
                repeat (first | (refine seq_skip (by rfl) (by rfl) ?_; simp only [Act.put, List.setIfInBounds_toArray, List.set_cons_succ, List.set_cons_zero]) | (refine seq_float (by rfl) (by rfl) (by rfl) ?_; intro K hK; go_big_quiet_op; go_big_quiet_on))
                refine seq_nil ?_
                go_wp2_with fail
                exact bodyPost_ret (res_state rfl _ _ (w.heap.size + 1) _ _ _ _ _ rfl RR14.out) rfl ⟨⟨x.vs, true, v⟩, x.ao, m, x.cap, HLD.out _ (by rw [HRUN.out, HDROP.out, List.cons_append, run_bad HQ.out]), rfl, HI14.out, HB14.out, fun b o e => HXB.out b o e⟩
            · have HQ := lid hq
              clear hq HOO
              go_wp2_with fail
              exact bodyPost_ret (res_state rfl _ _ (w.heap.size + 1) _ _ _ _ _ rfl (set3_row (row_other (row_other (row_other (row_other HRW.out (by omega)) (by omega)) (by omega)) (by omega)) _ _ _)) rfl ⟨⟨x.vs, false, u⟩, x.ao, _, x.cap, HLD.out _ (by rw [HRUN.out, HDROP.out, List.cons_append, run_none HQ.out]), rfl, set3_ia (set4_ia HI9.out (fun b o e => by have := HXB.out b o e; omega)) (fun b o e => by have := HXB.out b o e; omega), set3_below (set4_below hb09 (Nat.le_refl _)) (by omega), fun b o e => HXB.out b o e⟩
          · refine seq_chain (by rfl) ?_
            intro K hK
            go_wp2_with fail
            obtain ⟨W5, hW5⟩ : ∃ y, (wr.alloc (.cells #[.slice none 0 0, .int .i64 0, .slice none 0 0, .bool false] 73)).drew = y := ⟨_, rfl⟩
            have h5 : Below wr.heap.size wr W5 := by rw [← hW5]; exact (ba _ _).drew
            have rB5 : W5.heap[wr.heap.size]? = some (.cells #[.slice none 0 0, .int .i64 0, .slice none 0 0, .bool false] 73 (0, 0)) := by
              rw [← hW5]
              show (wr.alloc _).heap[_]? = _
              exact h_new rfl _
            rw [hW5]
            clear hW5
            refine hK.out _ _ (since h5) ?_
            clear hK K
            repeat (first | (refine seq_skip (by rfl) (by rfl) ?_; simp only [Act.put, List.setIfInBounds_toArray, List.set_cons_succ, List.set_cons_zero]) | (refine seq_float (by rfl) (by rfl) (by rfl) ?_; intro K hK; go_big_quiet_op; go_big_quiet_on))
            refine seq_chain (by rfl) ?_
            intro K hK
            go_wp2_with fail
            (with_reducible refine (CE.out _ h5).mono ?_); rintro e w4 ⟨u1, aq, nq, cq, sp, b, rfl, HO, hb4⟩
            have g4 : Below wr.heap.size wr w4 := h5.trans (hb4.mono h5.size)
            have rB4 := lid ((hb4.block _ (row_lt rB5)).trans rB5)
            have lB4 := row_lt rB4.out
            clear rB5 hb4 h5
            go_wp2_with fail
            refine hK.out _ _ (since g4) ?_
            clear hK K
            repeat (first | (refine seq_skip (by rfl) (by rfl) ?_; simp only [Act.put, List.setIfInBounds_toArray, List.set_cons_succ, List.set_cons_zero]) | (refine seq_float (by rfl) (by rfl) (by rfl) ?_; intro K hK; go_big_quiet_op; go_big_quiet_on))
            have v0 := row_cell rB4.out 0
            have v1 := row_cell rB4.out 1
            have v2 := row_cell rB4.out 2
            have v3 := row_cell rB4.out 3
            have d0 := row_fz rB4.out 0
            have d1 := row_fz rB4.out 1
            have d2 := row_fz rB4.out 2
            have d3 := row_fz rB4.out 3
            refine seq_chain (by rfl) ?_
            intro K hK
            go_wp2_with fail
            obtain ⟨W9, hW9⟩ : ∃ y, (((w4.setCell ⟨wr.heap.size, 0, none⟩ (.slice ao k cap)).setCell ⟨wr.heap.size, 1, none⟩ (.int .i64 u1)).setCell ⟨wr.heap.size, 2, none⟩ (.slice aq nq cq)).setCell ⟨wr.heap.size, 3, none⟩ (.bool sp) = y := ⟨_, rfl⟩
            have g9 : Below wr.heap.size wr W9 := by rw [← hW9]; exact set4_below g4 (Nat.le_refl _)
            have r9 : Hid (W9.heap[wr.heap.size]? = some (.cells (askC ao k cap u1 aq nq cq sp) 73 (0, 0))) := lid (by rw [← hW9]; exact set4_row rB4.out _ _ _ _)
            rw [hW9]
            clear hW9 v0 v1 v2 v3 d0 d1 d2 d3 rB4 lB4
            refine hK.out _ _ (since g9) ?_
            clear hK K
            repeat (first | (refine seq_skip (by rfl) (by rfl) ?_; simp only [Act.put, List.setIfInBounds_toArray, List.set_cons_succ, List.set_cons_zero]) | (refine seq_float (by rfl) (by rfl) (by rfl) ?_; intro K hK; go_big_quiet_op; go_big_quiet_on))
            refine seq_chain (by rfl) ?_
            intro K hK
            go_wp2_with fail
            refine hK.out _ _ (since g9) ?_
            clear hK K
            repeat (first | (refine seq_skip (by rfl) (by rfl) ?_; simp only [Act.put, List.setIfInBounds_toArray, List.set_cons_succ, List.set_cons_zero]) | (refine seq_float (by rfl) (by rfl) (by rfl) ?_; intro K hK; go_big_quiet_op; go_big_quiet_on))
            refine seq_nil ?_
            obtain ⟨b9, hb9⟩ : ∃ y, wr.heap.size = y := ⟨_, rfl⟩
            have h4 : wr.heap.size ≤ b9 := by omega
            rw [hb9] at r9 ⊢
            clear hb9 g4
            have HAW := lid ((g9.block _ lA).trans HA.out)
            have HRW := lid ((g9.block _ lR).trans HR.out)
            have hz9 := g9.size
            have hb09 := hb.trans (g9.mono hb.size)
            have HKX9 : Hid (KeptX w2.heap.size w.heap.size w2 W9) := lid (fun q hq hx => (g9.block q (Nat.lt_of_lt_of_le hq hsz)).trans (HKX.out q hq hx))
            have HI9 := lid (HI.out.below g9)
            have HX9 := lid ((bc g9 hlbr _).trans x0)
            have lA9 := row_lt HAW.out
            have lR9 := row_lt HRW.out
            have l9 := row_lt r9.out
            clear p0 p1 p2 p3 x0 CE HI HA HR HKX hb g9
            have q0 := row_cell r9.out 0
            have q1 := row_cell r9.out 1
            have q2 := row_cell r9.out 2
            have q3 := row_cell r9.out 3
            have p0 := row_cell HAW.out 0
            have p1 := row_cell HAW.out 1
            have p2 := row_cell HAW.out 2
            have p3 := row_cell HAW.out 3
            have f0 := row_fz HAW.out 0
            have f1 := row_fz HAW.out 1
            have f2 := row_fz HAW.out 2
            have f3 := row_fz HAW.out 3
            have y0 := row_cell HRW.out 0
            have y1 := row_cell HRW.out 1
            have y2 := row_cell HRW.out 2
            have z0 := row_fz HRW.out 0
            have z1 := row_fz HRW.out 1
            have z2 := row_fz HRW.out 2
            have HNE : Hid (b9 ≠ w.heap.size) := lid (by omega)
            have HOO := lid HO
            clear HO
            rcases HOO.out with ⟨rfl, rfl, rfl, rfl, v, rfl, hq⟩ | ⟨rfl, rfl, rfl, rfl, rfl, rfl, hq⟩
            · have HQ := lid hq
              clear hq HOO
              cases b with
              | false =>
                go_wp2_with fail
                go_roundw
                case rel => exact ⟨p + 1, v, by omega, by have := (ask1_le HQ.out (by rw [HKL.out]; exact huk)).2; rw [HKL.out] at this; exact this, by go_num, lid (by rw [HRUN.out, HDROP.out, List.cons_append, run_good HQ.out]), lid (set4_row HAW.out _ _ _ _), lid (row_other (row_other (row_other (row_other HRW.out (by omega)) (by omega)) (by omega)) (by omega)), lid (set4_keptx' HKX9.out), (by simp only [World.size_setCell]; omega), set4_below hb09 (Nat.le_refl _)⟩
                case measure => simp [intOf]; omega
              | true =>
                go_wp2_with fail
                obtain ⟨W13, hW13⟩ : ∃ y, (((W9.setCell ⟨w.heap.size, 0, none⟩ (.slice ao k cap)).setCell ⟨w.heap.size, 1, none⟩ (.int .i64 v)).setCell ⟨w.heap.size, 2, none⟩ (.slice none 0 0)).setCell ⟨w.heap.size, 3, none⟩ (.bool false) = y := ⟨_, rfl⟩
                have RA13 : Hid (W13.heap[w.heap.size]? = some (.cells (askC ao k cap v none 0 0 false) 73 (0, 0))) := lid (by rw [← hW13]; exact set4_row HAW.out _ _ _ _)
                have RR13 : Hid (W13.heap[w.heap.size + 1]? = some (.cells #[.slice none 0 0, .bool false, .int .i64 0] 60 (0, 0))) := lid (by rw [← hW13]; exact row_other (row_other (row_other (row_other HRW.out (by omega)) (by omega)) (by omega)) (by omega))
                have HX13 : Hid (W13.cell? ⟨b1, o1 + p, none⟩ = some (.slice x.ao m x.cap)) := lid (by rw [← hW13, set4_far hb1X]; exact HX9.out)
                have hz13 : W13.heap.size = W9.heap.size := by rw [← hW13]; simp only [World.size_setCell]
                have HI13 : Hid (IA W13 x.ao m x.cap x.vs) := lid (by rw [← hW13]; exact set4_ia HI9.out (fun b o e => by have := HXB.out b o e; omega))
                have HB13 : Hid (Below w.heap.size w W13) := lid (by rw [← hW13]; exact set4_below hb09 (Nat.le_refl _))
                rw [hW13]
                have lA13 := row_lt RA13.out
                have lR13 := row_lt RR13.out
                have lb13 : b1 < W13.heap.size := by omega
                have hb1R : b1 ≠ w.heap.size + 1 := by
                  have h1 := ownsRow_row HG2.out.g.own b1 rfl
                  have := HLT.out
                  omega
                have t0 := SinceX.cell (B := W13.heap.size) (X := w.heap.size + 1) (W := W13) w.heap.size 1 lA13 (by omega) (row_cell RA13.out 1)
                have t1 := SinceX.cell (B := W13.heap.size) (X := w.heap.size + 1) (W := W13) b1 (o1 + p) lb13 hb1R HX13.out
                clear hW13 p0 p1 p2 p3 f0 f1 f2 f3 q0 q1 q2 q3
                replace y0 := row_cell RR13.out 0
                replace z0 := row_fz RR13.out 0
                replace y1 := row_cell RR13.out 1
                replace z1 := row_fz RR13.out 1
                replace y2 := row_cell RR13.out 2
                replace z2 := row_fz RR13.out 2
                refine wp_region_seq (fun w' => ∃ s : SinceX W13.heap.size (w.heap.size + 1) W13, w' = s.world) [(0, true), (1, true), (2, true), (3, true), (4, true), (5, true), (6, true), (7, false)] (by kernel_rfl) (by kernel_rfl) (by intro c d v a w h; first | (cases d <;> exact h) | cases h.1) (sincex (KeptX.refl _ _ _).drew) ?_
                repeat (first | (refine seq_skip (by rfl) (by rfl) ?_; simp only [Act.put, List.setIfInBounds_toArray, List.set_cons_succ, List.set_cons_zero]) | (refine seq_float (by rfl) (by rfl) (by rfl) ?_; intro K hK; go_big_quiet_op; go_big_quiet_on))
                refine seq_chain (by rfl) ?_
                intro K hK
                go_wp2_with fail
                obtain ⟨W14, hW14⟩ : ∃ y, (((W13.setCell ⟨w.heap.size + 1, 0, none⟩ (.slice x.ao m x.cap)).setCell ⟨w.heap.size + 1, 1, none⟩ (.bool true)).setCell ⟨w.heap.size + 1, 2, none⟩ (.int .i64 v)).drew = y := ⟨_, rfl⟩
                have hX14 : KeptX W13.heap.size (w.heap.size + 1) W13 W14 := by rw [← hW14]; exact (set3_keptx (KeptX.refl _ _ _)).drew
                have RR14 : Hid (W14.heap[w.heap.size + 1]? = some (.cells #[.slice x.ao m x.cap, .bool true, .int .i64 v] 60 (0, 0))) := lid (by rw [← hW14]; exact set3_row RR13.out _ _ _)
                have HI14 : Hid (IA W14 x.ao m x.cap x.vs) := lid (by rw [← hW14]; exact (set3_ia HI13.out (fun b o e => by have := HXB.out b o e; omega)).below (Below.refl _ _).drew)
                have HB14 : Hid (Below w.heap.size w W14) := lid (by rw [← hW14]; exact (set3_below HB13.out (by omega)).drew)
                rw [hW14]
                clear hW14
                refine hK.out _ _ (sincex hX14) ?_
                clear hK K
                repeat (first | (refine seq_skip (by rfl) (by rfl) ?_; simp only [Act.put, List.setIfInBounds_toArray, List.set_cons_succ, List.set_cons_zero]) | (refine seq_float (by rfl) (by rfl) (by rfl) ?_; intro K hK; go_big_quiet_op; go_big_quiet_on))
                refine seq_nil ?_
                go_wp2_with fail
                exact bodyPost_ret (res_state rfl _ _ (w.heap.size + 1) _ _ _ _ _ rfl RR14.out) rfl ⟨⟨x.vs, true, v⟩, x.ao, m, x.cap, HLD.out _ (by rw [HRUN.out, HDROP.out, List.cons_append, run_bad HQ.out]), rfl, HI14.out, HB14.out, fun b o e => HXB.out b o e⟩
            · have HQ := lid hq
              clear hq HOO
              go_wp2_with fail
              exact bodyPost_ret (res_state rfl _ _ (w.heap.size + 1) _ _ _ _ _ rfl (set3_row (row_other (row_other (row_other (row_other HRW.out (by omega)) (by omega)) (by omega)) (by omega)) _ _ _)) rfl ⟨⟨x.vs, false, u⟩, x.ao, _, x.cap, HLD.out _ (by rw [HRUN.out, HDROP.out, List.cons_append, run_none HQ.out]), rfl, set3_ia (set4_ia HI9.out (fun b o e => by have := HXB.out b o e; omega)) (fun b o e => by have := HXB.out b o e; omega), set3_below (set4_below hb09 (Nat.le_refl _)) (by omega), fun b o e => HXB.out b o e⟩
        · obtain rfl : p = r2.length := by omega
          have dp : decide ((r2.length : Int) < (r2.length : Int)) = false := by simp
          have HRUN3 : Hid (runF kn n (fromK n 0) 0 = runF kn n (fromK n (j + 1)) u) := lid (by rw [HRUN.out, List.drop_of_length_le (by rw [← HM2.out, List.length_map]; exact Nat.le_refl _), List.nil_append])
          go_wp2_with fail
          go_roundw
          case rel => exact ⟨j + 1, u, by omega, huk, by go_num, HRUN3, HA, HR, hb⟩
          case measure => simp [intOf]; omega
    · obtain rfl : j = n := by omega
      have dj : decide ((j : Int) < (j : Int)) = false := by simp
      have HQ : Hid (runF kn j (fromK j 0) 0 = ⟨upto j, true, u⟩) := lid (by rw [HRUN.out, fromK_none (Nat.le_refl _)]; rfl)
      have lA := row_lt HA.out
      have lR := row_lt HR.out
      have t0 := SinceX.cell (B := wq.heap.size) (X := w.heap.size + 1) (W := wq) w.heap.size 1 lA (by omega) (row_cell HA.out 1)
      go_wp2_with fail
      refine wp_region_seq (fun w' => ∃ s : SinceX wq.heap.size (w.heap.size + 1) wq, w' = s.world) [(0, true), (2, true), (3, true), (1, false), (4, true), (5, false)] (by kernel_rfl) (by kernel_rfl) (by intro c d v a w h; first | (cases d <;> exact h) | cases h.1) (sincex (KeptX.refl _ _ _).drew) ?_
      repeat (first | (refine seq_skip (by rfl) (by rfl) ?_; simp only [Act.put, List.setIfInBounds_toArray, List.set_cons_succ, List.set_cons_zero]) | (refine seq_float (by rfl) (by rfl) (by rfl) ?_; intro K hK; go_big_quiet_op; go_big_quiet_on))
      refine seq_chain (by rfl) ?_
      intro K hK
      go_wp2_with fail
      (with_reducible refine (Whole_any j _ (by omega)).mono ?_); rintro e w4 ⟨v4, rfl, hown4, hb4⟩
      obtain ⟨a4, c4, rfl, hI4⟩ := IA.of_own hown4
      have g4 : Below wq.heap.size wq w4 := (Below.refl _ _).drew.trans hb4
      have hX4 : KeptX wq.heap.size (w.heap.size + 1) wq w4 := fun q hq _ => g4.block q hq
      have RR4 := lid ((g4.block _ lR).trans HR.out)
      have HI4 := lid hI4
      have HFR : Hid (∀ b o, a4 = some ⟨b, o, none⟩ → w.heap.size + 1 < b) := lid (fun b o e => by
        subst e
        have := ownsRow_row hown4 b rfl
        have : wq.drew.heap.size = wq.heap.size := rfl
        omega)
      have HB4 := lid (hb.trans (g4.mono hb.size))
      have lR4 := row_lt RR4.out
      clear hown4 hI4 g4 hb4
      have y0 := row_cell RR4.out 0
      have z0 := row_fz RR4.out 0
      have y1 := row_cell RR4.out 1
      have z1 := row_fz RR4.out 1
      have y2 := row_cell RR4.out 2
      have z2 := row_fz RR4.out 2
      go_wp2_with fail
      refine hK.out _ _ (sincex hX4) ?_
      clear hK K
      repeat (first | (refine seq_skip (by rfl) (by rfl) ?_; simp only [Act.put, List.setIfInBounds_toArray, List.set_cons_succ, List.set_cons_zero]) | (refine seq_float (by rfl) (by rfl) (by rfl) ?_; intro K hK; go_big_quiet_op; go_big_quiet_on))
      refine seq_chain (by rfl) ?_
      intro K hK
      go_wp2_with fail
      refine hK.out _ _ (sincex (set3_keptx hX4)) ?_
      clear hK K
      repeat (first | (refine seq_skip (by rfl) (by rfl) ?_; simp only [Act.put, List.setIfInBounds_toArray, List.set_cons_succ, List.set_cons_zero]) | (refine seq_float (by rfl) (by rfl) (by rfl) ?_; intro K hK; go_big_quiet_op; go_big_quiet_on))
      refine seq_nil ?_
      go_wp2_with fail
      exact bodyPost_ret (res_state rfl _ _ (w.heap.size + 1) _ _ _ _ _ rfl (set3_row RR4.out _ _ _)) rfl ⟨⟨upto j, true, u⟩, a4, j, c4, HLD.out _ HQ.out.symm, rfl, set3_ia HI4.out HFR.out, set3_below HB4.out (by omega), HFR.out⟩
end Go.Proofs.Ytnjcoejnknpfoaa
