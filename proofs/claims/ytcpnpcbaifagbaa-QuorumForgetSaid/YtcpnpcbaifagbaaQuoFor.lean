/-
  Ballots: Forget of quorum and of its reference.
-/
import Derived.Test.YtcpnpcbaifagbaaQuoDel
import Derived.Test.YtcpnpcbaifagbaaRegionL
import Derived.Maps.AppendAt
namespace Go.Proofs.Ytcpnpcbaifagbaa
open Go.RowKit

/-- 'append(out, x)', x just laid in a block of its own; where the new slice lies. -/
theorem wpList_append_new_at {P : Program} {ops : Array Oper} {rest : List Oper} {o : Oper} {a : Act} {Q : Exit → Act → World → Prop} {w : World} (us : Array Value) (hgd : o.guard = none) (s x : Operand) (t : TypeId)
    (ho : o.op = .call { callee := .builtin .append, args := #[s, x], argTypes := #[t, t] })
    (base : Nat) (e : TypeId) (z : Value) (size bytes : Nat) (hinfo : (P.info? e).map (fun i => (i.zero, i.size, i.bytes)) = some (some z, size, bytes)) (ht : P.underlying t = some (.slice e)) (hzs : z.cells.size = size) (hsz : 0 < size)
    (v : Value) (n : Nat) (xs : List Value) (hown : w.ownsRow base e size v n xs) (hs : a.eval s = v)
    (hx : a.eval x = .slice (some ⟨w.heap.size, 0, none⟩) 1 1) (hl : us.size = size) (h1 : ∀ u ∈ us.toList, u.oneCell' = true)
    (h63 : n + 1 ≤ maxLen) (hbytes : (n + 1) * bytes ≤ 140737488355328) (hbase : base ≤ w.heap.size)
    (h : ∀ v' w', w'.ownsRow base e size v' (n + 1) (xs ++ us.toList) → (w.alloc (.cells us e)).grownBy w' v.ownBlock → (v'.ownBlock = v.ownBlock ∨ v'.ownBlock = some (w.alloc (.cells us e)).heap.size) → wpList P ops Q rest (a.put o.dst v') w') : wpList P ops Q (o :: rest) a (w.alloc (.cells us e)) := by
  obtain ⟨i, hi, hz0, hz1, hz2⟩ := info_parts hinfo
  refine wpList_append_own_at _ hgd s x t ho base e i z size bytes ht hi hz0 hz1 hz2 hzs hsz v n xs hs (hown.alloc _) ⟨w.heap.size, 0, none⟩ 1 1 us.toList hx (by simp [hl]) ?_ h1 h63 hbytes (by simp; omega) ?_
  · intro j u hu
    rw [Addr.add_lit]
    simp only [World.cell?, Nat.zero_add]
    rw [heap_alloc_new]
    simpa using hu
  · intro v' w' hown' hg hn hat
    exact h v' w' hown' hg hat

/-- What has been put out: ballots in a row of the call's own, their votes elsewhere. -/
structure OutB (w : World) (base : Nat) (vo : Value) (rs : List Rw) : Prop where
  own : w.ownsRow base 61 3 vo rs.length (rcells rs)
  ok : ∀ r ∈ rs, VA w r.ao r.vs.length r.cap r.vs
  far : ∀ r ∈ rs, ∀ b o, r.ao = some ⟨b, o, none⟩ → some b ≠ vo.ownBlock ∨ r.vs.length = 0
theorem OutB.below {w w' : World} {base : Nat} {vo : Value} {rs : List Rw} (h : OutB w base vo rs) (hb : Below w.heap.size w w') : OutB w' base vo rs := ⟨ownsRow_below h.own hb, fun r hr => (h.ok r hr).below hb, h.far⟩
theorem OutB.app {w w' : World} {base : Nat} {vo v' : Value} {rs : List Rw} {x : Rw} {tmp : Obj} (h : OutB w base vo rs) (hown : w'.ownsRow base 61 3 v' (rs.length + 1) (rcells rs ++ rwe x)) (hg : (w.alloc tmp).grownBy w' vo.ownBlock) (hat : v'.ownBlock = vo.ownBlock ∨ v'.ownBlock = some (w.heap.size + 1))
    (hx : VA w x.ao x.vs.length x.cap x.vs) (hf : ∀ b o, x.ao = some ⟨b, o, none⟩ → some b ≠ vo.ownBlock ∨ x.vs.length = 0) : OutB w' base v' (rs ++ [x]) := by
  have key : ∀ r : Rw, VA w r.ao r.vs.length r.cap r.vs → (∀ b o, r.ao = some ⟨b, o, none⟩ → some b ≠ vo.ownBlock ∨ r.vs.length = 0) → VA w' r.ao r.vs.length r.cap r.vs ∧ ∀ b o, r.ao = some ⟨b, o, none⟩ → some b ≠ v'.ownBlock ∨ r.vs.length = 0 := by
    intro r hV hF
    have hV1 := hV.below (ba w tmp)
    refine ⟨⟨hV1.len, ⟨hV1.sl.1, ?_⟩, hV1.le, hV1.max, hV1.z, hV1.sz⟩, fun b o e => ?_⟩
    · rcases hV1.sl.2 with h0 | ⟨b, o, e, hb, hc⟩
      · exact .inl h0
      · rcases hF b o e with hne | h0
        · refine .inr ⟨b, o, e, Nat.lt_of_lt_of_le hb hg.size, fun j u hu => ?_⟩
          rw [← hc j u hu]
          exact World.cell?_of_block (w := w.alloc tmp) (a := ⟨b, o + j, none⟩) (hg.block b hb hne)
        · exact .inl h0
    · rcases hF b o e with hne | h0
      · rcases hV.sl.2 with h0 | ⟨b', o', e', hb, _⟩
        · exact .inr h0
        · rw [e'] at e
          cases e
          rcases hat with h1 | h1
          · rw [h1]; exact .inl hne
          · rw [h1]
            refine .inl fun e2 => ?_
            have := Option.some.inj e2
            omega
      · exact .inr h0
  refine ⟨by rw [List.length_append, rcells_append]; simpa [rcells] using hown, fun r hr => ?_, fun r hr => ?_⟩
  · rcases List.mem_append.1 hr with hr | hr
    · exact (key r (h.ok r hr) (h.far r hr)).1
    · rw [List.mem_singleton.1 hr]; exact (key x hx hf).1
  · rcases List.mem_append.1 hr with hr | hr
    · exact (key r (h.ok r hr) (h.far r hr)).2
    · rw [List.mem_singleton.1 hr]; exact (key x hx hf).2
theorem OutB.ba {w : World} {base : Nat} {vo : Value} {rs : List Rw} (h : OutB w base vo rs) : ∃ ao cap, vo = .slice ao rs.length cap ∧ BA w ao rs.length cap rs := BA.of_own h.own h.ok
theorem forget_snoc {A : List Bal} {b : Bal} {wk : ByteArray} : forgetB (A ++ [b]) wk = forgetB A wk ++ (if forgetV b.2 wk = [] then [] else [(b.1, forgetV b.2 wk)]) := by
  unfold forgetB
  rw [List.map_append, List.filter_append]
  congr 1
  by_cases h : forgetV b.2 wk = []
  · simp [h]
  · rw [if_neg h]
    simp [h]
theorem forgetV_len (l : List Vt) (wk : ByteArray) : (forgetV l wk).length ≤ l.length := List.length_filter_le _ _

set_option maxRecDepth 100000 in
set_option maxHeartbeats 8000000 in
theorem Forget_any (l : List Rw) (n cap : Nat) (ao : Option Addr) (wk : ByteArray) (w : World) (hm : n ≤ 100000) (h : BA w ao n cap l) (hv : ∀ r ∈ l, r.vs.length ≤ 100000) :
    Calls Try.prog 30 #[.slice ao n cap, .string wk] w fun e w' => ∃ (rs : List Rw) (ao' : Option Addr) (n' cap' : Nat), e = .returned (.slice ao' n' cap') ∧ rs.map Rw.bal = forgetB (l.map Rw.bal) wk ∧ BA w' ao' n' cap' rs ∧ Below w.heap.size w w' := by
  have HB := lid h
  have HVS := lid hv
  clear h hv
  go_enter Try.func30, Try.ntmps30
  go_wp2_with fail
  obtain ⟨W0, hW0⟩ : ∃ y, w.alloc (.cells #[.string wk] 9) = y := ⟨_, rfl⟩
  rw [hW0]
  have KB : Hid (W0.heap[w.heap.size]? = some (.cells #[.string wk] 9 (0, 0))) := lid (by rw [← hW0]; exact heap_alloc_new _ _)
  have hb0 : Below w.heap.size w W0 := by rw [← hW0]; exact ba _ _
  clear hW0
  replace HB := lid (HB.out.below hb0)
  go_loopw [5, 7, 8, 11] (fun vo _ _ i wr => ∃ (j : Nat) (rs : List Rw), j ≤ n ∧ i = .int .i64 j ∧ rs.length ≤ j ∧ Hid (rs.map Rw.bal = forgetB ((l.take j).map Rw.bal) wk) ∧ Hid (OutB wr W0.heap.size vo rs) ∧ Below W0.heap.size W0 wr) (fun _ _ _ i _ => n - (intOf i).toNat)
  case atStart => exact ⟨0, [], Nat.zero_le _, rfl, Nat.le_refl _, lid rfl, lid ⟨World.ownsRow_nil _ _ _ _, fun r hr => (by cases hr), fun r hr => (by cases hr)⟩, Below.refl _ _⟩
  case round =>
    obtain ⟨j, rs, hj, rfl, hrs, HM, HO, hb⟩ := hrel
    obtain ⟨aoO, capO, rfl⟩ := own_slice HO.out.own
    by_cases hlt : j < n
    · have hkl : j < l.length := by rw [HB.out.len]; exact hlt
      obtain ⟨b1, o1, rfl, hlb, hcell⟩ := (HB.out.below hb).sl.at_ hlt
      have x0 := hcell (j * 3 + 0) _ (rcells_at hkl).1
      have x1 := hcell (j * 3 + 1) _ (rcells_at hkl).2.1
      have x2 := hcell (j * 3 + 2) _ (rcells_at hkl).2.2
      rw [← Nat.add_assoc] at x1 x2
      rw [Nat.add_zero] at x0
      have HVA := lid ((HB.out.below hb).ok _ (List.getElem_mem hkl))
      have hxs := HVS.out _ (List.getElem_mem hkl)
      have HTK : Hid ((l.take (j + 1)).map Rw.bal = (l.take j).map Rw.bal ++ [(l[j]).bal]) := lid (by rw [List.take_succ_eq_append_getElem hkl, List.map_append]; rfl)
      have dk : decide ((j : Int) < (n : Int)) = true := by simp; omega
      obtain ⟨x, hx⟩ : ∃ x, l[j] = x := ⟨_, rfl⟩
      rw [hx] at x0 x1 x2 HVA hxs HTK
      obtain ⟨m, hmx⟩ : ∃ m, x.vs.length = m := ⟨_, rfl⟩
      rw [hmx] at x2 HVA hxs
      have HMX := lid hmx
      clear hcell hx hmx
      go_wp2_with fail
      obtain ⟨W1, hW1⟩ : ∃ y, wr.alloc (Obj.cells #[.int .u64 x.key.1.toNat, .int .u64 x.key.2.toNat, .slice x.ao m x.cap] 61) = y := ⟨_, rfl⟩
      rw [hW1]
      have XB : Hid (W1.heap[wr.heap.size]? = some (.cells #[.int .u64 x.key.1.toNat, .int .u64 x.key.2.toNat, .slice x.ao m x.cap] 61 (0, 0))) := lid (by rw [← hW1]; exact heap_alloc_new _ _)
      have hb1 : Below wr.heap.size wr W1 := by rw [← hW1]; exact ba _ _
      have hlx : wr.heap.size < W1.heap.size := by rw [← hW1]; simp
      clear hW1 x0 x1 x2
      have y2 := row_cell XB.out 2
      have CC := lid (Clone_vote x.vs m x.cap x.ao W1 HMX.out (HVA.out.below hb1).sl HVA.out.z (by omega))
      go_wp2_with fail
      (with_reducible refine (CC.out).mono ?_); rintro e w2 ⟨vc, rfl, hR, hb2⟩
      clear CC y2
      have hb12 := hb1.trans (hb2.mono hb1.size)
      have hb02 := hb.trans (hb12.mono hb.size)
      replace XB := lid ((hb2.block _ hlx).trans XB.out)
      have KB2 := lid ((hb02.block _ (row_lt KB.out)).trans KB.out)
      have h12 := hb2.size
      have CD := lid (DeleteFunc_forget x.vs vc m w.heap.size (fun v => decide (v.1 = wk)) W1.heap.size w2 HMX.out (by omega) hR h12 (fun w' hw' => forget_asks _ _ _ ((hw'.block _ (Nat.lt_of_lt_of_le (row_lt KB.out) (by have := hb.size; have := hb1.size; omega))).trans KB2.out)))
      clear hR
      go_wp2_with fail
      (with_reducible refine (CD.out).mono ?_); rintro e w3 ⟨vd, rfl, hD, hb3⟩
      clear CD KB2
      have hD' : w3.ownsRow W1.heap.size 27 2 vd (forgetV x.vs wk).length (vcells (forgetV x.vs wk)) := hD
      have HD := lid hD'
      have hlF : (forgetV x.vs wk).length ≤ m := by have := forgetV_len x.vs wk; rw [HMX.out] at this; exact this
      replace XB := lid ((hb3.block _ hlx).trans XB.out)
      have hb13 := hb12.trans (hb3.mono hb1.size)
      have HO3 := lid (HO.out.below hb13)
      have hb03 := hb.trans (hb13.mono hb.size)
      have HOB : Hid (∀ g, (Value.slice aoO rs.length capO).ownBlock = some g → g < wr.heap.size) := lid (fun g e => (HO.out.own.lt g e).2)
      obtain ⟨aoD, capD, e9, hVD⟩ := VA.of_own hD' (fun v hv => HVA.out.sz v (List.mem_filter.1 hv).1)
      subst e9
      have HVD := lid hVD
      clear hD hD' hb12 hb13 hb02 hb3 hb2 hVD
      have HSN : Hid (forgetB ((l.take (j + 1)).map Rw.bal) wk = forgetB ((l.take j).map Rw.bal) wk ++ (if forgetV x.vs wk = [] then [] else [(x.key, forgetV x.vs wk)])) := lid (by rw [HTK.out, forget_snoc]; rfl)
      obtain ⟨F, hF⟩ : ∃ F, forgetV x.vs wk = F := ⟨_, rfl⟩
      rw [hF] at HD HVD HSN hlF ⊢
      obtain ⟨f, hf⟩ : ∃ f, F.length = f := ⟨_, rfl⟩
      rw [hf] at HD HVD hlF ⊢
      have HFL := lid hf
      clear hF hf
      by_cases hf0 : f = 0
      · have HE : Hid (F = []) := lid (List.eq_nil_of_length_eq_zero (by rw [HFL.out, hf0]))
        rw [if_pos HE.out, List.append_nil] at HSN
        have d0 : decide ((0 : Int) < (f : Int)) = false := by simp; omega
        have d1 : decide (0 < f) = false := by simp; omega
        clear hf0
        go_wp2_with fail
        go_roundw
        case rel => exact ⟨j + 1, rs, by omega, by go_num, by omega, lid (by rw [HSN.out, HM.out]), HO3, hb03⟩
        case measure => simp [intOf]; omega
      · have HE : Hid (¬ F = []) := lid (fun e => hf0 (by rw [← HFL.out, e]; rfl))
        rw [if_neg HE.out] at HSN
        have d0 : decide ((0 : Int) < (f : Int)) = true := by simp; omega
        have d1 : 0 < f := by omega
        clear hf0
        have y0 := row_cell XB.out 0
        have y1 := row_cell XB.out 1
        go_wp2_with (at_builtin; go_must (refine wpList_append_new_at (w := w3) #[.int .u64 x.key.1.toNat, .int .u64 x.key.2.toNat, .slice aoD f capD] rfl _ _ 22 rfl W0.heap.size 61 (.agg #[.int .u64 0, .int .u64 0, .slice none 0 0]) 3 40 info_bl Try.underlying22 rfl (by decide) _ rs.length _ HO3.out.own rfl rfl rfl (by intro u hu; simp only [List.mem_cons, List.not_mem_nil, or_false] at hu; rcases hu with rfl | rfl | rfl <;> rfl) (by simp only [maxLen]; omega) (by omega) hb03.size ?_))
        intro v9 w9 hown9 hg9 hat9
        have HO9 : Hid (OutB w9 W0.heap.size v9 (rs ++ [⟨x.key, F, aoD, capD⟩])) := lid (HO3.out.app (x := ⟨x.key, F, aoD, capD⟩) (by
            show w9.ownsRow _ _ _ _ _ (rcells rs ++ [.int .u64 x.key.1.toNat, .int .u64 x.key.2.toNat, .slice aoD F.length capD])
            rw [HFL.out]
            exact hown9) hg9 hat9 (by
            show VA w3 aoD F.length capD F
            rw [HFL.out]
            exact HVD.out) (fun b o e => by
            refine .inl fun e2 => ?_
            have h1 := HOB.out b e2.symm
            have h2 : (Value.slice aoD f capD).ownBlock = some b := by
              have e' : aoD = some ⟨b, o, none⟩ := e
              rw [e']
              rfl
            have h3 := ownsRow_row HD.out b h2
            omega))
        have hb9 : Below W0.heap.size W0 w9 := (hb03.alloc hb03.size _).grown hg9 (by have := hb03.size; simp; omega) (fun g e => ownsRow_row HO3.out.own g e)
        clear hown9 hg9 hat9 y0 y1
        go_wp2_with fail
        go_roundw
        case rel => exact ⟨j + 1, _, by omega, by go_num, by simp; omega, lid (by rw [HSN.out, List.map_append, HM.out]; rfl), HO9, hb9⟩
        case measure => simp [intOf]; omega
    · obtain rfl : j = n := by omega
      have HTK : Hid (l.take j = l) := lid (List.take_of_length_le (Nat.le_of_eq HB.out.len))
      rw [HTK.out] at HM
      have dk : decide ((j : Int) < (j : Int)) = false := by simp
      go_wp2_with fail
      go_ret
      obtain ⟨ao9, cap9, e9, h9⟩ := HO.out.ba
      exact ⟨rs, _, _, _, congrArg Ending.returned e9, HM.out, h9, hb0.trans (hb.mono hb0.size)⟩
theorem forgetV_snoc {L : List Vt} {k : Nat} {wk : ByteArray} (hk : k < L.length) : forgetV (L.take (k + 1)) wk = forgetV (L.take k) wk ++ (if L[k].1 = wk then [] else [L[k]]) := by
  unfold forgetV
  rw [List.take_succ_eq_append_getElem hk, List.filter_append]
  by_cases h : L[k].1 = wk <;> simp [h]
set_option maxRecDepth 100000 in
set_option maxHeartbeats 16000000 in
theorem refForget_any (l : List Rw) (n cap : Nat) (ao : Option Addr) (wk : ByteArray) (w : World) (hm : n ≤ 100000) (h : BA w ao n cap l) (hv : ∀ r ∈ l, r.vs.length ≤ 100000) :
    Calls Try.prog 31 #[.slice ao n cap, .string wk] w fun e w' => ∃ (rs : List Rw) (ao' : Option Addr) (n' cap' : Nat), e = .returned (.slice ao' n' cap') ∧ rs.map Rw.bal = forgetB (l.map Rw.bal) wk ∧ BA w' ao' n' cap' rs ∧ Below w.heap.size w w' := by
  have HB := lid h
  have HVS := lid hv
  clear h hv
  go_enter Try.func31, Try.ntmps31
  go_wp2_with fail
  go_loopw [5, 6, 7, 8] (fun vo i _ _ wr => ∃ (j : Nat) (rs : List Rw), j ≤ n ∧ i = .int .i64 j ∧ rs.length ≤ j ∧ Hid (rs.map Rw.bal = forgetB ((l.take j).map Rw.bal) wk) ∧ Hid (OutB wr w.heap.size vo rs) ∧ Below w.heap.size w wr) (fun _ i _ _ _ => n - (intOf i).toNat)
  case atStart => exact ⟨0, [], Nat.zero_le _, rfl, Nat.le_refl _, lid rfl, lid ⟨ownsRow_empty rfl (Nat.le_refl _), fun r hr => (by cases hr), fun r hr => (by cases hr)⟩, ba _ _⟩
  case round =>
    obtain ⟨wq, rfl⟩ : ∃ y, y = wr := ⟨_, rfl⟩
    obtain ⟨j, rs, hj, rfl, hrs, HM, HO, hb⟩ := hrel
    obtain ⟨aoO, capO, rfl⟩ := own_slice HO.out.own
    by_cases hlt : j < n
    · have hkl : j < l.length := by rw [HB.out.len]; exact hlt
      obtain ⟨b1, o1, rfl, hlb, hcell⟩ := (HB.out.below hb).sl.at_ hlt
      have x0 := hcell (j * 3 + 0) _ (rcells_at hkl).1
      have x1 := hcell (j * 3 + 1) _ (rcells_at hkl).2.1
      have x2 := hcell (j * 3 + 2) _ (rcells_at hkl).2.2
      rw [← Nat.add_assoc] at x1 x2
      rw [Nat.add_zero] at x0
      have HVA := lid ((HB.out.below hb).ok _ (List.getElem_mem hkl))
      have hxs := HVS.out _ (List.getElem_mem hkl)
      have HTK : Hid ((l.take (j + 1)).map Rw.bal = (l.take j).map Rw.bal ++ [(l[j]).bal]) := lid (by rw [List.take_succ_eq_append_getElem hkl, List.map_append]; rfl)
      have dk : decide ((j : Int) < (n : Int)) = true := by simp; omega
      obtain ⟨x, hx⟩ : ∃ x, l[j] = x := ⟨_, rfl⟩
      rw [hx] at x0 x1 x2 HVA hxs HTK
      obtain ⟨m, hmx⟩ : ∃ m, x.vs.length = m := ⟨_, rfl⟩
      rw [hmx] at x2 HVA hxs
      have HMX := lid hmx
      have HSN : Hid (forgetB ((l.take (j + 1)).map Rw.bal) wk = forgetB ((l.take j).map Rw.bal) wk ++ (if forgetV x.vs wk = [] then [] else [(x.key, forgetV x.vs wk)])) := lid (by rw [HTK.out, forget_snoc]; rfl)
      have X2 := lid x2
      clear hcell hx hmx HTK
      go_wp2_with fail
      obtain ⟨W1, hW1⟩ : ∃ y, wq.alloc (Obj.cells #[.int .u64 x.key.1.toNat, .int .u64 x.key.2.toNat, .slice none 0 0] 61) = y := ⟨_, rfl⟩
      rw [hW1]
      have XB : Hid (W1.heap[wq.heap.size]? = some (.cells #[.int .u64 x.key.1.toNat, .int .u64 x.key.2.toNat, .slice none 0 0] 61 (0, 0))) := lid (by rw [← hW1]; exact heap_alloc_new _ _)
      have hb1 : Below wq.heap.size wq W1 := by rw [← hW1]; exact ba _ _
      have hlx : wq.heap.size < W1.heap.size := by rw [← hW1]; simp
      clear hW1 x0 x1 x2
      go_loopw [8] (fun i wr => ∃ (q p : Nat) (vx : Value), q ≤ m ∧ i = .int .i64 q ∧ p ≤ q ∧ Hid (wr.heap[wq.heap.size]? = some (.cells #[.int .u64 x.key.1.toNat, .int .u64 x.key.2.toNat, vx] 61 (0, 0))) ∧ Hid (wr.ownsRow (wq.heap.size + 1) 27 2 vx p (vcells (forgetV (x.vs.take q) wk))) ∧ Below wq.heap.size wq wr) (fun i _ => m - (intOf i).toNat)
      case atStart => exact ⟨0, 0, .slice none 0 0, Nat.zero_le _, rfl, Nat.le_refl _, XB, lid (World.ownsRow_nil _ _ _ _), hb1⟩
      case round =>
        clear XB hb1 hlx
        obtain ⟨q, p, vx, hq, rfl, hpq, XB, HX, hb1⟩ := hrel
        obtain ⟨aoX, capX, rfl⟩ := own_slice HX.out
        have lX := row_lt XB.out
        have z2 := (bc hb1 hlb _).trans X2.out
        have hl1 : b1 < wr.heap.size := Nat.lt_of_lt_of_le hlb hb1.size
        by_cases hqm : q < m
        · have hql : q < x.vs.length := by rw [HMX.out]; exact hqm
          obtain ⟨b3, o3, hao, hlb3, hcell⟩ := HVA.out.sl.at_ hqm
          have y0 := (bc hb1 hlb3 _).trans (hcell (q * 2 + 0) _ (vcells_at hql).1)
          have y1 := (bc hb1 hlb3 _).trans (hcell (q * 2 + 1) _ (vcells_at hql).2)
          rw [← Nat.add_assoc] at y1
          rw [Nat.add_zero] at y0
          rw [hao] at z2
          have HC := lid (forgetV_snoc (wk := wk) hql)
          have hl3 : b3 < wr.heap.size := Nat.lt_of_lt_of_le hlb3 hb1.size
          have dq : decide ((q : Int) < (m : Int)) = true := by simp; omega
          obtain ⟨v, hv⟩ : ∃ v, x.vs[q] = v := ⟨_, rfl⟩
          rw [hv] at y0 y1 HC
          clear hcell hv hao
          by_cases he : v.1 = wk
          · rw [if_pos he, List.append_nil] at HC
            have d := str_eq he
            clear he
            go_wp2_with fail
            go_roundw
            case rel => exact ⟨q + 1, p, _, by omega, by go_num, by omega, XB, lid (by rw [HC.out]; exact HX.out), hb1⟩
            case measure => simp [intOf]; omega
          · rw [if_neg he] at HC
            have d := str_ne he
            have p0 := row_cell XB.out 0
            have p1 := row_cell XB.out 1
            have p2 := row_cell XB.out 2
            have g1 : b1 < wq.heap.size + 1 := by omega
            have g3 : b3 < wq.heap.size + 1 := by omega
            have gX : wq.heap.size < wq.heap.size + 1 := by omega
            clear he
            go_wp2_with fail
            refine wp_region_seqL 13 (fun w' => ∃ s : Since (wq.heap.size + 1) wr, w' = s.world) [(0, true), (1, true), (2, true), (3, true), (4, true), (5, true), (6, true), (7, true), (8, true), (9, true), (10, false), (11, false), (12, true), (13, false)] (by kernel_rfl) (by kernel_rfl) (by intro c d v a w h; cases d <;> exact h) (since (Below.refl _ _).drew) ?_
            repeat (first | (refine seqL_skip (by rfl) (by rfl) (by rfl) ?_; simp only [Act.put, List.setIfInBounds_toArray, List.set_cons_succ, List.set_cons_zero]) | (refine seqL_float (by rfl) (by rfl) (by rfl) (by rfl) ?_; intro K hK; go_big_quiet_op; go_big_quiet_on))
            refine seqL_chain (by rfl) ?_
            intro K hK
            go_wp2_with fail
            have hbA : Below (wq.heap.size + 1) wr (wr.drew.alloc (.cells (vtc v) 27)) := (Below.refl _ _).drew.alloc (show wq.heap.size + 1 ≤ wr.heap.size from lX) _
            refine hK.out _ _ (since hbA) ?_
            clear hK K
            repeat (first | (refine seqL_skip (by rfl) (by rfl) (by rfl) ?_; simp only [Act.put, List.setIfInBounds_toArray, List.set_cons_succ, List.set_cons_zero]) | (refine seqL_float (by rfl) (by rfl) (by rfl) (by rfl) ?_; intro K hK; go_big_quiet_op; go_big_quiet_on))
            refine seqL_chain (by rfl) ?_
            intro K hK
            go_wp2_with (at_builtin; go_must (refine wpList_append_new (w := wr.drew) (vtc v) rfl _ _ 36 rfl (wq.heap.size + 1) 27 (.agg #[.string ⟨#[]⟩, .string ⟨#[]⟩]) 2 32 info_vt Try.underlying36 rfl (by decide) _ p _ HX.out rfl rfl rfl (by intro u hu; exact vcells_one [v] u (by simpa [vcells] using hu)) (by simp only [maxLen]; omega) (by omega) lX ?_))
            intro v9 w9 hown9 hb9 _
            obtain ⟨aoV, capV, rfl⟩ := own_slice hown9
            have HX9 : Hid ((w9.setCell ⟨wq.heap.size, 2, none⟩ (.slice aoV (p + 1) capV)).ownsRow (wq.heap.size + 1) 27 2 (.slice aoV (p + 1) capV) (p + 1) (vcells (forgetV (x.vs.take (q + 1)) wk))) := lid (by
              rw [HC.out, vcells_append]
              exact own_other (by simpa [vcells] using hown9) (fun g e => by have := ownsRow_row hown9 g e; omega) _ _)
            have hb9' : Below (wq.heap.size + 1) wr w9 := (Below.refl _ _).drew.trans hb9
            have XB9 := lid ((hb9'.block _ gX).trans XB.out)
            have r2 := row_cell XB9.out 2
            have f2 := row_fz XB9.out 2
            have lX9 := row_lt XB9.out
            go_wp2_with fail
            have XB10 : Hid ((w9.setCell ⟨wq.heap.size, 2, none⟩ (.slice aoV (p + 1) capV)).heap[wq.heap.size]? = some (.cells #[.int .u64 x.key.1.toNat, .int .u64 x.key.2.toNat, .slice aoV (p + 1) capV] 61 (0, 0))) := lid (row_set XB9.out 2 _)
            have hb10 : Below wq.heap.size wq (w9.setCell ⟨wq.heap.size, 2, none⟩ (.slice aoV (p + 1) capV)) := (hb1.trans (hb9'.mono (Nat.le_succ _))).setCell (p := ⟨wq.heap.size, 2, none⟩) (Nat.le_refl _) _
            refine hK.out _ _ (since hb9') ?_
            clear hK K
            repeat (first | (refine seqL_skip (by rfl) (by rfl) (by rfl) ?_; simp only [Act.put, List.setIfInBounds_toArray, List.set_cons_succ, List.set_cons_zero]) | (refine seqL_float (by rfl) (by rfl) (by rfl) (by rfl) ?_; intro K hK; go_big_quiet_op; go_big_quiet_on))
            refine seqL_last (by rfl) (by rfl) ?_
            intro K hK
            go_wp2_with fail
            refine hK.out _ _ ?_
            clear hK K
            go_wp2_with fail
            go_roundw
            case rel => exact ⟨q + 1, p + 1, _, by omega, by go_num, by omega, XB10, HX9, hb10⟩
            case measure => simp [intOf]; omega
        · obtain rfl : q = m := by omega
          have hfe : forgetV (x.vs.take q) wk = forgetV x.vs wk := by rw [List.take_of_length_le (Nat.le_of_eq HMX.out)]
          have HX2 := HX.out
          rw [hfe] at HX2
          have HXE := lid HX2
          have HPL : Hid ((forgetV x.vs wk).length = p) := lid (by
            have := HX2.1
            rw [vcells_length] at this
            omega)
          obtain ⟨aoD, capD, e9, hVD⟩ := VA.of_own HX2 (fun v hv => HVA.out.sz v (List.mem_filter.1 hv).1)
          cases e9
          have HVD := lid hVD
          have HO3 := lid (HO.out.below hb1)
          have hb03 := hb.trans (hb1.mono hb.size)
          have HOB : Hid (∀ g, (Value.slice aoO rs.length capO).ownBlock = some g → g < wq.heap.size) := lid (fun g e => (HO.out.own.lt g e).2)
          have dq : decide ((q : Int) < (q : Int)) = false := by simp
          have p0 := row_cell XB.out 0
          have p1 := row_cell XB.out 1
          have p2 := row_cell XB.out 2
          clear hfe HX2 hVD
          obtain ⟨F, hF⟩ : ∃ F, forgetV x.vs wk = F := ⟨_, rfl⟩
          rw [hF] at HXE HVD HSN HPL
          clear hF
          by_cases hf0 : p = 0
          · have HE : Hid (F = []) := lid (List.eq_nil_of_length_eq_zero (by rw [HPL.out, hf0]))
            rw [if_pos HE.out, List.append_nil] at HSN
            have d0 : decide ((0 : Int) < (p : Int)) = false := by simp; omega
            have d1 : decide (0 < p) = false := by simp; omega
            clear hf0
            go_wp2_with fail
            go_roundw
            case rel => exact ⟨j + 1, rs, by omega, by go_num, by omega, lid (by rw [HSN.out, HM.out]), HO3, hb03⟩
            case measure => simp [intOf]; omega
          · have HE : Hid (¬ F = []) := lid (fun e => hf0 (by rw [← HPL.out, e]; rfl))
            rw [if_neg HE.out] at HSN
            have d0 : decide ((0 : Int) < (p : Int)) = true := by simp; omega
            have d1 : 0 < p := by omega
            clear hf0
            go_wp2_with (at_builtin; go_must (refine wpList_append_new_at (w := wr) #[.int .u64 x.key.1.toNat, .int .u64 x.key.2.toNat, .slice aoX p capX] rfl _ _ 22 rfl w.heap.size 61 (.agg #[.int .u64 0, .int .u64 0, .slice none 0 0]) 3 40 info_bl Try.underlying22 rfl (by decide) _ rs.length _ HO3.out.own rfl rfl rfl (by intro u hu; simp only [List.mem_cons, List.not_mem_nil, or_false] at hu; rcases hu with rfl | rfl | rfl <;> rfl) (by simp only [maxLen]; omega) (by omega) hb03.size ?_))
            intro v9 w9 hown9 hg9 hat9
            have HO9 : Hid (OutB w9 w.heap.size v9 (rs ++ [⟨x.key, F, aoX, capX⟩])) := lid (HO3.out.app (x := ⟨x.key, F, aoX, capX⟩) (by
                show w9.ownsRow _ _ _ _ _ (rcells rs ++ [.int .u64 x.key.1.toNat, .int .u64 x.key.2.toNat, .slice aoX F.length capX])
                rw [HPL.out]
                exact hown9) hg9 hat9 (by
                show VA wr aoX F.length capX F
                rw [HPL.out]
                exact HVD.out) (fun b o e => by
                refine .inl fun e2 => ?_
                have h1 := HOB.out b e2.symm
                have h2 : (Value.slice aoX p capX).ownBlock = some b := by
                  have e' : aoX = some ⟨b, o, none⟩ := e
                  rw [e']
                  rfl
                have h3 := ownsRow_row HXE.out b h2
                omega))
            have hb9 : Below w.heap.size w w9 := (hb03.alloc hb03.size _).grown hg9 (by have := hb03.size; simp; omega) (fun g e => ownsRow_row HO3.out.own g e)
            clear hown9 hg9 hat9 p0 p1 p2
            go_wp2_with fail
            go_roundw
            case rel => exact ⟨j + 1, _, by omega, by go_num, by simp; omega, lid (by rw [HSN.out, List.map_append, HM.out]; rfl), HO9, hb9⟩
            case measure => simp [intOf]; omega
    · obtain rfl : j = n := by omega
      have HTK : Hid (l.take j = l) := lid (List.take_of_length_le (Nat.le_of_eq HB.out.len))
      rw [HTK.out] at HM
      have dk : decide ((j : Int) < (j : Int)) = false := by simp
      go_wp2_with fail
      go_ret
      obtain ⟨ao9, cap9, e9, h9⟩ := HO.out.ba
      exact ⟨rs, _, _, _, congrArg Ending.returned e9, HM.out, h9, hb⟩
end Go.Proofs.Ytcpnpcbaifagbaa
