/-
  Ballots: slices.Clone, slices.Insert over votes and over ballots.
-/
import Derived.Test.YtcpnpcbaifagbaaInsK
import Derived.Test.YtcpnpcbaifagbaaQuoSpec
import Derived.Test.YtcpnpcbaifagbaaAppSl
import Derived.Test.YtcpnpcbaifagbaaDigEq
namespace Go.Proofs.Ytcpnpcbaifagbaa
open Go.RowKit
theorem own_slice {w : World} {base : Nat} {e : TypeId} {size : Nat} {v : Value} {n : Nat} {xs : List Value} (h : w.ownsRow base e size v n xs) : ∃ ao cap, v = .slice ao n cap := by
  obtain ⟨ao, cap, e, _⟩ := Sl.of_own h
  exact ⟨ao, cap, e⟩
theorem own_sl {w : World} {base : Nat} {e : TypeId} {size : Nat} {n n' cap : Nat} {ao : Option Addr} {xs : List Value} (h : w.ownsRow base e size (.slice ao n' cap) n xs) : Sl w size ao n xs := by
  obtain ⟨ao', cap', e, _, _, h1⟩ := Sl.of_own h
  cases e
  exact h1
theorem run_eql_slice_nil' {P : Program} (w : World) (t e : TypeId) (a : Option Addr) (n c n' c' : Nat) (h : P.underlying t = some (.slice e)) :
    (binOp .eql t (.slice a n c) (.slice none n' c')).run P w = .ok (.bool a.isNone) w := by
  simp only [binOp]
  simp [Op.equal, Op.maxDepth, Lib.run_equalIn_slice_nil w 9999 t e a n c n' c' h]
/-- All blocks but v's own one are as they were. -/
def Else (w w' : World) (v : Value) : Prop := ∀ k, k < w.heap.size → some k ≠ v.ownBlock → w'.heap[k]? = w.heap[k]?
theorem setCells_other {g : Nat} : ∀ (vs : List Value) (o : Nat) (v : World) (k : Nat), k ≠ g → (v.setCells g o vs).heap[k]? = v.heap[k]?
  | [], _, _, _, _ => rfl
  | _ :: r, o, v, k, h => by rw [World.setCells, setCells_other r _ _ _ h]; exact Below.heap_setCell _ _ _ _ h
theorem info_vt : (Try.prog.info? 27).map (fun i => (i.zero, i.size, i.bytes)) = some (some (.agg #[.string ⟨#[]⟩, .string ⟨#[]⟩]), 2, 32) := by kernel_rfl
theorem info_bl : (Try.prog.info? 61).map (fun i => (i.zero, i.size, i.bytes)) = some (some (.agg #[.int .u64 0, .int .u64 0, .slice none 0 0]), 3, 40) := by kernel_rfl
set_option maxRecDepth 100000 in
set_option maxHeartbeats 4000000 in
theorem Clone_vote (l : List Vt) (n cap : Nat) (ao : Option Addr) (w : World) (hl : l.length = n) (hs : Sl w 2 ao n (vcells l)) (hz : ao = none → cap = 0) (hn : n ≤ 1000000) :
    Calls Try.prog 18 #[.slice ao n cap] w fun e w' => ∃ v', e = .returned v' ∧ w'.ownsRow w.heap.size 27 2 v' n (vcells l) ∧ Below w.heap.size w w' := by
  cases ao with
  | none =>
    obtain rfl := hz rfl
    obtain rfl : n = 0 := by
      rcases hs.2 with h0 | ⟨b, o, e', _⟩
      · exact h0
      · cases e'
    obtain rfl : l = [] := List.eq_nil_of_length_eq_zero hl
    clear hs hz hn hl
    go_enter Try.func18, Try.ntmps18
    go_wp2_with fail
    rw [run_eql_slice_nil' _ _ _ _ _ _ _ _ Try.underlying36]
    go_wp2_with fail
    go_ret
    exact ⟨_, rfl, World.ownsRow_nil _ _ _ _, Below.refl _ _⟩
  | some a =>
    have HA := lid hs
    clear hs hz
    go_enter Try.func18, Try.ntmps18
    go_wp2_with fail
    rw [run_eql_slice_nil' _ _ _ _ _ _ _ _ Try.underlying36]
    go_wp2_with (at_builtin; go_must (refine wpList_append_sl rfl _ _ 36 rfl w.heap.size 27 (.agg #[.string ⟨#[]⟩, .string ⟨#[]⟩]) 2 32 info_vt Try.underlying36 rfl (by decide) _ 0 [] (World.ownsRow_lit w #[] 0 (Nat.le_refl _) (by simp [maxLen]) rfl) rfl (some a) n cap (vcells l) rfl (HA.out.below (ba _ _)) (by intro h; cases h) (vcells_one l) (by simp [maxLen]; omega) (by omega) (by simp) ?_))
    intro v5 w5 hown5 hb5
    go_wp2_with fail
    go_ret
    refine ⟨_, rfl, ?_, (ba _ _).trans hb5⟩
    simpa using hown5

set_option maxRecDepth 100000 in
set_option maxHeartbeats 8000000 in
/-- 'slices.Insert(s, i, x)': s of the call's own, x in another block. -/
theorem Insert_vote (l : List Vt) (v : Value) (n i : Nat) (x : Vt) (base xb : Nat) (w : World) (hn : l.length = n) (hm : n ≤ 1000000) (hs : w.ownsRow base 27 2 v n (vcells l)) (hbase : base ≤ w.heap.size) (hi : i ≤ n)
    (hx : w.heap[xb]? = some (.cells (vtc x) 27 (0, 0))) (hne : v.ownBlock ≠ some xb) :
    Calls Try.prog 42 #[v, .int .i64 i, .slice (some ⟨xb, 0, none⟩) 1 1] w fun e w' => ∃ v', e = .returned v' ∧ w'.ownsRow base 27 2 v' (n + 1) (vcells (l.take i ++ x :: l.drop i)) ∧ Below base w w' ∧ Else w w' v := by
  have hsx : Sl w 2 (some ⟨xb, 0, none⟩) 1 (vte x) := ⟨rfl, .inr ⟨xb, 0, rfl, row_lt hx, fun j u hu => by rw [Nat.zero_add, row_cell hx]; simpa using hu⟩⟩
  have h1x : ∀ u ∈ vte x, u.oneCell' = true := fun u hu => vcells_one [x] u (by simpa [vcells] using hu)
  rcases Nat.lt_or_ge i n with hin | hin
  case inr =>
    obtain rfl : i = n := by omega
    obtain ⟨ao, cap, rfl⟩ := own_slice hs
    have HS := lid hs
    have HX := lid hsx
    have H1 := lid h1x
    have HF : Hid (vcells l ++ vte x = vcells (l.take i ++ x :: l.drop i)) := lid (by rw [List.take_of_length_le (by omega), List.drop_of_length_le (by omega)]; simp [vcells])
    have hcap : i ≤ cap := by
      obtain ⟨_, _, e, h1, _⟩ := Sl.of_own hs
      cases e
      exact h1
    have hmx : cap ≤ 9223372036854775807 := by
      obtain ⟨_, _, e, _, h1, _⟩ := Sl.of_own hs
      cases e
      exact h1
    clear hs hsx h1x hx hne hn
    rcases Decidable.em (cap = i) with rfl | hci
    all_goals
      go_enter Try.func42, Try.ntmps42
      go_wp2_with (at_builtin; go_must (refine wpList_append_slg rfl _ _ 36 rfl base 27 (.agg #[.string ⟨#[]⟩, .string ⟨#[]⟩]) 2 32 info_vt Try.underlying36 rfl (by decide) _ _ _ HS.out rfl (some ⟨xb, 0, none⟩) 1 1 (vte x) rfl HX.out (by intro h; cases h) H1.out (by simp only [maxLen]; omega) (by omega) hbase ?_))
      intro v5 w5 hown5 hb5 hg5
      rw [HF.out] at hown5
      have HEL := lid hg5.block
      clear hg5
      go_wp2_with fail
      go_ret
      exact ⟨_, rfl, hown5, hb5, HEL.out⟩
  case inl =>
    rcases hs.2 with ⟨hv, h0⟩ | ⟨g, cap, cur, rfl, hg, hcur, hncap, hmax, hsz, htk⟩
    · exfalso
      have h1 := hs.1
      rw [h0] at h1
      simp at h1
      omega
    have hmx : cap ≤ 9223372036854775807 := hmax
    have hgx : g ≠ xb := fun e => hne (by rw [e]; rfl)
    have hAl : (vcells l).length = n * 2 := by rw [vcells_length, hn]
    have hpl : i * 2 ≤ (vcells l).length := by rw [hAl]; exact Nat.mul_le_mul_right _ hi
    have hdl : ((vcells l).drop (i * 2)).length = (n - i) * 2 := by rw [List.length_drop, hAl, Nat.sub_mul]
    have hres : (vcells l).take (i * 2) ++ vte x ++ (vcells l).drop (i * 2) = vcells (l.take i ++ x :: l.drop i) := by
      unfold vcells
      rw [flat_take vte_length, flat_drop vte_length]
      simp
    have hc : ∀ j u, (vcells l)[j]? = some u → w.cell? ⟨g, 0 + j, none⟩ = some u := fun j u hu => by
      rw [Nat.zero_add, row_cell hcur]
      have := congrArg (fun z => z[j]?) htk
      simp only [List.getElem?_take] at this
      rw [hu] at this
      split at this
      · simpa using this
      · cases this
    have hwrap : IntKind.i64.wrap ((i : Int) + 1) = (i : Int) + 1 := by rw [IntKind.wrap_i64]; omega
    have hgl := row_lt hcur
    have hxl := row_lt hx
    have hxs : ∀ {W : World}, W.heap[xb]? = some (.cells (vtc x) 27 (0, 0)) → ∀ j u, (vte x)[j]? = some u → W.cell? ((⟨xb, 0, none⟩ : Addr).add j) = some u := fun h j u hu => by
      rw [Addr.add_lit, Nat.zero_add, row_cell h]
      simpa using hu
    rcases Nat.lt_or_ge n cap with hroom | hroom
    · -- there is room
      have hcz : (n + 1) * 2 ≤ cap * 2 := Nat.mul_le_mul_right _ hroom
      obtain ⟨cur1, h1⟩ : ∃ y, layAt cur (i * 2 + 2) ((vcells l).drop (i * 2)) = y := ⟨_, rfl⟩
      obtain ⟨W1, hW1⟩ : ∃ y, w.drew.setCells g (i * 2 + 2) ((vcells l).drop (i * 2)) = y := ⟨_, rfl⟩
      have hr1 : W1.heap[g]? = some (.cells cur1 27 (0, 0)) := by rw [← hW1, ← h1]; exact row_setCells _ _ w.drew cur hcur
      have hs1 : cur1.size = cap * 2 := by rw [← h1, layAt_size, hsz]
      have hb1 : Below base w W1 := by rw [← hW1]; exact below_cells hg _ _ _ (Below.refl _ _).drew
      have hx1 : W1.heap[xb]? = some (.cells (vtc x) 27 (0, 0)) := by
        rw [← hW1, ← hx]
        exact setCells_other _ _ _ _ (Ne.symm hgx)
      have HEL : Hid (Else w (W1.setCells g (i * 2) (vte x)) (.slice (some ⟨g, 0, none⟩) n cap)) := lid (fun k hk hkg => by
        have hkg' : k ≠ g := fun e => hkg (by rw [e]; rfl)
        rw [setCells_other _ _ _ _ hkg', ← hW1, setCells_other _ _ _ _ hkg']
        rfl)
      have hcp1 : ∀ ty dc sc, (Builtin.copy_ #[36, 36] ty #[.slice (some ⟨g, (i + 1) * 2, none⟩) (n + 1 - (i + 1)) dc, .slice (some ⟨g, i * 2, none⟩) (n + 1 - i) sc]).run Try.prog w.drew = .ok (goInt (n - i : Nat)) W1 := fun ty dc sc => by
        rw [← hW1, show (i + 1) * 2 = i * 2 + 2 by omega]
        exact run_copy_rows w.drew _ _ ty 27 2 g (i * 2 + 2) _ dc ⟨g, i * 2, none⟩ _ sc _ cur 27 Try.underlying36 (by kernel_rfl) (n - i) (by simp only [Nat.min_def]; split <;> omega) hdl
          (fun j u hu => by rw [Addr.add_lit]; rw [List.getElem?_drop] at hu; have := hc _ u hu; rwa [Nat.zero_add] at this) hcur (by rw [hdl, hsz]; omega) (fun u hu => vcells_one l u (List.mem_of_mem_drop hu))
      have hcp2 : ∀ (W : World), W.heap = W1.heap → ∀ ty dc, (Builtin.copy_ #[36, 36] ty #[.slice (some ⟨g, i * 2, none⟩) (n + 1 - i) dc, .slice (some ⟨xb, 0, none⟩) 1 1]).run Try.prog W = .ok (goInt (1 : Nat)) (W.setCells g (i * 2) (vte x)) := fun W hW ty dc =>
        run_copy_rows W _ _ ty 27 2 g (i * 2) _ dc ⟨xb, 0, none⟩ _ 1 _ cur1 27 Try.underlying36 (by kernel_rfl) 1 (by simp only [Nat.min_def]; split <;> omega) rfl (hxs (by rw [hW]; exact hx1)) (by rw [hW]; exact hr1) (by rw [hs1]; show i * 2 + 2 ≤ _; omega) h1x
      have hov : ∀ lb cb, (callFunc 61 #[.slice (some ⟨xb, 0, none⟩) 1 1, .slice (some ⟨g, (i + 1) * 2, none⟩) lb cb]).run Try.prog w = .ok (.value (.bool false)) w := fun lb cb => by
        rw [run_callFunc_extern Try.func61 (by kernel_rfl) (by kernel_rfl) (by kernel_rfl) (e := Extern.SlicesOverlaps.overlaps #[36, 36] #[4]) (by kernel_rfl),
          Lib.run_overlaps_apart w 36 4 27 Try.underlying36 2 (by intro w; kernel_rfl) ⟨xb, 0, none⟩ ⟨g, (i + 1) * 2, none⟩ 1 1 lb cb (Ne.symm hgx) 27 27 _ _ (show w.shape? xb = _ by unfold World.shape?; rw [hx]) (show w.shape? g = _ by unfold World.shape?; rw [hcur]) (by rw [hsz]; omega) (row_fz hx _) (row_fz hx _)]
        rfl
      have HF : Hid ((layAt cur1 (i * 2) (vte x)).toList.take ((n + 1) * 2) = vcells (l.take i ++ x :: l.drop i)) := lid (by
        rw [← hres, ← h1]
        have := ins_row (cur := cur) (us := vte x) hpl (by rw [hAl]; exact htk) (by rw [hAl, hsz]; show _ + 2 ≤ _; omega)
        rw [hAl] at this
        rw [show (n + 1) * 2 = n * 2 + (vte x).length by show _ = _ + 2; omega]
        exact this)
      have HR2 : Hid ((W1.setCells g (i * 2) (vte x)).heap[g]? = _) := lid (row_setCells (vte x) _ _ _ hr1)
      have HB2 := lid (below_cells hg (vte x) (i * 2) _ hb1)
      have HS1 := lid hs1
      have HLEN : Hid ((vcells (l.take i ++ x :: l.drop i)).length = (n + 1) * 2) := lid (by rw [vcells_length]; simp; omega)
      have e1 : ((i : Int) == (n : Int)) = false := beq_eq_false_iff_ne.2 (by omega)
      have e2 : decide ((n : Int) + 1 > (cap : Int)) = false := by simp; omega
      have HC1 := lid hcp1
      have HC2 := lid hcp2
      have HB1 := lid hb1
      clear hcp1 hcp2 hb1 hs1 hr1 hx1 h1 hW1 htk hsz hcur hs hsx h1x hx hne hn hAl hpl hdl hres hc hxs
      go_enter Try.func42, Try.ntmps42
      go_wp2_with fail
      refine wp_region_seq (fun w' => ∃ s : Since base w, w' = s.world) [(0, true), (1, true), (2, true), (3, true), (4, true), (5, true), (6, true), (7, true), (8, false)] (by kernel_rfl) (by kernel_rfl) (by intro c d v a w h; cases d <;> exact h) (since (Below.refl _ _).drew) ?_
      repeat (first | (refine seq_skip (by rfl) (by rfl) ?_; simp only [Act.put, List.setIfInBounds_toArray, List.set_cons_succ, List.set_cons_zero]) | (refine seq_float (by rfl) (by rfl) (by rfl) ?_; intro K hK; go_big_quiet_op; go_big_quiet_on))
      refine seq_chain (by rfl) ?_
      intro K hK
      refine Lib.wpList_copy_run _ rfl _ _ 36 36 rfl (.slice (some ⟨g, (i + 1) * 2, none⟩) (n + 1 - (i + 1)) (cap - (i + 1))) (.slice (some ⟨g, i * 2, none⟩) (n + 1 - i) (cap - i)) (by simp [Act.eval]) (by simp [Act.eval]) (HC1.out _ _ _) ?_
      go_wp2_with fail
      refine hK.out _ _ (since HB1.out) ?_
      clear hK K
      refine seq_nil ?_
      go_wp2_with fail
      rw [HC2.out W1 rfl]
      simp only [Result.andThen]
      rw [Oper.upon_value]
      go_wp2_with fail
      go_ret
      exact ⟨_, rfl, ⟨HLEN.out, .inr ⟨g, cap, _, rfl, hg, HR2.out, by omega, hmax, by rw [layAt_size]; exact HS1.out, HF.out⟩⟩, HB2.out, HEL.out⟩
    · -- there is none
      obtain rfl : n = cap := by omega
      have hik : i + (n + 1 - i) = n + 1 := by omega
      have hkk : (n : Int) + 1 - (i : Int) = ((n + 1 - i : Nat) : Int) := by omega
      obtain ⟨i0, hi0, hz0, hzs, hzb⟩ := info_parts info_vt
      have hold : (Builtin.firstCells i0.size i (.slice (some ⟨g, 0, none⟩) i n)).run Try.prog w.drew = .ok ((vcells l).take (i * 2)).toArray w.drew := by
        rw [hzs]
        exact run_firstCells_some w.drew 2 i ⟨g, 0, none⟩ i n _ (by rw [List.length_take, hAl]; omega) (fun j u hj => by
          rw [Addr.add_lit]
          rw [List.getElem?_take] at hj
          split at hj
          · exact hc j u hj
          · cases hj)
      obtain ⟨G, hG⟩ : ∃ y, grownCap w (n + 1) n 27 = y := ⟨_, rfl⟩
      have hGn : n + 1 ≤ G := by rw [← hG]; exact grownCap_ge w _ _ _
      have hGm : G ≤ maxLen := by
        rw [← hG]
        exact grownCap_le_maxLen w (n + 1) n 27 (by unfold maxLen; omega)
      have hG63 : G ≤ 9223372036854775807 := hGm
      obtain ⟨ROW, hROW⟩ : ∃ y, ((vcells l).take (i * 2)).toArray ++ Builtin.zeroCells (Value.cells (.agg #[.string ⟨#[]⟩, .string ⟨#[]⟩])) (n + 1 - i) ++ Builtin.zeroCells (Value.cells (.agg #[.string ⟨#[]⟩, .string ⟨#[]⟩])) (G - (n + 1)) = y := ⟨_, rfl⟩
      have hrz : ∀ ty, (Builtin.append_ #[36, 3] ty #[.slice (some ⟨g, 0, none⟩) i n, .int .i64 ((n : Int) + 1 - (i : Int))]).run Try.prog w = .ok (.slice (some ⟨w.heap.size, 0, none⟩) (n + 1) G) (w.drew.alloc (.cells ROW 27)) := fun ty => by
        have h := Lib.run_append_grow_zeros w 36 3 ty 27 i0 _ .i64 .i64 Try.underlying36 Try.underlying3 hi0 hz0 (some ⟨g, 0, none⟩) i n ((vcells l).take (i * 2)) hold (n + 1 - i) (by omega) (by omega) (by omega) (by omega) (by rw [hzb]; omega) (by rw [hzb, hik]; exact growslice_fits (by omega) (by omega))
        rw [hik, hG, hROW] at h
        rw [hkk]
        exact h
      have hzc : ∀ k, (Builtin.zeroCells (Value.cells (.agg #[.string ⟨#[]⟩, .string ⟨#[]⟩])) k).size = k * 2 := fun k => by
        have := zeroCells_length (Value.cells (.agg #[.string ⟨#[]⟩, .string ⟨#[]⟩])) k
        rwa [Array.length_toList] at this
      have hRs : ROW.size = G * 2 := by
        rw [← hROW, Array.size_append, Array.size_append, hzc, hzc]
        simp only [List.size_toArray, List.length_take, hAl]
        omega
      have hRt : ROW.toList.take (i * 2) = (vcells l).take (i * 2) := by
        have e : ((vcells l).take (i * 2)).length = i * 2 := by rw [List.length_take]; omega
        rw [← hROW, Array.toList_append, Array.toList_append, List.append_assoc, List.take_append_of_le_length (show _ ≤ ((vcells l).take (i * 2)).length by omega), List.take_of_length_le (show ((vcells l).take (i * 2)).length ≤ _ by omega)]
      have hGz : (n + 1) * 2 ≤ G * 2 := Nat.mul_le_mul_right _ hGn
      obtain ⟨W1, hW1⟩ : ∃ y, w.drew.alloc (.cells ROW 27) = y := ⟨_, rfl⟩
      rw [hW1] at hrz
      have hr1 : W1.heap[w.heap.size]? = some (.cells ROW 27 (0, 0)) := by rw [← hW1]; exact heap_alloc_new w.drew _
      have ho1 : ∀ k, k < w.heap.size → W1.heap[k]? = w.heap[k]? := fun k hk => by rw [← hW1]; exact Below.heap_alloc w.drew _ _ hk
      have hb1 : Below base w W1 := by rw [← hW1]; exact (Below.refl _ _).drew.alloc hbase _
      have hx1 := (ho1 xb hxl).trans hx
      have hg1 := (ho1 g hgl).trans hcur
      obtain ⟨R1, hR1⟩ : ∃ y, layAt ROW (i * 2) (vte x) = y := ⟨_, rfl⟩
      obtain ⟨W2, hW2⟩ : ∃ y, W1.setCells w.heap.size (i * 2) (vte x) = y := ⟨_, rfl⟩
      have hr2 : W2.heap[w.heap.size]? = some (.cells R1 27 (0, 0)) := by rw [← hW2, ← hR1]; exact row_setCells _ _ _ _ hr1
      have hb2 : Below base w W2 := by rw [← hW2]; exact below_cells hbase _ _ _ hb1
      have hg2 : W2.heap[g]? = some (.cells cur 27 (0, 0)) := by rw [← hW2, setCells_other _ _ _ _ (by omega)]; exact hg1
      have HEL : Hid (Else w (W2.drew.setCells w.heap.size ((i + 1) * 2) ((vcells l).drop (i * 2))) (.slice (some ⟨g, 0, none⟩) n n)) := lid (fun k hk _ => by
        rw [setCells_other _ _ _ _ (by omega)]
        show W2.heap[k]? = _
        rw [← hW2, setCells_other _ _ _ _ (by omega)]
        exact ho1 k hk)
      have hs1 : R1.size = G * 2 := by rw [← hR1, layAt_size, hRs]
      have hcp1 : ∀ ty dc, (Builtin.copy_ #[36, 36] ty #[.slice (some ⟨w.heap.size, i * 2, none⟩) (n + 1 - i) dc, .slice (some ⟨xb, 0, none⟩) 1 1]).run Try.prog W1 = .ok (goInt (1 : Nat)) W2 := fun ty dc => by
        rw [← hW2]
        exact run_copy_rows W1 _ _ ty 27 2 w.heap.size (i * 2) _ dc ⟨xb, 0, none⟩ _ 1 _ ROW 27 Try.underlying36 (by kernel_rfl) 1 (by simp only [Nat.min_def]; split <;> omega) rfl (hxs hx1) hr1 (by rw [hRs]; show i * 2 + 2 ≤ _; omega) h1x
      have hcp2 : ∀ ty dc sc, (Builtin.copy_ #[36, 36] ty #[.slice (some ⟨w.heap.size, (i + 1) * 2, none⟩) (n + 1 - (i + 1)) dc, .slice (some ⟨g, i * 2, none⟩) (n - i) sc]).run Try.prog W2.drew = .ok (goInt (n - i : Nat)) (W2.drew.setCells w.heap.size ((i + 1) * 2) ((vcells l).drop (i * 2))) := fun ty dc sc =>
        run_copy_rows W2.drew _ _ ty 27 2 w.heap.size ((i + 1) * 2) _ dc ⟨g, i * 2, none⟩ _ sc _ R1 27 Try.underlying36 (by kernel_rfl) (n - i) (by simp only [Nat.min_def]; split <;> omega) hdl
          (fun j u hu => by
            rw [Addr.add_lit]
            rw [List.getElem?_drop] at hu
            have := hc _ u hu
            rw [Nat.zero_add] at this
            rw [row_cell hcur] at this
            rw [row_cell (w := W2.drew) hg2]
            exact this) hr2 (by rw [hdl, hs1]; omega) (fun u hu => vcells_one l u (List.mem_of_mem_drop hu))
      have HF : Hid ((layAt R1 ((i + 1) * 2) ((vcells l).drop (i * 2))).toList.take ((n + 1) * 2) = vcells (l.take i ++ x :: l.drop i)) := lid (by
        rw [← hres, ← hR1]
        have := ins_row2 (R := ROW) (us := vte x) hpl hRt (by rw [hAl, hRs]; show _ + 2 ≤ _; omega)
        rw [hAl] at this
        rw [show (n + 1) * 2 = n * 2 + (vte x).length by show _ = _ + 2; omega, show (i + 1) * 2 = i * 2 + (vte x).length by show _ = _ + 2; omega]
        exact this)
      have HR3 : Hid ((W2.drew.setCells w.heap.size ((i + 1) * 2) ((vcells l).drop (i * 2))).heap[w.heap.size]? = _) := lid (row_setCells ((vcells l).drop (i * 2)) _ W2.drew _ hr2)
      have HB3 := lid (below_cells hbase ((vcells l).drop (i * 2)) ((i + 1) * 2) W2.drew hb2.drew)
      have HS1 := lid hs1
      have HLEN : Hid ((vcells (l.take i ++ x :: l.drop i)).length = (n + 1) * 2) := lid (by rw [vcells_length]; simp; omega)
      have e1 : ((i : Int) == (n : Int)) = false := beq_eq_false_iff_ne.2 (by omega)
      have e2 : decide ((n : Int) + 1 > (n : Int)) = true := by simp; omega
      have HRZ := lid hrz
      have HC1 := lid hcp1
      have HC2 := lid hcp2
      have HB2 := lid hb2
      have hGi : ¬ (G = i) := by omega
      have hGim : ¬ (G = i + 1) := by omega
      have hci : ¬ (n = i) := by omega
      clear hrz hcp1 hcp2 hb1 hb2 hs1 hr1 hr2 hx1 hg1 hg2 hW1 hW2 hR1 hRs hRt hROW hzc hG htk hsz hcur hs hsx h1x hx hne hn hAl hpl hdl hres hc hxs hkk hik hold hi0 hz0 hzs hzb ho1
      go_enter Try.func42, Try.ntmps42
      go_wp2_with (at_builtin; go_must (refine Lib.wpList_append_run _ rfl _ _ _ _ rfl _ _ rfl rfl _ _ (HRZ.out _) ?_))
      rw [HC1.out]
      simp only [Result.andThen]
      rw [Oper.upon_value]
      go_wp2_with fail
      simp only [Act.put, List.setIfInBounds_toArray, List.set_cons_succ, List.set_cons_zero]
      refine wp_region_seq (fun w' => ∃ s : Since base W2, w' = s.world) [(0, true), (1, true), (2, true), (3, true), (4, true), (5, true), (6, true), (7, true), (8, false)] (by kernel_rfl) (by kernel_rfl) (by intro c d v a w h; cases d <;> exact h) (since (Below.refl _ _).drew) ?_
      repeat (first | (refine seq_skip (by rfl) (by rfl) ?_; simp only [Act.put, List.setIfInBounds_toArray, List.set_cons_succ, List.set_cons_zero]) | (refine seq_float (by rfl) (by rfl) (by rfl) ?_; intro K hK; go_big_quiet_op; go_big_quiet_on))
      refine seq_chain (by rfl) ?_
      intro K hK
      refine Lib.wpList_copy_run _ rfl _ _ 36 36 rfl (.slice (some ⟨w.heap.size, (i + 1) * 2, none⟩) (n + 1 - (i + 1)) (G - (i + 1))) (.slice (some ⟨g, i * 2, none⟩) (n - i) (n - i)) (by simp [Act.eval]) (by simp [Act.eval]) (HC2.out _ _ _) ?_
      go_wp2_with fail
      refine hK.out _ _ (since (below_cells hbase _ _ _ (Below.refl _ _).drew)) ?_
      clear hK K
      refine seq_nil ?_
      go_wp2_with fail
      go_ret
      exact ⟨_, rfl, ⟨HLEN.out, .inr ⟨w.heap.size, G, _, rfl, hbase, HR3.out, by omega, hGm, by rw [layAt_size]; exact HS1.out, HF.out⟩⟩, HB3.out, HEL.out⟩

set_option maxRecDepth 100000 in
set_option maxHeartbeats 4000000 in
theorem Clone_ballot (l : List Rw) (n cap : Nat) (ao : Option Addr) (w : World) (hl : l.length = n) (hs : Sl w 3 ao n (rcells l)) (hz : ao = none → cap = 0) (hn : n ≤ 1000000) :
    Calls Try.prog 37 #[.slice ao n cap] w fun e w' => ∃ v', e = .returned v' ∧ w'.ownsRow w.heap.size 61 3 v' n (rcells l) ∧ Below w.heap.size w w' := by
  cases ao with
  | none =>
    obtain rfl := hz rfl
    obtain rfl : n = 0 := by
      rcases hs.2 with h0 | ⟨b, o, e', _⟩
      · exact h0
      · cases e'
    obtain rfl : l = [] := List.eq_nil_of_length_eq_zero hl
    clear hs hz hn hl
    go_enter Try.func37, Try.ntmps37
    go_wp2_with fail
    rw [run_eql_slice_nil' _ _ _ _ _ _ _ _ Try.underlying22]
    go_wp2_with fail
    go_ret
    exact ⟨_, rfl, World.ownsRow_nil _ _ _ _, Below.refl _ _⟩
  | some a =>
    have HA := lid hs
    clear hs hz
    go_enter Try.func37, Try.ntmps37
    go_wp2_with fail
    rw [run_eql_slice_nil' _ _ _ _ _ _ _ _ Try.underlying22]
    go_wp2_with (at_builtin; go_must (refine wpList_append_sl rfl _ _ 22 rfl w.heap.size 61 (.agg #[.int .u64 0, .int .u64 0, .slice none 0 0]) 3 40 info_bl Try.underlying22 rfl (by decide) _ 0 [] (World.ownsRow_lit w #[] 0 (Nat.le_refl _) (by simp [maxLen]) rfl) rfl (some a) n cap (rcells l) rfl (HA.out.below (ba _ _)) (by intro h; cases h) (rcells_one l) (by simp [maxLen]; omega) (by omega) (by simp) ?_))
    intro v5 w5 hown5 hb5
    go_wp2_with fail
    go_ret
    refine ⟨_, rfl, ?_, (ba _ _).trans hb5⟩
    simpa using hown5

set_option maxRecDepth 100000 in
set_option maxHeartbeats 8000000 in
/-- 'slices.Insert(s, i, x)': s of the call's own, x in another block. -/
theorem Insert_ballot (l : List Rw) (v : Value) (n i : Nat) (x : Rw) (base xb : Nat) (w : World) (hn : l.length = n) (hm : n ≤ 1000000) (hs : w.ownsRow base 61 3 v n (rcells l)) (hbase : base ≤ w.heap.size) (hi : i ≤ n)
    (hx : w.heap[xb]? = some (.cells (rwc x) 61 (0, 0))) (hne : v.ownBlock ≠ some xb) :
    Calls Try.prog 38 #[v, .int .i64 i, .slice (some ⟨xb, 0, none⟩) 1 1] w fun e w' => ∃ v', e = .returned v' ∧ w'.ownsRow base 61 3 v' (n + 1) (rcells (l.take i ++ x :: l.drop i)) ∧ Below base w w' ∧ Else w w' v := by
  have hsx : Sl w 3 (some ⟨xb, 0, none⟩) 1 (rwe x) := ⟨rfl, .inr ⟨xb, 0, rfl, row_lt hx, fun j u hu => by rw [Nat.zero_add, row_cell hx]; simpa using hu⟩⟩
  have h1x : ∀ u ∈ rwe x, u.oneCell' = true := fun u hu => rcells_one [x] u (by simpa [rcells] using hu)
  rcases Nat.lt_or_ge i n with hin | hin
  case inr =>
    obtain rfl : i = n := by omega
    obtain ⟨ao, cap, rfl⟩ := own_slice hs
    have HS := lid hs
    have HX := lid hsx
    have H1 := lid h1x
    have HF : Hid (rcells l ++ rwe x = rcells (l.take i ++ x :: l.drop i)) := lid (by rw [List.take_of_length_le (by omega), List.drop_of_length_le (by omega)]; simp [rcells])
    have hcap : i ≤ cap := by
      obtain ⟨_, _, e, h1, _⟩ := Sl.of_own hs
      cases e
      exact h1
    have hmx : cap ≤ 9223372036854775807 := by
      obtain ⟨_, _, e, _, h1, _⟩ := Sl.of_own hs
      cases e
      exact h1
    clear hs hsx h1x hx hne hn
    rcases Decidable.em (cap = i) with rfl | hci
    all_goals
      go_enter Try.func38, Try.ntmps38
      go_wp2_with (at_builtin; go_must (refine wpList_append_slg rfl _ _ 22 rfl base 61 (.agg #[.int .u64 0, .int .u64 0, .slice none 0 0]) 3 40 info_bl Try.underlying22 rfl (by decide) _ _ _ HS.out rfl (some ⟨xb, 0, none⟩) 1 1 (rwe x) rfl HX.out (by intro h; cases h) H1.out (by simp only [maxLen]; omega) (by omega) hbase ?_))
      intro v5 w5 hown5 hb5 hg5
      rw [HF.out] at hown5
      have HEL := lid hg5.block
      clear hg5
      go_wp2_with fail
      go_ret
      exact ⟨_, rfl, hown5, hb5, HEL.out⟩
  case inl =>
    rcases hs.2 with ⟨hv, h0⟩ | ⟨g, cap, cur, rfl, hg, hcur, hncap, hmax, hsz, htk⟩
    · exfalso
      have h1 := hs.1
      rw [h0] at h1
      simp at h1
      omega
    have hmx : cap ≤ 9223372036854775807 := hmax
    have hgx : g ≠ xb := fun e => hne (by rw [e]; rfl)
    have hAl : (rcells l).length = n * 3 := by rw [rcells_length, hn]
    have hpl : i * 3 ≤ (rcells l).length := by rw [hAl]; exact Nat.mul_le_mul_right _ hi
    have hdl : ((rcells l).drop (i * 3)).length = (n - i) * 3 := by rw [List.length_drop, hAl, Nat.sub_mul]
    have hres : (rcells l).take (i * 3) ++ rwe x ++ (rcells l).drop (i * 3) = rcells (l.take i ++ x :: l.drop i) := by
      unfold rcells
      rw [flat_take rwe_length, flat_drop rwe_length]
      simp
    have hc : ∀ j u, (rcells l)[j]? = some u → w.cell? ⟨g, 0 + j, none⟩ = some u := fun j u hu => by
      rw [Nat.zero_add, row_cell hcur]
      have := congrArg (fun z => z[j]?) htk
      simp only [List.getElem?_take] at this
      rw [hu] at this
      split at this
      · simpa using this
      · cases this
    have hwrap : IntKind.i64.wrap ((i : Int) + 1) = (i : Int) + 1 := by rw [IntKind.wrap_i64]; omega
    have hgl := row_lt hcur
    have hxl := row_lt hx
    have hxs : ∀ {W : World}, W.heap[xb]? = some (.cells (rwc x) 61 (0, 0)) → ∀ j u, (rwe x)[j]? = some u → W.cell? ((⟨xb, 0, none⟩ : Addr).add j) = some u := fun h j u hu => by
      rw [Addr.add_lit, Nat.zero_add, row_cell h]
      simpa using hu
    rcases Nat.lt_or_ge n cap with hroom | hroom
    · -- there is room
      have hcz : (n + 1) * 3 ≤ cap * 3 := Nat.mul_le_mul_right _ hroom
      obtain ⟨cur1, h1⟩ : ∃ y, layAt cur (i * 3 + 3) ((rcells l).drop (i * 3)) = y := ⟨_, rfl⟩
      obtain ⟨W1, hW1⟩ : ∃ y, w.drew.setCells g (i * 3 + 3) ((rcells l).drop (i * 3)) = y := ⟨_, rfl⟩
      have hr1 : W1.heap[g]? = some (.cells cur1 61 (0, 0)) := by rw [← hW1, ← h1]; exact row_setCells _ _ w.drew cur hcur
      have hs1 : cur1.size = cap * 3 := by rw [← h1, layAt_size, hsz]
      have hb1 : Below base w W1 := by rw [← hW1]; exact below_cells hg _ _ _ (Below.refl _ _).drew
      have hx1 : W1.heap[xb]? = some (.cells (rwc x) 61 (0, 0)) := by
        rw [← hW1, ← hx]
        exact setCells_other _ _ _ _ (Ne.symm hgx)
      have HEL : Hid (Else w (W1.setCells g (i * 3) (rwe x)) (.slice (some ⟨g, 0, none⟩) n cap)) := lid (fun k hk hkg => by
        have hkg' : k ≠ g := fun e => hkg (by rw [e]; rfl)
        rw [setCells_other _ _ _ _ hkg', ← hW1, setCells_other _ _ _ _ hkg']
        rfl)
      have hcp1 : ∀ ty dc sc, (Builtin.copy_ #[22, 22] ty #[.slice (some ⟨g, (i + 1) * 3, none⟩) (n + 1 - (i + 1)) dc, .slice (some ⟨g, i * 3, none⟩) (n + 1 - i) sc]).run Try.prog w.drew = .ok (goInt (n - i : Nat)) W1 := fun ty dc sc => by
        rw [← hW1, show (i + 1) * 3 = i * 3 + 3 by omega]
        exact run_copy_rows w.drew _ _ ty 61 3 g (i * 3 + 3) _ dc ⟨g, i * 3, none⟩ _ sc _ cur 61 Try.underlying22 (by kernel_rfl) (n - i) (by simp only [Nat.min_def]; split <;> omega) hdl
          (fun j u hu => by rw [Addr.add_lit]; rw [List.getElem?_drop] at hu; have := hc _ u hu; rwa [Nat.zero_add] at this) hcur (by rw [hdl, hsz]; omega) (fun u hu => rcells_one l u (List.mem_of_mem_drop hu))
      have hcp2 : ∀ (W : World), W.heap = W1.heap → ∀ ty dc, (Builtin.copy_ #[22, 22] ty #[.slice (some ⟨g, i * 3, none⟩) (n + 1 - i) dc, .slice (some ⟨xb, 0, none⟩) 1 1]).run Try.prog W = .ok (goInt (1 : Nat)) (W.setCells g (i * 3) (rwe x)) := fun W hW ty dc =>
        run_copy_rows W _ _ ty 61 3 g (i * 3) _ dc ⟨xb, 0, none⟩ _ 1 _ cur1 61 Try.underlying22 (by kernel_rfl) 1 (by simp only [Nat.min_def]; split <;> omega) rfl (hxs (by rw [hW]; exact hx1)) (by rw [hW]; exact hr1) (by rw [hs1]; show i * 3 + 3 ≤ _; omega) h1x
      have hov : ∀ lb cb, (callFunc 58 #[.slice (some ⟨xb, 0, none⟩) 1 1, .slice (some ⟨g, (i + 1) * 3, none⟩) lb cb]).run Try.prog w = .ok (.value (.bool false)) w := fun lb cb => by
        rw [run_callFunc_extern Try.func58 (by kernel_rfl) (by kernel_rfl) (by kernel_rfl) (e := Extern.SlicesOverlaps.overlaps #[22, 22] #[4]) (by kernel_rfl),
          Lib.run_overlaps_apart w 22 4 61 Try.underlying22 3 (by intro w; kernel_rfl) ⟨xb, 0, none⟩ ⟨g, (i + 1) * 3, none⟩ 1 1 lb cb (Ne.symm hgx) 61 61 _ _ (show w.shape? xb = _ by unfold World.shape?; rw [hx]) (show w.shape? g = _ by unfold World.shape?; rw [hcur]) (by rw [hsz]; omega) (row_fz hx _) (row_fz hx _)]
        rfl
      have HF : Hid ((layAt cur1 (i * 3) (rwe x)).toList.take ((n + 1) * 3) = rcells (l.take i ++ x :: l.drop i)) := lid (by
        rw [← hres, ← h1]
        have := ins_row (cur := cur) (us := rwe x) hpl (by rw [hAl]; exact htk) (by rw [hAl, hsz]; show _ + 3 ≤ _; omega)
        rw [hAl] at this
        rw [show (n + 1) * 3 = n * 3 + (rwe x).length by show _ = _ + 3; omega]
        exact this)
      have HR2 : Hid ((W1.setCells g (i * 3) (rwe x)).heap[g]? = _) := lid (row_setCells (rwe x) _ _ _ hr1)
      have HB2 := lid (below_cells hg (rwe x) (i * 3) _ hb1)
      have HS1 := lid hs1
      have HLEN : Hid ((rcells (l.take i ++ x :: l.drop i)).length = (n + 1) * 3) := lid (by rw [rcells_length]; simp; omega)
      have e1 : ((i : Int) == (n : Int)) = false := beq_eq_false_iff_ne.2 (by omega)
      have e2 : decide ((n : Int) + 1 > (cap : Int)) = false := by simp; omega
      have HC1 := lid hcp1
      have HC2 := lid hcp2
      have HB1 := lid hb1
      clear hcp1 hcp2 hb1 hs1 hr1 hx1 h1 hW1 htk hsz hcur hs hsx h1x hx hne hn hAl hpl hdl hres hc hxs
      go_enter Try.func38, Try.ntmps38
      go_wp2_with fail
      refine wp_region_seq (fun w' => ∃ s : Since base w, w' = s.world) [(0, true), (1, true), (2, true), (3, true), (4, true), (5, true), (6, true), (7, true), (8, false)] (by kernel_rfl) (by kernel_rfl) (by intro c d v a w h; cases d <;> exact h) (since (Below.refl _ _).drew) ?_
      repeat (first | (refine seq_skip (by rfl) (by rfl) ?_; simp only [Act.put, List.setIfInBounds_toArray, List.set_cons_succ, List.set_cons_zero]) | (refine seq_float (by rfl) (by rfl) (by rfl) ?_; intro K hK; go_big_quiet_op; go_big_quiet_on))
      refine seq_chain (by rfl) ?_
      intro K hK
      refine Lib.wpList_copy_run _ rfl _ _ 22 22 rfl (.slice (some ⟨g, (i + 1) * 3, none⟩) (n + 1 - (i + 1)) (cap - (i + 1))) (.slice (some ⟨g, i * 3, none⟩) (n + 1 - i) (cap - i)) (by simp [Act.eval]) (by simp [Act.eval]) (HC1.out _ _ _) ?_
      go_wp2_with fail
      refine hK.out _ _ (since HB1.out) ?_
      clear hK K
      refine seq_nil ?_
      go_wp2_with fail
      rw [HC2.out W1 rfl]
      simp only [Result.andThen]
      rw [Oper.upon_value]
      go_wp2_with fail
      go_ret
      exact ⟨_, rfl, ⟨HLEN.out, .inr ⟨g, cap, _, rfl, hg, HR2.out, by omega, hmax, by rw [layAt_size]; exact HS1.out, HF.out⟩⟩, HB2.out, HEL.out⟩
    · -- there is none
      obtain rfl : n = cap := by omega
      have hik : i + (n + 1 - i) = n + 1 := by omega
      have hkk : (n : Int) + 1 - (i : Int) = ((n + 1 - i : Nat) : Int) := by omega
      obtain ⟨i0, hi0, hz0, hzs, hzb⟩ := info_parts info_bl
      have hold : (Builtin.firstCells i0.size i (.slice (some ⟨g, 0, none⟩) i n)).run Try.prog w.drew = .ok ((rcells l).take (i * 3)).toArray w.drew := by
        rw [hzs]
        exact run_firstCells_some w.drew 3 i ⟨g, 0, none⟩ i n _ (by rw [List.length_take, hAl]; omega) (fun j u hj => by
          rw [Addr.add_lit]
          rw [List.getElem?_take] at hj
          split at hj
          · exact hc j u hj
          · cases hj)
      obtain ⟨G, hG⟩ : ∃ y, grownCap w (n + 1) n 61 = y := ⟨_, rfl⟩
      have hGn : n + 1 ≤ G := by rw [← hG]; exact grownCap_ge w _ _ _
      have hGm : G ≤ maxLen := by
        rw [← hG]
        exact grownCap_le_maxLen w (n + 1) n 61 (by unfold maxLen; omega)
      have hG63 : G ≤ 9223372036854775807 := hGm
      obtain ⟨ROW, hROW⟩ : ∃ y, ((rcells l).take (i * 3)).toArray ++ Builtin.zeroCells (Value.cells (.agg #[.int .u64 0, .int .u64 0, .slice none 0 0])) (n + 1 - i) ++ Builtin.zeroCells (Value.cells (.agg #[.int .u64 0, .int .u64 0, .slice none 0 0])) (G - (n + 1)) = y := ⟨_, rfl⟩
      have hrz : ∀ ty, (Builtin.append_ #[22, 3] ty #[.slice (some ⟨g, 0, none⟩) i n, .int .i64 ((n : Int) + 1 - (i : Int))]).run Try.prog w = .ok (.slice (some ⟨w.heap.size, 0, none⟩) (n + 1) G) (w.drew.alloc (.cells ROW 61)) := fun ty => by
        have h := Lib.run_append_grow_zeros w 22 3 ty 61 i0 _ .i64 .i64 Try.underlying22 Try.underlying3 hi0 hz0 (some ⟨g, 0, none⟩) i n ((rcells l).take (i * 3)) hold (n + 1 - i) (by omega) (by omega) (by omega) (by omega) (by rw [hzb]; omega) (by rw [hzb, hik]; exact growslice_fits (by omega) (by omega))
        rw [hik, hG, hROW] at h
        rw [hkk]
        exact h
      have hzc : ∀ k, (Builtin.zeroCells (Value.cells (.agg #[.int .u64 0, .int .u64 0, .slice none 0 0])) k).size = k * 3 := fun k => by
        have := zeroCells_length (Value.cells (.agg #[.int .u64 0, .int .u64 0, .slice none 0 0])) k
        rwa [Array.length_toList] at this
      have hRs : ROW.size = G * 3 := by
        rw [← hROW, Array.size_append, Array.size_append, hzc, hzc]
        simp only [List.size_toArray, List.length_take, hAl]
        omega
      have hRt : ROW.toList.take (i * 3) = (rcells l).take (i * 3) := by
        have e : ((rcells l).take (i * 3)).length = i * 3 := by rw [List.length_take]; omega
        rw [← hROW, Array.toList_append, Array.toList_append, List.append_assoc, List.take_append_of_le_length (show _ ≤ ((rcells l).take (i * 3)).length by omega), List.take_of_length_le (show ((rcells l).take (i * 3)).length ≤ _ by omega)]
      have hGz : (n + 1) * 3 ≤ G * 3 := Nat.mul_le_mul_right _ hGn
      obtain ⟨W1, hW1⟩ : ∃ y, w.drew.alloc (.cells ROW 61) = y := ⟨_, rfl⟩
      rw [hW1] at hrz
      have hr1 : W1.heap[w.heap.size]? = some (.cells ROW 61 (0, 0)) := by rw [← hW1]; exact heap_alloc_new w.drew _
      have ho1 : ∀ k, k < w.heap.size → W1.heap[k]? = w.heap[k]? := fun k hk => by rw [← hW1]; exact Below.heap_alloc w.drew _ _ hk
      have hb1 : Below base w W1 := by rw [← hW1]; exact (Below.refl _ _).drew.alloc hbase _
      have hx1 := (ho1 xb hxl).trans hx
      have hg1 := (ho1 g hgl).trans hcur
      obtain ⟨R1, hR1⟩ : ∃ y, layAt ROW (i * 3) (rwe x) = y := ⟨_, rfl⟩
      obtain ⟨W2, hW2⟩ : ∃ y, W1.setCells w.heap.size (i * 3) (rwe x) = y := ⟨_, rfl⟩
      have hr2 : W2.heap[w.heap.size]? = some (.cells R1 61 (0, 0)) := by rw [← hW2, ← hR1]; exact row_setCells _ _ _ _ hr1
      have hb2 : Below base w W2 := by rw [← hW2]; exact below_cells hbase _ _ _ hb1
      have hg2 : W2.heap[g]? = some (.cells cur 61 (0, 0)) := by rw [← hW2, setCells_other _ _ _ _ (by omega)]; exact hg1
      have HEL : Hid (Else w (W2.drew.setCells w.heap.size ((i + 1) * 3) ((rcells l).drop (i * 3))) (.slice (some ⟨g, 0, none⟩) n n)) := lid (fun k hk _ => by
        rw [setCells_other _ _ _ _ (by omega)]
        show W2.heap[k]? = _
        rw [← hW2, setCells_other _ _ _ _ (by omega)]
        exact ho1 k hk)
      have hs1 : R1.size = G * 3 := by rw [← hR1, layAt_size, hRs]
      have hcp1 : ∀ ty dc, (Builtin.copy_ #[22, 22] ty #[.slice (some ⟨w.heap.size, i * 3, none⟩) (n + 1 - i) dc, .slice (some ⟨xb, 0, none⟩) 1 1]).run Try.prog W1 = .ok (goInt (1 : Nat)) W2 := fun ty dc => by
        rw [← hW2]
        exact run_copy_rows W1 _ _ ty 61 3 w.heap.size (i * 3) _ dc ⟨xb, 0, none⟩ _ 1 _ ROW 61 Try.underlying22 (by kernel_rfl) 1 (by simp only [Nat.min_def]; split <;> omega) rfl (hxs hx1) hr1 (by rw [hRs]; show i * 3 + 3 ≤ _; omega) h1x
      have hcp2 : ∀ ty dc sc, (Builtin.copy_ #[22, 22] ty #[.slice (some ⟨w.heap.size, (i + 1) * 3, none⟩) (n + 1 - (i + 1)) dc, .slice (some ⟨g, i * 3, none⟩) (n - i) sc]).run Try.prog W2.drew = .ok (goInt (n - i : Nat)) (W2.drew.setCells w.heap.size ((i + 1) * 3) ((rcells l).drop (i * 3))) := fun ty dc sc =>
        run_copy_rows W2.drew _ _ ty 61 3 w.heap.size ((i + 1) * 3) _ dc ⟨g, i * 3, none⟩ _ sc _ R1 61 Try.underlying22 (by kernel_rfl) (n - i) (by simp only [Nat.min_def]; split <;> omega) hdl
          (fun j u hu => by
            rw [Addr.add_lit]
            rw [List.getElem?_drop] at hu
            have := hc _ u hu
            rw [Nat.zero_add] at this
            rw [row_cell hcur] at this
            rw [row_cell (w := W2.drew) hg2]
            exact this) hr2 (by rw [hdl, hs1]; omega) (fun u hu => rcells_one l u (List.mem_of_mem_drop hu))
      have HF : Hid ((layAt R1 ((i + 1) * 3) ((rcells l).drop (i * 3))).toList.take ((n + 1) * 3) = rcells (l.take i ++ x :: l.drop i)) := lid (by
        rw [← hres, ← hR1]
        have := ins_row2 (R := ROW) (us := rwe x) hpl hRt (by rw [hAl, hRs]; show _ + 3 ≤ _; omega)
        rw [hAl] at this
        rw [show (n + 1) * 3 = n * 3 + (rwe x).length by show _ = _ + 3; omega, show (i + 1) * 3 = i * 3 + (rwe x).length by show _ = _ + 3; omega]
        exact this)
      have HR3 : Hid ((W2.drew.setCells w.heap.size ((i + 1) * 3) ((rcells l).drop (i * 3))).heap[w.heap.size]? = _) := lid (row_setCells ((rcells l).drop (i * 3)) _ W2.drew _ hr2)
      have HB3 := lid (below_cells hbase ((rcells l).drop (i * 3)) ((i + 1) * 3) W2.drew hb2.drew)
      have HS1 := lid hs1
      have HLEN : Hid ((rcells (l.take i ++ x :: l.drop i)).length = (n + 1) * 3) := lid (by rw [rcells_length]; simp; omega)
      have e1 : ((i : Int) == (n : Int)) = false := beq_eq_false_iff_ne.2 (by omega)
      have e2 : decide ((n : Int) + 1 > (n : Int)) = true := by simp; omega
      have HRZ := lid hrz
      have HC1 := lid hcp1
      have HC2 := lid hcp2
      have HB2 := lid hb2
      have hGi : ¬ (G = i) := by omega
      have hGim : ¬ (G = i + 1) := by omega
      have hci : ¬ (n = i) := by omega
      clear hrz hcp1 hcp2 hb1 hb2 hs1 hr1 hr2 hx1 hg1 hg2 hW1 hW2 hR1 hRs hRt hROW hzc hG htk hsz hcur hs hsx h1x hx hne hn hAl hpl hdl hres hc hxs hkk hik hold hi0 hz0 hzs hzb ho1
      go_enter Try.func38, Try.ntmps38
      go_wp2_with (at_builtin; go_must (refine Lib.wpList_append_run _ rfl _ _ _ _ rfl _ _ rfl rfl _ _ (HRZ.out _) ?_))
      rw [HC1.out]
      simp only [Result.andThen]
      rw [Oper.upon_value]
      go_wp2_with fail
      simp only [Act.put, List.setIfInBounds_toArray, List.set_cons_succ, List.set_cons_zero]
      refine wp_region_seq (fun w' => ∃ s : Since base W2, w' = s.world) [(0, true), (1, true), (2, true), (3, true), (4, true), (5, true), (6, true), (7, true), (8, false)] (by kernel_rfl) (by kernel_rfl) (by intro c d v a w h; cases d <;> exact h) (since (Below.refl _ _).drew) ?_
      repeat (first | (refine seq_skip (by rfl) (by rfl) ?_; simp only [Act.put, List.setIfInBounds_toArray, List.set_cons_succ, List.set_cons_zero]) | (refine seq_float (by rfl) (by rfl) (by rfl) ?_; intro K hK; go_big_quiet_op; go_big_quiet_on))
      refine seq_chain (by rfl) ?_
      intro K hK
      refine Lib.wpList_copy_run _ rfl _ _ 22 22 rfl (.slice (some ⟨w.heap.size, (i + 1) * 3, none⟩) (n + 1 - (i + 1)) (G - (i + 1))) (.slice (some ⟨g, i * 3, none⟩) (n - i) (n - i)) (by simp [Act.eval]) (by simp [Act.eval]) (HC2.out _ _ _) ?_
      go_wp2_with fail
      refine hK.out _ _ (since (below_cells hbase _ _ _ (Below.refl _ _).drew)) ?_
      clear hK K
      refine seq_nil ?_
      go_wp2_with fail
      go_ret
      exact ⟨_, rfl, ⟨HLEN.out, .inr ⟨w.heap.size, G, _, rfl, hbase, HR3.out, by omega, hGm, by rw [layAt_size]; exact HS1.out, HF.out⟩⟩, HB3.out, HEL.out⟩

end Go.Proofs.Ytcpnpcbaifagbaa
