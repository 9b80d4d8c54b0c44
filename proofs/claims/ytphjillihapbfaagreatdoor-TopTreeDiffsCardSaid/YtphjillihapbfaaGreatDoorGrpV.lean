/-
  TreeEx TreeOpp TopDfs.
-/
import Derived.Test.YtphjillihapbfaaGreatDoorGrpS
import Derived.Test.YtphjillihapbfaaGreatDoorTreePatch
import Derived.Test.YtphjillihapbfaaGreatDoorTreeDiff
import Derived.Test.YtphjillihapbfaaGreatDoorTreeCh
import Derived.Test.YtphjillihapbfaaGreatDoorGrpR
import Derived.Test.YtphjillihapbfaaGreatDoorGrpN
namespace Go.Proofs.YtphjillihapbfaaGreatDoor
open Go.RowKit

theorem addP_nil (f : Fl) : addP [] f = f := by
  unfold addP
  rw [List.nil_append, show bstr f.1.data.toList = f.1 from data_inj (bstr_list _)]
/-- A list that lies in a pool, small and valid. -/
structure SL (q : List It) (d : Dg) (l : List Fl) : Prop where
  ld : LD q 101 d l
  ok : treeC l = 0
  ten : l.length ≤ 10
  dat : ∀ f ∈ l, f.2.size ≤ 200
theorem SL.mono {p q : List It} {d : Dg} {l : List Fl} (h : SL p d l) (hq : GoodP q) (hs : Sub p q) : SL q d l := ⟨h.ld.mono hq hs, h.ok, h.ten, h.dat⟩
theorem SL.load {q : List It} {d : Dg} {l : List Fl} (h : SL q d l) : ∃ L, loadP q 101 d [] = some L ∧ L.Perm l := by
  obtain ⟨L, h1, h2⟩ := h.ld [] (fun f hf => by have := pathB_size ((treeC_zero h.ok).path f hf); simpa using this) (.inr rfl)
  refine ⟨L, h1, ?_⟩
  rwa [List.map_congr_left (fun f _ => addP_nil f), List.map_id'] at h2
theorem SL.sz {q : List It} {d : Dg} {l : List Fl} (h : SL q d l) : ∀ f ∈ l, f.1.size ≤ maxLen ∧ f.2.size ≤ maxLen := fun f hf => ⟨Nat.le_trans (pathB_size ((treeC_zero h.ok).path f hf)) (by simp [maxLen]), Nat.le_trans (h.dat f hf) (by simp [maxLen])⟩
theorem SL.store {p q : List It} {d : Dg} {l : List Fl} (hp : GoodP p) (hc : treeC l = 0) (h10 : l.length ≤ 10) (hz : ∀ f ∈ l, f.2.size ≤ 200) (h : storeP 101 p l = some (q, d)) : GoodP q ∧ Sub p q ∧ SL q d l := by
  obtain ⟨h1, h2, h3⟩ := store_load hp (treeC_zero hc).nf hz h
  exact ⟨h1, h2, h3, hc, h10, hz⟩
theorem diff_sl (p : List It) (n cap : Nat) (ao : Option Addr) (da db : Dg) (A B : List Fl) (w : World) (hG : GoodP p) (hn : n ≤ 90000) (hP : PA w ao n cap p) (hLo : Lo w ao) (ha : SL p da A) (hb : SL p db B) :
    Calls Tryz.prog 7 #[.slice ao n cap, dv da, dv db] w fun e w' => Below w.heap.size w w' ∧ ∃ (a : Option Addr) (n' c : Nat) (C : List Ch), e = .returned (.tuple #[.slice a n' c, .int .i64 0]) ∧ CA w' a n' c C ∧ Chg A B C ∧ n' ≤ 20 ∧ Nw w w' a := by
  obtain ⟨La, a1, a2⟩ := ha.load
  obtain ⟨Lb, b1, b2⟩ := hb.load
  exact diff_any p n cap ao da db 101 101 La Lb A B w hG hn hP hLo a1 a2 (treeC_zero ha.ok).asc ha.ten ha.sz (treeC_zero ha.ok).path b1 b2 (treeC_zero hb.ok).asc hb.ten hb.sz (treeC_zero hb.ok).path
theorem patch_sl (p : List It) (A B : List Fl) (c : List Ch) (da db : Dg) (n cap m ccap : Nat) (ao co : Option Addr) (w : World) (ha : SL p da A) (hb : SL p db B) (hF : FA w ao n cap A) (hC : CA w co m ccap c) (hG : Chg A B c) (hm : m ≤ 1000) :
    Calls Tryz.prog 8 #[.slice ao n cap, .slice co m ccap] w fun e w' => Below w.heap.size w w' ∧ ∃ (a : Option Addr) (n' c' : Nat), e = .returned (.tuple #[.slice a n' c', .int .i64 0]) ∧ FA w' a n' c' B ∧ Nw w w' a :=
  Patch_any A B c n cap m ccap ao co w hF hC hG ha.ok hb.ok (fun f hf => Nat.le_trans (ha.dat f hf) (by omega)) (fun f hf => Nat.le_trans (hb.dat f hf) (by omega)) (by have := ha.ten; have := hF.len; omega) hm

def exB : List Fl := [(⟨#[97]⟩, ⟨#[49]⟩)]
theorem ex_store : ((storeP 101 [] exB).map fun x => x.1.length) = some 2 := by decide +kernel
theorem ex_check : treeC exB = 0 := by decide +kernel
set_option maxRecDepth 100000 in
set_option maxHeartbeats 4000000 in
theorem example_any (w : World) : Calls Tryz.prog 4 #[] w fun e w' => e = .returned (.bool true) ∧ Below w.heap.size w w' := by
  obtain ⟨W1, hW1⟩ : ∃ y, w.alloc (Obj.cells #[.string ⟨#[97]⟩, .string ⟨#[49]⟩] 45) = y := ⟨_, rfl⟩
  have hb1 : Below w.heap.size w W1 := by rw [← hW1]; exact ba _ _
  have hfa : FA W1 (some ⟨w.heap.size, 0, none⟩) 1 1 exB := by
    have h1 := World.ownsRow_lit (e := 45) (base := w.heap.size) (size := 2) w #[.string ⟨#[97]⟩, .string ⟨#[49]⟩] 1 (Nat.le_refl _) (by simp [maxLen]) rfl
    rw [hW1] at h1
    obtain ⟨a, c, e, h2⟩ := FA.of_own (l := exB) h1 rfl (fun f hf => by
      have : f = (⟨#[97]⟩, ⟨#[49]⟩) := by simpa [exB] using hf
      subst this
      exact ⟨by decide, by decide⟩)
    injection e with e1 _ e3
    subst e1 e3
    exact h2
  have hdat : ∀ f ∈ exB, f.2.size ≤ 200 := fun f hf => by
    have : f = (⟨#[97]⟩, ⟨#[49]⟩) := by simpa [exB] using hf
    subst this
    decide
  have CS := lid (Store_any [] exB 1 1 0 0 (some ⟨w.heap.size, 0, none⟩) none W1 GoodP.nil (PA.nil _) (Lo.nil _) hfa hdat (by omega) (by omega))
  have HW1 := lid hW1
  have HB1 := lid hb1
  have HDAT := lid hdat
  clear hW1 hb1 hfa hdat
  go_enter Tryz.func4, Tryz.ntmps4
  go_wp2_with (with_reducible refine swap_world HW1.out ?_)
  (with_reducible refine (CS.out).mono ?_); rintro e w2 ⟨hb2, a, n', c, d, e', rfl, hres⟩
  obtain ⟨q, h2, h3, h4, rfl⟩ : ∃ q, storeP 101 [] exB = some (q, d) ∧ PA w2 a n' c q ∧ Lo w2 a ∧ e' = 0 := by
    rcases hres with ⟨h1, _, q, h2, h3, h4, _⟩ | ⟨_, h1⟩
    · exact ⟨q, h2, h3, h4, h1⟩
    · exfalso
      rcases h1 with h1 | h1
      · exact h1 ex_check
      · have := ex_store
        rw [h1] at this
        cases this
  have hq : q.length = 2 := by
    have := ex_store
    rw [h2] at this
    exact Option.some.inj this
  obtain rfl : n' = 2 := by rw [← h3.len, hq]
  obtain ⟨g1, -, g2⟩ := SL.store GoodP.nil ex_check (by decide) HDAT.out h2
  obtain ⟨L, l1, l2⟩ := g2.load
  have hb12 := HB1.out.trans (hb2.mono HB1.out.size)
  obtain ⟨W3, hW3⟩ : ∃ y, w2.alloc (Obj.cells #[.int .u64 d.1.toNat, .int .u64 d.2.toNat] 31) = y := ⟨_, rfl⟩
  have hb3 : Below w2.heap.size w2 W3 := by rw [← hW3]; exact ba _ _
  have hR3 : W3.heap[w2.heap.size]? = some (.cells #[.int .u64 d.1.toNat, .int .u64 d.2.toNat] 31 (0, 0)) := by rw [← hW3]; exact h_new rfl _
  have CL := lid (load_files q 2 c a d 101 L exB W3 g1 (by omega) (h3.below hb3) (h4.mono hb3.size) l1 l2 (treeC_zero ex_check).asc (by decide) g2.sz)
  have y0 : W3.cell? ⟨w2.heap.size, 0, none⟩ = some (.int .u64 d.1.toNat) := row_cell hR3 0
  have y1 : W3.cell? ⟨w2.heap.size, 1, none⟩ = some (.int .u64 d.2.toNat) := row_cell hR3 1
  have ly := row_lt hR3
  have HW3 := lid hW3
  have HB3 := lid (hb12.trans (hb3.mono hb12.size))
  clear hres hb2 hb12 hb3 hR3 hW3 h2 h3 h4 hq g1 g2 l1 l2
  go_wp2_with fail
  rw [HW3.out]
  (with_reducible refine (CL.out).mono ?_); rintro e w4 ⟨hb4, a4, n4, c4, rfl, hf4⟩
  obtain rfl : n4 = 1 := hf4.len.symm
  obtain ⟨b5, o5, rfl, hlb5, hc5⟩ := hf4.sl.at_ (show 0 < 1 by omega)
  have x0 : w4.cell? ⟨b5, o5, none⟩ = some (.string ⟨#[97]⟩) := hc5 0 _ rfl
  have x1 : w4.cell? ⟨b5, o5 + 1, none⟩ = some (.string ⟨#[49]⟩) := hc5 1 _ rfl
  have HB4 := lid (HB3.out.trans (hb4.mono HB3.out.size))
  clear hf4 hc5 hb4 y0 y1 ly
  go_wp2_with fail
  go_ret
  exact ⟨rfl, HB4.out⟩
end Go.Proofs.YtphjillihapbfaaGreatDoor

namespace Go.Proofs.YtphjillihapbfaaGreatDoor
open Go.RowKit

set_option maxRecDepth 100000 in
theorem quiet_ne_fl {C : World → Prop} {K : Act → Prop} {a : Act} {o : Oper} (r : Fl) (x y : Operand) (h : o.op = .binOp .neq 45 x y 45)
    (hx : a.eval x = .agg #[.string r.1, .string r.2]) (hy : a.eval y = .agg #[.string r.1, .string r.2]) (hk : K (a.put o.dst (.bool false))) : o.quiet Tryz.prog a C K := by
  refine ⟨.bool false, fun w _ => ?_, hk⟩
  unfold Oper.quietAt execOp
  rw [h]
  simp only [hx, hy]
  simp [go_sem]
set_option maxRecDepth 100000 in
set_option maxHeartbeats 8000000 in
theorem SameF_same (l : List Fl) (n n' cap cap' : Nat) (ao ao' : Option Addr) (w : World) (h : FA w ao n cap l) (h' : FA w ao' n' cap' l) (hn : n ≤ 1000000) :
    Calls Tryz.prog 9 #[.slice ao n cap, .slice ao' n' cap'] w fun e w' => e = .returned (.bool true) ∧ Below w.heap.size w w' := by
  obtain rfl : n = n' := h.len.symm.trans h'.len
  have HN := lid h.len
  have HS : Hid (Sl w 2 ao n (fcells l)) := lid h.sl
  have HS' : Hid (Sl w 2 ao' n (fcells l)) := lid h'.sl
  clear h h'
  go_enter Tryz.func9, Tryz.ntmps9
  go_wp2_with fail
  go_loopw [5] (fun i wr => ∃ k : Nat, k ≤ n ∧ i = .int .i64 k ∧ Below w.heap.size w wr) (fun i _ => n - (intOf i).toNat)
  case atStart => exact ⟨0, Nat.zero_le _, rfl, Below.refl _ _⟩
  case round =>
    obtain ⟨k, hk, rfl, hb⟩ := hrel
    by_cases hlt : k < n
    · have hkl : k < l.length := by rw [HN.out]; exact hlt
      obtain ⟨b1, o1, rfl, hlb, hcell⟩ := (HS.out.below hb).at_ hlt
      obtain ⟨b2, o2, rfl, hlb2, hcell2⟩ := (HS'.out.below hb).at_ hlt
      have x0 := hcell _ _ (fcells_at hkl).1
      have x1 := hcell _ _ (fcells_at hkl).2
      have y0 := hcell2 _ _ (fcells_at hkl).1
      have y1 := hcell2 _ _ (fcells_at hkl).2
      rw [Nat.add_zero] at x0 y0
      rw [← Nat.add_assoc] at x1 y1
      have dk : decide ((k : Int) < (n : Int)) = true := by simp; omega
      obtain ⟨r, hr⟩ : ∃ r, l[k] = r := ⟨_, rfl⟩
      rw [hr] at x0 x1 y0 y1
      clear hcell hcell2 hr
      go_wp2_with fail
      refine wp_region_seq (fun w' => ∃ s : Since wr.heap.size wr, w' = s.world) [(0, true), (1, true), (2, true), (3, true), (4, true), (5, true), (6, true), (7, true), (8, true)] (by kernel_rfl) (by kernel_rfl) (by intro c d v a w h; first | (cases d <;> exact h) | cases h.1) (since (Below.refl _ _).drew) ?_
      iterate 8 (first | (refine seq_skip (by rfl) (by rfl) ?_; simp only [Act.put, List.setIfInBounds_toArray, List.set_cons_succ, List.set_cons_zero]) | (refine seq_float (by rfl) (by rfl) (by rfl) ?_; intro K hK; go_big_quiet_op; go_big_quiet_on))
      refine seq_float (by rfl) (by rfl) (by rfl) ?_; intro K hK
      refine quiet_ne_fl r _ _ rfl rfl rfl ?_
      simp only [Act.put, List.setIfInBounds_toArray, List.set_cons_succ, List.set_cons_zero]
      go_big_quiet_on
      refine seq_nil ?_
      go_wp2_with fail
      go_roundw
      case rel => exact ⟨k + 1, by omega, by go_num, hb.drew⟩
      case measure => simp [intOf]; omega
    · obtain rfl : k = n := by omega
      have dk : decide ((k : Int) < (k : Int)) = false := by simp
      go_wp2_with fail
      go_ret
      exact ⟨rfl, hb⟩
theorem oppC_snoc (c : List Ch) (k : Nat) (hk : k < c.length) : (c.take (k + 1)).map oppC = (c.take k).map oppC ++ [oppC c[k]] := by
  rw [List.take_succ_eq_append_getElem hk, List.map_append]
  rfl
set_option maxRecDepth 100000 in
set_option maxHeartbeats 8000000 in
theorem Opposite_any (c : List Ch) (n cap : Nat) (ao : Option Addr) (w : World) (h : CA w ao n cap c) (hn : n ≤ 1000000) :
    Calls Tryz.prog 10 #[.slice ao n cap] w fun e w' => Below w.heap.size w w' ∧ ∃ (a : Option Addr) (c' : Nat), e = .returned (.slice a n c') ∧ CA w' a n c' (c.map oppC) := by
  have HN := lid h.len
  have HS : Hid (Sl w 5 ao n (ccells c)) := lid h.sl
  clear h
  go_enter Tryz.func10, Tryz.ntmps10
  go_wp2_with fail
  have hb0 : Below w.heap.size w (w.alloc (Obj.cells #[] 50)) := ba _ _
  have HO0 : Hid ((w.alloc (Obj.cells #[] 50)).ownsRow w.heap.size 50 5 (.slice (some ⟨w.heap.size, 0, none⟩) 0 0) 0 []) := lid (ownsRow_empty rfl (Nat.le_refl _))
  go_loopw [3, 4] (fun u3 u4 wr => ∃ k : Nat, k ≤ n ∧ u4 = .int .i64 k ∧ Hid (wr.ownsRow w.heap.size 50 5 u3 k (ccells ((c.take k).map oppC))) ∧ Below w.heap.size w wr) (fun _ u4 _ => n - (intOf u4).toNat)
  case atStart => exact ⟨0, Nat.zero_le _, rfl, HO0, hb0⟩
  case round =>
    obtain ⟨k, hk, rfl, HO, hb⟩ := hrel
    rename_i u3 u4
    by_cases hlt : k < n
    · have hkl : k < c.length := by rw [HN.out]; exact hlt
      obtain ⟨b1, o1, rfl, hlb, hcell0⟩ := HS.out.at_ hlt
      have hcell : ∀ j u, (ccells c)[j]? = some u → wr.cell? ⟨b1, o1 + j, none⟩ = some u := fun j u hu => (bc hb hlb _).trans (hcell0 j u hu)
      obtain ⟨x0, x1, x2, x3, x4⟩ := ccells_at hkl
      replace x0 := hcell _ _ x0
      replace x1 := hcell _ _ x1
      replace x2 := hcell _ _ x2
      replace x3 := hcell _ _ x3
      replace x4 := hcell _ _ x4
      rw [Nat.add_zero] at x0
      rw [← Nat.add_assoc] at x1 x2 x3 x4
      have dk : decide ((k : Int) < (n : Int)) = true := by simp; omega
      have HT := lid (oppC_snoc c k hkl)
      obtain ⟨⟨q, oa, ob⟩, hx⟩ : ∃ x, c[k] = x := ⟨_, rfl⟩
      rw [hx] at x0 x1 x2 x3 x4 HT
      obtain ⟨v1, hv1⟩ : ∃ v, oa.isSome = v := ⟨_, rfl⟩
      obtain ⟨v2, hv2⟩ : ∃ v, ob.isSome = v := ⟨_, rfl⟩
      obtain ⟨v3, hv3⟩ : ∃ v, oa.getD ⟨#[]⟩ = v := ⟨_, rfl⟩
      obtain ⟨v4, hv4⟩ : ∃ v, ob.getD ⟨#[]⟩ = v := ⟨_, rfl⟩
      replace x0 : wr.cell? ⟨b1, o1 + k * 5, none⟩ = some (Value.string q) := x0
      replace x1 : wr.cell? ⟨b1, o1 + k * 5 + 1, none⟩ = some (Value.bool v1) := by rw [← hv1]; exact x1
      replace x2 : wr.cell? ⟨b1, o1 + k * 5 + 2, none⟩ = some (Value.bool v2) := by rw [← hv2]; exact x2
      replace x3 : wr.cell? ⟨b1, o1 + k * 5 + 3, none⟩ = some (Value.string v3) := by rw [← hv3]; exact x3
      replace x4 : wr.cell? ⟨b1, o1 + k * 5 + 4, none⟩ = some (Value.string v4) := by rw [← hv4]; exact x4
      have HCE : Hid (ccells [oppC (q, oa, ob)] = [.string q, .bool v2, .bool v1, .string v4, .string v3]) := lid (by rw [← hv1, ← hv2, ← hv3, ← hv4]; rfl)
      have hbs : w.heap.size ≤ wr.heap.size := hb.size
      clear hcell hcell0 hx hv1 hv2 hv3 hv4
      go_wp2_with fail
      refine wp_region_seq (fun w' => ∃ s : Since w.heap.size wr, w' = s.world) [(0, true), (1, true), (2, true), (3, true), (4, true), (5, true), (6, true), (7, true), (8, true), (9, true), (10, true), (11, true), (12, true), (13, true), (14, true), (15, true), (16, true), (17, true), (18, true), (19, true), (20, true), (21, true), (22, true), (23, true), (24, true), (25, true), (26, true), (27, false), (28, false), (29, false)] (by kernel_rfl) (by kernel_rfl) (by intro c d v a w h; first | (cases d <;> exact h) | cases h.1) (since (Below.refl _ _).drew) ?_
      repeat (first | (refine seq_skip (by rfl) (by rfl) ?_; simp only [Act.put, List.setIfInBounds_toArray, List.set_cons_succ, List.set_cons_zero]) | (refine seq_float (by rfl) (by rfl) (by rfl) ?_; intro K hK; go_big_quiet_op; go_big_quiet_on))
      refine seq_chain (by rfl) ?_
      intro K hK
      go_wp2_with fail
      have hbA : Below w.heap.size wr (wr.drew.alloc (.cells #[.string q, .bool v2, .bool v1, .string v4, .string v3] 50)) := (Below.refl w.heap.size wr).drew.alloc (show w.heap.size ≤ wr.drew.heap.size from hbs) _
      refine hK.out _ _ (since hbA) ?_
      clear hK K
      repeat (first | (refine seq_skip (by rfl) (by rfl) ?_; simp only [Act.put, List.setIfInBounds_toArray, List.set_cons_succ, List.set_cons_zero]) | (refine seq_float (by rfl) (by rfl) (by rfl) ?_; intro K hK; go_big_quiet_op; go_big_quiet_on))
      refine seq_chain (by rfl) ?_
      intro K hK
      go_wp2_with (at_builtin; go_must (refine wpList_append_new (w := wr.drew) #[.string q, .bool v2, .bool v1, .string v4, .string v3] rfl _ _ 36 rfl w.heap.size 50 (.agg #[.string ⟨#[]⟩, .bool false, .bool false, .string ⟨#[]⟩, .string ⟨#[]⟩]) 5 56 info_fc Tryz.underlying36 rfl (by decide) u3 k _ HO.out.drew rfl rfl rfl (by intro u hu; simp only [List.mem_cons, List.not_mem_nil, or_false] at hu; rcases hu with rfl | rfl | rfl | rfl | rfl <;> rfl) (by simp only [maxLen]; omega) (by omega) hbs ?_))
      intro v9 w9 hown9 hb9 _
      have HO9 : Hid (w9.ownsRow w.heap.size 50 5 v9 (k + 1) (ccells ((c.take (k + 1)).map oppC))) := lid (by
        rw [HT.out, ccells_append, HCE.out, List.map_take]
        exact hown9)
      have hw9 : Below w.heap.size w w9 := hb.trans ((Below.refl _ _).drew.trans hb9)
      have hk9 : Below w.heap.size wr w9 := (Below.refl _ _).drew.trans hb9
      clear hown9 hb9
      go_wp2_with fail
      refine hK.out _ _ (since hk9) ?_
      clear hK K
      repeat (first | (refine seq_skip (by rfl) (by rfl) ?_; simp only [Act.put, List.setIfInBounds_toArray, List.set_cons_succ, List.set_cons_zero]) | (refine seq_float (by rfl) (by rfl) (by rfl) ?_; intro K hK; go_big_quiet_op; go_big_quiet_on))
      refine seq_chain (by rfl) ?_
      intro K hK
      go_wp2_with fail
      refine hK.out _ _ (since hk9) ?_
      clear hK K
      repeat (first | (refine seq_skip (by rfl) (by rfl) ?_; simp only [Act.put, List.setIfInBounds_toArray, List.set_cons_succ, List.set_cons_zero]) | (refine seq_float (by rfl) (by rfl) (by rfl) ?_; intro K hK; go_big_quiet_op; go_big_quiet_on))
      refine seq_nil ?_
      go_wp2_with fail
      go_roundw
      case rel => exact ⟨k + 1, by omega, by go_num, HO9, hw9⟩
      case measure => simp [intOf]; omega
    · obtain rfl : k = n := by omega
      have dk : decide ((k : Int) < (k : Int)) = false := by simp
      have HTK : Hid (c.take k = c) := lid (List.take_of_length_le (by rw [HN.out]; exact Nat.le_refl _))
      rw [HTK.out] at HO
      obtain ⟨a9, c9, rfl, hca⟩ := CA.of_own HO.out (by rw [List.length_map, HN.out])
      have HCA := lid hca
      clear hca
      go_wp2_with fail
      go_ret
      exact ⟨hb, a9, c9, rfl, HCA.out⟩
end Go.Proofs.YtphjillihapbfaaGreatDoor

namespace Go.Proofs.YtphjillihapbfaaGreatDoor
open Go.RowKit

structure Fw where
  l : List Fl
  ao : Option Addr
  cap : Nat
abbrev fwc (r : Fw) : Value := .slice r.ao r.l.length r.cap
/-- A slice that reads as lists of files. -/
structure LA (w : World) (ao : Option Addr) (n cap : Nat) (S : List Fw) : Prop where
  len : S.length = n
  sl : Sl w 1 ao n (S.map fwc)
  le : n ≤ cap
  max : cap ≤ maxLen
  el : ∀ r ∈ S, FA w r.ao r.l.length r.cap r.l
theorem LA.below {w w' : World} {ao : Option Addr} {n cap : Nat} {S : List Fw} (h : LA w ao n cap S) (hb : Below w.heap.size w w') : LA w' ao n cap S := ⟨h.len, h.sl.below hb, h.le, h.max, fun r hr => (h.el r hr).below hb⟩
structure Cw where
  c : List Ch
  ao : Option Addr
  cap : Nat
abbrev cwc (r : Cw) : Value := .slice r.ao r.c.length r.cap
theorem great_ten {l : List Fl} (h : fgreat l = false) : l.length ≤ 10 ∧ ∀ f ∈ l, f.1.size ≤ 120 ∧ f.2.size ≤ 200 := by
  unfold fgreat at h
  rw [Bool.or_eq_false_iff] at h
  refine ⟨by simpa using h.1, fun f hf => ?_⟩
  have h2 := List.any_eq_false.1 h.2 f hf
  unfold longF at h2
  simp only [Bool.or_eq_true, decide_eq_true_eq] at h2
  omega
theorem CA.grown {w w' : World} {ao : Option Addr} {n cap : Nat} {l : List Ch} {row : Option Nat} (h : CA w ao n cap l) (hg : w.grownBy w' row) (hne : ∀ x, ao = some x → some x.block ≠ row) : CA w' ao n cap l := ⟨h.len, h.sl.grown hg hne, h.le, h.max, h.z⟩
theorem info_dg2 : (Tryz.prog.info? 31).map (fun i => (i.zero, i.size, i.bytes)) = some (some (.agg #[.int .u64 0, .int .u64 0]), 2, 16) := by kernel_rfl
theorem info_fcs : (Tryz.prog.info? 36).map (fun i => (i.zero, i.size, i.bytes)) = some (some (.slice none 0 0), 1, 24) := by kernel_rfl
/-- The first loop: a pool with the lists so far, and their digests. -/
structure RI (w wr : World) (S : List Fw) (i : Nat) (ap : Option Addr) (np cp : Nat) (q : List It) (ds : List Dg) (u4 : Value) : Prop where
  good : GoodP q
  pa : PA wr ap np cp q
  lo : Lo wr ap
  row : wr.ownsRow w.heap.size 31 2 u4 i (dcells ds)
  len : ds.length = i
  sl : ∀ k (h : k < ds.length) (h' : k < S.length), SL q ds[k] S[k].l
  ne : ∀ x, ap = some x → some x.block ≠ u4.ownBlock
  np : np ≤ 1021 * i
theorem storeP_room {p q : List It} {l : List Fl} {d : Dg} (hc : treeC l = 0) (h10 : l.length ≤ 10) (h : storeP 101 p l = some (q, d)) : q.length ≤ p.length + 1021 := by
  have h1 := storeP_len (treeC_zero hc).nf h
  have h2 := wt_le (l := l) (fun f hf => pathB_size ((treeC_zero hc).path f hf))
  omega
theorem Sl.grown0 {w w' : World} {size n : Nat} {ao : Option Addr} {xs : List Value} {row : Option Nat} (h : Sl w size ao n xs) (hg : w.grownBy w' row) (hne : 0 < n → ∀ x, ao = some x → some x.block ≠ row) : Sl w' size ao n xs := by
  rcases Nat.eq_zero_or_pos n with h0 | h0
  · exact ⟨h.1, .inl h0⟩
  · exact h.grown hg (hne h0)
theorem FA.grown0 {w w' : World} {ao : Option Addr} {n cap : Nat} {l : List Fl} {row : Option Nat} (h : FA w ao n cap l) (hg : w.grownBy w' row) (hne : 0 < n → ∀ x, ao = some x → some x.block ≠ row) : FA w' ao n cap l := ⟨h.len, h.sl.grown0 hg hne, h.le, h.max, h.z, h.sz⟩
theorem FA.lo {w : World} {ao : Option Addr} {n cap : Nat} {l : List Fl} (h : FA w ao n cap l) (h0 : 0 < n) : ∀ x, ao = some x → x.block < w.heap.size := fun x hx => by
  obtain ⟨b, o, e, hb, _⟩ := h.sl.at_ h0
  rw [hx] at e
  cases e
  exact hb
/-- The second loop: the files now, and the changes so far. -/
structure RC (V wr : World) (S : List Fw) (k : Nat) (na : Option Addr) (nn nc : Nat) (CS : List Cw) (u : Value) : Prop where
  now : ∀ h : k < S.length, FA wr na nn nc S[k].l
  row : wr.ownsRow V.heap.size 36 1 u k (CS.map cwc)
  len : CS.length = k
  ca : ∀ r ∈ CS, CA wr r.ao r.c.length r.cap r.c ∧ r.c.length ≤ 20 ∧ ∀ x, r.ao = some x → some x.block ≠ u.ownBlock ∧ x.block < wr.heap.size
  chg : ∀ j (h : j < CS.length) (h0 : j < S.length) (h1 : j + 1 < S.length), Chg S[j].l S[j + 1].l CS[j].c
  ne : 0 < nn → ∀ x, na = some x → some x.block ≠ u.ownBlock ∧ x.block < wr.heap.size
end Go.Proofs.YtphjillihapbfaaGreatDoor
