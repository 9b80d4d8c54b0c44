/-
  owners.reader.read.
-/
import Derived.Test.YtefehgdckmajiaaGreatDoorRdLay
import Derived.Test.YtefehgdckmajiaaGreatDoorGrpG
namespace Go.Proofs.YtefehgdckmajiaaGreatDoor
open Go.RowKit

def RdS.done : RdS → List Rl
  | .rule l => l
  | .pre l => l
  | .groups l _ => l
  | .group l _ _ => l
  | .person l _ _ _ => l
def RdS.op : RdS → List ByteArray
  | .rule _ => []
  | .pre _ => []
  | .groups _ p => [p]
  | .group _ p _ => [p]
  | .person _ p _ _ => [p]
def RdS.gs : RdS → List (List ByteArray)
  | .group _ _ gs => gs
  | .person _ _ gs _ => gs
  | _ => []
def RdS.og : RdS → List (List ByteArray)
  | .group _ _ _ => [[]]
  | .person _ _ _ g => [g]
  | _ => []
def RdS.cnt (s : RdS) : Nat := s.done.length + s.op.length + s.gs.length + s.og.length + s.og.flatten.length
/-- The reader's box, and its rows. -/
def RdI (base rb : Nat) (s : RdS) (w : World) : Prop :=
  ∃ vr, w.heap[rb]? = some (.cells #[.int .i64 s.place, slv vr] 120 (0, 0)) ∧ ∃ vg vp ps vs, Lay base s.done s.op s.gs s.og vr vg vp ps vs w
/-- What a word does. -/
def RdOut (base rb : Nat) (s : RdS) (x : ByteArray) (w : World) (e : Ending) (w' : World) : Prop :=
  RdStep base rb w w' ∧ ((e = .returned (.bool true) ∧ ∃ s', readF s x = some s' ∧ RdI base rb s' w') ∨ (e = .returned (.bool false) ∧ readF s x = none ∧ Below w.heap.size w w'))
theorem slv_of {v : Value} {w : World} {base n size : Nat} {e : TypeId} {xs : List Value} (h : w.ownsRow base e size v n xs) : ∃ a c, v = slv (a, n, c) := by
  obtain ⟨ao, cap, e, _⟩ := Sl.of_own h
  exact ⟨_, _, e⟩
theorem place_set {w : World} {rb : Nat} {p q : Int} {v : Value} (h : w.heap[rb]? = some (.cells #[.int .i64 p, v] 120 (0, 0))) : (w.setCell ⟨rb, 0, none⟩ (.int .i64 q)).heap[rb]? = some (.cells #[.int .i64 q, v] 120 (0, 0)) := by
  have := row_set h 0 (.int .i64 q)
  simpa using this
set_option maxRecDepth 100000 in
set_option maxHeartbeats 4000000 in
theorem read_rule (base rb : Nat) (l : List Rl) (x : ByteArray) (w : World) (h : RdI base rb (.rule l) w) (hrb : rb < base) (hn : l.length ≤ 100000) :
    Calls Tryz.prog 60 #[.pointer (some ⟨rb, 0, none⟩), .string x] w (RdOut base rb (.rule l) x w) := by
  obtain ⟨⟨ar, nr, cr⟩, hb, vg, vp, ps, vs, hL⟩ := h
  have hb : w.heap[rb]? = some (.cells #[.int .i64 0, .slice ar nr cr] 120 (0, 0)) := hb
  have HL : Hid (Lay base l [] [] [] (ar, nr, cr) vg vp ps vs w) := lid hL
  have hps : ps.length = l.length := hL.cl.1
  have hbase := hL.hb
  obtain rfl : nr = l.length := by obtain ⟨a, c, e⟩ := slv_of hL.rows; cases e; rfl
  have y0 := row_cell hb 0
  have y1 := row_cell hb 1
  have f0 := row_fz hb 0
  have lR := row_lt hb
  have HB := lid hb
  have hn9 : l.length ≤ 9223372036854775807 := by omega
  have HO : Hid (w.ownsRow base 99 2 (.slice ar l.length cr) ps.length (pcells ps)) := lid (by have := HL.out.rows; simpa [hps] using this)
  clear hb hL
  by_cases h1 : x = allS
  · have d1 := str_eq h1
    rw [allS_list] at d1
    have CB := lid (begin_any base rb 0 (.slice ar l.length cr) ps ⟨#[]⟩ w (show (0 : Nat) ≤ maxLen by decide) HB.out HO.out (by omega) hbase hrb)
    have HV : Hid (readF (.rule l) x = some (.groups l ⟨#[]⟩)) := lid (by rw [readF, if_pos h1])
    clear h1
    go_enter Tryz.func60, Tryz.ntmps60
    go_wp2_with fail
    (with_reducible refine (CB.out).mono ?_); rintro e w1 ⟨rfl, vr', hb1, ho1, hst1, hs1, hat1⟩
    obtain ⟨a1, c1, rfl⟩ := slv_of ho1
    have HL1 := lid (HL.out.begin (p := ⟨#[]⟩) (vr' := (a1, ps.length + 1, c1)) (show (0 : Nat) ≤ maxLen by decide) hrb (by rw [← hps]; exact ho1) hst1 hat1)
    have z0 := row_cell hb1 0
    have g0 := row_fz hb1 0
    have l1 := row_lt hb1
    have HB1 := lid hb1
    have HS1 := lid hs1
    clear hb1 hs1 ho1 hst1 hat1 y0 y1 f0
    go_wp2_with fail
    go_ret
    exact ⟨HS1.out.trans (RdStep.setCell hrb (.inl rfl) _), .inl ⟨rfl, _, HV.out, (a1, ps.length + 1, c1), place_set HB1.out, _, _, _, _, HL1.out.setCell hrb _⟩⟩
  have d1 := str_ne h1
  rw [allS_list] at d1
  by_cases h2 : x = prefS
  · have d2 := str_eq h2
    rw [prefS_list] at d2
    have HV : Hid (readF (.rule l) x = some (.pre l)) := lid (by rw [readF, if_neg h1, if_pos h2])
    clear h1 h2
    go_enter Tryz.func60, Tryz.ntmps60
    go_wp2_with fail
    go_ret
    exact ⟨RdStep.setCell hrb (.inl rfl) _, .inl ⟨rfl, _, HV.out, (ar, l.length, cr), place_set HB.out, _, _, _, _, HL.out.setCell hrb _⟩⟩
  have d2 := str_ne h2
  rw [prefS_list] at d2
  have HV : Hid (readF (.rule l) x = none) := lid (by rw [readF, if_neg h1, if_neg h2])
  clear h1 h2
  go_enter Tryz.func60, Tryz.ntmps60
  go_wp2_with fail
  go_ret
  exact ⟨RdStep.refl _ _ _, .inr ⟨rfl, HV.out, Below.refl _ _⟩⟩
set_option maxRecDepth 100000 in
set_option maxHeartbeats 4000000 in
theorem read_pre (base rb : Nat) (l : List Rl) (x : ByteArray) (w : World) (h : RdI base rb (.pre l) w) (hx : x.size ≤ maxLen) (hrb : rb < base) (hn : l.length ≤ 100000) :
    Calls Tryz.prog 60 #[.pointer (some ⟨rb, 0, none⟩), .string x] w (RdOut base rb (.pre l) x w) := by
  obtain ⟨⟨ar, nr, cr⟩, hb, vg, vp, ps, vs, hL⟩ := h
  have hb : w.heap[rb]? = some (.cells #[.int .i64 1, .slice ar nr cr] 120 (0, 0)) := hb
  have HL : Hid (Lay base l [] [] [] (ar, nr, cr) vg vp ps vs w) := lid hL
  have hps : ps.length = l.length := hL.cl.1
  have hbase := hL.hb
  obtain rfl : nr = l.length := by obtain ⟨a, c, e⟩ := slv_of hL.rows; cases e; rfl
  have y0 := row_cell hb 0
  have y1 := row_cell hb 1
  have f0 := row_fz hb 0
  have lR := row_lt hb
  have HB := lid hb
  have hn9 : l.length ≤ 9223372036854775807 := by omega
  have HO : Hid (w.ownsRow base 99 2 (.slice ar l.length cr) ps.length (pcells ps)) := lid (by have := HL.out.rows; simpa [hps] using this)
  have CP := lid (isPrefix_any x w hx)
  clear hb hL
  cases h1 : prefixB x with
  | true =>
    have CB := lid (begin_any base rb 1 (.slice ar l.length cr) ps x w hx HB.out HO.out (by omega) hbase hrb)
    have HV : Hid (readF (.pre l) x = some (.groups l x)) := lid (by rw [readF, if_pos h1])
    rw [h1] at CP
    clear h1
    go_enter Tryz.func60, Tryz.ntmps60
    go_wp2_with fail
    (with_reducible refine (CP.out).mono ?_); rintro e w0 ⟨rfl, rfl⟩
    go_wp2_with fail
    (with_reducible refine (CB.out).mono ?_); rintro e w1 ⟨rfl, vr', hb1, ho1, hst1, hs1, hat1⟩
    obtain ⟨a1, c1, rfl⟩ := slv_of ho1
    have HL1 := lid (HL.out.begin (p := x) (vr' := (a1, ps.length + 1, c1)) hx hrb (by rw [← hps]; exact ho1) hst1 hat1)
    have z0 := row_cell hb1 0
    have g0 := row_fz hb1 0
    have l1 := row_lt hb1
    have HB1 := lid hb1
    have HS1 := lid hs1
    clear hb1 hs1 ho1 hst1 hat1 y0 y1 f0
    go_wp2_with fail
    go_ret
    exact ⟨HS1.out.trans (RdStep.setCell hrb (.inl rfl) _), .inl ⟨rfl, _, HV.out, (a1, ps.length + 1, c1), place_set HB1.out, _, _, _, _, HL1.out.setCell hrb _⟩⟩
  | false =>
    have HV : Hid (readF (.pre l) x = none) := lid (by rw [readF, h1]; rfl)
    rw [h1] at CP
    clear h1
    go_enter Tryz.func60, Tryz.ntmps60
    go_wp2_with fail
    (with_reducible refine (CP.out).mono ?_); rintro e w0 ⟨rfl, rfl⟩
    go_wp2_with fail
    go_ret
    exact ⟨RdStep.refl _ _ _, .inr ⟨rfl, HV.out, Below.refl _ _⟩⟩
theorem info_sl : (Tryz.prog.info? 36).map (fun i => (i.zero, i.size, i.bytes)) = some (some (.slice none 0 0), 1, 24) := by kernel_rfl
theorem info_st : (Tryz.prog.info? 9).map (fun i => (i.zero, i.size, i.bytes)) = some (some (.string ⟨#[]⟩), 1, 16) := by kernel_rfl
theorem KeptX.of_grown {B X : Nat} {W w w' : World} {row : Option Nat} (h : KeptX B X W w) (hs : B ≤ w.heap.size) (hg : w.grownBy w' row) (hr : ∀ r, row = some r → r = X) : KeptX B X W w' := fun k hk hx =>
  (hg.block k (by omega) (fun e => hx (hr k e.symm))).trans (h k hk hx)
set_option maxRecDepth 100000 in
set_option maxHeartbeats 8000000 in
theorem read_group (base rb : Nat) (pl : Int) (hpl : pl = 2 ∨ pl = 4) (x : ByteArray) (hx : x = groupS) (l : List Rl) (p : ByteArray) (gs og : List (List ByteArray)) (vr vg vp : SV) (ps : List PV) (vs : List SV) (w : World) (hb0 : w.heap[rb]? = some (.cells #[.int .i64 pl, slv vr] 120 (0, 0))) (hL : Lay base l [p] gs og vr vg vp ps vs w)
    (ho : og.length ≤ 1) (hrb : rb < base) (hn : l.length ≤ 100000) (hn2 : gs.length ≤ 100000) :
    Calls Tryz.prog 60 #[.pointer (some ⟨rb, 0, none⟩), .string x] w fun e w' => e = .returned (.bool true) ∧ RdStep base rb w w' ∧ ∃ vr', w'.heap[rb]? = some (.cells #[.int .i64 3, slv vr'] 120 (0, 0)) ∧ ∃ vg' vp' ps' vs', Lay base l [p] (gs ++ og) [[]] vr' vg' vp' ps' vs' w' := by
  obtain ⟨ar, nr, cr⟩ := vr
  obtain ⟨ag, ng, cg⟩ := vg
  obtain ⟨g, cap, e⟩ := ownsRow_succ hL.rows
  obtain ⟨rfl, rfl, rfl⟩ : ar = some ⟨g, 0, none⟩ ∧ nr = l.length + 1 ∧ cr = cap := by cases e; exact ⟨rfl, rfl, rfl⟩
  clear e
  have hb : w.heap[rb]? = some (.cells #[.int .i64 pl, .slice (some ⟨g, 0, none⟩) (l.length + 1) cr] 120 (0, 0)) := hb0
  have hbase := hL.hb
  have rows : w.ownsRow base 99 2 (.slice (some ⟨g, 0, none⟩) (l.length + 1) cr) (l.length + 1) (pcells (ps ++ [(p, (ag, ng, cg))])) := hL.rows
  have hps : ps.length = l.length := hL.cl.1
  have hg : base ≤ g := ownsRow_row rows g rfl
  have hgs : g < w.heap.size := (rows.lt g rfl).2
  obtain ⟨X, hX, hXg, hXb⟩ : ∃ X, (∀ k, (slv (ag, ng, cg)).ownBlock = some k → k = X) ∧ g ≠ X ∧ rb ≠ X := by
    cases hk : (slv (ag, ng, cg)).ownBlock with
    | none => exact ⟨w.heap.size, fun k e => (by cases e), by omega, by omega⟩
    | some k => exact ⟨k, fun k' e => (Option.some.inj e).symm, fun e => rows_apart hL.grow rows (by decide) k hk (by subst e; rfl), by have := ownsRow_row hL.grow k hk; omega⟩
  have q1 : w.cell? ⟨g, l.length * 2 + 1, none⟩ = some (.slice ag ng cg) := by
    rw [rows.cellAt _ (by omega), ← hps, pcells_append, List.getElem?_append_right (by rw [pcells_length]; omega), pcells_length, show ps.length * 2 + 1 - ps.length * 2 = 1 by omega]
    rfl
  have y0 := row_cell hb 0
  have y1 := row_cell hb 1
  have f0 := row_fz hb 0
  have lR := row_lt hb
  have c1 := SinceX.cell (B := w.heap.size) (X := X) (W := w) rb 1 lR hXb y1
  have c2 := SinceX.cell (B := w.heap.size) (X := X) (W := w) g (l.length * 2 + 1) hgs hXg q1
  have hcr : l.length + 1 ≤ cr := by rcases rows.2 with ⟨e, _⟩ | ⟨g', cap', cur, e, _, _, h1, _⟩ <;> cases e; exact h1
  have HB := lid hb
  have HL := lid hL
  have HX := lid hX
  have hn9 : l.length + 1 ≤ 9223372036854775807 := by omega
  have d0 := str_eq hx
  rw [groupS_list] at d0
  obtain ⟨m, hm⟩ : ∃ m, l.length = m := ⟨_, rfl⟩
  have HM := lid hm
  simp only [hm] at y1 c1 c2 hn9 hcr hn
  clear hb hL rows hX hb0 hx hps hm q1
  rcases hpl with rfl | rfl
  all_goals
    go_enter Tryz.func60, Tryz.ntmps60
    go_wp2_with fail
    refine wp_region_seqC 17 (fun w' => ∃ s : SinceX w.heap.size X w, w' = s.world) [(0, true), (1, true), (2, true), (3, true), (4, true), (5, true), (6, true), (7, true), (8, true), (9, true), (10, true), (11, true), (12, true), (13, false), (14, false), (15, true), (16, true), (17, false)] (by kernel_rfl) (by kernel_rfl) (by intro c d v a w h; first | (cases d <;> exact h) | cases h.1) (sincex (KeptX.refl _ _ _).drew) ?_
    repeat (first | (refine seqL_skip (by rfl) (by rfl) (by rfl) ?_; simp only [Act.put, List.setIfInBounds_toArray, List.set_cons_succ, List.set_cons_zero]) | (refine seqL_float (by rfl) (by rfl) (by rfl) (by rfl) ?_; intro K hK; go_big_quiet_op; go_big_quiet_on))
    refine seqL_chain (by rfl) ?_
    intro K hK
    go_wp2_with fail
    have hbA : KeptX w.heap.size X w (w.drew.alloc (.cells #[.slice none 0 0] 36)) := (KeptX.refl _ _ _).drew.below ((ba _ _).mono (Nat.le_refl _))
    refine hK.out _ _ (sincex hbA) ?_
    clear hK K
    repeat (first | (refine seqL_skip (by rfl) (by rfl) (by rfl) ?_; simp only [Act.put, List.setIfInBounds_toArray, List.set_cons_succ, List.set_cons_zero]) | (refine seqL_float (by rfl) (by rfl) (by rfl) (by rfl) ?_; intro K hK; go_big_quiet_op; go_big_quiet_on))
    have HLd := lid (HL.out.below (Below.refl w.heap.size w).drew)
    obtain ⟨xs9, hxs9⟩ : ∃ xs9, (vs ++ og.map fun _ => vp).map slv = xs9 := ⟨_, rfl⟩
    have HXS := lid hxs9
    have HOG : Hid (w.drew.ownsRow base 36 1 (.slice ag ng cg) (gs.length + og.length) xs9) := lid (by rw [← hxs9]; exact HLd.out.grow)
    clear hxs9
    refine seqL_chain (by rfl) ?_
    intro K hK
    go_wp2_with (at_builtin; go_must (refine wpList_append_new_at (w := w.drew) #[.slice none 0 0] rfl _ _ 31 rfl base 36 (.slice none 0 0) 1 24 info_sl Tryz.underlying31 rfl (by decide) (.slice ag ng cg) (gs.length + og.length) _ HOG.out rfl rfl rfl (by intro u hu; simp only [List.mem_cons, List.not_mem_nil, or_false] at hu; rw [hu]; rfl) (by simp only [maxLen]; omega) (by omega) hbase ?_))
    intro v9 w9 own9 hg9 hat9
    obtain ⟨a9, c9, rfl⟩ := slv_of own9
    obtain ⟨q2, q3, hL3⟩ := HLd.out.group ho (vg' := (a9, gs.length + og.length + 1, c9)) (by rw [HXS.out]; exact own9) hg9 (hat9.imp id fun e => e.trans (by simp))
    rw [HM.out] at q2 q3 hL3
    have HQ := lid hL3
    have HG9 := lid hg9
    have f9 := q3
    have lg9 : g < w9.heap.size := by have := hg9.size; simp at this; omega
    clear own9 hat9 hL3 HXS HOG HLd
    have hk9 : KeptX w.heap.size X w w9 := hbA.of_grown (by simp) hg9 HX.out
    clear hg9
    have HB9 := lid (row_other (j := m * 2 + 1) (v := .slice a9 (gs.length + og.length + 1) c9) ((hk9 rb lR hXb).trans HB.out) (show rb ≠ g by omega))
    have y9 := row_cell HB9.out 0
    have e9 := row_fz HB9.out 0
    have l9 := row_lt HB9.out
    clear y0 y1 c1 c2 f0
    go_wp2_with fail
    refine hK.out _ _ (sincex hk9) ?_
    clear hK K
    repeat (first | (refine seqL_skip (by rfl) (by rfl) (by rfl) ?_; simp only [Act.put, List.setIfInBounds_toArray, List.set_cons_succ, List.set_cons_zero]) | (refine seqL_float (by rfl) (by rfl) (by rfl) (by rfl) ?_; intro K hK; go_big_quiet_op; go_big_quiet_on))
    refine seqL_last (by rfl) (by rfl) ?_
    intro K hK
    go_wp2_with fail
    refine hK.out _ _ ?_
    clear hK K
    go_wp2_with fail
    go_ret
    refine ⟨rfl, ?_, _, place_set (by rw [HM.out] at HB9; exact HB9.out), _, _, _, _, HQ.out.setCell hrb _⟩
    exact (RdStep.of_below hbase hrb (ba _ _).drew).trans ((RdStep.own (by simp; omega) hrb (HL.out.grow.alloc _).drew HG9.out).trans ((RdStep.setCell hrb (.inr (show base ≤ g by omega)) _).trans (RdStep.setCell hrb (.inl rfl) _)))
set_option maxRecDepth 100000 in
set_option maxHeartbeats 8000000 in
theorem read_person (base rb : Nat) (pl : Int) (hpl : pl = 3 ∨ pl = 4) (x : ByteArray) (hx : x.size ≤ maxLen) (hxg : x ≠ groupS) (hpx : personB x = true) (l : List Rl) (p : ByteArray) (gs : List (List ByteArray)) (g : List ByteArray) (vr vg vp : SV) (ps : List PV) (vs : List SV) (w : World) (hb0 : w.heap[rb]? = some (.cells #[.int .i64 pl, slv vr] 120 (0, 0))) (hL : Lay base l [p] gs [g] vr vg vp ps vs w)
    (hrb : rb < base) (hn : l.length ≤ 100000) (hn2 : gs.length ≤ 100000) (hn3 : g.length ≤ 100000) :
    Calls Tryz.prog 60 #[.pointer (some ⟨rb, 0, none⟩), .string x] w fun e w' => e = .returned (.bool true) ∧ RdStep base rb w w' ∧ ∃ vr', w'.heap[rb]? = some (.cells #[.int .i64 4, slv vr'] 120 (0, 0)) ∧ ∃ vg' vp' ps' vs', Lay base l [p] gs [g ++ [x]] vr' vg' vp' ps' vs' w' := by
  obtain ⟨ar, nr, cr⟩ := vr
  obtain ⟨ag, ng, cg⟩ := vg
  obtain ⟨ap, np, cp⟩ := vp
  obtain ⟨r, cap, e⟩ := ownsRow_succ hL.rows
  obtain ⟨rfl, rfl, rfl⟩ : ar = some ⟨r, 0, none⟩ ∧ nr = l.length + 1 ∧ cr = cap := by cases e; exact ⟨rfl, rfl, rfl⟩
  clear e
  obtain ⟨b, cap2, e⟩ := ownsRow_succ hL.grow
  obtain ⟨rfl, rfl, rfl⟩ : ag = some ⟨b, 0, none⟩ ∧ ng = gs.length + 1 ∧ cg = cap2 := by cases e; exact ⟨rfl, rfl, rfl⟩
  clear e
  have hb : w.heap[rb]? = some (.cells #[.int .i64 pl, .slice (some ⟨r, 0, none⟩) (l.length + 1) cr] 120 (0, 0)) := hb0
  have hbase := hL.hb
  have CP := lid (isPerson_any x w hx)
  rw [hpx] at CP
  have d0 := str_ne hxg
  rw [groupS_list] at d0
  have y0 := row_cell hb 0
  have y1 := row_cell hb 1
  have lR := row_lt hb
  have HB := lid hb
  have HL := lid hL
  have hrx : base ≤ r := ownsRow_row hL.rows r rfl
  have hrs : r < w.heap.size := (hL.rows.lt r rfl).2
  have hcr : l.length + 1 ≤ cr := by rcases hL.rows.2 with ⟨e, _⟩ | ⟨g', cap', cur, e, _, _, h1, _⟩ <;> cases e; exact h1
  have hcg : gs.length + 1 ≤ cg := by rcases hL.grow.2 with ⟨e, _⟩ | ⟨g', cap', cur, e, _, _, h1, _⟩ <;> cases e; exact h1
  have hn9 : l.length + 1 ≤ 9223372036854775807 := by omega
  have hn8 : gs.length + 1 ≤ 9223372036854775807 := by omega
  obtain ⟨m, hm⟩ : ∃ m, l.length = m := ⟨_, rfl⟩
  have HM := lid hm
  obtain ⟨q, hq⟩ : ∃ q, gs.length = q := ⟨_, rfl⟩
  have HQ := lid hq
  simp only [hm] at y1 hn9 hcr hn
  simp only [hq] at hn8 hcg hn2
  clear hb hL hb0 hxg hpx hm hq
  rcases hpl with rfl | rfl
  all_goals
    go_enter Tryz.func60, Tryz.ntmps60
    go_wp2_with fail
    (with_reducible refine (CP.out).mono ?_); rintro e w1 ⟨rfl, hb1⟩
    have HL1 := lid (HL.out.below hb1)
    have HB1 := lid ((hb1.block rb lR).trans HB.out)
    have HS1 := lid (RdStep.of_below hbase hrb hb1)
    have rows : w1.ownsRow base 99 2 (.slice (some ⟨r, 0, none⟩) (l.length + 1) cr) (l.length + 1) (pcells (ps ++ [(p, (some ⟨b, 0, none⟩, gs.length + 1, cg))])) := HL1.out.rows
    have grow : w1.ownsRow base 36 1 (.slice (some ⟨b, 0, none⟩) (gs.length + 1) cg) (gs.length + 1) ((vs ++ [(ap, np, cp)]).map slv) := HL1.out.grow
    have HP : Hid (w1.ownsRow base 9 1 (.slice ap np cp) g.length (svals g)) := lid (by have := HL1.out.prow; simpa using this)
    have hbase1 := HL1.out.hb
    have z0 := row_cell HB1.out 0
    have z1 := row_cell HB1.out 1
    have lR1 := row_lt HB1.out
    have hrs1 : r < w1.heap.size := (rows.lt r rfl).2
    have hbs1 : b < w1.heap.size := (grow.lt b rfl).2
    have q1 : w1.cell? ⟨r, m * 2 + 1, none⟩ = some (.slice (some ⟨b, 0, none⟩) (q + 1) cg) := by
      rw [← HM.out, ← HQ.out, rows.cellAt _ (by omega), ← show ps.length = l.length from HL1.out.cl.1, pcells_append, List.getElem?_append_right (by rw [pcells_length]; omega), pcells_length, show ps.length * 2 + 1 - ps.length * 2 = 1 by omega]
      rfl
    have q2 : w1.cell? ⟨b, q, none⟩ = some (.slice ap np cp) := by
      rw [← HQ.out, grow.cellAt _ (by omega), ← show vs.length = gs.length from HL1.out.gl.1]
      simp
    simp only [HM.out] at z1
    clear rows grow y0 y1 lR HB HL hrs
    go_wp2_with (at_builtin; go_must (refine wpList_append_new_at (w := w1) #[.string x] rfl _ _ 36 rfl base 9 (.string ⟨#[]⟩) 1 16 info_st Tryz.underlying36 rfl (by decide) (.slice ap np cp) g.length _ HP.out rfl rfl rfl (by intro u hu; simp only [List.mem_cons, List.not_mem_nil, or_false] at hu; rw [hu]; rfl) (by simp only [maxLen]; omega) (by omega) hbase1 ?_))
    intro v9 w9 own9 hg9 hat9
    obtain ⟨a9, c9, rfl⟩ := slv_of own9
    obtain ⟨q3, q4, hL3⟩ := HL1.out.person hx (vp' := (a9, g.length + 1, c9)) own9 hg9 (hat9.imp id fun e => e.trans (by simp))
    rw [HQ.out] at q3 q4 hL3
    have HQ3 := lid hL3
    have HG9 := lid hg9
    have hbb : base ≤ b := ownsRow_row HL1.out.grow b rfl
    have hb9 : w9.heap[rb]? = w1.heap[rb]? := (hg9.block rb (by simp; omega) (fun e => by have := ownsRow_row HP.out rb e.symm; omega)).trans (h_old lR1 _)
    have HB9 := lid (row_other (j := q) (v := .slice a9 (g.length + 1) c9) (hb9.trans HB1.out) (show rb ≠ b by omega))
    have y9 := row_cell HB9.out 0
    have e9 := row_fz HB9.out 0
    have l9 := row_lt HB9.out
    have lb9 : b < w9.heap.size := by have := hg9.size; simp at this; omega
    clear own9 hat9 hL3 hg9 hb9 z0 z1 q1 q2
    go_wp2_with fail
    go_ret
    refine ⟨rfl, ?_, _, place_set HB9.out, _, _, _, _, HQ3.out.setCell hrb _⟩
    exact HS1.out.trans ((RdStep.of_below hbase1 hrb (ba _ _)).trans ((RdStep.own (by simp; omega) hrb (HP.out.alloc _) HG9.out).trans ((RdStep.setCell hrb (.inr hbb) _).trans (RdStep.setCell hrb (.inl rfl) _))))
set_option maxRecDepth 100000 in
set_option maxHeartbeats 8000000 in
theorem read_groups (base rb : Nat) (l : List Rl) (p : ByteArray) (x : ByteArray) (w : World) (h : RdI base rb (.groups l p) w) (hrb : rb < base) (hn : l.length ≤ 100000) :
    Calls Tryz.prog 60 #[.pointer (some ⟨rb, 0, none⟩), .string x] w (RdOut base rb (.groups l p) x w) := by
  obtain ⟨vr, hb, vg, vp, ps, vs, hL⟩ := h
  by_cases h1 : x = groupS
  · refine (read_group base rb 2 (.inl rfl) x h1 l p [] [] vr vg vp ps vs w hb hL (by simp) hrb hn (by simp)).mono ?_
    rintro e w' ⟨rfl, hs, vr', h1', h2'⟩
    exact ⟨hs, .inl ⟨rfl, .group l p [], (by rw [readF, if_pos h1]), vr', h1', h2'⟩⟩
  obtain ⟨ar, nr, cr⟩ := vr
  have hb : w.heap[rb]? = some (.cells #[.int .i64 2, .slice ar nr cr] 120 (0, 0)) := hb
  obtain rfl : nr = l.length + 1 := by obtain ⟨a, c, e⟩ := slv_of hL.rows; cases e; rfl
  have y0 := row_cell hb 0
  have y1 := row_cell hb 1
  have lR := row_lt hb
  have hn9 : l.length + 1 ≤ 9223372036854775807 := by omega
  have d0 := str_ne h1
  rw [groupS_list] at d0
  have HV : Hid (readF (.groups l p) x = none) := lid (by rw [readF, if_neg h1])
  clear hb hL h1
  go_enter Tryz.func60, Tryz.ntmps60
  go_wp2_with fail
  go_ret
  exact ⟨RdStep.refl _ _ _, .inr ⟨rfl, HV.out, Below.refl _ _⟩⟩
set_option maxRecDepth 100000 in
set_option maxHeartbeats 8000000 in
theorem read_first (base rb : Nat) (l : List Rl) (p : ByteArray) (gs : List (List ByteArray)) (x : ByteArray) (w : World) (h : RdI base rb (.group l p gs) w) (hx : x.size ≤ maxLen) (hrb : rb < base) (hn : l.length ≤ 100000) (hn2 : gs.length ≤ 100000) :
    Calls Tryz.prog 60 #[.pointer (some ⟨rb, 0, none⟩), .string x] w (RdOut base rb (.group l p gs) x w) := by
  obtain ⟨vr, hb, vg, vp, ps, vs, hL⟩ := h
  cases hp : personB x with
  | true =>
    have hxg : x ≠ groupS := by rintro rfl; unfold personB at hp; simp at hp
    refine (read_person base rb 3 (.inl rfl) x hx hxg hp l p gs [] vr vg vp ps vs w hb hL hrb hn hn2 (by simp)).mono ?_
    rintro e w' ⟨rfl, hs, vr', h1', h2'⟩
    exact ⟨hs, .inl ⟨rfl, .person l p gs [x], (by rw [readF, if_pos hp]), vr', h1', h2'⟩⟩
  | false =>
    obtain ⟨ar, nr, cr⟩ := vr
    have hb : w.heap[rb]? = some (.cells #[.int .i64 3, .slice ar nr cr] 120 (0, 0)) := hb
    obtain rfl : nr = l.length + 1 := by obtain ⟨a, c, e⟩ := slv_of hL.rows; cases e; rfl
    have hbase := hL.hb
    have y0 := row_cell hb 0
    have y1 := row_cell hb 1
    have lR := row_lt hb
    have HB := lid hb
    have hn9 : l.length + 1 ≤ 9223372036854775807 := by omega
    have HV : Hid (readF (.group l p gs) x = none) := lid (by rw [readF, hp]; rfl)
    have CP := lid (isPerson_any x w hx)
    rw [hp] at CP
    clear hb hL hp
    go_enter Tryz.func60, Tryz.ntmps60
    go_wp2_with fail
    (with_reducible refine (CP.out).mono ?_); rintro e w1 ⟨rfl, hb1⟩
    have z0 := (bc hb1 lR _).trans y0
    have lR1 := Nat.lt_of_lt_of_le lR hb1.size
    go_wp2_with fail
    go_ret
    exact ⟨RdStep.of_below hbase hrb hb1, .inr ⟨rfl, HV.out, hb1⟩⟩
set_option maxRecDepth 100000 in
set_option maxHeartbeats 8000000 in
theorem read_more (base rb : Nat) (l : List Rl) (p : ByteArray) (gs : List (List ByteArray)) (g : List ByteArray) (x : ByteArray) (w : World) (h : RdI base rb (.person l p gs g) w) (hx : x.size ≤ maxLen) (hrb : rb < base) (hn : l.length ≤ 100000) (hn2 : gs.length ≤ 100000) (hn3 : g.length ≤ 100000) :
    Calls Tryz.prog 60 #[.pointer (some ⟨rb, 0, none⟩), .string x] w (RdOut base rb (.person l p gs g) x w) := by
  obtain ⟨vr, hb, vg, vp, ps, vs, hL⟩ := h
  by_cases h1 : x = groupS
  · refine (read_group base rb 4 (.inr rfl) x h1 l p gs [g] vr vg vp ps vs w hb hL (by simp) hrb hn hn2).mono ?_
    rintro e w' ⟨rfl, hs, vr', h1', h2'⟩
    exact ⟨hs, .inl ⟨rfl, .group l p (gs ++ [g]), (by rw [readF, if_pos h1]), vr', h1', h2'⟩⟩
  cases hp : personB x with
  | true =>
    refine (read_person base rb 4 (.inr rfl) x hx h1 hp l p gs g vr vg vp ps vs w hb hL hrb hn hn2 hn3).mono ?_
    rintro e w' ⟨rfl, hs, vr', h1', h2'⟩
    exact ⟨hs, .inl ⟨rfl, .person l p gs (g ++ [x]), (by rw [readF, if_neg h1, if_pos hp]), vr', h1', h2'⟩⟩
  | false =>
    obtain ⟨ar, nr, cr⟩ := vr
    have HL1 := lid hL
    have hb : w.heap[rb]? = some (.cells #[.int .i64 4, .slice ar nr cr] 120 (0, 0)) := hb
    obtain rfl : nr = l.length + 1 := by obtain ⟨a, c, e⟩ := slv_of hL.rows; cases e; rfl
    have hbase := hL.hb
    have y0 := row_cell hb 0
    have y1 := row_cell hb 1
    have f0 := row_fz hb 0
    have lR := row_lt hb
    have HB := lid hb
    have hn9 : l.length + 1 ≤ 9223372036854775807 := by omega
    have d0 := str_ne h1
    rw [groupS_list] at d0
    have CP := lid (isPerson_any x w hx)
    rw [hp] at CP
    by_cases hs : x = semiS
    · have d1 := str_eq hs
      rw [semiS_list] at d1
      have HV : Hid (readF (.person l p gs g) x = some (.rule (l ++ [(p, gs ++ [g])]))) := lid (by rw [readF, if_neg h1, hp, if_neg (by decide), if_pos hs])
      clear hb hL hp h1 hs
      go_enter Tryz.func60, Tryz.ntmps60
      go_wp2_with fail
      (with_reducible refine (CP.out).mono ?_); rintro e w1 ⟨rfl, hb1⟩
      have HB9 := lid ((hb1.block rb lR).trans HB.out)
      have z0 := row_cell HB9.out 0
      have e0 := row_fz HB9.out 0
      have lR1 := Nat.lt_of_lt_of_le lR hb1.size
      have HL9 := lid (HL1.out.below hb1)
      clear y0 y1 f0
      go_wp2_with fail
      go_ret
      exact ⟨(RdStep.of_below hbase hrb hb1).trans (RdStep.setCell hrb (.inl rfl) _), .inl ⟨rfl, _, HV.out, _, place_set HB9.out, _, _, _, _, (HL9.out.setCell hrb _).close⟩⟩
    · have d1 := str_ne hs
      rw [semiS_list] at d1
      have HV : Hid (readF (.person l p gs g) x = none) := lid (by rw [readF, if_neg h1, hp, if_neg (by decide), if_neg hs])
      clear hb hL hp h1 hs
      go_enter Tryz.func60, Tryz.ntmps60
      go_wp2_with fail
      (with_reducible refine (CP.out).mono ?_); rintro e w1 ⟨rfl, hb1⟩
      have z0 := (bc hb1 lR _).trans y0
      have lR1 := Nat.lt_of_lt_of_le lR hb1.size
      go_wp2_with fail
      go_ret
      exact ⟨RdStep.of_below hbase hrb hb1, .inr ⟨rfl, HV.out, hb1⟩⟩
theorem read_any (base rb : Nat) (s : RdS) (x : ByteArray) (w : World) (h : RdI base rb s w) (hx : x.size ≤ maxLen) (hrb : rb < base) (hn : s.cnt ≤ 100000) :
    Calls Tryz.prog 60 #[.pointer (some ⟨rb, 0, none⟩), .string x] w (RdOut base rb s x w) := by
  cases s with
  | rule l => exact read_rule base rb l x w h hrb (by simp [RdS.cnt, RdS.done, RdS.op, RdS.gs, RdS.og] at hn; omega)
  | pre l => exact read_pre base rb l x w h hx hrb (by simp [RdS.cnt, RdS.done, RdS.op, RdS.gs, RdS.og] at hn; omega)
  | groups l p => exact read_groups base rb l p x w h hrb (by simp [RdS.cnt, RdS.done, RdS.op, RdS.gs, RdS.og] at hn; omega)
  | group l p gs => exact read_first base rb l p gs x w h hx hrb (by simp [RdS.cnt, RdS.done, RdS.op, RdS.gs, RdS.og] at hn; omega) (by simp [RdS.cnt, RdS.done, RdS.op, RdS.gs, RdS.og] at hn; omega)
  | person l p gs g => exact read_more base rb l p gs g x w h hx hrb (by simp [RdS.cnt, RdS.done, RdS.op, RdS.gs, RdS.og] at hn; omega) (by simp [RdS.cnt, RdS.done, RdS.op, RdS.gs, RdS.og] at hn; omega) (by simp [RdS.cnt, RdS.done, RdS.op, RdS.gs, RdS.og] at hn; omega)
end Go.Proofs.YtefehgdckmajiaaGreatDoor
