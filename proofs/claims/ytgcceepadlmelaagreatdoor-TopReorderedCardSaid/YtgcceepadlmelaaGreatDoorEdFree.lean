import Derived.Test.YtgcceepadlmelaaGreatDoorEdFreeC
import Derived.Test.YtgcceepadlmelaaGreatDoorQAH
import Derived.Test.YtgcceepadlmelaaGreatDoorEdChk
import Derived.Maps.RangeWalk
import Derived.Test.YtgcceepadlmelaaGreatDoorQAD
namespace Go.Proofs.YtgcceepadlmelaaGreatDoor
set_option maxRecDepth 100000
set_option maxHeartbeats 4000000
open Go.RowKit
theorem key_inv {key : Value} {kl : Lit} (h : keyOf Tryz.prog 9 key = some kl) : ∃ s, key = .string s ∧ kl = keyS s := by
 have hk := Tryz.underlying9
 cases key <;> simp [keyOf, hk, mapKey] at h
 obtain ⟨_, rfl⟩ := h
 exact ⟨_, rfl, rfl⟩
theorem key_inv' (key : Value) (kl : Lit) (h : keyOf Tryz.prog 9 key = some kl) : ∃ s, key = Value.string s := by
 obtain ⟨s, h, _⟩ := key_inv h
 exact ⟨s, h⟩
structure BV where
 b : Bool
abbrev bvv (x : BV) : Value := .bool x.b
theorem bool_inv' (v : Value) (z : DataW Unit × List MemPlace) (h : plainElem Tryz.prog 4 v = some z) : ∃ x, v = bvv x := by
 obtain ⟨x, h, _⟩ := plainElem_bool_inv Tryz.underlying4 h
 exact ⟨⟨x⟩, h⟩
theorem setD_has_ne {S : List ByteArray} {k : Lit} (h : Maps.has (setD S) k = true) : S ≠ [] := by
 rintro rfl
 simp [setD, Maps.has] at h
theorem setD_ne_has {S : List ByteArray} (h : S ≠ []) : ∃ s, Maps.has (setD S) (keyS s) = true := by
 rw [← List.dropLast_concat_getLast h, setD_snoc]
 exact ⟨S.getLast h, Maps.has_put_same (setD_map _) (keyS_key _) _⟩
theorem any_pre (P : Ew → Bool) : (∀ (d : Nat) (e : Ew), anyE P e = (preW d e).any fun x => P x.2) := by
 suffices h : ∀ c : Nat, (∀ (d : Nat) (e : Ew), cntE e ≤ c → anyE P e = (preW d e).any fun x => P x.2) ∧ ∀ (d : Nat) (l : List Ew), cntL l ≤ c → anyL P l = (preWL d l).any fun x => P x.2 from fun d e => (h (cntE e)).1 d e (Nat.le_refl _)
 intro c
 induction c with
 | zero =>
  refine ⟨fun d e h => (by rw [cntE_eq] at h; omega), fun d l h => ?_⟩
  cases l with
  | nil => simp [anyL, preWL]
  | cons e l => rw [cntL, cntE_eq] at h; omega
 | succ c ih =>
  have h1 : ∀ (d : Nat) (e : Ew), cntE e ≤ c + 1 → anyE P e = (preW d e).any fun x => P x.2 := fun d e h => by
   rw [cntE_eq] at h
   rw [anyE_eq, preW_eq, List.any_cons, ih.2 (d + 1) e.sub (by omega)]
  refine ⟨h1, fun d l => ?_⟩
  induction l with
  | nil => intro _; simp [anyL, preWL]
  | cons e l ih2 =>
   intro h
   rw [cntL] at h
   rw [anyL, preWL, List.any_append, h1 d e (by omega), ih2 (by omega)]
theorem cnt_pre : (∀ (d : Nat) (e : Ew), (preW d e).length = cntE e) := by
 suffices h : ∀ c : Nat, (∀ (d : Nat) (e : Ew), cntE e ≤ c → (preW d e).length = cntE e) ∧ ∀ (d : Nat) (l : List Ew), cntL l ≤ c → (preWL d l).length = cntL l from fun d e => (h (cntE e)).1 d e (Nat.le_refl _)
 intro c
 induction c with
 | zero =>
  refine ⟨fun d e h => (by rw [cntE_eq] at h; omega), fun d l h => ?_⟩
  cases l with
  | nil => simp [cntL, preWL]
  | cons e l => rw [cntL, cntE_eq] at h; omega
 | succ c ih =>
  have h1 : ∀ (d : Nat) (e : Ew), cntE e ≤ c + 1 → (preW d e).length = cntE e := fun d e h => by
   rw [cntE_eq] at h
   rw [preW_eq, List.length_cons, cntE_eq, ih.2 (d + 1) e.sub (by omega)]
  refine ⟨h1, fun d l => ?_⟩
  induction l with
  | nil => intro _; simp [cntL, preWL]
  | cons e l ih2 =>
   intro h
   rw [cntL] at h
   rw [cntL, preWL, List.length_append, h1 d e (by omega), ih2 (by omega)]
theorem okW_cnt {e : Ew} (h : okW e) : cntE e ≤ 400 := by rw [← cnt_pre 1 e]; exact h.1
theorem nodeC_bad' {e : Ew} (h : badS e = true) : ndC e ≠ 0 := by
 unfold badS at h
 simp only [Bool.or_eq_true, Bool.and_eq_true, beq_iff_eq, Bool.not_eq_true', beq_eq_false_iff_ne] at h
 obtain ⟨k, n, m, i, d, a, c, s⟩ := e
 simp only [Ew.kind, Ew.sub] at h
 have key : ∀ (kk : Int) (a b cc : Int), shW kk = some (a, b, cc) → k = kk → ¬ (s.length : Int) = cc → nodeC k i d n m s.length = 1 := fun kk a b cc hs hk hne => by
  subst hk
  refine nodeC_bad hs ?_
  unfold badN
  have : ((s.length : Int) == cc) = false := beq_false_of_ne hne
  simp [this]
 show nodeC k i d n m s.length ≠ 0
 rcases h with (⟨h1, h2⟩ | ⟨h1, h2⟩) | ⟨h1, h2⟩
 ·rw [key 6 1 0 1 rfl h1 (by omega)]; decide
 ·rw [key 8 1 0 2 rfl h1 (by omega)]; decide
 ·rw [key 13 2 0 3 rfl h1 (by omega)]; decide
theorem okW_shp {e : Ew} (h : okW e) : anyE badS e = false := by
 rw [any_pre badS 1 e, List.any_eq_false]
 intro x hx hb
 exact nodeC_bad' hb (h.2.2 x hx)
theorem Free_any (e : Ew) (w : World) (he : EA w e) (hok : okW e) : Calls Tryz.prog 105 #[.agg (eca e)] w fun r w' => ∃ (ao : Option Addr) (n cap : Nat), r = .returned (.slice ao n cap) ∧ (n = 0 ↔ freeE [] e = []) ∧ Below w.heap.size w w' := by
 obtain ⟨W1, hW1⟩ : ∃ y, w.alloc (.cells (eca e) 63) = y := ⟨_, rfl⟩
 have hb1 : Below w.heap.size w W1 := by rw [← hW1]; exact ba _ _
 have hR1 : W1.heap[w.heap.size]? = some (.cells (eca e) 63 (0, 0)) := by rw [← hW1]; exact h_new rfl _
 have HE1 := lid (he.lift hb1)
 have HW1 := lid hW1
 have HB1 := lid hb1
 have HR1 := lid hR1
 have HOK := lid hok
 have CC := lid (CheckExpr_any e W1 HE1.out)
 clear he hok hW1 hb1 hR1
 go_enter Tryz.func105, Tryz.ntmps105
 go_wp2_with fail
 rw [HW1.out]
 (with_reducible refine (CC.out).mono ?_); rintro e w2 ⟨q, rfl, hq, hb2⟩
 obtain rfl : q = 0 := hq.2 HOK.out
 have HB2 := lid (HB1.out.trans (hb2.mono HB1.out.size))
 have HE2 := lid (HE1.out.lift hb2)
 have hR2 : w2.heap[w.heap.size]? = _ := (hb2.block _ (row_lt HR1.out)).trans HR1.out
 have c0 : w2.cell? ⟨w.heap.size, 0, none⟩ = some (.int .i64 e.kind) := row_cell hR2 0
 have c1 : w2.cell? ⟨w.heap.size, 1, none⟩ = some (.string e.name) := row_cell hR2 1
 have c2 : w2.cell? ⟨w.heap.size, 2, none⟩ = some (.string e.more) := row_cell hR2 2
 have c3 : w2.cell? ⟨w.heap.size, 3, none⟩ = some (.int .i64 e.int) := row_cell hR2 3
 have c4 : w2.cell? ⟨w.heap.size, 4, none⟩ = some (.int .i64 e.den) := row_cell hR2 4
 have c5 : w2.cell? ⟨w.heap.size, 5, none⟩ = some (.slice e.ao e.sub.length e.cap) := row_cell hR2 5
 have lc := row_lt hR2
 have hmm := @run_makeMap Tryz.prog
 obtain ⟨W3, hW3⟩ : ∃ y, w2.alloc (.map #[] 0) = y := ⟨_, rfl⟩
 have hb3 : Below w2.heap.size w2 W3 := by rw [← hW3]; exact ba _ _
 have HO3 : Hid (OwnSet W3 w2.heap.size 0 []) := lid (by rw [← hW3]; exact World.ownsMap_made _ _ _ _)
 have HB3 := lid (HB2.out.trans (hb3.mono HB2.out.size))
 have CF := lid (addFree_any (cntE e) e [] none 0 0 w2.heap.size 0 [] W3 (Nat.le_refl _) ⟨HE2.out.lift hb3, okW_shp HOK.out, ⟨rfl, Sl.nil, Nat.le_refl _, Nat.zero_le _, fun _ h => (by cases h), fun _ => rfl⟩, HO3.out, by have := okW_cnt HOK.out; omega, by have := okW_cnt HOK.out; omega⟩)
 have HW3 := lid hW3
 clear hq hb2 hR2 HW1 CC hb3 hW3
 go_wp2_with fail
 rw [HW3.out]
 (with_reducible refine (CF.out).mono ?_); rintro e w4 ⟨rfl, hO4, hK4⟩
 rw [Nat.zero_add, List.nil_append] at hO4
 have hlen : (freeE [] e).length ≤ 400 := Nat.le_trans (freeE_len [] e) (okW_cnt HOK.out)
 obtain ⟨S, hS⟩ : ∃ S, freeE [] e = S := ⟨_, rfl⟩
 rw [hS] at hO4 hlen
 have HS := lid hS
 have h02 : w.heap.size ≤ w2.heap.size := HB2.out.size
 have hb4 : Below w.heap.size w w4 := ⟨hK4.os.trans HB3.out.os, hK4.tape.trans HB3.out.tape, hK4.output.trans HB3.out.output, Nat.le_trans HB3.out.size hK4.size, fun k hk => (hK4.blk k (by have := HB3.out.size; omega) (by omega)).trans (HB3.out.block k hk)⟩
 have HO4 := lid hO4
 have HB4 := lid hb4
 have h04 := hb4.size
 clear hO4 hK4 hb4 hS HW3 CF HO3 HB3 c0 c1 c2 c3 c4 c5 lc
 obtain ⟨M, hM⟩ : ∃ M, Maps.size (setD S) = M := ⟨_, rfl⟩
 have hM4 : M ≤ S.length := by rw [← hM]; exact HO4.out.size_le
 have HM := lid hM
 clear hM
 go_wp2_with (first | (at_len; go_must (refine wpList_len_own _ rfl _ 137 rfl 9 4 Tryz.underlying137 _ w2.heap.size S.length _ rfl HO4.out ?_); rw [HM.out]) | (at_make; go_must (refine wpList_make_new rfl _ _ 42 rfl w4.heap.size 9 (.string ⟨#[]⟩) 1 16 info_str Tryz.underlying42 M rfl rfl (by omega) (by simp only [maxLen]; omega) (Nat.le_refl _) ?_)))
 intro w5 hown5 hb5 hlt5
 have HO5 := lid (OwnSet.belowN HO4.out hb5 (Nat.le_refl _))
 have HB5 : Hid (Below w.heap.size w w5) := lid (HB4.out.trans (hb5.mono h04))
 have hmb : w2.heap.size < w4.heap.size := HO4.out.lt
 have HW5 : Hid (w5.ownsRow w4.heap.size 9 1 (.slice (some ⟨w4.heap.size, 0, none⟩) 0 M) 0 []) := lid hown5
 clear hown5 hb5
 go_wp2_with (at_range; go_must (refine wpList_range_own _ rfl _ 137 rfl 9 4 kstr Tryz.underlying137 _ w2.heap.size S.length (setD S) rfl HO5.out ?_))
 intro w6 hrg6 hg6 hs6
 have HR6 : Hid (w6.ranges Tryz.prog 9 (plainElem Tryz.prog 4) w2.heap.size w5.heap.size S.length (setD S) (Maps.has (setD S)) M) := lid (by rw [← HM.out]; exact hrg6)
 have HB6 : Hid (Below w.heap.size w w6) := lid (HB5.out.grown hg6 HB5.out.size (fun k e => by cases e))
 have HW6 := lid (HW5.out.kept hg6 (.inr (fun e => by cases e)))
 have h46 : w4.heap.size ≤ w6.heap.size := by omega
 clear hrg6 hg6 hs6
 go_wp2_with fail
 go_loopw [4] (fun v4 wr => ∃ (m cnt : Nat) (left : Lit → Bool) (xs : List ByteArray), xs.length = m ∧ m + cnt ≤ M ∧ Hid (wr.ownsRow w4.heap.size 9 1 v4 m (svals xs)) ∧ Hid (∀ g, v4.ownBlock = some g → g ≠ w2.heap.size ∧ g ≠ w5.heap.size) ∧ Hid (wr.ranges Tryz.prog 9 (plainElem Tryz.prog 4) w2.heap.size w5.heap.size S.length (setD S) left cnt) ∧ Hid (∀ s, Maps.has (setD S) (keyS s) = true → left (keyS s) = true ∨ 0 < m) ∧ Hid (0 < m → S ≠ []) ∧ Hid (∀ kl, left kl = true → Maps.has (setD S) kl = true) ∧ Hid (Below w.heap.size w wr) ∧ w4.heap.size ≤ wr.heap.size) (fun _ wr => wr.rangeLeft w2.heap.size w5.heap.size)
 case atStart => exact ⟨0, M, _, [], rfl, by omega, HW6, lid (fun g e => by obtain rfl : w4.heap.size = g := Option.some.inj e; exact ⟨by omega, by omega⟩), HR6, lid (fun s h => .inl h), lid (fun h => by omega), lid (fun _ h => h), HB6, h46⟩
 case round =>
  clear HR6 HB6 HW6 h46
  obtain ⟨m, cnt, left, xs, hx, hmc, HOW, HNB, HRG, HL, HNE, HLH, HB, hz⟩ := hrel
  obtain ⟨ao4, cap4, rfl⟩ := own_slice HOW.out
  go_wp2_with (at_next; go_must (refine wpList_next_ranges _ rfl _ rfl 9 kstr _ Value.string bvv key_inv' bool_inv' w2.heap.size w5.heap.size S.length (setD S) left cnt rfl HRG.out ?_ ?_))
  ·intro hc0 hl0
   have CS := lid (SortS_any w4.heap.size m cap4 ao4 xs wr HOW.out (by omega) hz)
   have HE : Hid (m = 0 ↔ freeE [] e = []) := lid (by
    rw [HS.out]
    constructor
    ·intro h0
     refine Classical.byContradiction fun hne => ?_
     obtain ⟨s, hs⟩ := setD_ne_has hne
     rcases HL.out s hs with h | h
     ·rw [hl0] at h; cases h
     ·omega
    ·intro h0
     refine Classical.byContradiction fun hne => ?_
     exact HNE.out (by omega) h0)
   clear hl0
   go_wp2_with fail
   (with_reducible refine (CS.out).mono ?_); rintro e w7 ⟨rfl, hb7⟩
   have HB7 := lid (HB.out.trans (hb7.mono (by omega)))
   clear hb7
   go_wp2_with fail
   go_ret
   exact ⟨ao4, m, cap4, rfl, HE.out, HB7.out⟩
  ·intro x c kl yd yp w8 cnt1 hkey hlx hv4 hat hrg8 hlt hg8 hs8 hen
   obtain ⟨x', ex, ekl⟩ := key_inv hkey
   cases ex
   subst ekl
   have HR8 := lid hrg8
   have HLT := lid hlt
   have HOW8 : Hid (w8.ownsRow w4.heap.size 9 1 (.slice ao4 m cap4) m (svals xs)) := lid (HOW.out.kept hg8 (by
    cases hv : (Value.slice ao4 m cap4).ownBlock with
    | none => exact .inl rfl
    | some g => exact .inr (fun e => (HNB.out g hv).2 (Option.some.inj e))))
   have HB8 : Hid (Below w.heap.size w w8) := lid (HB.out.grown hg8 HB.out.size (fun k e => by cases e; omega))
   have HNE8 : Hid (S ≠ []) := lid (setD_has_ne (HLH.out _ hlx))
   have HLH8 : Hid (∀ kl, (left kl && !kl.sameKey (keyS x)) = true → Maps.has (setD S) kl = true) := lid (fun kl h => by
    rw [Bool.and_eq_true] at h
    exact HLH.out kl h.1)
   have HX := lid hx
   have hz8 : w4.heap.size ≤ w8.heap.size := by omega
   have hm1 : m + 1 + cnt1 ≤ M := by omega
   have hlt2 : w8.rangeLeft w2.heap.size w5.heap.size < wr.rangeLeft w2.heap.size w5.heap.size := by rw [hrg8.left_eq, HRG.out.left_eq]; exact hlt
   have HLT2 := lid hlt2
   obtain ⟨sv, hsv⟩ : ∃ sv, Value.slice ao4 m cap4 = sv := ⟨_, rfl⟩
   have HNBS : Hid (∀ g, sv.ownBlock = some g → g ≠ w2.heap.size ∧ g ≠ w5.heap.size) := lid (by rw [← hsv]; exact HNB.out)
   have HOWS : Hid (w8.ownsRow w4.heap.size 9 1 sv m (svals xs)) := lid (by rw [← hsv]; exact HOW8.out)
   rw [hsv]
   have hm400 : m ≤ 400 := by omega
   have HLT3 : Hid (cnt1 < cnt) := lid hlt
   have HRL : Hid (wr.rangeLeft w2.heap.size w5.heap.size = cnt) := lid HRG.out.left_eq
   clear hkey hlx hv4 hat hrg8 hlt hg8 hs8 hx hlt2 hsv HOW8 HOW HRG
   go_wp2_with (at_builtin; go_must (refine wpList_append_new_at _ rfl _ _ 42 rfl w4.heap.size 9 (.string ⟨#[]⟩) 1 16 info_str Tryz.underlying42 rfl (by decide) sv m (svals xs) HOWS.out rfl rfl rfl (by simp [Value.oneCell']) (by simp only [maxLen]; omega) (by omega) hz8 ?_))
   intro v9 w9 own9 hg9 hat9
   have hs8a : (w8.alloc (.cells #[.string x] 9)).heap.size = w8.heap.size + 1 := by simp
   have hr8 : w5.heap.size < w8.heap.size := HR8.out.lt
   have HR9 : Hid (w9.ranges Tryz.prog 9 (plainElem Tryz.prog 4) w2.heap.size w5.heap.size S.length (setD S) (fun z => left z && !z.sameKey (keyS x)) cnt1) := lid ((HR8.out.alloc _).kept hg9 (fun e => (HNBS.out _ e.symm).1 rfl) (fun e => (HNBS.out _ e.symm).2 rfl))
   have HB9 : Hid (Below w.heap.size w w9) := lid ((HB8.out.alloc HB8.out.size _).grown hg9 (by rw [hs8a]; have := HB8.out.size; omega) (fun k e => by have := (HOWS.out.lt k e).1; omega))
   have HNB9 : Hid (∀ g, v9.ownBlock = some g → g ≠ w2.heap.size ∧ g ≠ w5.heap.size) := lid (fun g e => by
    rcases hat9 with h | h
    ·exact HNBS.out g (by rw [← h]; exact e)
    ·rw [h] at e
     have := Option.some.inj e
     exact ⟨by omega, by omega⟩)
   have HO9 : Hid (w9.ownsRow w4.heap.size 9 1 v9 (m + 1) (svals (xs ++ [x]))) := lid (by simpa [svals] using own9)
   have hz9 : w4.heap.size ≤ w9.heap.size := by have := hg9.size; omega
   have HRL9 : Hid (w9.rangeLeft w2.heap.size w5.heap.size = cnt1) := lid HR9.out.left_eq
   clear own9 hg9 hat9 hs8a hr8
   go_wp2_with fail
   go_roundw
   case measure => rw [HRL9.out, HRL.out]; exact HLT3.out
   case rel => exact ⟨m + 1, cnt1, _, xs ++ [x], by simp [HX.out], hm1, HO9, HNB9, HR9, lid (fun s _ => .inr (by omega)), lid (fun _ => HNE8.out), HLH8, HB9, hz9⟩
end Go.Proofs.YtgcceepadlmelaaGreatDoor
