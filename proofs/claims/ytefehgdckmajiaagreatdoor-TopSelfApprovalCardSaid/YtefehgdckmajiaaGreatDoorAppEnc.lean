/-
  approval.encode.
-/
import Derived.Test.YtefehgdckmajiaaGreatDoorAppEx
import Derived.Test.YtefehgdckmajiaaGreatDoorGrpC
import Derived.Lib.AppendStr
namespace Go.Proofs.YtefehgdckmajiaaGreatDoor
open Go.RowKit

def flagI (b : Bool) : Int := if b then 1 else 0
/-- What is written for a change. -/
def encC (c : Ch) : List UInt8 := putX c.1.data.toList ++ putI (flagI c.2.1) ++ putI (flagI c.2.2.1) ++ putX c.2.2.2.1.data.toList ++ putX c.2.2.2.2.data.toList
/-- approval.encode. -/
def encAll (l : List Ch) : List UInt8 := putI l.length ++ l.flatMap encC
theorem putI_len (n : Int) : (putI n).length ≤ 6 := by
  unfold putI
  split
  · rename_i h
    unfold putB at h
    simp only [decide_eq_true_eq] at h
    exact putN_six (by omega)
  · simp
theorem putX_len (l : List UInt8) : (putX l).length ≤ 65542 := by
  unfold putX
  split
  · rename_i h
    unfold putT
    have := putN_six (n := l.length) (by omega)
    rw [List.length_append]
    omega
  · simp
/-- What is no row of bytes stays, but for box b. -/
def TK (b : Nat) (w w' : World) : Prop := ∀ (k : Nat) (cs : Array Value) (t : TypeId) (f : Nat × Nat), k ≠ b → t ≠ 5 → w.heap[k]? = some (.cells cs t f) → w'.heap[k]? = some (.cells cs t f)
theorem TK.refl (b : Nat) (w : World) : TK b w w := fun _ _ _ _ _ _ h => h
theorem TK.trans {b : Nat} {x y z : World} (h : TK b x y) (k : TK b y z) : TK b x z := fun i cs t f hi ht e => k i cs t f hi ht (h i cs t f hi ht e)
theorem TK.below (b : Nat) {w w' : World} (h : Below w.heap.size w w') : TK b w w' := fun k _ _ _ _ _ e => (h.block k (row_lt e)).trans e
theorem TK.set (b : Nat) (w : World) (v : Value) : TK b w (w.setCell ⟨b, 0, none⟩ v) := fun k _ _ _ hk _ e => (Below.heap_setCell _ _ _ k hk).trans e
theorem TK.own (b : Nat) {w w' : World} {base n : Nat} {v : Value} {xs : List Value} (ho : w.ownsRow base 5 1 v n xs) (hg : w.grownBy w' v.ownBlock) : TK b w w' := fun k cs t f _ ht e => by
  refine (hg.block k (row_lt e) (fun e2 => ?_)).trans e
  rcases ho.2 with ⟨rfl, _⟩ | ⟨g, cap, cur, rfl, _, hgb, _⟩
  · cases e2
  · obtain rfl : k = g := Option.some.inj e2
    rw [hgb] at e
    cases e
    exact ht rfl
/-- The bytes written so far, in a box. -/
structure BBox (base b : Nat) (bs : List UInt8) (w : World) : Prop where
  r : ∃ v : SV, w.heap[b]? = some (.cells #[slv v] 76 (0, 0)) ∧ w.ownsRow base 5 1 (slv v) bs.length (bvals bs)
  lt : b < base
  le : base ≤ w.heap.size
theorem BBox.below {base b : Nat} {bs : List UInt8} {w w' : World} (h : BBox base b bs w) (hb : Below w.heap.size w w') : BBox base b bs w' := by
  obtain ⟨⟨v, h1, h2⟩, h3, h4⟩ := h
  exact ⟨⟨v, (hb.block b (row_lt h1)).trans h1, ownsRow_below h2 hb⟩, h3, Nat.le_trans h4 hb.size⟩
set_option maxRecDepth 100000 in
set_option maxHeartbeats 4000000 in
theorem number_any (base b : Nat) (bs : List UInt8) (n : Int) (w : World) (h : BBox base b bs w) (hl : bs.length ≤ 70368744177664) :
    Calls Tryz.prog 33 #[.int .i64 n, .pointer (some ⟨b, 0, none⟩)] w fun e w' => e = .returned (.tuple #[]) ∧ BBox base b (bs ++ putI n) w' ∧ RdStep base b w w' ∧ TK b w w' := by
  obtain ⟨⟨⟨av, nv', cv⟩, hb, ho⟩, hlt, hle⟩ := h
  have HB := lid hb
  have HO := lid ho
  have lB := row_lt hb
  obtain ⟨i0, hi, hz0, hz1, hz2⟩ := info_parts info_byte
  have hp := putI_len n
  clear hb ho
  go_enter Tryz.func33, Tryz.ntmps33
  go_wp2_with fail
  (with_reducible refine (PutInt_any n w).mono ?_); rintro e w1 ⟨rfl, hb1⟩
  have hB1 : w1.heap[b]? = some (.cells #[.slice av nv' cv] 76 (0, 0)) := (hb1.block b lB).trans HB.out
  have HB1 := lid hB1
  have y0 := row_cell hB1 0
  have l1 := row_lt hB1
  have HO1 : Hid (w1.ownsRow base 5 1 (.slice av nv' cv) bs.length (bvals bs)) := lid (ownsRow_below HO.out hb1)
  have hle1 : base ≤ w1.heap.size := Nat.le_trans hle hb1.size
  have HS1 := lid (RdStep.of_below hle hlt hb1)
  have HT1 := lid (TK.below b hb1)
  have hps : (bstr (putI n)).size = (putI n).length := rfl
  clear hB1 hb1
  go_wp2_with (at_builtin; go_must (refine Lib.wpList_append_own_string (w := w1) rfl _ _ 76 9 rfl base 5 i0 Tryz.underlying76 Tryz.underlying9 hi hz0 hz1 hz2 (.slice av nv' cv) _ _ rfl HO1.out (bstr (putI n)) rfl (by unfold maxLen; omega) (by omega) hle1 ?_))
  intro v' w2 hown' hg _
  obtain ⟨a9, c9, rfl⟩ := slv_of hown'
  have hB2 : w2.heap[b]? = some (.cells #[.slice av nv' cv] 76 (0, 0)) := (hg.block b l1 (fun e => by have := ownsRow_row HO1.out b e.symm; omega)).trans HB1.out
  have HB2 := lid hB2
  have z0 := row_cell hB2 0
  have f0 := row_fz hB2 0
  have l2 := row_lt hB2
  have HO2 : Hid (w2.ownsRow base 5 1 (slv (a9, bs.length + (bstr (putI n)).size, c9)) (bs ++ putI n).length (bvals (bs ++ putI n))) := lid (by rw [List.length_append, bvals_append]; exact hown')
  have hle2 : base ≤ w2.heap.size := Nat.le_trans hle1 hg.size
  have HS2 := lid (RdStep.own hle1 hlt HO1.out hg)
  have HT2 := lid (TK.own b HO1.out hg)
  clear hown' hg hB2 y0
  rw [show slv (a9, bs.length + (putI n).length, c9) = Value.slice a9 (bs.length + (putI n).length) c9 from rfl]
  go_wp2_with fail
  refine bodyPost_end (results_none rfl _ _ _) rfl ⟨rfl, ⟨⟨(a9, bs.length + (putI n).length, c9), ?_, ?_⟩, hlt, ?_⟩, ?_, ?_⟩
  · have := row_set HB2.out 0 (.slice a9 (bs.length + (putI n).length) c9)
    simpa using this
  · exact ownsRow_setCell_below HO2.out (a := ⟨b, 0, none⟩) hlt _
  · rw [set_size]; exact hle2
  · exact HS1.out.trans (HS2.out.trans (RdStep.setCell hlt (.inl rfl) _))
  · exact HT1.out.trans (HT2.out.trans (TK.set b _ _))
set_option maxRecDepth 100000 in
set_option maxHeartbeats 4000000 in
theorem text_any (base b : Nat) (bs : List UInt8) (t : ByteArray) (w : World) (h : BBox base b bs w) (hl : bs.length ≤ 70368744177664) (ht : t.size ≤ maxLen) :
    Calls Tryz.prog 35 #[.string t, .pointer (some ⟨b, 0, none⟩)] w fun e w' => e = .returned (.tuple #[]) ∧ BBox base b (bs ++ putX t.data.toList) w' ∧ RdStep base b w w' ∧ TK b w w' := by
  obtain ⟨⟨⟨av, nv', cv⟩, hb, ho⟩, hlt, hle⟩ := h
  have HB := lid hb
  have HO := lid ho
  have lB := row_lt hb
  obtain ⟨i0, hi, hz0, hz1, hz2⟩ := info_parts info_byte
  have hp := putX_len t.data.toList
  have CP := lid (PutText_any t w ht)
  obtain ⟨P, hP⟩ : ∃ P, putX t.data.toList = P := ⟨_, rfl⟩
  rw [hP] at hp CP ⊢
  clear hb ho hP
  go_enter Tryz.func35, Tryz.ntmps35
  go_wp2_with fail
  (with_reducible refine (CP.out).mono ?_); rintro e w1 ⟨rfl, hb1⟩
  have hB1 : w1.heap[b]? = some (.cells #[.slice av nv' cv] 76 (0, 0)) := (hb1.block b lB).trans HB.out
  have HB1 := lid hB1
  have y0 := row_cell hB1 0
  have l1 := row_lt hB1
  have HO1 : Hid (w1.ownsRow base 5 1 (.slice av nv' cv) bs.length (bvals bs)) := lid (ownsRow_below HO.out hb1)
  have hle1 : base ≤ w1.heap.size := Nat.le_trans hle hb1.size
  have HS1 := lid (RdStep.of_below hle hlt hb1)
  have HT1 := lid (TK.below b hb1)
  have hps : (bstr P).size = P.length := rfl
  clear hB1 hb1
  go_wp2_with (at_builtin; go_must (refine Lib.wpList_append_own_string (w := w1) rfl _ _ 76 9 rfl base 5 i0 Tryz.underlying76 Tryz.underlying9 hi hz0 hz1 hz2 (.slice av nv' cv) _ _ rfl HO1.out (bstr P) rfl (by unfold maxLen; omega) (by omega) hle1 ?_))
  intro v' w2 hown' hg _
  obtain ⟨a9, c9, rfl⟩ := slv_of hown'
  have hB2 : w2.heap[b]? = some (.cells #[.slice av nv' cv] 76 (0, 0)) := (hg.block b l1 (fun e => by have := ownsRow_row HO1.out b e.symm; omega)).trans HB1.out
  have HB2 := lid hB2
  have z0 := row_cell hB2 0
  have f0 := row_fz hB2 0
  have l2 := row_lt hB2
  have HO2 : Hid (w2.ownsRow base 5 1 (slv (a9, bs.length + (bstr P).size, c9)) (bs ++ P).length (bvals (bs ++ P))) := lid (by rw [List.length_append, bvals_append]; exact hown')
  have hle2 : base ≤ w2.heap.size := Nat.le_trans hle1 hg.size
  have HS2 := lid (RdStep.own hle1 hlt HO1.out hg)
  have HT2 := lid (TK.own b HO1.out hg)
  clear hown' hg hB2 y0
  rw [show slv (a9, bs.length + P.length, c9) = Value.slice a9 (bs.length + P.length) c9 from rfl]
  go_wp2_with fail
  refine bodyPost_end (results_none rfl _ _ _) rfl ⟨rfl, ⟨⟨(a9, bs.length + P.length, c9), ?_, ?_⟩, hlt, ?_⟩, ?_, ?_⟩
  · have := row_set HB2.out 0 (.slice a9 (bs.length + P.length) c9)
    simpa using this
  · exact ownsRow_setCell_below HO2.out (a := ⟨b, 0, none⟩) hlt _
  · rw [set_size]; exact hle2
  · exact HS1.out.trans (HS2.out.trans (RdStep.setCell hlt (.inl rfl) _))
  · exact HT1.out.trans (HT2.out.trans (TK.set b _ _))
set_option maxRecDepth 100000 in
theorem flag_any (b : Bool) (w : World) : Calls Tryz.prog 37 #[.bool b] w fun e w' => e = .returned (.int .i64 (flagI b)) ∧ w' = w := by
  cases b
  all_goals
    go_enter Tryz.func37, Tryz.ntmps37
    go_wp2_with fail
    go_ret
    exact ⟨rfl, rfl⟩
set_option maxRecDepth 100000 in
set_option maxHeartbeats 16000000 in
theorem encode_any (l : List Ch) (n cap : Nat) (ao : Option Addr) (w : World) (hn : l.length = n) (hs : Sl w 5 ao n (chcells l)) (hc : n ≤ cap) (hm : n ≤ 200000) (hz : ∀ x ∈ l, x.1.size ≤ maxLen ∧ x.2.2.2.1.size ≤ maxLen ∧ x.2.2.2.2.size ≤ maxLen) :
    Calls Tryz.prog 20 #[.slice ao n cap] w fun e w' => e = .returned (.string (bstr (encAll l))) ∧ Below w.heap.size w w' := by
  have HN := lid hn
  have HS := lid hs
  have HZ := lid hz
  have hn9 : n ≤ 9223372036854775807 := by omega
  clear hn hs hz
  go_enter Tryz.func20, Tryz.ntmps20
  go_wp2_with fail
  obtain ⟨W0, hW0⟩ : ∃ W0, w.alloc (Obj.cells #[.slice none 0 0] 76) = W0 := ⟨_, rfl⟩
  have hb0 : Below w.heap.size w W0 := by rw [← hW0]; exact ba _ _
  have hz0 : W0.heap.size = w.heap.size + 1 := by rw [← hW0]; simp
  have HB0 : Hid (BBox (w.heap.size + 1) w.heap.size [] W0) := lid ⟨⟨nv, by rw [← hW0]; exact h_new rfl _, World.ownsRow_nil _ _ _ _⟩, Nat.lt_succ_self _, by omega⟩
  rw [hW0]
  have HW0 := lid hb0
  clear hW0 hb0
  (with_reducible refine (number_any (w.heap.size + 1) w.heap.size [] n W0 HB0.out (by simp)).mono ?_); rintro e w1 ⟨rfl, hB1, hS1, hT1⟩
  have HB1 := lid hB1
  have HS1 := lid hS1
  have hs1 : w.heap.size + 1 ≤ w1.heap.size := by have := hS1.below.size; omega
  clear hB1 hS1 hT1 hz0
  go_wp2_with fail
  go_loopw [16] (fun u16 wr => ∃ (k : Nat) (bs : List UInt8), k ≤ n ∧ u16 = .int .i64 k ∧ Hid (encAll l = bs ++ (l.drop k).flatMap encC) ∧ Hid (bs.length ≤ 6 + k * 200000) ∧ Hid (BBox (w.heap.size + 1) w.heap.size bs wr) ∧ Hid (RdStep (w.heap.size + 1) w.heap.size w1 wr)) (fun u16 _ => n - (intOf u16).toNat)
  case atStart => exact ⟨0, _, Nat.zero_le _, rfl, lid (by rw [List.nil_append]; unfold encAll; rw [HN.out]; rfl), lid (by have := putI_len (n : Int); simpa using this), HB1, lid (RdStep.refl _ _ _)⟩
  case round =>
    obtain ⟨k, bs, hk, rfl, HE, HLB, HBx, HST⟩ := hrel
    have hb := HST.out.below
    have hbw : Below w.heap.size w wr := HW0.out.trans (HS1.out.below.trans hb)
    by_cases hlt : k < n
    · have hkl : k < l.length := by rw [HN.out]; exact hlt
      obtain ⟨b1, o1, rfl, hlb, hcell⟩ := (HS.out.below hbw).at_ hlt
      have x0 := hcell (k * 5 + 0) _ (chcells_at hkl).1
      have x1 := hcell (k * 5 + 1) _ (chcells_at hkl).2.1
      have x2 := hcell (k * 5 + 2) _ (chcells_at hkl).2.2.1
      have x3 := hcell (k * 5 + 3) _ (chcells_at hkl).2.2.2.1
      have x4 := hcell (k * 5 + 4) _ (chcells_at hkl).2.2.2.2
      rw [← Nat.add_assoc] at x1 x2 x3 x4
      rw [Nat.add_zero] at x0
      have HD : Hid (l.drop k = l[k] :: l.drop (k + 1)) := lid (List.drop_eq_getElem_cons hkl)
      have hzk := HZ.out _ (List.getElem_mem hkl)
      have dk : decide ((k : Int) < (n : Int)) = true := by simp; omega
      obtain ⟨⟨p, g1, g2, s1, s2⟩, hx⟩ : ∃ x, l[k] = x := ⟨_, rfl⟩
      rw [hx] at x0 x1 x2 x3 x4 HD hzk
      have HSZp : Hid (p.size ≤ maxLen) := lid hzk.1
      have HSZ1 : Hid (s1.size ≤ maxLen) := lid hzk.2.1
      have HSZ2 : Hid (s2.size ≤ maxLen) := lid hzk.2.2
      replace x0 : wr.cell? ⟨b1, o1 + k * 5, none⟩ = some (Value.string p) := x0
      replace x1 : wr.cell? ⟨b1, o1 + k * 5 + 1, none⟩ = some (Value.bool g1) := x1
      replace x2 : wr.cell? ⟨b1, o1 + k * 5 + 2, none⟩ = some (Value.bool g2) := x2
      replace x3 : wr.cell? ⟨b1, o1 + k * 5 + 3, none⟩ = some (Value.string s1) := x3
      replace x4 : wr.cell? ⟨b1, o1 + k * 5 + 4, none⟩ = some (Value.string s2) := x4
      clear hcell hx hzk
      go_wp2_with fail
      obtain ⟨W1, hW1⟩ : ∃ W1, wr.alloc (Obj.cells #[.string p, .bool g1, .bool g2, .string s1, .string s2] 61) = W1 := ⟨_, rfl⟩
      have hb1 : Below wr.heap.size wr W1 := by rw [← hW1]; exact ba _ _
      have HR0 : Hid (W1.heap[wr.heap.size]? = some (.cells #[.string p, .bool g1, .bool g2, .string s1, .string s2] 61 (0, 0))) := lid (by rw [← hW1]; exact h_new rfl _)
      rw [hW1]
      have hzw : w.heap.size + 1 ≤ wr.heap.size := HBx.out.le
      have HB0' := lid (HBx.out.below hb1)
      have HST0 := lid (HST.out.trans (RdStep.of_below HBx.out.le (Nat.lt_succ_self _) hb1))
      have HBL0 : Hid (bs.length ≤ 70368744177664) := lid (by have := HLB.out; omega)
      have zA := row_cell HR0.out 0
      have zB := row_cell HR0.out 1
      have zC := row_cell HR0.out 2
      have zD := row_cell HR0.out 3
      have zE := row_cell HR0.out 4
      have lA := row_lt HR0.out
      clear hW1 hb1 x0 x1 x2 x3 x4 HBx
      go_wp2_with fail
      (with_reducible refine (text_any (w.heap.size + 1) w.heap.size (bs) p W1 HB0'.out HBL0.out HSZp.out).mono ?_); rintro e w3 ⟨rfl, hB, hS, hT⟩
      have HB1 := lid hB
      have HST1 := lid (HST0.out.trans hS)
      have HR1 := lid (hT _ _ _ _ (by omega) (by decide) HR0.out)
      have HBL1 : Hid ((bs ++ putX p.data.toList).length ≤ 70368744177664) := lid (by have h0 := HLB.out; have h1 := putX_len p.data.toList; simp only [List.length_append]; omega)
      clear hB hS hT
      have z01 := row_cell HR1.out 1
      have z02 := row_cell HR1.out 2
      have z03 := row_cell HR1.out 3
      have z04 := row_cell HR1.out 4
      have lz0 := row_lt HR1.out
      go_wp2_with fail
      (with_reducible refine (flag_any _ _).mono ?_); rintro e wf1 ⟨rfl, rfl⟩
      go_wp2_with fail
      (with_reducible refine (number_any (w.heap.size + 1) w.heap.size (bs ++ putX p.data.toList) (flagI g1) wf1 HB1.out HBL1.out).mono ?_); rintro e w4 ⟨rfl, hB, hS, hT⟩
      have HB2 := lid hB
      have HST2 := lid (HST1.out.trans hS)
      have HR2 := lid (hT _ _ _ _ (by omega) (by decide) HR1.out)
      have HBL2 : Hid ((bs ++ putX p.data.toList ++ putI (flagI g1)).length ≤ 70368744177664) := lid (by have h0 := HLB.out; have h1 := putX_len p.data.toList; have h2 := putI_len (flagI g1); simp only [List.length_append]; omega)
      clear hB hS hT
      have z12 := row_cell HR2.out 2
      have z13 := row_cell HR2.out 3
      have z14 := row_cell HR2.out 4
      have lz1 := row_lt HR2.out
      go_wp2_with fail
      (with_reducible refine (flag_any _ _).mono ?_); rintro e wf2 ⟨rfl, rfl⟩
      go_wp2_with fail
      (with_reducible refine (number_any (w.heap.size + 1) w.heap.size (bs ++ putX p.data.toList ++ putI (flagI g1)) (flagI g2) wf2 HB2.out HBL2.out).mono ?_); rintro e w5 ⟨rfl, hB, hS, hT⟩
      have HB3 := lid hB
      have HST3 := lid (HST2.out.trans hS)
      have HR3 := lid (hT _ _ _ _ (by omega) (by decide) HR2.out)
      have HBL3 : Hid ((bs ++ putX p.data.toList ++ putI (flagI g1) ++ putI (flagI g2)).length ≤ 70368744177664) := lid (by have h0 := HLB.out; have h1 := putX_len p.data.toList; have h2 := putI_len (flagI g1); have h3 := putI_len (flagI g2); simp only [List.length_append]; omega)
      clear hB hS hT
      have z23 := row_cell HR3.out 3
      have z24 := row_cell HR3.out 4
      have lz2 := row_lt HR3.out
      go_wp2_with fail
      (with_reducible refine (text_any (w.heap.size + 1) w.heap.size (bs ++ putX p.data.toList ++ putI (flagI g1) ++ putI (flagI g2)) s1 w5 HB3.out HBL3.out HSZ1.out).mono ?_); rintro e w6 ⟨rfl, hB, hS, hT⟩
      have HB4 := lid hB
      have HST4 := lid (HST3.out.trans hS)
      have HR4 := lid (hT _ _ _ _ (by omega) (by decide) HR3.out)
      have HBL4 : Hid ((bs ++ putX p.data.toList ++ putI (flagI g1) ++ putI (flagI g2) ++ putX s1.data.toList).length ≤ 70368744177664) := lid (by have h0 := HLB.out; have h1 := putX_len p.data.toList; have h2 := putI_len (flagI g1); have h3 := putI_len (flagI g2); have h4 := putX_len s1.data.toList; simp only [List.length_append]; omega)
      clear hB hS hT
      have z34 := row_cell HR4.out 4
      have lz3 := row_lt HR4.out
      go_wp2_with fail
      (with_reducible refine (text_any (w.heap.size + 1) w.heap.size (bs ++ putX p.data.toList ++ putI (flagI g1) ++ putI (flagI g2) ++ putX s1.data.toList) s2 w6 HB4.out HBL4.out HSZ2.out).mono ?_); rintro e w7 ⟨rfl, hB, hS, hT⟩
      have HB5 := lid hB
      have HST5 := lid (HST4.out.trans hS)
      have HR5 := lid (hT _ _ _ _ (by omega) (by decide) HR4.out)
      have HBL5 : Hid ((bs ++ putX p.data.toList ++ putI (flagI g1) ++ putI (flagI g2) ++ putX s1.data.toList ++ putX s2.data.toList).length ≤ 70368744177664) := lid (by have h0 := HLB.out; have h1 := putX_len p.data.toList; have h2 := putI_len (flagI g1); have h3 := putI_len (flagI g2); have h4 := putX_len s1.data.toList; have h5 := putX_len s2.data.toList; simp only [List.length_append]; omega)
      clear hB hS hT
      have lz4 := row_lt HR5.out
      have HE2 : Hid (encAll l = (bs ++ putX p.data.toList ++ putI (flagI g1) ++ putI (flagI g2) ++ putX s1.data.toList ++ putX s2.data.toList) ++ (l.drop (k + 1)).flatMap encC) := lid (by
        rw [HE.out, HD.out, List.flatMap_cons]
        simp [encC, List.append_assoc])
      have HLB2 : Hid ((bs ++ putX p.data.toList ++ putI (flagI g1) ++ putI (flagI g2) ++ putX s1.data.toList ++ putX s2.data.toList).length ≤ 6 + (k + 1) * 200000) := lid (by have h0 := HLB.out; have h1 := putX_len p.data.toList; have h2 := putI_len (flagI g1); have h3 := putI_len (flagI g2); have h4 := putX_len s1.data.toList; have h5 := putX_len s2.data.toList; simp only [List.length_append]; omega)
      go_wp2_with fail
      go_roundw
      case rel => exact ⟨k + 1, _, by omega, by go_num, HE2, HLB2, HB5, HST5⟩
      case measure => simp [intOf]; omega
    · obtain rfl : k = n := by omega
      have dk : decide ((k : Int) < (k : Int)) = false := by simp
      have HX : Hid (encAll l = bs) := lid (by rw [HE.out, List.drop_of_length_le (Nat.le_of_eq HN.out)]; simp)
      obtain ⟨⟨av, nv', cv⟩, hbox, hown⟩ := HBx.out.r
      have hcv := run_string_of_row (P := Tryz.prog) hown Tryz.underlying76 Tryz.underlying5 Tryz.underlying9
      have y0 := row_cell hbox 0
      have ly := row_lt hbox
      clear hbox hown
      go_wp2_with fail
      go_ret
      exact ⟨by rw [HX.out]; rfl, hbw⟩
end Go.Proofs.YtefehgdckmajiaaGreatDoor
