/-
  RdEnt RdList.
-/
import Derived.Test.YtphjillihapbfaaGreatDoorGrpN
import Derived.Test.YtphjillihapbfaaGreatDoorGrpD
namespace Go.Proofs.YtphjillihapbfaaGreatDoor
open Go.RowKit

/-- Four cells of an entry in block k. -/
def Eb (k : Nat) (a : ByteArray) (q : Bool) (x y : Nat) (w : World) : Prop := w.heap[k]? = some (.cells #[.string a, .bool q, .int .u64 x, .int .u64 y] 83 (0, 0))
section
variable {k : Nat} {a : ByteArray} {q : Bool} {x y : Nat} {w w' : World}
theorem Eb.kp {b : Nat} (h : Eb k a q x y w) (hk : Kp b w w') (hb : k ≠ b) : Eb k a q x y w' := (hk.2 k (Array.getElem?_eq_some_iff.1 h).1 hb).trans h
theorem Eb.lt (h : Eb k a q x y w) : k < w.heap.size := (Array.getElem?_eq_some_iff.1 h).1
theorem Eb.c0 (h : Eb k a q x y w) : w.cell? ⟨k, 0, none⟩ = some (.string a) := by rw [Lib.cell_of_heap h]; rfl
theorem Eb.c1 (h : Eb k a q x y w) : w.cell? ⟨k, 1, none⟩ = some (.bool q) := by rw [Lib.cell_of_heap h]; rfl
theorem Eb.c2 (h : Eb k a q x y w) : w.cell? ⟨k, 2, none⟩ = some (.int .u64 x) := by rw [Lib.cell_of_heap h]; rfl
theorem Eb.c3 (h : Eb k a q x y w) : w.cell? ⟨k, 3, none⟩ = some (.int .u64 y) := by rw [Lib.cell_of_heap h]; rfl
theorem Eb.fz (h : Eb k a q x y w) (o : Nat) : w.frozen? ⟨k, o, none⟩ = false := Lib.frozen_of_heap h o
theorem Eb.set0 (h : Eb k a q x y w) (v : ByteArray) : Eb k v q x y (w.setCell ⟨k, 0, none⟩ (.string v)) := heap_setCell_same w k 0 _ _ _ h
theorem Eb.set1 (h : Eb k a q x y w) (v : Bool) : Eb k a v x y (w.setCell ⟨k, 1, none⟩ (.bool v)) := heap_setCell_same w k 1 _ _ _ h
theorem Eb.set2 (h : Eb k a q x y w) (v : Nat) : Eb k a q v y (w.setCell ⟨k, 2, none⟩ (.int .u64 v)) := heap_setCell_same w k 2 _ _ _ h
theorem Eb.set3 (h : Eb k a q x y w) (v : Nat) : Eb k a q x v (w.setCell ⟨k, 3, none⟩ (.int .u64 v)) := heap_setCell_same w k 3 _ _ _ h
theorem Eb.other {j o : Nat} {u : Value} (h : Eb k a q x y w) (hj : k ≠ j) : Eb k a q x y (w.setCell ⟨j, o, none⟩ u) := (Below.heap_setCell _ _ _ _ hj).trans h
theorem Eb.new (w : World) (a : ByteArray) (q : Bool) (x y : Nat) : Eb w.heap.size a q x y (w.alloc (.cells #[.string a, .bool q, .int .u64 x, .int .u64 y] 83)) := heap_alloc_new _ _
theorem Rb.other {t : TypeId} {b j o : Nat} {s : Rd} {u : Value} (h : Rb t b s w) (hj : b ≠ j) : Rb t b s (w.setCell ⟨j, o, none⟩ u) := (Below.heap_setCell _ _ _ _ hj).trans h
/-- A store into a block that is younger. -/
theorem Kp.young {b j o : Nat} {u : Value} (h : Kp b w w') (hj : w.heap.size ≤ j) (hb : b ≤ w.heap.size) : Kp b w (w'.setCell ⟨j, o, none⟩ u) :=
  ⟨h.1.setCell (p := ⟨j, o, none⟩) (Nat.le_trans hb hj) _, fun i hi hib => (Below.heap_setCell _ _ _ _ (by simp; omega)).trans (h.2 i hi hib)⟩
end
theorem rStr_len {s : Rd} : (rStr s).2.1.length ≤ s.1.length := by unfold rStr; simp only [List.length_drop]; omega
theorem rNum_len {s : Rd} : (rNum s).2.1.length ≤ s.1.length := by unfold rNum; simp only [List.length_drop]; omega
theorem rDig_len {s : Rd} : (rDig s).2.1.length ≤ s.1.length := by
  unfold rDig
  split
  · exact Nat.le_refl _
  · simp only [List.length_drop]; omega

set_option maxRecDepth 100000 in
set_option maxHeartbeats 8000000 in
theorem rEntry_any (b : Nat) (s : Rd) (w : World) (h : Rb 160 b s w) (hl : s.1.length ≤ maxLen) :
    Calls Tryz.prog 114 #[.pointer (some ⟨b, 0, none⟩)] w fun e w' => e = .returned (ev (rEnt s).1) ∧ Rb 160 b (rEnt s).2 w' ∧ Kp b w w' := by
  have HL0 := lid hl
  have hlt := h.lt
  have hbw : b ≤ w.heap.size := Nat.le_of_lt hlt
  obtain ⟨w0, hw0⟩ : ∃ w0, w.alloc (.cells #[.string ⟨#[]⟩, .bool false, .int .u64 0, .int .u64 0] 83) = w0 := ⟨_, rfl⟩
  have hb0 : Below w.heap.size w w0 := by rw [← hw0]; exact ba _ _
  have R0 := lid (h.below hb0)
  have E0 := lid (show Eb w.heap.size ⟨#[]⟩ false 0 0 w0 by rw [← hw0]; exact Eb.new _ _ _ _ _)
  have K0 := lid (Kp.of_below hbw hb0)
  have z0 : w0.heap.size = w.heap.size + 1 := by rw [← hw0]; simp
  have HW := lid hw0
  have C1 := lid (rString_any b s w0 R0.out hl)
  have HE : Hid (rEnt s = rEnt3 (rStr s).1 (rNum (rStr s).2)) := lid rfl
  have L1 := lid (Nat.le_trans (rStr_len (s := s)) hl)
  clear hw0 h hl hb0
  obtain ⟨r1, hr1⟩ : ∃ r, rStr s = r := ⟨_, rfl⟩
  rw [hr1] at C1 HE L1
  obtain ⟨a, s1⟩ := r1
  have C2 := lid (fun w (h : Rb 160 b s1 w) => rNumber_any b s1 w h L1.out)
  have L2 := lid (Nat.le_trans (rNum_len (s := s1)) L1.out)
  simp only at HE
  obtain ⟨r2, hr2⟩ : ∃ r, rNum s1 = r := ⟨_, rfl⟩
  rw [hr2] at C2 HE L2
  obtain ⟨d, l2, bad⟩ := r2
  clear hr1 hr2
  go_enter Tryz.func114, Tryz.ntmps114
  go_wp2_with fail
  rw [HW.out]
  clear HW
  (with_reducible refine (C1.out).mono ?_); rintro e w1 ⟨rfl, hR1, hK1⟩
  have E1 := lid (E0.out.kp hK1 (by omega))
  have K1 := lid (K0.out.trans hK1)
  have z1 : w.heap.size < w1.heap.size := by have := hK1.size; omega
  have R1 := lid hR1
  have hb1 := hR1.lt
  clear C1 hR1 hK1 E0 K0 R0
  obtain ⟨w2, hw2⟩ : ∃ w2, w1.alloc (.cells #[.string (bstr a), .bool false, .int .u64 0, .int .u64 0] 83) = w2 := ⟨_, rfl⟩
  have hb2 : Below w1.heap.size w1 w2 := by rw [← hw2]; exact ba _ _
  have z2 : w2.heap.size = w1.heap.size + 1 := by rw [← hw2]; simp
  have G2 := lid (show Eb w1.heap.size (bstr a) false 0 0 w2 by rw [← hw2]; exact Eb.new _ _ _ _ _)
  have R2 := lid (R1.out.below hb2)
  have E2 := lid (E1.out.kp (Kp.of_below (Nat.le_of_lt hb1) hb2) (by omega))
  have K2 := lid (K1.out.trans (Kp.of_below (Nat.le_of_lt hb1) hb2))
  obtain ⟨g, hg⟩ : ∃ g, w1.heap.size = g := ⟨_, rfl⟩
  rw [hg] at G2 z1 hb1
  have HW2 := lid hw2
  have HG := lid hg
  clear hb2 R1 E1 K1 hw2 hg
  go_wp2_with fail
  rw [HW2.out, HG.out]
  clear HW2 HG
  (with_reducible refine (C2.out _ R2.out).mono ?_); rintro e w3 ⟨rfl, hR3, hK3⟩
  have E3 := lid (E2.out.kp hK3 (by omega))
  have G3 := lid (G2.out.kp hK3 (by omega))
  have K3 := lid (K2.out.trans hK3)
  have R3 := lid hR3
  clear C2 hR3 hK3 E2 G2 K2 R2 z2
  cases bad with
  | true =>
    have c1 := R3.out.c1
    have f1 := R3.out.fz 1
    have hlb := R3.out.lt
    replace HE : Hid (rEnt s = ((bstr a, decide (d = 1), (rDig (l2, true)).1), (rDig (l2, true)).2)) := lid (by rw [HE.out]; unfold rEnt3; simp only [Bool.true_or])
    have hq : ((d : Int) == 1) = decide (d = 1) := by rw [Bool.eq_iff_iff]; simp; omega
    obtain ⟨q, hqq⟩ : ∃ q, decide (d = 1) = q := ⟨_, rfl⟩
    rw [hqq] at hq HE
    obtain ⟨w4, hw4⟩ : ∃ w4, w3.setCell ⟨b, 1, none⟩ (.bool true) = w4 := ⟨_, rfl⟩
    have R4 := lid (show Rb 160 b (l2, true) w4 by rw [← hw4]; exact R3.out.set1 true)
    have E4 := lid (show Eb w.heap.size ⟨#[]⟩ false 0 0 w4 by rw [← hw4]; exact E3.out.other (by omega))
    have G4 := lid (show Eb g (bstr a) false 0 0 w4 by rw [← hw4]; exact G3.out.other (by omega))
    have K4 : Hid (Kp b w w4) := lid (by rw [← hw4]; exact K3.out.setCell 1 _)
    have g1 := G4.out.c1
    have gf1 := G4.out.fz 1
    obtain ⟨w5, hw5⟩ : ∃ w5, w4.setCell ⟨g, 1, none⟩ (.bool q) = w5 := ⟨_, rfl⟩
    have R5 := lid (show Rb 160 b (l2, true) w5 by rw [← hw5]; exact R4.out.other (by omega))
    have E5 := lid (show Eb w.heap.size ⟨#[]⟩ false 0 0 w5 by rw [← hw5]; exact E4.out.other (by omega))
    have G5 := lid (show Eb g (bstr a) q 0 0 w5 by rw [← hw5]; exact G4.out.set1 q)
    have K5 : Hid (Kp b w w5) := lid (by rw [← hw5]; exact K4.out.young (Nat.le_of_lt z1) hbw)
    have hlg := G4.out.lt
    clear R3 E3 G3 K3 R4 E4 G4 K4 hqq
    go_wp2_with fail
    clear hw4 hw5 c1 f1 g1 gf1 hq hlg hlb
    (with_reducible refine (rDigest_any b (l2, true) w5 R5.out L2.out).mono ?_); rintro e w6 ⟨rfl, hR6, hK6⟩
    have E6 := lid (E5.out.kp hK6 (by omega))
    have G6 := lid (G5.out.kp hK6 (by omega))
    have K6 := lid (K5.out.trans hK6)
    have R6 := lid hR6
    clear hR6 hK6 E5 G5 K5 R5
    obtain ⟨r3, hr3⟩ : ∃ r, rDig (l2, true) = r := ⟨_, rfl⟩
    rw [hr3] at HE R6 ⊢
    obtain ⟨dg, s3⟩ := r3
    simp only at HE R6 ⊢
    clear hr3
    have g2 := G6.out.c2
    have g3 := G6.out.c3
    have gf2 := G6.out.fz 2
    have gf3 := G6.out.fz 3
    obtain ⟨w7, hw7⟩ : ∃ w7, (w6.setCell ⟨g, 2, none⟩ (.int .u64 dg.1.toNat)).setCell ⟨g, 3, none⟩ (.int .u64 dg.2.toNat) = w7 := ⟨_, rfl⟩
    have R7 := lid (show Rb 160 b s3 w7 by rw [← hw7]; exact (R6.out.other (by omega)).other (by omega))
    have E7 := lid (show Eb w.heap.size ⟨#[]⟩ false 0 0 w7 by rw [← hw7]; exact (E6.out.other (by omega)).other (by omega))
    have G7 := lid (show Eb g (bstr a) q dg.1.toNat dg.2.toNat w7 by rw [← hw7]; exact (G6.out.set2 _).set3 _)
    have K7 : Hid (Kp b w w7) := lid (by rw [← hw7]; exact (K6.out.young (Nat.le_of_lt z1) hbw).young (Nat.le_of_lt z1) hbw)
    have m0 := G7.out.c0
    have m1 := G7.out.c1
    have m2 := G7.out.c2
    have m3 := G7.out.c3
    have n0 := E7.out.c0
    have n1 := E7.out.c1
    have n2 := E7.out.c2
    have n3 := E7.out.c3
    have p0 := E7.out.fz 0
    have p1 := E7.out.fz 1
    have p2 := E7.out.fz 2
    have p3 := E7.out.fz 3
    have hlg := G7.out.lt
    have hlg6 := G6.out.lt
    clear R6 E6 G6 K6
    go_wp2_with fail
    have X : Eb w.heap.size (bstr a) q dg.1.toNat dg.2.toNat ((((w7.setCell ⟨w.heap.size, 0, none⟩ (.string (bstr a))).setCell ⟨w.heap.size, 1, none⟩ (.bool q)).setCell ⟨w.heap.size, 2, none⟩ (.int .u64 dg.1.toNat)).setCell ⟨w.heap.size, 3, none⟩ (.int .u64 dg.2.toNat)) := (((E7.out.set0 _).set1 _).set2 _).set3 _
    have x0 := X.c0
    have x1 := X.c1
    have x2 := X.c2
    have x3 := X.c3
    refine bodyPost_ret (v := ev (bstr a, q, dg)) (by simp [results, Tryz.results114, go_sem, x0, x1, x2, x3]) rfl ⟨by rw [HE.out], ?_, ?_⟩
    · rw [HE.out]
      exact (((R7.out.other (by omega)).other (by omega)).other (by omega)).other (by omega)
    · exact (((K7.out.young (Nat.le_refl _) hbw).young (Nat.le_refl _) hbw).young (Nat.le_refl _) hbw).young (Nat.le_refl _) hbw
  | false =>
    have c1 := R3.out.c1
    have f1 := R3.out.fz 1
    have hlb := R3.out.lt
    have hv : decide ((1 : Int) < (d : Int)) = decide (1 < d) := by rw [Bool.eq_iff_iff]; simp; omega
    obtain ⟨v, hvv⟩ : ∃ v, decide (1 < d) = v := ⟨_, rfl⟩
    rw [hvv] at hv
    replace HE : Hid (rEnt s = ((bstr a, decide (d = 1), (rDig (l2, v)).1), (rDig (l2, v)).2)) := lid (by rw [HE.out]; unfold rEnt3; simp only [Bool.false_or, hvv])
    clear hvv
    have hq : ((d : Int) == 1) = decide (d = 1) := by rw [Bool.eq_iff_iff]; simp; omega
    obtain ⟨q, hqq⟩ : ∃ q, decide (d = 1) = q := ⟨_, rfl⟩
    rw [hqq] at hq HE
    obtain ⟨w4, hw4⟩ : ∃ w4, w3.setCell ⟨b, 1, none⟩ (.bool v) = w4 := ⟨_, rfl⟩
    have R4 := lid (show Rb 160 b (l2, v) w4 by rw [← hw4]; exact R3.out.set1 v)
    have E4 := lid (show Eb w.heap.size ⟨#[]⟩ false 0 0 w4 by rw [← hw4]; exact E3.out.other (by omega))
    have G4 := lid (show Eb g (bstr a) false 0 0 w4 by rw [← hw4]; exact G3.out.other (by omega))
    have K4 : Hid (Kp b w w4) := lid (by rw [← hw4]; exact K3.out.setCell 1 _)
    have g1 := G4.out.c1
    have gf1 := G4.out.fz 1
    obtain ⟨w5, hw5⟩ : ∃ w5, w4.setCell ⟨g, 1, none⟩ (.bool q) = w5 := ⟨_, rfl⟩
    have R5 := lid (show Rb 160 b (l2, v) w5 by rw [← hw5]; exact R4.out.other (by omega))
    have E5 := lid (show Eb w.heap.size ⟨#[]⟩ false 0 0 w5 by rw [← hw5]; exact E4.out.other (by omega))
    have G5 := lid (show Eb g (bstr a) q 0 0 w5 by rw [← hw5]; exact G4.out.set1 q)
    have K5 : Hid (Kp b w w5) := lid (by rw [← hw5]; exact K4.out.young (Nat.le_of_lt z1) hbw)
    have hlg := G4.out.lt
    clear R3 E3 G3 K3 R4 E4 G4 K4 hqq
    go_wp2_with fail
    clear hw4 hw5 c1 f1 g1 gf1 hq hlg hlb
    (with_reducible refine (rDigest_any b (l2, v) w5 R5.out L2.out).mono ?_); rintro e w6 ⟨rfl, hR6, hK6⟩
    have E6 := lid (E5.out.kp hK6 (by omega))
    have G6 := lid (G5.out.kp hK6 (by omega))
    have K6 := lid (K5.out.trans hK6)
    have R6 := lid hR6
    clear hR6 hK6 E5 G5 K5 R5
    obtain ⟨r3, hr3⟩ : ∃ r, rDig (l2, v) = r := ⟨_, rfl⟩
    rw [hr3] at HE R6 ⊢
    obtain ⟨dg, s3⟩ := r3
    simp only at HE R6 ⊢
    clear hr3
    have g2 := G6.out.c2
    have g3 := G6.out.c3
    have gf2 := G6.out.fz 2
    have gf3 := G6.out.fz 3
    obtain ⟨w7, hw7⟩ : ∃ w7, (w6.setCell ⟨g, 2, none⟩ (.int .u64 dg.1.toNat)).setCell ⟨g, 3, none⟩ (.int .u64 dg.2.toNat) = w7 := ⟨_, rfl⟩
    have R7 := lid (show Rb 160 b s3 w7 by rw [← hw7]; exact (R6.out.other (by omega)).other (by omega))
    have E7 := lid (show Eb w.heap.size ⟨#[]⟩ false 0 0 w7 by rw [← hw7]; exact (E6.out.other (by omega)).other (by omega))
    have G7 := lid (show Eb g (bstr a) q dg.1.toNat dg.2.toNat w7 by rw [← hw7]; exact (G6.out.set2 _).set3 _)
    have K7 : Hid (Kp b w w7) := lid (by rw [← hw7]; exact (K6.out.young (Nat.le_of_lt z1) hbw).young (Nat.le_of_lt z1) hbw)
    have m0 := G7.out.c0
    have m1 := G7.out.c1
    have m2 := G7.out.c2
    have m3 := G7.out.c3
    have n0 := E7.out.c0
    have n1 := E7.out.c1
    have n2 := E7.out.c2
    have n3 := E7.out.c3
    have p0 := E7.out.fz 0
    have p1 := E7.out.fz 1
    have p2 := E7.out.fz 2
    have p3 := E7.out.fz 3
    have hlg := G7.out.lt
    have hlg6 := G6.out.lt
    clear R6 E6 G6 K6
    go_wp2_with fail
    have X : Eb w.heap.size (bstr a) q dg.1.toNat dg.2.toNat ((((w7.setCell ⟨w.heap.size, 0, none⟩ (.string (bstr a))).setCell ⟨w.heap.size, 1, none⟩ (.bool q)).setCell ⟨w.heap.size, 2, none⟩ (.int .u64 dg.1.toNat)).setCell ⟨w.heap.size, 3, none⟩ (.int .u64 dg.2.toNat)) := (((E7.out.set0 _).set1 _).set2 _).set3 _
    have x0 := X.c0
    have x1 := X.c1
    have x2 := X.c2
    have x3 := X.c3
    refine bodyPost_ret (v := ev (bstr a, q, dg)) (by simp [results, Tryz.results114, go_sem, x0, x1, x2, x3]) rfl ⟨by rw [HE.out], ?_, ?_⟩
    · rw [HE.out]
      exact (((R7.out.other (by omega)).other (by omega)).other (by omega)).other (by omega)
    · exact (((K7.out.young (Nat.le_refl _) hbw).young (Nat.le_refl _) hbw).young (Nat.le_refl _) hbw).young (Nat.le_refl _) hbw
end Go.Proofs.YtphjillihapbfaaGreatDoor

namespace Go.Proofs.YtphjillihapbfaaGreatDoor
open Go.RowKit

theorem info_ent : (Tryz.prog.info? 83).map (fun i => (i.zero, i.size, i.bytes)) = some (some (.agg #[.string ⟨#[]⟩, .bool false, .int .u64 0, .int .u64 0]), 4, 40) := by kernel_rfl
theorem ecells_snoc (l : List Ent) (e : Ent) : ecells (l ++ [e]) = ecells l ++ [.string e.1, .bool e.2.1, .int .u64 e.2.2.1.toNat, .int .u64 e.2.2.2.toNat] := by simp [ecells]
theorem Kp.grown {b : Nat} {w w1 w2 : World} {row : Option Nat} (h : Kp b w w1) (hg : w1.grownBy w2 row) (hb : b ≤ w1.heap.size) (hr : ∀ k, row = some k → w.heap.size ≤ k ∧ b ≤ k) : Kp b w w2 :=
  ⟨h.1.grown hg hb (fun k hk => (hr k hk).2), fun j hj hjb => (hg.block j (Nat.lt_of_lt_of_le hj h.size) (fun e => by have := (hr j e.symm).1; omega)).trans (h.2 j hj hjb)⟩
theorem own_kp {w w' : World} {base : Nat} {e : TypeId} {size : Nat} {v : Value} {n b : Nat} {xs : List Value} (h : w.ownsRow base e size v n xs) (hk : Kp b w w') (hb : b < base) : w'.ownsRow base e size v n xs :=
  own_block h fun g hg => hk.2 g (h.lt g hg).2 (by have := (h.lt g hg).1; omega)
theorem Rb.grown {t : TypeId} {b : Nat} {s : Rd} {w w' : World} {row : Option Nat} (h : Rb t b s w) (hg : w.grownBy w' row) (hr : row ≠ some b) : Rb t b s w' := (hg.block b h.lt (fun e => hr e.symm)).trans h
theorem many_bad {α : Type} {f : Rd → α × Rd} {n : Nat} {s : Rd} (h : s.2 = true) : many f n s = ([], s) := by
  cases n with
  | zero => rfl
  | succ n => unfold many; rw [if_pos h]
theorem many_next {α : Type} {f : Rd → α × Rd} {n : Nat} {s : Rd} (h : s.2 = false) : many f (n + 1) s = ((f s).1 :: (many f n (f s).2).1, (many f n (f s).2).2) := by rw [many, if_neg (by rw [h]; decide)]
theorem rEnt_len {s : Rd} : (rEnt s).2.1.length ≤ s.1.length := by
  unfold rEnt rEnt3
  exact Nat.le_trans (rDig_len (s := (_, _))) (Nat.le_trans rNum_len rStr_len)

set_option maxRecDepth 100000 in
set_option maxHeartbeats 8000000 in
theorem rListE_any (b : Nat) (s : Rd) (w : World) (h : Rb 160 b s w) (hl : s.1.length ≤ maxLen) :
    Calls Tryz.prog 113 #[.pointer (some ⟨b, 0, none⟩), .int .i64 200, .func (.func 114) #[.pointer (some ⟨b, 0, none⟩)] #[]] w fun e w' => ∃ v, e = .returned v ∧ w'.ownsRow w.heap.size 83 4 v (rList rEnt 200 s).1.length (ecells (rList rEnt 200 s).1) ∧ Rb 160 b (rList rEnt 200 s).2 w' ∧ Kp b w w' := by
  have hlt0 := h.lt
  have hbw : b ≤ w.heap.size := Nat.le_of_lt hlt0
  have C1 := lid (rNumber_any b s w h hl)
  have L1 := lid (Nat.le_trans (rNum_len (s := s)) hl)
  have HN := lid (getI_le s.1)
  have HE : Hid (rList rEnt 200 s = many rEnt (rNum s).1 ((rNum s).2.1, (rNum s).2.2 || decide (200 < (rNum s).1))) := lid rfl
  obtain ⟨r, hr⟩ : ∃ r, rNum s = r := ⟨_, rfl⟩
  have hn : r.1 ≤ 1099511627776 := by rw [← hr]; exact HN.out.2
  rw [hr] at C1 L1 HE
  obtain ⟨n, l1, bad⟩ := r
  simp only at hn
  have hn' : n ≤ 9223372036854775807 := by omega
  clear hr HN h hl hn
  go_enter Tryz.func113, Tryz.ntmps113
  go_wp2_with fail
  (with_reducible refine (C1.out).mono ?_); rintro e w1 ⟨rfl, hR1, hK1⟩
  have R1 := lid hR1
  have K1 := lid hK1
  have hb1 := hR1.lt
  have z1 := hK1.size
  clear C1 hR1 hK1
  have c1 : w1.cell? ⟨b, 1, none⟩ = some (.bool bad) := R1.out.c1
  have f1 := R1.out.fz 1
  obtain ⟨v, hv⟩ : ∃ v, (bad || decide (200 < n)) = v := ⟨_, rfl⟩
  have HB : Hid (v = false → n ≤ 200) := lid (by rintro rfl; simp at hv; omega)
  replace HE : Hid (rList rEnt 200 s = many rEnt n (l1, bad || decide (200 < n))) := HE
  rw [hv] at HE
  obtain ⟨w2, hw2⟩ : ∃ w2, w1.setCell ⟨b, 1, none⟩ (.bool v) = w2 := ⟨_, rfl⟩
  have R2 := lid (show Rb 160 b (l1, v) w2 by rw [← hw2]; exact R1.out.set1 v)
  have K2 : Hid (Kp b w w2) := lid (by rw [← hw2]; exact K1.out.setCell 1 _)
  have hm : decide ((200 : Int) < (n : Int)) = decide (200 < n) := by rw [Bool.eq_iff_iff]; simp; omega
  have h2 : Hid (w1.setCell ⟨b, 1, none⟩ (.bool v) = w2) := lid hw2
  clear hw2
  have EX : Hid (∀ (L : List Ent) (sk : Rd) (k : Nat) (u : Value) (wr : World), wr.ownsRow w.heap.size 83 4 u k (ecells L) → Rb 160 b sk wr → Kp b w wr → L.length = k → many rEnt n (l1, v) = (L, sk) →
      ∃ v, Ending.returned u = .returned v ∧ wr.ownsRow w.heap.size 83 4 v (rList rEnt 200 s).1.length (ecells (rList rEnt 200 s).1) ∧ Rb 160 b (rList rEnt 200 s).2 wr ∧ Kp b w wr) := lid (by
    intro L sk k u wr h1 h2 h3 h4 h5
    rw [HE.out, h5]
    subst h4
    exact ⟨_, rfl, h1, h2, h3⟩)
  clear HE
  cases bad with
  | true =>
    have hvt : v = true := by rw [← hv]; rfl
    rw [hvt] at h2
    clear hvt
    clear hv hm
    go_wp2_with fail
    rw [h2.out]
    clear h2 c1 f1 R1 K1 hb1
    go_loopw [8, 9] (fun u i wr => ∃ (k : Nat) (sk : Rd) (L : List Ent), k ≤ n ∧ i = .int .i64 k ∧ Hid (wr.ownsRow w.heap.size 83 4 u k (ecells L)) ∧ Hid (Rb 160 b sk wr) ∧ Hid (Kp b w wr) ∧ Hid (many rEnt n (l1, v) = (L ++ (many rEnt (n - k) sk).1, (many rEnt (n - k) sk).2)) ∧ Hid (L.length = k) ∧ Hid (sk.2 = false → n ≤ 200) ∧ Hid (sk.1.length ≤ maxLen)) (fun _ i _ => n - (intOf i).toNat)
    case atStart => exact ⟨0, (l1, v), [], Nat.zero_le _, rfl, lid (World.ownsRow_nil _ _ _ _), R2, K2, lid (by simp), lid rfl, HB, L1⟩
    case round =>
      clear R2 K2 HB L1
      obtain ⟨k, sk, L, hk, rfl, HO, HR, HK, HM, HL, HB, HS⟩ := hrel
      obtain ⟨lk, bk⟩ := sk
      have hlb := HR.out.lt
      have c1 : wr.cell? ⟨b, 1, none⟩ = some (.bool bk) := HR.out.c1
      have zk := HK.out.size
      by_cases hlt : k < n
      · have dk : decide ((k : Int) < (n : Int)) = true := by simp; omega
        cases bk with
        | true =>
          have HX : Hid (many rEnt n (l1, v) = (L, (lk, true))) := lid (by rw [HM.out, many_bad rfl, List.append_nil])
          go_wp2_with fail
          go_ret
          exact EX.out L _ k _ _ HO.out HR.out HK.out HL.out HX.out
        | false =>
          have hn2 : n ≤ 200 := HB.out rfl
          have HX := lid (many_next (f := rEnt) (n := n - (k + 1)) (s := (lk, false)) rfl)
          have HK1 : Hid (n - k = n - (k + 1) + 1) := lid (by omega)
          have HL3 := lid (Nat.le_trans (rEnt_len (s := (lk, false))) HS.out)
          have CG := lid (rEntry_any b (lk, false) wr HR.out HS.out)
          obtain ⟨g, hg⟩ : ∃ g, rEnt (lk, false) = g := ⟨_, rfl⟩
          rw [hg] at CG HX HL3
          obtain ⟨x, sx⟩ := g
          clear hg
          go_wp2_with fail
          clear c1
          (with_reducible refine (CG.out).mono ?_); rintro e w3 ⟨rfl, hR3, hK3⟩
          have HO3 := lid (own_kp HO.out hK3 hlt0)
          have HR3 := lid hR3
          have HK3 := lid (HK.out.trans hK3)
          have z3 : w.heap.size ≤ w3.heap.size := by have := hK3.size; omega
          have hb3 := hR3.lt
          clear CG hR3 hK3 HR HK HO
          go_wp2_with (at_builtin; go_must (refine wpList_append_newG #[.string x.1, .bool x.2.1, .int .u64 x.2.2.1.toNat, .int .u64 x.2.2.2.toNat] rfl _ _ 70 rfl w.heap.size 83 (.agg #[.string ⟨#[]⟩, .bool false, .int .u64 0, .int .u64 0]) 4 40 info_ent Tryz.underlying70 rfl (by decide) _ k _ HO3.out rfl rfl rfl (by simp [Value.oneCell']) (by unfold maxLen; omega) (by omega) z3 ?_))
          intro v' w4 hown' hgrow
          have HO4 : Hid (w4.ownsRow w.heap.size 83 4 v' (k + 1) (ecells (L ++ [x]))) := lid (by rw [ecells_snoc]; exact hown')
          have HR4 : Hid (Rb 160 b sx w4) := lid ((HR3.out.below (ba _ _)).grown hgrow (fun e => by have := ownsRow_row HO3.out b e; omega))
          have HK4 : Hid (Kp b w w4) := lid ((HK3.out.trans (Kp.of_below (Nat.le_of_lt hb3) (ba _ _))).grown hgrow (by rw [World.size_alloc]; omega) (fun j hj => by have := ownsRow_row HO3.out j hj; omega))
          obtain ⟨ao, cap, rfl⟩ := own_slice hown'
          clear hown' hgrow HO3 HR3 HK3
          go_wp2_with fail
          go_roundw
          case rel => exact ⟨k + 1, sx, L ++ [x], by omega, by go_num, HO4, HR4, HK4, lid (by rw [HM.out, HK1.out, HX.out]; simp), lid (by simp [HL.out]), lid (fun _ => hn2), HL3⟩
          case measure => simp [intOf]; omega
      · obtain rfl : k = n := by omega
        have HX : Hid (many rEnt k (l1, v) = (L, (lk, bk))) := lid (by rw [HM.out, Nat.sub_self, many, List.append_nil])
        have dk : decide ((k : Int) < (k : Int)) = false := by simp
        go_wp2_with fail
        go_ret
        exact EX.out L _ k _ _ HO.out HR.out HK.out HL.out HX.out
  | false =>
    rw [Bool.false_or] at hv
    rw [hv] at hm
    clear hv
    go_wp2_with fail
    rw [h2.out]
    clear h2 c1 f1 R1 K1 hb1
    go_loopw [8, 9] (fun u i wr => ∃ (k : Nat) (sk : Rd) (L : List Ent), k ≤ n ∧ i = .int .i64 k ∧ Hid (wr.ownsRow w.heap.size 83 4 u k (ecells L)) ∧ Hid (Rb 160 b sk wr) ∧ Hid (Kp b w wr) ∧ Hid (many rEnt n (l1, v) = (L ++ (many rEnt (n - k) sk).1, (many rEnt (n - k) sk).2)) ∧ Hid (L.length = k) ∧ Hid (sk.2 = false → n ≤ 200) ∧ Hid (sk.1.length ≤ maxLen)) (fun _ i _ => n - (intOf i).toNat)
    case atStart => exact ⟨0, (l1, v), [], Nat.zero_le _, rfl, lid (World.ownsRow_nil _ _ _ _), R2, K2, lid (by simp), lid rfl, HB, L1⟩
    case round =>
      clear R2 K2 HB L1
      obtain ⟨k, sk, L, hk, rfl, HO, HR, HK, HM, HL, HB, HS⟩ := hrel
      obtain ⟨lk, bk⟩ := sk
      have hlb := HR.out.lt
      have c1 : wr.cell? ⟨b, 1, none⟩ = some (.bool bk) := HR.out.c1
      have zk := HK.out.size
      by_cases hlt : k < n
      · have dk : decide ((k : Int) < (n : Int)) = true := by simp; omega
        cases bk with
        | true =>
          have HX : Hid (many rEnt n (l1, v) = (L, (lk, true))) := lid (by rw [HM.out, many_bad rfl, List.append_nil])
          go_wp2_with fail
          go_ret
          exact EX.out L _ k _ _ HO.out HR.out HK.out HL.out HX.out
        | false =>
          have hn2 : n ≤ 200 := HB.out rfl
          have HX := lid (many_next (f := rEnt) (n := n - (k + 1)) (s := (lk, false)) rfl)
          have HK1 : Hid (n - k = n - (k + 1) + 1) := lid (by omega)
          have HL3 := lid (Nat.le_trans (rEnt_len (s := (lk, false))) HS.out)
          have CG := lid (rEntry_any b (lk, false) wr HR.out HS.out)
          obtain ⟨g, hg⟩ : ∃ g, rEnt (lk, false) = g := ⟨_, rfl⟩
          rw [hg] at CG HX HL3
          obtain ⟨x, sx⟩ := g
          clear hg
          go_wp2_with fail
          clear c1
          (with_reducible refine (CG.out).mono ?_); rintro e w3 ⟨rfl, hR3, hK3⟩
          have HO3 := lid (own_kp HO.out hK3 hlt0)
          have HR3 := lid hR3
          have HK3 := lid (HK.out.trans hK3)
          have z3 : w.heap.size ≤ w3.heap.size := by have := hK3.size; omega
          have hb3 := hR3.lt
          clear CG hR3 hK3 HR HK HO
          go_wp2_with (at_builtin; go_must (refine wpList_append_newG #[.string x.1, .bool x.2.1, .int .u64 x.2.2.1.toNat, .int .u64 x.2.2.2.toNat] rfl _ _ 70 rfl w.heap.size 83 (.agg #[.string ⟨#[]⟩, .bool false, .int .u64 0, .int .u64 0]) 4 40 info_ent Tryz.underlying70 rfl (by decide) _ k _ HO3.out rfl rfl rfl (by simp [Value.oneCell']) (by unfold maxLen; omega) (by omega) z3 ?_))
          intro v' w4 hown' hgrow
          have HO4 : Hid (w4.ownsRow w.heap.size 83 4 v' (k + 1) (ecells (L ++ [x]))) := lid (by rw [ecells_snoc]; exact hown')
          have HR4 : Hid (Rb 160 b sx w4) := lid ((HR3.out.below (ba _ _)).grown hgrow (fun e => by have := ownsRow_row HO3.out b e; omega))
          have HK4 : Hid (Kp b w w4) := lid ((HK3.out.trans (Kp.of_below (Nat.le_of_lt hb3) (ba _ _))).grown hgrow (by rw [World.size_alloc]; omega) (fun j hj => by have := ownsRow_row HO3.out j hj; omega))
          obtain ⟨ao, cap, rfl⟩ := own_slice hown'
          clear hown' hgrow HO3 HR3 HK3
          go_wp2_with fail
          go_roundw
          case rel => exact ⟨k + 1, sx, L ++ [x], by omega, by go_num, HO4, HR4, HK4, lid (by rw [HM.out, HK1.out, HX.out]; simp), lid (by simp [HL.out]), lid (fun _ => hn2), HL3⟩
          case measure => simp [intOf]; omega
      · obtain rfl : k = n := by omega
        have HX : Hid (many rEnt k (l1, v) = (L, (lk, bk))) := lid (by rw [HM.out, Nat.sub_self, many, List.append_nil])
        have dk : decide ((k : Int) < (k : Int)) = false := by simp
        go_wp2_with fail
        go_ret
        exact EX.out L _ k _ _ HO.out HR.out HK.out HL.out HX.out
set_option maxRecDepth 100000 in
set_option maxHeartbeats 8000000 in
theorem rListD_any (b : Nat) (s : Rd) (w : World) (h : Rb 160 b s w) (hl : s.1.length ≤ maxLen) :
    Calls Tryz.prog 116 #[.pointer (some ⟨b, 0, none⟩), .int .i64 8, .func (.func 115) #[.pointer (some ⟨b, 0, none⟩)] #[]] w fun e w' => ∃ v, e = .returned v ∧ w'.ownsRow w.heap.size 31 2 v (rList rDig 8 s).1.length (dcells (rList rDig 8 s).1) ∧ Rb 160 b (rList rDig 8 s).2 w' ∧ Kp b w w' := by
  have hlt0 := h.lt
  have hbw : b ≤ w.heap.size := Nat.le_of_lt hlt0
  have C1 := lid (rNumber_any b s w h hl)
  have L1 := lid (Nat.le_trans (rNum_len (s := s)) hl)
  have HN := lid (getI_le s.1)
  have HE : Hid (rList rDig 8 s = many rDig (rNum s).1 ((rNum s).2.1, (rNum s).2.2 || decide (8 < (rNum s).1))) := lid rfl
  obtain ⟨r, hr⟩ : ∃ r, rNum s = r := ⟨_, rfl⟩
  have hn : r.1 ≤ 1099511627776 := by rw [← hr]; exact HN.out.2
  rw [hr] at C1 L1 HE
  obtain ⟨n, l1, bad⟩ := r
  simp only at hn
  have hn' : n ≤ 9223372036854775807 := by omega
  clear hr HN h hl hn
  go_enter Tryz.func116, Tryz.ntmps116
  go_wp2_with fail
  (with_reducible refine (C1.out).mono ?_); rintro e w1 ⟨rfl, hR1, hK1⟩
  have R1 := lid hR1
  have K1 := lid hK1
  have hb1 := hR1.lt
  have z1 := hK1.size
  clear C1 hR1 hK1
  have c1 : w1.cell? ⟨b, 1, none⟩ = some (.bool bad) := R1.out.c1
  have f1 := R1.out.fz 1
  obtain ⟨v, hv⟩ : ∃ v, (bad || decide (8 < n)) = v := ⟨_, rfl⟩
  have HB : Hid (v = false → n ≤ 8) := lid (by rintro rfl; simp at hv; omega)
  replace HE : Hid (rList rDig 8 s = many rDig n (l1, bad || decide (8 < n))) := HE
  rw [hv] at HE
  obtain ⟨w2, hw2⟩ : ∃ w2, w1.setCell ⟨b, 1, none⟩ (.bool v) = w2 := ⟨_, rfl⟩
  have R2 := lid (show Rb 160 b (l1, v) w2 by rw [← hw2]; exact R1.out.set1 v)
  have K2 : Hid (Kp b w w2) := lid (by rw [← hw2]; exact K1.out.setCell 1 _)
  have hm : decide ((8 : Int) < (n : Int)) = decide (8 < n) := by rw [Bool.eq_iff_iff]; simp; omega
  have h2 : Hid (w1.setCell ⟨b, 1, none⟩ (.bool v) = w2) := lid hw2
  clear hw2
  have EX : Hid (∀ (L : List Dg) (sk : Rd) (k : Nat) (u : Value) (wr : World), wr.ownsRow w.heap.size 31 2 u k (dcells L) → Rb 160 b sk wr → Kp b w wr → L.length = k → many rDig n (l1, v) = (L, sk) →
      ∃ v, Ending.returned u = .returned v ∧ wr.ownsRow w.heap.size 31 2 v (rList rDig 8 s).1.length (dcells (rList rDig 8 s).1) ∧ Rb 160 b (rList rDig 8 s).2 wr ∧ Kp b w wr) := lid (by
    intro L sk k u wr h1 h2 h3 h4 h5
    rw [HE.out, h5]
    subst h4
    exact ⟨_, rfl, h1, h2, h3⟩)
  clear HE
  cases bad with
  | true =>
    have hvt : v = true := by rw [← hv]; rfl
    rw [hvt] at h2
    clear hvt
    clear hv hm
    go_wp2_with fail
    rw [h2.out]
    clear h2 c1 f1 R1 K1 hb1
    go_loopw [8, 9] (fun u i wr => ∃ (k : Nat) (sk : Rd) (L : List Dg), k ≤ n ∧ i = .int .i64 k ∧ Hid (wr.ownsRow w.heap.size 31 2 u k (dcells L)) ∧ Hid (Rb 160 b sk wr) ∧ Hid (Kp b w wr) ∧ Hid (many rDig n (l1, v) = (L ++ (many rDig (n - k) sk).1, (many rDig (n - k) sk).2)) ∧ Hid (L.length = k) ∧ Hid (sk.2 = false → n ≤ 8) ∧ Hid (sk.1.length ≤ maxLen)) (fun _ i _ => n - (intOf i).toNat)
    case atStart => exact ⟨0, (l1, v), [], Nat.zero_le _, rfl, lid (World.ownsRow_nil _ _ _ _), R2, K2, lid (by simp), lid rfl, HB, L1⟩
    case round =>
      clear R2 K2 HB L1
      obtain ⟨k, sk, L, hk, rfl, HO, HR, HK, HM, HL, HB, HS⟩ := hrel
      obtain ⟨lk, bk⟩ := sk
      have hlb := HR.out.lt
      have c1 : wr.cell? ⟨b, 1, none⟩ = some (.bool bk) := HR.out.c1
      have zk := HK.out.size
      by_cases hlt : k < n
      · have dk : decide ((k : Int) < (n : Int)) = true := by simp; omega
        cases bk with
        | true =>
          have HX : Hid (many rDig n (l1, v) = (L, (lk, true))) := lid (by rw [HM.out, many_bad rfl, List.append_nil])
          go_wp2_with fail
          go_ret
          exact EX.out L _ k _ _ HO.out HR.out HK.out HL.out HX.out
        | false =>
          have hn2 : n ≤ 8 := HB.out rfl
          have HX := lid (many_next (f := rDig) (n := n - (k + 1)) (s := (lk, false)) rfl)
          have HK1 : Hid (n - k = n - (k + 1) + 1) := lid (by omega)
          have HL3 := lid (Nat.le_trans (rDig_len (s := (lk, false))) HS.out)
          have CG := lid (rDigest_any b (lk, false) wr HR.out HS.out)
          obtain ⟨g, hg⟩ : ∃ g, rDig (lk, false) = g := ⟨_, rfl⟩
          rw [hg] at CG HX HL3
          obtain ⟨x, sx⟩ := g
          clear hg
          go_wp2_with fail
          clear c1
          (with_reducible refine (CG.out).mono ?_); rintro e w3 ⟨rfl, hR3, hK3⟩
          have HO3 := lid (own_kp HO.out hK3 hlt0)
          have HR3 := lid hR3
          have HK3 := lid (HK.out.trans hK3)
          have z3 : w.heap.size ≤ w3.heap.size := by have := hK3.size; omega
          have hb3 := hR3.lt
          clear CG hR3 hK3 HR HK HO
          go_wp2_with (at_builtin; go_must (refine wpList_append_newG #[.int .u64 x.1.toNat, .int .u64 x.2.toNat] rfl _ _ 26 rfl w.heap.size 31 (.agg #[.int .u64 0, .int .u64 0]) 2 16 info_dgo Tryz.underlying26 rfl (by decide) _ k _ HO3.out rfl rfl rfl (by simp [Value.oneCell']) (by unfold maxLen; omega) (by omega) z3 ?_))
          intro v' w4 hown' hgrow
          have HO4 : Hid (w4.ownsRow w.heap.size 31 2 v' (k + 1) (dcells (L ++ [x]))) := lid (by rw [dcells_snoc]; exact hown')
          have HR4 : Hid (Rb 160 b sx w4) := lid ((HR3.out.below (ba _ _)).grown hgrow (fun e => by have := ownsRow_row HO3.out b e; omega))
          have HK4 : Hid (Kp b w w4) := lid ((HK3.out.trans (Kp.of_below (Nat.le_of_lt hb3) (ba _ _))).grown hgrow (by rw [World.size_alloc]; omega) (fun j hj => by have := ownsRow_row HO3.out j hj; omega))
          obtain ⟨ao, cap, rfl⟩ := own_slice hown'
          clear hown' hgrow HO3 HR3 HK3
          go_wp2_with fail
          go_roundw
          case rel => exact ⟨k + 1, sx, L ++ [x], by omega, by go_num, HO4, HR4, HK4, lid (by rw [HM.out, HK1.out, HX.out]; simp), lid (by simp [HL.out]), lid (fun _ => hn2), HL3⟩
          case measure => simp [intOf]; omega
      · obtain rfl : k = n := by omega
        have HX : Hid (many rDig k (l1, v) = (L, (lk, bk))) := lid (by rw [HM.out, Nat.sub_self, many, List.append_nil])
        have dk : decide ((k : Int) < (k : Int)) = false := by simp
        go_wp2_with fail
        go_ret
        exact EX.out L _ k _ _ HO.out HR.out HK.out HL.out HX.out
  | false =>
    rw [Bool.false_or] at hv
    rw [hv] at hm
    clear hv
    go_wp2_with fail
    rw [h2.out]
    clear h2 c1 f1 R1 K1 hb1
    go_loopw [8, 9] (fun u i wr => ∃ (k : Nat) (sk : Rd) (L : List Dg), k ≤ n ∧ i = .int .i64 k ∧ Hid (wr.ownsRow w.heap.size 31 2 u k (dcells L)) ∧ Hid (Rb 160 b sk wr) ∧ Hid (Kp b w wr) ∧ Hid (many rDig n (l1, v) = (L ++ (many rDig (n - k) sk).1, (many rDig (n - k) sk).2)) ∧ Hid (L.length = k) ∧ Hid (sk.2 = false → n ≤ 8) ∧ Hid (sk.1.length ≤ maxLen)) (fun _ i _ => n - (intOf i).toNat)
    case atStart => exact ⟨0, (l1, v), [], Nat.zero_le _, rfl, lid (World.ownsRow_nil _ _ _ _), R2, K2, lid (by simp), lid rfl, HB, L1⟩
    case round =>
      clear R2 K2 HB L1
      obtain ⟨k, sk, L, hk, rfl, HO, HR, HK, HM, HL, HB, HS⟩ := hrel
      obtain ⟨lk, bk⟩ := sk
      have hlb := HR.out.lt
      have c1 : wr.cell? ⟨b, 1, none⟩ = some (.bool bk) := HR.out.c1
      have zk := HK.out.size
      by_cases hlt : k < n
      · have dk : decide ((k : Int) < (n : Int)) = true := by simp; omega
        cases bk with
        | true =>
          have HX : Hid (many rDig n (l1, v) = (L, (lk, true))) := lid (by rw [HM.out, many_bad rfl, List.append_nil])
          go_wp2_with fail
          go_ret
          exact EX.out L _ k _ _ HO.out HR.out HK.out HL.out HX.out
        | false =>
          have hn2 : n ≤ 8 := HB.out rfl
          have HX := lid (many_next (f := rDig) (n := n - (k + 1)) (s := (lk, false)) rfl)
          have HK1 : Hid (n - k = n - (k + 1) + 1) := lid (by omega)
          have HL3 := lid (Nat.le_trans (rDig_len (s := (lk, false))) HS.out)
          have CG := lid (rDigest_any b (lk, false) wr HR.out HS.out)
          obtain ⟨g, hg⟩ : ∃ g, rDig (lk, false) = g := ⟨_, rfl⟩
          rw [hg] at CG HX HL3
          obtain ⟨x, sx⟩ := g
          clear hg
          go_wp2_with fail
          clear c1
          (with_reducible refine (CG.out).mono ?_); rintro e w3 ⟨rfl, hR3, hK3⟩
          have HO3 := lid (own_kp HO.out hK3 hlt0)
          have HR3 := lid hR3
          have HK3 := lid (HK.out.trans hK3)
          have z3 : w.heap.size ≤ w3.heap.size := by have := hK3.size; omega
          have hb3 := hR3.lt
          clear CG hR3 hK3 HR HK HO
          go_wp2_with (at_builtin; go_must (refine wpList_append_newG #[.int .u64 x.1.toNat, .int .u64 x.2.toNat] rfl _ _ 26 rfl w.heap.size 31 (.agg #[.int .u64 0, .int .u64 0]) 2 16 info_dgo Tryz.underlying26 rfl (by decide) _ k _ HO3.out rfl rfl rfl (by simp [Value.oneCell']) (by unfold maxLen; omega) (by omega) z3 ?_))
          intro v' w4 hown' hgrow
          have HO4 : Hid (w4.ownsRow w.heap.size 31 2 v' (k + 1) (dcells (L ++ [x]))) := lid (by rw [dcells_snoc]; exact hown')
          have HR4 : Hid (Rb 160 b sx w4) := lid ((HR3.out.below (ba _ _)).grown hgrow (fun e => by have := ownsRow_row HO3.out b e; omega))
          have HK4 : Hid (Kp b w w4) := lid ((HK3.out.trans (Kp.of_below (Nat.le_of_lt hb3) (ba _ _))).grown hgrow (by rw [World.size_alloc]; omega) (fun j hj => by have := ownsRow_row HO3.out j hj; omega))
          obtain ⟨ao, cap, rfl⟩ := own_slice hown'
          clear hown' hgrow HO3 HR3 HK3
          go_wp2_with fail
          go_roundw
          case rel => exact ⟨k + 1, sx, L ++ [x], by omega, by go_num, HO4, HR4, HK4, lid (by rw [HM.out, HK1.out, HX.out]; simp), lid (by simp [HL.out]), lid (fun _ => hn2), HL3⟩
          case measure => simp [intOf]; omega
      · obtain rfl : k = n := by omega
        have HX : Hid (many rDig k (l1, v) = (L, (lk, bk))) := lid (by rw [HM.out, Nat.sub_self, many, List.append_nil])
        have dk : decide ((k : Int) < (k : Int)) = false := by simp
        go_wp2_with fail
        go_ret
        exact EX.out L _ k _ _ HO.out HR.out HK.out HL.out HX.out
end Go.Proofs.YtphjillihapbfaaGreatDoor
