/-
  apart: where a proof leads from another digest to the same root, two different strings with the same digest are hashed.
-/
import Derived.Test.YtchjmkmcgpbndaaDigCollide
import Derived.Test.YtchjmkmcgpbndaaDigClaimed
import Derived.Test.YtchjmkmcgpbndaaMix
namespace Go.Proofs.Ytchjmkmcgpbndaa
open Go.RowKit

/-- A digest in a box. -/
def DBox (w : World) (k : Nat) (d : Dg) : Prop := k < w.heap.size ∧ w.cell? ⟨k, 0, none⟩ = some (.int .u64 d.1.toNat) ∧ w.cell? ⟨k, 1, none⟩ = some (.int .u64 d.2.toNat)
theorem DBox.below {w w' : World} {k B : Nat} {d : Dg} (h : DBox w k d) (hb : Below B w w') (hk : k < B) : DBox w' k d :=
  ⟨Nat.lt_of_lt_of_le h.1 hb.size, (bc hb hk 0).trans h.2.1, (bc hb hk 1).trans h.2.2⟩
theorem DBox.new (w : World) (d : Dg) (t : TypeId) : DBox (w.alloc (.cells #[.int .u64 d.1.toNat, .int .u64 d.2.toNat] t)) w.heap.size d := by
  refine ⟨by simp, ?_, ?_⟩ <;> rw [cell_of_row _ _ _ _ t _ (heap_alloc_new w _)] <;> rfl
/-- A box of two cells. -/
def Two (w : World) (k : Nat) : Prop := ∃ c0 c1 t, w.heap[k]? = some (.cells #[c0, c1] t (0, 0))
theorem Two.lt {w : World} {k : Nat} (h : Two w k) : k < w.heap.size := by
  obtain ⟨c0, c1, t, h⟩ := h
  exact (Array.getElem?_eq_some_iff.1 h).1
theorem Two.below {w w' : World} {k B : Nat} (h : Two w k) (hb : Below B w w') (hk : k < B) : Two w' k := by
  obtain ⟨c0, c1, t, h⟩ := h
  exact ⟨c0, c1, t, (hb.block k hk).trans h⟩
theorem Two.new (w : World) (c0 c1 : Value) (t : TypeId) : Two (w.alloc (.cells #[c0, c1] t)) w.heap.size := ⟨c0, c1, t, heap_alloc_new w _⟩
theorem Two.cells {w : World} {k : Nat} (h : Two w k) : ∃ c0 c1, w.cell? ⟨k, 0, none⟩ = some c0 ∧ w.cell? ⟨k, 1, none⟩ = some c1 ∧ w.frozen? ⟨k, 0, none⟩ = false ∧ w.frozen? ⟨k, 1, none⟩ = false := by
  obtain ⟨c0, c1, t, h⟩ := h
  exact ⟨c0, c1, by rw [cell_of_row w k 0 _ t _ h]; rfl, by rw [cell_of_row w k 1 _ t _ h]; rfl, frozen_of_row w k 0 _ t h, frozen_of_row w k 1 _ t h⟩
theorem Two.other {w : World} {k : Nat} (h : Two w k) (a : Addr) (x : Value) (hne : k ≠ a.block) : Two (w.setCell a x) k := by
  obtain ⟨c0, c1, t, h⟩ := h
  exact ⟨c0, c1, t, (Below.heap_setCell _ _ _ _ hne).trans h⟩
theorem Two.set {w : World} {k : Nat} (h : Two w k) (d : Dg) : DBox ((w.setCell ⟨k, 0, none⟩ (.int .u64 d.1.toNat)).setCell ⟨k, 1, none⟩ (.int .u64 d.2.toNat)) k d := by
  obtain ⟨c0, c1, t, h⟩ := h
  have h1 := heap_setCell_same w k 0 #[c0, c1] t (.int .u64 d.1.toNat) h
  have h2 := heap_setCell_same _ k 1 _ t (.int .u64 d.2.toNat) h1
  refine ⟨(Array.getElem?_eq_some_iff.1 h2).1, ?_, ?_⟩ <;> rw [cell_of_row _ k _ _ t _ h2] <;> rfl
theorem DBox.other {w : World} {k : Nat} {d : Dg} (h : DBox w k d) (a : Addr) (x : Value) (hne : k ≠ a.block) : DBox (w.setCell a x) k d := by
  refine ⟨by rw [World.size_setCell]; exact h.1, ?_, ?_⟩
  · exact (World.cell?_setCell_other _ _ _ _ (by intro e; exact hne (congrArg Addr.block e.symm))).trans h.2.1
  · exact (World.cell?_setCell_other _ _ _ _ (by intro e; exact hne (congrArg Addr.block e.symm))).trans h.2.2
theorem node_eq {a b c d : Dg} (h : (a, b) = (c, d)) : ((bstr (1 :: (bytesU a.1 a.2 ++ bytesU b.1 b.2))).toList == (bstr (1 :: (bytesU c.1 c.2 ++ bytesU d.1 d.2))).toList) = true := by
  cases h
  simp
theorem node_ne' {a b c d : Dg} (h : (a, b) ≠ (c, d)) : bstr (1 :: (bytesU a.1 a.2 ++ bytesU b.1 b.2)) ≠ bstr (1 :: (bytesU c.1 c.2 ++ bytesU d.1 d.2)) := by
  intro e
  have := bstr_inj e
  rw [List.cons.injEq] at this
  obtain ⟨rfl, rfl⟩ := nodes_inj this.2
  exact h rfl
theorem node_ne {a b c d : Dg} (h : (a, b) ≠ (c, d)) : ((bstr (1 :: (bytesU a.1 a.2 ++ bytesU b.1 b.2))).toList == (bstr (1 :: (bytesU c.1 c.2 ++ bytesU d.1 d.2))).toList) = false := by
  rw [beq_eq_false_iff_ne]
  intro e
  rw [ByteArray.toList_eq, ByteArray.toList_eq] at e
  exact node_ne' h (by rw [← bstr_of (bstr (1 :: (bytesU a.1 a.2 ++ bytesU b.1 b.2))), ← bstr_of (bstr (1 :: (bytesU c.1 c.2 ++ bytesU d.1 d.2))), e])
theorem node_size (a b : Dg) : (bstr (1 :: (bytesU a.1 a.2 ++ bytesU b.1 b.2))).size ≤ maxLen := by simp [bytesU_length, maxLen]

/-- What is known while two roots are called and two boxes made, in any order. -/
def R4 (A B : Dg) (B0 : Nat) (W : World) (s : Nat → Bool) (vs : List Value) (w : World) : Prop :=
  ∃ x y u v, vs = [x, y, u, v] ∧ Below B0 W w ∧ (s 3 = true → x = dv A) ∧ (s 7 = true → y = dv B) ∧ (s 8 = true → ∃ k, u = .pointer (some ⟨k, 0, none⟩) ∧ B0 ≤ k ∧ Two w k) ∧ (s 9 = true → ∃ k, v = .pointer (some ⟨k, 0, none⟩) ∧ B0 ≤ k ∧ Two w k) ∧ (s 8 = true → s 9 = true → u ≠ v)
section
variable {A B : Dg} {B0 : Nat} {W w w' : World} {s : Nat → Bool}
theorem R4.four {vs : List Value} (h : R4 A B B0 W s vs w) : ∃ x y u v, vs = [x, y, u, v] := by
  obtain ⟨x, y, u, v, e, _⟩ := h
  exact ⟨x, y, u, v, e⟩
theorem R4.old {vs : List Value} (h : R4 A B B0 W s vs w) : Below B0 W w := by
  obtain ⟨x, y, u, v, e, hb, _⟩ := h
  exact hb
theorem R4.start (x y u v : Value) (hs : s 3 = false ∧ s 7 = false ∧ s 8 = false ∧ s 9 = false) : R4 A B B0 W s [x, y, u, v] W.drew := by
  refine ⟨x, y, u, v, rfl, (Below.refl _ _).drew, ?_, ?_, ?_, ?_, ?_⟩ <;> simp [hs]
theorem R4.call3 {x y u v : Value} (h : R4 A B B0 W s [x, y, u, v] w) (hB : B0 ≤ w.heap.size) (hb : Below w.heap.size w w') : R4 A B B0 W (upd s 3) [dv A, y, u, v] w' := by
  obtain ⟨x, y, u, v, e, h0, h3, h7, h8, h9, h89⟩ := h
  cases e
  refine ⟨_, y, u, v, rfl, h0.trans (hb.mono hB), fun _ => rfl, ?_, ?_, ?_, ?_⟩
  · simpa [upd] using h7
  · simp only [upd_ne s (show 8 ≠ 3 by decide)]
    intro hs
    obtain ⟨k, e, hk, ht⟩ := h8 hs
    exact ⟨k, e, hk, ht.below hb ht.lt⟩
  · simp only [upd_ne s (show 9 ≠ 3 by decide)]
    intro hs
    obtain ⟨k, e, hk, ht⟩ := h9 hs
    exact ⟨k, e, hk, ht.below hb ht.lt⟩
  · simpa [upd] using h89
theorem R4.call7 {x y u v : Value} (h : R4 A B B0 W s [x, y, u, v] w) (hB : B0 ≤ w.heap.size) (hb : Below w.heap.size w w') : R4 A B B0 W (upd s 7) [x, dv B, u, v] w' := by
  obtain ⟨x, y, u, v, e, h0, h3, h7, h8, h9, h89⟩ := h
  cases e
  refine ⟨x, _, u, v, rfl, h0.trans (hb.mono hB), ?_, fun _ => rfl, ?_, ?_, ?_⟩
  · simpa [upd] using h3
  · simp only [upd_ne s (show 8 ≠ 7 by decide)]
    intro hs
    obtain ⟨k, e, hk, ht⟩ := h8 hs
    exact ⟨k, e, hk, ht.below hb ht.lt⟩
  · simp only [upd_ne s (show 9 ≠ 7 by decide)]
    intro hs
    obtain ⟨k, e, hk, ht⟩ := h9 hs
    exact ⟨k, e, hk, ht.below hb ht.lt⟩
  · simpa [upd] using h89
theorem R4.new8 {x y u v : Value} (h : R4 A B B0 W s [x, y, u, v] w) (hB : B0 ≤ w.heap.size) (c0 c1 : Value) (t : TypeId) : R4 A B B0 W (upd s 8) [x, y, .pointer (some ⟨w.heap.size, 0, none⟩), v] (w.alloc (.cells #[c0, c1] t)) := by
  obtain ⟨x, y, u, v, e, h0, h3, h7, h8, h9, h89⟩ := h
  cases e
  refine ⟨x, y, _, v, rfl, h0.trans ((ba w _).mono hB), ?_, ?_, fun _ => ⟨_, rfl, hB, Two.new w c0 c1 t⟩, ?_, ?_⟩
  · simpa [upd] using h3
  · simpa [upd] using h7
  · simp only [upd_ne s (show 9 ≠ 8 by decide)]
    intro hs
    obtain ⟨k, e, hk, ht⟩ := h9 hs
    exact ⟨k, e, hk, ht.below (ba w _) ht.lt⟩
  · simp only [upd_ne s (show 9 ≠ 8 by decide)]
    intro _ hs
    obtain ⟨k, e, hk, ht⟩ := h9 hs
    rw [e]
    intro hh
    simp at hh
    have := ht.lt
    omega
theorem R4.new9 {x y u v : Value} (h : R4 A B B0 W s [x, y, u, v] w) (hB : B0 ≤ w.heap.size) (c0 c1 : Value) (t : TypeId) : R4 A B B0 W (upd s 9) [x, y, u, .pointer (some ⟨w.heap.size, 0, none⟩)] (w.alloc (.cells #[c0, c1] t)) := by
  obtain ⟨x, y, u, v, e, h0, h3, h7, h8, h9, h89⟩ := h
  cases e
  refine ⟨x, y, u, _, rfl, h0.trans ((ba w _).mono hB), ?_, ?_, ?_, fun _ => ⟨_, rfl, hB, Two.new w c0 c1 t⟩, ?_⟩
  · simpa [upd] using h3
  · simpa [upd] using h7
  · simp only [upd_ne s (show 8 ≠ 9 by decide)]
    intro hs
    obtain ⟨k, e, hk, ht⟩ := h8 hs
    exact ⟨k, e, hk, ht.below (ba w _) ht.lt⟩
  · simp only [upd_ne s (show 8 ≠ 9 by decide)]
    intro hs _
    obtain ⟨k, e, hk, ht⟩ := h8 hs
    rw [e]
    intro hh
    simp at hh
    have := ht.lt
    omega
theorem R4.all {vs : List Value} (h : R4 A B B0 W s vs w) (h3 : s 3 = true) (h7 : s 7 = true) (h8 : s 8 = true) (h9 : s 9 = true) : ∃ k8 k9, vs = [dv A, dv B, .pointer (some ⟨k8, 0, none⟩), .pointer (some ⟨k9, 0, none⟩)] ∧ B0 ≤ k8 ∧ B0 ≤ k9 ∧ k8 ≠ k9 ∧ Two w k8 ∧ Two w k9 := by
  obtain ⟨x, y, u, v, e, h0, e3, e7, e8, e9, e89⟩ := h
  obtain ⟨k8, ek8, b8, t8⟩ := e8 h8
  obtain ⟨k9, ek9, b9, t9⟩ := e9 h9
  have hne := e89 h8 h9
  rw [ek8, ek9] at hne
  exact ⟨k8, k9, by rw [e, e3 h3, e7 h7, ek8, ek9], b8, b9, fun e => hne (by rw [e]), t8, t9⟩
end
/-- The same of one call and one box. -/
def R6 (c al : Nat) (X : Dg) (B0 : Nat) (W : World) (s : Nat → Bool) (vs : List Value) (w : World) : Prop :=
  ∃ y u, vs = [y, u] ∧ Below B0 W w ∧ (s c = true → y = dv X) ∧ (s al = true → ∃ k, u = .pointer (some ⟨k, 0, none⟩) ∧ B0 ≤ k ∧ Two w k)
section
variable {c al : Nat} {X : Dg} {B0 : Nat} {W w w' : World} {s : Nat → Bool}
theorem R6.two {vs : List Value} (h : R6 c al X B0 W s vs w) : ∃ y u, vs = [y, u] := by
  obtain ⟨y, u, e, _⟩ := h
  exact ⟨y, u, e⟩
theorem R6.old {vs : List Value} (h : R6 c al X B0 W s vs w) : Below B0 W w := by
  obtain ⟨y, u, e, hb, _⟩ := h
  exact hb
theorem R6.start (y u : Value) (hs : s c = false ∧ s al = false) : R6 c al X B0 W s [y, u] W.drew := by
  refine ⟨y, u, rfl, (Below.refl _ _).drew, ?_, ?_⟩ <;> simp [hs]
theorem R6.call {y u : Value} (hne : al ≠ c) (h : R6 c al X B0 W s [y, u] w) (hB : B0 ≤ w.heap.size) (hb : Below w.heap.size w w') : R6 c al X B0 W (upd s c) [dv X, u] w' := by
  obtain ⟨y, u, e, h0, h3, h8⟩ := h
  cases e
  refine ⟨_, u, rfl, h0.trans (hb.mono hB), fun _ => rfl, ?_⟩
  rw [upd_ne s hne]
  intro hs
  obtain ⟨k, e, hk, ht⟩ := h8 hs
  exact ⟨k, e, hk, ht.below hb ht.lt⟩
theorem R6.new {y u : Value} (hne : c ≠ al) (h : R6 c al X B0 W s [y, u] w) (hB : B0 ≤ w.heap.size) (c0 c1 : Value) (t : TypeId) : R6 c al X B0 W (upd s al) [y, .pointer (some ⟨w.heap.size, 0, none⟩)] (w.alloc (.cells #[c0, c1] t)) := by
  obtain ⟨y, u, e, h0, h3, h8⟩ := h
  cases e
  refine ⟨y, _, rfl, h0.trans ((ba w _).mono hB), ?_, fun _ => ⟨_, rfl, hB, Two.new w c0 c1 t⟩⟩
  rw [upd_ne s hne]
  exact h3
theorem R6.all {vs : List Value} (h : R6 c al X B0 W s vs w) (h3 : s c = true) (h8 : s al = true) : ∃ k, vs = [dv X, .pointer (some ⟨k, 0, none⟩)] ∧ B0 ≤ k ∧ Two w k := by
  obtain ⟨y, u, e, h0, e3, e8⟩ := h
  obtain ⟨k, ek, b, t⟩ := e8 h8
  exact ⟨k, by rw [e, e3 h3, ek], b, t⟩
end

set_option maxRecDepth 100000 in
set_option maxHeartbeats 2000000 in
theorem apart_one (x : Dg) (i : Int) (d : Dg) (b off cap : Nat) (po : Option Addr) (pcap : Nat) (w : World) (hb : b < w.heap.size) (hc : DCells w b off [x]) (hr : leafD d = leafD x) (hne : x ≠ d) :
    Calls Try.prog 29 #[.slice (some ⟨b, off, none⟩) 1 cap, .int .i64 i, dv d, .slice po 0 pcap] w fun e w' => e = .returned (.bool true) ∧ Below w.heap.size w w' := by
  have C1 := lid (fun w => collide_any (bstr (0 :: bytesU x.1 x.2)) (bstr (0 :: bytesU d.1 d.2)) w (by simp [bytesU_length, maxLen]) (by simp [bytesU_length, maxLen]) (fun e => hne (bytesU_inj (by simpa using bstr_inj e))) hr.symm)
  obtain ⟨c0, c1⟩ := hc 0 (by simp)
  have hw0 := ba w (Obj.cells #[Value.int .u64 d.1.toNat, Value.int .u64 d.2.toNat] 24)
  obtain ⟨-, k0, k1⟩ := DBox.new w d 24
  clear hc hr hne
  go_enter Try.func29, Try.ntmps29
  go_wp2_with fail
  obtain ⟨W, hW⟩ : ∃ W, w.alloc (Obj.cells #[Value.int .u64 d.1.toNat, Value.int .u64 d.2.toNat] 24) = W := ⟨_, rfl⟩
  have hlt : w.heap.size < W.heap.size := by rw [← hW]; simp
  have hbW : b < W.heap.size := by omega
  rw [hW] at hw0 k0 k1 ⊢
  replace c0 : W.cell? ⟨b, off, none⟩ = _ := (bc hw0 hb _).trans (by simpa using c0)
  replace c1 : W.cell? ⟨b, off + 1, none⟩ = _ := (bc hw0 hb _).trans (by simpa using c1)
  clear hW
  refine wp_region_seq (fun w' => ∃ s : Since W.heap.size W, w' = s.world) [(0, true), (1, true), (2, true), (3, true), (4, true), (5, true), (6, true), (7, true), (8, true), (9, true), (10, true), (11, true), (13, true), (12, false), (14, false), (15, false), (16, true), (17, false)] (by kernel_rfl) (by kernel_rfl) (by intro c d v a w h; cases d <;> exact h) (since (Below.refl _ _).drew) ?_
  repeat (first | (refine seq_skip (by rfl) (by rfl) ?_; simp only [Act.put, List.setIfInBounds_toArray, List.set_cons_succ, List.set_cons_zero]) | (refine seq_float (by rfl) (by rfl) (by rfl) ?_; intro K hK; go_big_quiet_op; go_big_quiet_on))
  refine seq_chain (by rfl) ?_
  intro K hK
  go_wp2_with fail
  (with_reducible refine (refLeaf_any x.1 x.2 _).mono ?_); rintro e w1 ⟨rfl, hb1⟩
  have hs1 : Below W.heap.size W w1 := (Below.refl _ _).drew.trans hb1
  go_wp2_with fail
  refine hK.out _ _ (since hs1) ?_
  clear hK K
  repeat (first | (refine seq_skip (by rfl) (by rfl) ?_; simp only [Act.put, List.setIfInBounds_toArray, List.set_cons_succ, List.set_cons_zero]) | (refine seq_float (by rfl) (by rfl) (by rfl) ?_; intro K hK; go_big_quiet_op; go_big_quiet_on))
  refine seq_chain (by rfl) ?_
  intro K hK
  go_wp2_with fail
  (with_reducible refine (refLeaf_any d.1 d.2 _).mono ?_); rintro e w2 ⟨rfl, hb2⟩
  have hs2 := hs1.trans (hb2.mono hs1.size)
  go_wp2_with fail
  refine hK.out _ _ (since hs2) ?_
  clear hK K
  repeat (first | (refine seq_skip (by rfl) (by rfl) ?_; simp only [Act.put, List.setIfInBounds_toArray, List.set_cons_succ, List.set_cons_zero]) | (refine seq_float (by rfl) (by rfl) (by rfl) ?_; intro K hK; go_big_quiet_op; go_big_quiet_on))
  refine seq_chain (by rfl) ?_
  intro K hK
  go_wp2_with fail
  (with_reducible refine (C1.out _).mono ?_); rintro e w3 ⟨rfl, hb3⟩
  have hs3 := hs2.trans (hb3.mono hs2.size)
  go_wp2_with fail
  refine hK.out _ _ (since hs3) ?_
  clear hK K
  repeat (first | (refine seq_skip (by rfl) (by rfl) ?_; simp only [Act.put, List.setIfInBounds_toArray, List.set_cons_succ, List.set_cons_zero]) | (refine seq_float (by rfl) (by rfl) (by rfl) ?_; intro K hK; go_big_quiet_op; go_big_quiet_on))
  refine seq_chain (by rfl) ?_
  intro K hK
  go_wp2_with fail
  go_wp2_with fail
  refine hK.out _ _ (since hs3) ?_
  clear hK K
  refine seq_nil ?_
  go_wp2_with fail
  go_ret
  exact ⟨rfl, hw0.trans (hs3.mono hw0.size)⟩
end Go.Proofs.Ytchjmkmcgpbndaa
