/-
  The writer of an object's encoding: number and string.
-/
import Derived.Test.YtghkldodceamcaaObjRefEnc
import Derived.Test.YtghkldodceamcaaCodPut
namespace Go.Proofs.Ytghkldodceamcaa
open Go.RowKit

theorem own_block {w w' : World} {base : Nat} {e : TypeId} {size : Nat} {v : Value} {n : Nat} {xs : List Value} (h : w.ownsRow base e size v n xs) (hb : ∀ g, v.ownBlock = some g → w'.heap[g]? = w.heap[g]?) : w'.ownsRow base e size v n xs := by
  refine ⟨h.1, ?_⟩
  rcases h.2 with hn | ⟨g, cap, cur, rfl, hg, hgb, hr⟩
  · exact .inl hn
  · exact .inr ⟨g, cap, cur, rfl, hg, (hb g (by simp [Value.ownBlock])).trans hgb, hr⟩
theorem own_below {w w' : World} {base : Nat} {e : TypeId} {size : Nat} {v : Value} {n : Nat} {xs : List Value} (h : w.ownsRow base e size v n xs) (hb : Below w.heap.size w w') : w'.ownsRow base e size v n xs :=
  own_block h fun g hg => hb.block g (h.lt g hg).2
/-- A writer in box b that owns its text (block B and above), and that has met nothing wrong. -/
def Wr (B b : Nat) (L : List UInt8) (w : World) : Prop :=
  B ≤ b ∧ ∃ v, w.heap[b]? = some (.cells #[v, .bool false] 90 (0, 0)) ∧ w.ownsRow B 5 1 v L.length (bvals L) ∧ v.ownBlock ≠ some b
theorem Wr.lt {B b : Nat} {L : List UInt8} {w : World} (h : Wr B b L w) : b < w.heap.size := by
  obtain ⟨_, v, h1, _⟩ := h
  exact (Array.getElem?_eq_some_iff.1 h1).1
theorem Wr.below {B b : Nat} {L : List UInt8} {w w' : World} (h : Wr B b L w) (hb : Below w.heap.size w w') : Wr B b L w' := by
  have hlt := h.lt
  obtain ⟨h0, v, h1, h2, h3⟩ := h
  exact ⟨h0, v, (hb.block b hlt).trans h1, own_below h2 hb, h3⟩
/-- The store of 'bad'. -/
theorem Wr.bad {B b : Nat} {L : List UInt8} {w : World} (h : Wr B b L w) : Wr B b L (w.setCell ⟨b, 1, none⟩ (.bool false)) := by
  obtain ⟨h0, v, h1, h2, h3⟩ := h
  refine ⟨h0, v, heap_setCell_same w b 1 _ _ _ h1, own_block h2 fun g hg => Below.heap_setCell _ _ _ _ (fun e => h3 (by rw [hg]; exact congrArg some e)), h3⟩
theorem others_bad {b : Nat} {w w' : World} (h : Lib.OthersKept 5 (some b) w w') (o : Nat) (v : Value) : Lib.OthersKept 5 (some b) w (w'.setCell ⟨b, o, none⟩ v) := h.setCell _ rfl _
theorem others_of_below {e : TypeId} {b : Option Nat} {w w' : World} (hb : Below w.heap.size w w') : Lib.OthersKept e b w w' := fun k _ hk _ _ => (hb.block k (Array.getElem?_eq_some_iff.1 hk).1).trans hk
/-- The text grown: behind the store. -/
theorem Wr.put {B b : Nat} {M : List UInt8} {w w2 : World} {v v' : Value} (h0 : B ≤ b) (h1 : w.heap[b]? = some (.cells #[v, .bool false] 90 (0, 0)))  (h3 : v.ownBlock ≠ some b)
    (hown' : w2.ownsRow B 5 1 v' M.length (bvals M)) (hg : w.grownBy w2 v.ownBlock) : Wr B b M (w2.setCell ⟨b, 0, none⟩ v') := by
  have hlt : b < w.heap.size := (Array.getElem?_eq_some_iff.1 h1).1
  have hb2 : w2.heap[b]? = some (.cells #[v, .bool false] 90 (0, 0)) := by
    rw [hg.block b hlt (fun e => h3 e.symm)]
    exact h1
  have hne : v'.ownBlock ≠ some b := fun e => by
    obtain ⟨c, fz, hk⟩ := own_kind hown' b e
    rw [hb2] at hk
    cases hk
  exact ⟨h0, v', heap_setCell_same w2 b 0 _ _ _ hb2, own_block hown' fun g hg' => Below.heap_setCell _ _ _ _ (fun e => hne (by rw [hg']; exact congrArg some e)), hne⟩
theorem own_slice {w : World} {base : Nat} {e : TypeId} {size : Nat} {v : Value} {n : Nat} {xs : List Value} (h : w.ownsRow base e size v n xs) : ∃ ao cap, v = .slice ao n cap := by
  rcases h.2 with ⟨hv, h0⟩ | ⟨g, cap, cur, hv, _⟩
  · subst h0; exact ⟨_, _, hv⟩
  · exact ⟨_, _, hv⟩

set_option maxRecDepth 100000 in
set_option maxHeartbeats 4000000 in
theorem wNumber_any (B b : Nat) (L : List UInt8) (n : Int) (w : World) (h : Wr B b L w) (hB : B ≤ w.heap.size) (hl : L.length ≤ 1000000) (hn : putB n = true) :
    Calls Try.prog 55 #[.pointer (some ⟨b, 0, none⟩), .int .i64 n] w fun e w' => e = .returned (.tuple #[]) ∧ Wr B b (L ++ putI n) w' ∧ Below B w w' ∧ Lib.OthersKept 5 (some b) w w' := by
  obtain ⟨i0, hi, hz0, hz1, hz2⟩ := info_parts info_byte
  have HE : Hid (putIE n = 0) := lid (by unfold putIE; rw [if_pos hn])
  have HW := lid h
  have HL := lid hl
  clear h hn hl
  go_enter Try.func55, Try.ntmps55
  go_wp2_with fail
  (with_reducible refine (PutInt_any n _).mono ?_); rintro e w1 ⟨rfl, hb1⟩
  rw [HE.out]
  have HW1 := lid (HW.out.below hb1)
  have hsz := hb1.size
  obtain ⟨h0, v, h1, h2, h3⟩ := HW1.out
  obtain ⟨g0, u, g1, g2, g3⟩ := HW1.out.bad
  have c0 : w1.cell? ⟨b, 0, none⟩ = some v := by rw [Lib.cell_of_heap h1]; rfl
  have c1 : w1.cell? ⟨b, 1, none⟩ = some (.bool false) := by rw [Lib.cell_of_heap h1]; rfl
  have f1 : w1.frozen? ⟨b, 1, none⟩ = false := Lib.frozen_of_heap h1 1
  obtain rfl : u = v := by
    rw [heap_setCell_same w1 b 1 _ _ _ h1] at g1
    simp at g1
    exact g1.symm
  have G1 := lid g1
  have G2 := lid g2
  obtain ⟨X, hX⟩ : ∃ X, bstr (putI n) = X := ⟨_, rfl⟩
  have hXs : X.size ≤ 6 := by rw [← hX, bstr_size]; exact oputI_len n
  have HX := lid hX
  rw [hX]
  clear h1 h2 g1 g2 hX
  have hB1 : B ≤ (w1.setCell ⟨b, 1, none⟩ (.bool false)).heap.size := by rw [World.size_setCell]; omega
  go_wp2_with (at_builtin; go_must (refine Lib.wpList_append_own_string _ rfl _ _ 88 9 rfl B 5 i0 Try.underlying88 Try.underlying9 hi hz0 hz1 hz2 _ _ _ rfl G2.out X rfl (by have := HL.out; unfold maxLen; omega) (by have := HL.out; omega) hB1 ?_))
  intro v' w2 hown' hgrow _
  have hlt : b < (w1.setCell ⟨b, 1, none⟩ (.bool false)).heap.size := (Array.getElem?_eq_some_iff.1 G1.out).1
  have hb2 : w2.heap[b]? = some (.cells #[u, .bool false] 90 (0, 0)) := by
    rw [hgrow.block b hlt (fun e => g3 e.symm)]
    exact G1.out
  have d0 : w2.cell? ⟨b, 0, none⟩ = some u := by rw [Lib.cell_of_heap hb2]; rfl
  have d1 : w2.frozen? ⟨b, 0, none⟩ = false := Lib.frozen_of_heap hb2 0
  have HO' := lid hown'
  obtain ⟨ao, cap, rfl⟩ := own_slice hown'
  have hL : (L ++ putI n).length = L.length + X.size := by rw [← HX.out, bstr_size, List.length_append]
  have HLL := lid hL
  clear hb2 hown' c0 c1 f1 hL
  go_wp2_with fail
  go_end0
  refine ⟨rfl, Wr.put h0 G1.out g3 ?_ hgrow, ?_, ?_⟩
  · rw [HLL.out, bvals_append]
    have := HO'.out
    rw [← HX.out] at this ⊢
    exact this
  · exact (((hb1.mono (by omega)).setCell (p := ⟨b, 1, none⟩) h0 _).grown hgrow hB1 (fun k hk => ownsRow_row G2.out k hk)).setCell (p := ⟨b, 0, none⟩) h0 _
  · exact others_bad ((others_bad (others_of_below hb1) 1 _).grown hgrow (own_kind G2.out)) 0 _
set_option maxRecDepth 100000 in
set_option maxHeartbeats 4000000 in
theorem wString_any (B b : Nat) (L : List UInt8) (s : ByteArray) (w : World) (h : Wr B b L w) (hB : B ≤ w.heap.size) (hl : L.length ≤ 1000000) (hn : s.size ≤ 60000) :
    Calls Try.prog 56 #[.pointer (some ⟨b, 0, none⟩), .string s] w fun e w' => e = .returned (.tuple #[]) ∧ Wr B b (L ++ putX s.data.toList) w' ∧ Below B w w' ∧ Lib.OthersKept 5 (some b) w w' := by
  obtain ⟨i0, hi, hz0, hz1, hz2⟩ := info_parts info_byte
  have HE : Hid (putXE s.data.toList = 0) := lid (by unfold putXE; rw [if_pos (by have h2 : s.data.toList.length ≤ 60000 := hn; omega)])
  have HM : Hid (s.size ≤ maxLen) := lid (Nat.le_trans hn (by simp [maxLen]))
  have HS := lid hn
  have HW := lid h
  have HL := lid hl
  clear h hn hl
  go_enter Try.func56, Try.ntmps56
  go_wp2_with fail
  (with_reducible refine (PutText_any s _ HM.out).mono ?_); rintro e w1 ⟨rfl, hb1⟩
  rw [HE.out]
  have HW1 := lid (HW.out.below hb1)
  have hsz := hb1.size
  obtain ⟨h0, v, h1, h2, h3⟩ := HW1.out
  obtain ⟨g0, u, g1, g2, g3⟩ := HW1.out.bad
  have c0 : w1.cell? ⟨b, 0, none⟩ = some v := by rw [Lib.cell_of_heap h1]; rfl
  have c1 : w1.cell? ⟨b, 1, none⟩ = some (.bool false) := by rw [Lib.cell_of_heap h1]; rfl
  have f1 : w1.frozen? ⟨b, 1, none⟩ = false := Lib.frozen_of_heap h1 1
  obtain rfl : u = v := by
    rw [heap_setCell_same w1 b 1 _ _ _ h1] at g1
    simp at g1
    exact g1.symm
  have G1 := lid g1
  have G2 := lid g2
  obtain ⟨X, hX⟩ : ∃ X, bstr (putX s.data.toList) = X := ⟨_, rfl⟩
  have hXs : X.size ≤ 60006 := by rw [← hX, bstr_size]; have h1 := oputX_len s.data.toList; have h2 : s.data.toList.length ≤ 60000 := HS.out; omega
  have HX := lid hX
  rw [hX]
  clear h1 h2 g1 g2 hX
  have hB1 : B ≤ (w1.setCell ⟨b, 1, none⟩ (.bool false)).heap.size := by rw [World.size_setCell]; omega
  go_wp2_with (at_builtin; go_must (refine Lib.wpList_append_own_string _ rfl _ _ 88 9 rfl B 5 i0 Try.underlying88 Try.underlying9 hi hz0 hz1 hz2 _ _ _ rfl G2.out X rfl (by have := HL.out; unfold maxLen; omega) (by have := HL.out; omega) hB1 ?_))
  intro v' w2 hown' hgrow _
  have hlt : b < (w1.setCell ⟨b, 1, none⟩ (.bool false)).heap.size := (Array.getElem?_eq_some_iff.1 G1.out).1
  have hb2 : w2.heap[b]? = some (.cells #[u, .bool false] 90 (0, 0)) := by
    rw [hgrow.block b hlt (fun e => g3 e.symm)]
    exact G1.out
  have d0 : w2.cell? ⟨b, 0, none⟩ = some u := by rw [Lib.cell_of_heap hb2]; rfl
  have d1 : w2.frozen? ⟨b, 0, none⟩ = false := Lib.frozen_of_heap hb2 0
  have HO' := lid hown'
  obtain ⟨ao, cap, rfl⟩ := own_slice hown'
  have hL : (L ++ putX s.data.toList).length = L.length + X.size := by rw [← HX.out, bstr_size, List.length_append]
  have HLL := lid hL
  clear hb2 hown' c0 c1 f1 hL
  go_wp2_with fail
  go_end0
  refine ⟨rfl, Wr.put h0 G1.out g3 ?_ hgrow, ?_, ?_⟩
  · rw [HLL.out, bvals_append]
    have := HO'.out
    rw [← HX.out] at this ⊢
    exact this
  · exact (((hb1.mono (by omega)).setCell (p := ⟨b, 1, none⟩) h0 _).grown hgrow hB1 (fun k hk => ownsRow_row G2.out k hk)).setCell (p := ⟨b, 0, none⟩) h0 _
  · exact others_bad ((others_bad (others_of_below hb1) 1 _).grown hgrow (own_kind G2.out)) 0 _
end Go.Proofs.Ytghkldodceamcaa
