/-
  Decoding of objects: Decode of both, and the three laws about it, in one text.
-/
import Derived.Test.YtmkdcnkbhnegnaaObjDecA
import Derived.Test.YtmkdcnkbhnegnaaRegionL
import Derived.Test.YtmkdcnkbhnegnaaKeepK
import Derived.Test.YtmkdcnkbhnegnaaObjGreat
import Derived.Test.YtmkdcnkbhnegnaaObjDecA
namespace Go.Proofs.Ytmkdcnkbhnegnaa
open Go.RowKit

theorem dcells_get2 (l : List Dg) (j : Nat) (h : j < l.length) : (dcells l)[j * 2]? = some (.int .u64 (l[j]).1.toNat) ∧ (dcells l)[j * 2 + 1]? = some (.int .u64 (l[j]).2.toNat) := by
  induction l generalizing j with
  | nil => simp at h
  | cons d l ih =>
    cases j with
    | zero => simp [dcells]
    | succ j =>
      have := ih j (by simpa using h)
      rw [show (j + 1) * 2 = j * 2 + 2 by omega]
      simpa [dcells] using this

theorem dsl_of_own2 {w : World} {base : Nat} {v : Value} {n : Nat} {l : List Dg} (h : w.ownsRow base 25 2 v n (dcells l)) : ∃ ao cap, v = .slice ao n cap ∧ l.length = n ∧ n ≤ cap ∧ DSl w ao l := by
  have hl : l.length = n := by
    have := h.1
    rw [dcells_length] at this
    omega
  rcases h.2 with ⟨rfl, rfl⟩ | ⟨g, cap, cur, rfl, hg, hc, hn, hm, hsz, htk⟩
  · exact ⟨none, 0, rfl, hl, Nat.le_refl _, .inl hl⟩
  · refine ⟨some ⟨g, 0, none⟩, cap, rfl, hl, hn, .inr ⟨g, 0, rfl, (h.lt g rfl).2, ?_⟩⟩
    intro j hj
    obtain ⟨h1, h2⟩ := dcells_get2 l j hj
    rw [Nat.zero_add]
    rw [h.cellAt (j * 2) (by omega), h.cellAt (j * 2 + 1) (by omega)]
    exact ⟨h1, h2⟩

/-- Nine cells in block O. -/
def Oc (O : Nat) (c0 c1 c2 c3 c4 c5 c6 c7 c8 : Value) (w : World) : Prop := w.heap[O]? = some (.cells #[c0, c1, c2, c3, c4, c5, c6, c7, c8] 28 (0, 0))
section
variable {O : Nat} {c0 c1 c2 c3 c4 c5 c6 c7 c8 u : Value} {w w' : World}
theorem Oc.lt (h : Oc O c0 c1 c2 c3 c4 c5 c6 c7 c8 w) : O < w.heap.size := (Array.getElem?_eq_some_iff.1 h).1
theorem Oc.fz (h : Oc O c0 c1 c2 c3 c4 c5 c6 c7 c8 w) (o : Nat) : w.frozen? ⟨O, o, none⟩ = false := Lib.frozen_of_heap h o
theorem Oc.kp {b : Nat} (h : Oc O c0 c1 c2 c3 c4 c5 c6 c7 c8 w) (hk : Kp b w w') (hb : O ≠ b) : Oc O c0 c1 c2 c3 c4 c5 c6 c7 c8 w' := (hk.2 O h.lt hb).trans h
theorem Oc.below (h : Oc O c0 c1 c2 c3 c4 c5 c6 c7 c8 w) (hb : Below w.heap.size w w') : Oc O c0 c1 c2 c3 c4 c5 c6 c7 c8 w' := (hb.block O h.lt).trans h
theorem Oc.other {j o : Nat} (h : Oc O c0 c1 c2 c3 c4 c5 c6 c7 c8 w) (hj : O ≠ j) : Oc O c0 c1 c2 c3 c4 c5 c6 c7 c8 (w.setCell ⟨j, o, none⟩ u) := (Below.heap_setCell _ _ _ _ hj).trans h
theorem Oc.new (w : World) (c0 c1 c2 c3 c4 c5 c6 c7 c8 : Value) : Oc w.heap.size c0 c1 c2 c3 c4 c5 c6 c7 c8 (w.alloc (.cells #[c0, c1, c2, c3, c4, c5, c6, c7, c8] 28)) := heap_alloc_new _ _
theorem Oc.g0 (h : Oc O c0 c1 c2 c3 c4 c5 c6 c7 c8 w) : w.cell? ⟨O, 0, none⟩ = some c0 := by rw [Lib.cell_of_heap h]; rfl
theorem Oc.g1 (h : Oc O c0 c1 c2 c3 c4 c5 c6 c7 c8 w) : w.cell? ⟨O, 1, none⟩ = some c1 := by rw [Lib.cell_of_heap h]; rfl
theorem Oc.g2 (h : Oc O c0 c1 c2 c3 c4 c5 c6 c7 c8 w) : w.cell? ⟨O, 2, none⟩ = some c2 := by rw [Lib.cell_of_heap h]; rfl
theorem Oc.g3 (h : Oc O c0 c1 c2 c3 c4 c5 c6 c7 c8 w) : w.cell? ⟨O, 3, none⟩ = some c3 := by rw [Lib.cell_of_heap h]; rfl
theorem Oc.g4 (h : Oc O c0 c1 c2 c3 c4 c5 c6 c7 c8 w) : w.cell? ⟨O, 4, none⟩ = some c4 := by rw [Lib.cell_of_heap h]; rfl
theorem Oc.g5 (h : Oc O c0 c1 c2 c3 c4 c5 c6 c7 c8 w) : w.cell? ⟨O, 5, none⟩ = some c5 := by rw [Lib.cell_of_heap h]; rfl
theorem Oc.g6 (h : Oc O c0 c1 c2 c3 c4 c5 c6 c7 c8 w) : w.cell? ⟨O, 6, none⟩ = some c6 := by rw [Lib.cell_of_heap h]; rfl
theorem Oc.g7 (h : Oc O c0 c1 c2 c3 c4 c5 c6 c7 c8 w) : w.cell? ⟨O, 7, none⟩ = some c7 := by rw [Lib.cell_of_heap h]; rfl
theorem Oc.g8 (h : Oc O c0 c1 c2 c3 c4 c5 c6 c7 c8 w) : w.cell? ⟨O, 8, none⟩ = some c8 := by rw [Lib.cell_of_heap h]; rfl
theorem Oc.s0 (h : Oc O c0 c1 c2 c3 c4 c5 c6 c7 c8 w) (u : Value) : Oc O u c1 c2 c3 c4 c5 c6 c7 c8 (w.setCell ⟨O, 0, none⟩ u) := heap_setCell_same w O 0 _ _ _ h
theorem Oc.s1 (h : Oc O c0 c1 c2 c3 c4 c5 c6 c7 c8 w) (u : Value) : Oc O c0 u c2 c3 c4 c5 c6 c7 c8 (w.setCell ⟨O, 1, none⟩ u) := heap_setCell_same w O 1 _ _ _ h
theorem Oc.s2 (h : Oc O c0 c1 c2 c3 c4 c5 c6 c7 c8 w) (u : Value) : Oc O c0 c1 u c3 c4 c5 c6 c7 c8 (w.setCell ⟨O, 2, none⟩ u) := heap_setCell_same w O 2 _ _ _ h
theorem Oc.s3 (h : Oc O c0 c1 c2 c3 c4 c5 c6 c7 c8 w) (u : Value) : Oc O c0 c1 c2 u c4 c5 c6 c7 c8 (w.setCell ⟨O, 3, none⟩ u) := heap_setCell_same w O 3 _ _ _ h
theorem Oc.s4 (h : Oc O c0 c1 c2 c3 c4 c5 c6 c7 c8 w) (u : Value) : Oc O c0 c1 c2 c3 u c5 c6 c7 c8 (w.setCell ⟨O, 4, none⟩ u) := heap_setCell_same w O 4 _ _ _ h
theorem Oc.s5 (h : Oc O c0 c1 c2 c3 c4 c5 c6 c7 c8 w) (u : Value) : Oc O c0 c1 c2 c3 c4 u c6 c7 c8 (w.setCell ⟨O, 5, none⟩ u) := heap_setCell_same w O 5 _ _ _ h
theorem Oc.s6 (h : Oc O c0 c1 c2 c3 c4 c5 c6 c7 c8 w) (u : Value) : Oc O c0 c1 c2 c3 c4 c5 u c7 c8 (w.setCell ⟨O, 6, none⟩ u) := heap_setCell_same w O 6 _ _ _ h
theorem Oc.s7 (h : Oc O c0 c1 c2 c3 c4 c5 c6 c7 c8 w) (u : Value) : Oc O c0 c1 c2 c3 c4 c5 c6 u c8 (w.setCell ⟨O, 7, none⟩ u) := heap_setCell_same w O 7 _ _ _ h
theorem Oc.s8 (h : Oc O c0 c1 c2 c3 c4 c5 c6 c7 c8 w) (u : Value) : Oc O c0 c1 c2 c3 c4 c5 c6 c7 u (w.setCell ⟨O, 8, none⟩ u) := heap_setCell_same w O 8 _ _ _ h
end
def set9 (w : World) (B : Nat) (d0 d1 d2 d3 d4 d5 d6 d7 d8 : Value) : World := (((((((((w.setCell ⟨B, 0, none⟩ d0).setCell ⟨B, 1, none⟩ d1).setCell ⟨B, 2, none⟩ d2).setCell ⟨B, 3, none⟩ d3).setCell ⟨B, 4, none⟩ d4).setCell ⟨B, 5, none⟩ d5).setCell ⟨B, 6, none⟩ d6).setCell ⟨B, 7, none⟩ d7).setCell ⟨B, 8, none⟩ d8)
theorem set9_oc {B : Nat} {c0 c1 c2 c3 c4 c5 c6 c7 c8 d0 d1 d2 d3 d4 d5 d6 d7 d8 : Value} {w : World} (h : Oc B c0 c1 c2 c3 c4 c5 c6 c7 c8 w) : Oc B d0 d1 d2 d3 d4 d5 d6 d7 d8 (set9 w B d0 d1 d2 d3 d4 d5 d6 d7 d8) := ((((((((h.s0 d0).s1 d1).s2 d2).s3 d3).s4 d4).s5 d5).s6 d6).s7 d7).s8 d8
theorem set9_heap (w : World) (B : Nat) (d0 d1 d2 d3 d4 d5 d6 d7 d8 : Value) {k : Nat} (hk : k ≠ B) : (set9 w B d0 d1 d2 d3 d4 d5 d6 d7 d8).heap[k]? = w.heap[k]? := by
  unfold set9
  iterate 9 rw [Below.heap_setCell _ _ _ _ (by simpa using hk)]
theorem set9_below {w0 w : World} {N B : Nat} (d0 d1 d2 d3 d4 d5 d6 d7 d8 : Value) (h : Below N w0 w) (hB : N ≤ B) : Below N w0 (set9 w B d0 d1 d2 d3 d4 d5 d6 d7 d8) := by
  unfold set9
  exact ((((((((h.setCell (p := ⟨B, 0, none⟩) hB d0).setCell (p := ⟨B, 1, none⟩) hB d1).setCell (p := ⟨B, 2, none⟩) hB d2).setCell (p := ⟨B, 3, none⟩) hB d3).setCell (p := ⟨B, 4, none⟩) hB d4).setCell (p := ⟨B, 5, none⟩) hB d5).setCell (p := ⟨B, 6, none⟩) hB d6).setCell (p := ⟨B, 7, none⟩) hB d7).setCell (p := ⟨B, 8, none⟩) hB d8
/-- The sizes of an object that was read. -/
def ObS (o : Ob) : Prop := (∀ e ∈ o.ents, e.1.size ≤ maxLen) ∧ o.data.size ≤ 60000 ∧ o.auth.size ≤ maxLen ∧ o.msg.size ≤ maxLen
/-- An object whose slices the call owns. -/
def ObO (base : Nat) (o : Ob) (ae : Option Addr) (ne ce : Nat) (ap : Option Addr) (np cp : Nat) (w : World) : Prop :=
  w.ownsRow base 45 4 (.slice ae ne ce) ne (ecells o.ents) ∧ w.ownsRow base 25 2 (.slice ap np cp) np (dcells o.pars) ∧ o.ents.length = ne ∧ o.pars.length = np ∧ ObS o
theorem ObO.obj {base : Nat} {o : Ob} {ae ap : Option Addr} {ne ce np cp : Nat} {w : World} (h : ObO base o ae ne ce ap np cp w) : ObjA w ae ne ap np o ∧ np ≤ cp := by
  obtain ⟨h1, h2, h3, h4, h5, h6, h7, h8⟩ := h
  obtain ⟨ae', ce', e1, l1, l2, l3⟩ := Sl.of_own h1
  obtain ⟨ap', cp', e2, _, m1, m2⟩ := dsl_of_own2 h2
  obtain ⟨ap2, cp2, e3, m3, m4, _⟩ := Sl.of_own h2
  cases e1
  cases e2
  cases e3
  exact ⟨⟨h3, l3, by omega, h5, h4, m2, by omega, by simp [maxLen]; omega, h7, h8⟩, m1⟩
theorem ObO.heap {base : Nat} {o : Ob} {ae ap : Option Addr} {ne ce np cp : Nat} {w w' : World} (h : ObO base o ae ne ce ap np cp w) (hk : ∀ k, base ≤ k → k < w.heap.size → w'.heap[k]? = w.heap[k]?) : ObO base o ae ne ce ap np cp w' := by
  obtain ⟨h1, h2, h3⟩ := h
  exact ⟨own_block h1 fun g hg => hk g (h1.lt g hg).1 (h1.lt g hg).2, own_block h2 fun g hg => hk g (h2.lt g hg).1 (h2.lt g hg).2, h3⟩
theorem ObO.kp {base b : Nat} {o : Ob} {ae ap : Option Addr} {ne ce np cp : Nat} {w w' : World} (h : ObO base o ae ne ce ap np cp w) (hk : Kp b w w') (hb : b < base) : ObO base o ae ne ce ap np cp w' := h.heap fun k h1 h2 => hk.2 k h2 (by omega)
theorem ObO.other {base j i : Nat} {o : Ob} {ae ap : Option Addr} {ne ce np cp : Nat} {w : World} {u : Value} (h : ObO base o ae ne ce ap np cp w) (hj : j < base) : ObO base o ae ne ce ap np cp (w.setCell ⟨j, i, none⟩ u) := h.heap fun k h1 _ => Below.heap_setCell _ _ _ _ (by simp; omega)
theorem max_of {x : Nat} (h : x ≤ 60000) : x ≤ maxLen := Nat.le_trans h (by simp [maxLen])
theorem swap_world {P : Program} {ops : Array Oper} {Q : Exit → Act → World → Prop} {rest : List Oper} {a : Act} {w w' : World} (h : w = w') (h2 : wpList P ops Q rest a w') : wpList P ops Q rest a w := by rw [h]; exact h2
theorem empty_max : ByteArray.size ⟨#[]⟩ ≤ maxLen := by decide
theorem empty_60 : ByteArray.size ⟨#[]⟩ ≤ 60000 := by decide
theorem many_len {α : Type} {f : Rd → α × Rd} (hf : ∀ s, (f s).2.1.length ≤ s.1.length) : ∀ (n : Nat) (s : Rd), (many f n s).2.1.length ≤ s.1.length
  | 0, _ => Nat.le_refl _
  | n + 1, s => by
    by_cases hs : s.2 = true
    · rw [many_bad hs]; exact Nat.le_refl _
    · rw [many_next (by simpa using hs)]
      exact Nat.le_trans (many_len hf n _) (hf s)
theorem rListD_len {s : Rd} : (rList rDig 8 s).2.1.length ≤ s.1.length := Nat.le_trans (many_len (fun _ => rDig_len) _ _) (rNum_len (s := s))
/-- How Decode ends. -/
def DecE (o : Ob) (n : Int) (w : World) (e : Ending) (w' : World) : Prop := ∃ ae ap ne ce np cp, e = .returned (.tuple #[.agg (ocells o ae ne ce ap np cp), .int .i64 n]) ∧ np ≤ cp ∧ ObjA w' ae ne ap np o ∧ Below w.heap.size w w'
theorem many_all {α : Type} {f : Rd → α × Rd} {P : α → Prop} (hf : ∀ s, P (f s).1) : ∀ (n : Nat) (s : Rd), ∀ x ∈ (many f n s).1, P x
  | 0, _, x, hx => by simp [many] at hx
  | n + 1, s, x, hx => by
    by_cases hs : s.2 = true
    · rw [many_bad hs] at hx; cases hx
    · rw [many_next (by simpa using hs)] at hx
      rcases List.mem_cons.1 hx with rfl | hx
      · exact hf s
      · exact many_all hf n _ x hx
theorem rEnt_name (s : Rd) : (rEnt s).1.1.size ≤ maxLen := by
  have := (getX_le s.1).2.2
  unfold rEnt rEnt3
  simp only [bstr_size]
  exact Nat.le_trans this (by simp [maxLen])
theorem dec_no {l : List UInt8} (h : okR l = false) : oR l = ob0 0 ∧ eR l = 13 := by unfold oR eR; rw [if_neg (by rw [h]; decide), if_neg (by rw [h]; decide)]; exact ⟨rfl, rfl⟩
theorem dec_yes {l : List UInt8} (h : okR l = true) : oR l = (decR l).1 ∧ eR l = 0 := by unfold oR eR; rw [if_pos h, if_pos h]; exact ⟨rfl, rfl⟩
theorem bstr_nil (l : List UInt8) : ((bstr l).toList == []) = decide (l = []) := by
  rw [emptyB_spell]
  unfold emptyB
  by_cases h : l = []
  · subst h; rfl
  · rw [decide_eq_false h, decide_eq_false]
    intro e
    exact h (congrArg (fun s : ByteArray => s.data.toList) e)
theorem none_obj (w : World) : ObjA w none 0 none 0 (ob0 0) := exObjA w rfl rfl (by decide) rfl rfl

set_option maxRecDepth 100000 in
set_option maxHeartbeats 32000000 in
theorem objDecode_any (s : ByteArray) (w : World) (hs : s.size ≤ 60000) :
    Calls Try.prog 23 #[.string s] w (DecE (oR s.data.toList) (eR s.data.toList) w) := by
  obtain ⟨l, hl⟩ : ∃ l, s.data.toList = l := ⟨_, rfl⟩
  have hll : l.length ≤ 60000 := by rw [← hl]; exact hs
  rw [hl]
  have hsl : s = bstr l := by rw [← hl]; rfl
  subst hsl
  clear hl hs
  obtain ⟨w0, hw0⟩ : ∃ w0, (w.alloc (.cells #[.int .i64 0, .string ⟨#[]⟩, .slice none 0 0, .int .u64 0, .int .u64 0, .slice none 0 0, .string ⟨#[]⟩, .int .i64 0, .string ⟨#[]⟩] 28)).alloc (.cells #[.string (bstr l), .bool false] 57) = w0 := ⟨_, rfl⟩
  have hb0 : Below w.heap.size w w0 := by rw [← hw0]; exact ((Below.refl _ _).alloc (Nat.le_refl _) _).alloc (by simp) _
  have z0 : w0.heap.size = w.heap.size + 2 := by rw [← hw0]; simp
  have HZ0 : Hid (Oc w.heap.size (.int .i64 0) (.string ⟨#[]⟩) (.slice none 0 0) (.int .u64 0) (.int .u64 0) (.slice none 0 0) (.string ⟨#[]⟩) (.int .i64 0) (.string ⟨#[]⟩) w0) := lid (by rw [← hw0]; exact (Oc.new _ _ _ _ _ _ _ _ _ _).below (ba _ _))
  have HR0 : Hid (Rb 57 (w.heap.size + 1) (l, false) w0) := lid (by rw [← hw0]; unfold Rb; have := heap_alloc_new (w.alloc (.cells #[.int .i64 0, .string ⟨#[]⟩, .slice none 0 0, .int .u64 0, .int .u64 0, .slice none 0 0, .string ⟨#[]⟩, .int .i64 0, .string ⟨#[]⟩] 28)) (.cells #[.string (bstr l), .bool false] 57); rw [World.size_alloc] at this; exact this)
  have HW := lid hw0
  have C1 := lid (rNumber_any (w.heap.size + 1) (l, false) w0 HR0.out (max_of hll))
  have HD : Hid (decR l = decRk (rNum (l, false)).1 (rNum (l, false)).2) := lid rfl
  have hL1 := rNum_len (s := (l, false))
  obtain ⟨r, hr⟩ : ∃ r, rNum (l, false) = r := ⟨_, rfl⟩
  rw [hr] at C1 HD hL1
  obtain ⟨k, s1⟩ := r
  replace HD : Hid (decR l = decRk k s1) := HD
  have hs1 : Hid (s1.1.length ≤ 60000) := lid (Nat.le_trans hL1 hll)
  have L1 : Hid (s1.1.length ≤ maxLen) := lid (max_of hs1.out)
  have HLL := lid hll
  clear hw0 hr hL1 hll
  go_enter Try.func23, Try.ntmps23
  go_wp2_with fail
  rw [HW.out]
  clear HW
  (with_reducible refine (C1.out).mono ?_); rintro e w1 ⟨rfl, hR1, hK1⟩
  have z1 : w.heap.size + 2 ≤ w1.heap.size := by have := hK1.size; omega
  obtain ⟨w2, hw2⟩ : ∃ w2, w1.alloc (.cells #[.int .i64 k, .string ⟨#[]⟩, .slice none 0 0, .int .u64 0, .int .u64 0, .slice none 0 0, .string ⟨#[]⟩, .int .i64 0, .string ⟨#[]⟩] 28) = w2 := ⟨_, rfl⟩
  have hb2 : Below w1.heap.size w1 w2 := by rw [← hw2]; exact ba _ _
  have z2 : w2.heap.size = w1.heap.size + 1 := by rw [← hw2]; simp
  have HO2 : Hid (Oc w1.heap.size (.int .i64 k) (.string ⟨#[]⟩) (.slice none 0 0) (.int .u64 0) (.int .u64 0) (.slice none 0 0) (.string ⟨#[]⟩) (.int .i64 0) (.string ⟨#[]⟩) w2) := lid (by rw [← hw2]; exact Oc.new _ _ _ _ _ _ _ _ _ _)
  have HR2 : Hid (Rb 57 (w.heap.size + 1) s1 w2) := lid (Rb.below hR1 hb2)
  have HZ2 : Hid (Oc w.heap.size (.int .i64 0) (.string ⟨#[]⟩) (.slice none 0 0) (.int .u64 0) (.int .u64 0) (.slice none 0 0) (.string ⟨#[]⟩) (.int .i64 0) (.string ⟨#[]⟩) w2) := lid ((HZ0.out.kp hK1 (by omega)).below hb2)
  have HB2 : Hid (Below w.heap.size w w2) := lid ((hK1.below hb0 (by omega)).trans (hb2.mono (by omega)))
  have HW := lid hw2
  have hbase : Hid (w.heap.size + 1 < w1.heap.size + 1 ∧ w1.heap.size < w1.heap.size + 1) := lid (by omega)
  have k0 := HO2.out.g0
  have kl := HO2.out.lt
  clear hw2 hb2 hR1 hK1 HZ0 HR0 hb0 C1 z0
  by_cases kk : k = 1
  case pos =>
    have u1 : ((k : Int) == 1) = true := by simp; omega
    have KK := lid kk
    clear kk
    replace HD : Hid (decR l = (obD k (rStr s1).1, (rStr s1).2)) := lid (HD.out.trans (decRk_D (.inl KK.out) s1))
    have CS := lid (rString_any (w.heap.size + 1) s1 w2 HR2.out L1.out)
    have HNX : Hid ((rStr s1).1.length ≤ 60000) := lid (Nat.le_trans (getX_le s1.1).2.1 hs1.out)
    go_wp2_with (with_reducible refine swap_world HW.out ?_)
    obtain ⟨r2, hr2⟩ : ∃ r, rStr s1 = r := ⟨_, rfl⟩
    rw [hr2] at CS HD HNX
    obtain ⟨a, s2⟩ := r2
    replace HD : Hid (decR l = (obD k a, s2)) := HD
    replace HNX : Hid (a.length ≤ 60000) := HNX
    clear hr2
    (with_reducible refine (CS.out).mono ?_); rintro e w3 ⟨rfl, hR, hK⟩
    have HO3 := lid (HO2.out.kp hK (by omega))
    have HZ3 := lid (HZ2.out.kp hK (by omega))
    have HB3 := lid (hK.below HB2.out (by omega))
    have HR3 := lid hR
    have s3 : w1.heap.size + 1 ≤ w3.heap.size := by have := hK.size; omega
    clear hR hK HO2 HZ2 HB2 HR2
    clear CS
    have o1 := HO3.out.g1
    have p1 := HO3.out.fz 1
    have ol3 := HO3.out.lt
    obtain ⟨w4, hw4⟩ : ∃ x, (w3.setCell ⟨w1.heap.size, 1, none⟩ (.string (bstr a))) = x := ⟨_, rfl⟩
    have HO4 := lid ((HO3.out.s1 (.string (bstr a))))
    rw [hw4] at HO4
    have HZ4 := lid (show Oc w.heap.size (.int .i64 0) (.string ⟨#[]⟩) (.slice none 0 0) (.int .u64 0) (.int .u64 0) (.slice none 0 0) (.string ⟨#[]⟩) (.int .i64 0) (.string ⟨#[]⟩) w4 by rw [← hw4]; exact HZ3.out.other (by omega))
    have HR4 := HR3.out
    replace HR4 := lid (show Rb 57 (w.heap.size + 1) _ w4 by rw [← hw4]; exact HR4.other (by omega))
    have HB4 : Hid (Below w.heap.size w w4) := lid (by rw [← hw4]; exact HB3.out.setCell (p := ⟨w1.heap.size, 1, none⟩) (by show _ ≤ w1.heap.size; omega) _)
    have s4 : w1.heap.size + 1 ≤ w4.heap.size := by rw [← hw4]; simpa using s3
    have HP : ∃ (ae : Option Addr) (ne ce : Nat) (ap : Option Addr) (np cp : Nat), Oc w1.heap.size (.int .i64 (obD k a).kind) (.string (obD k a).data) (.slice ae ne ce) (.int .u64 (obD k a).tree.1.toNat) (.int .u64 (obD k a).tree.2.toNat) (.slice ap np cp) (.string (obD k a).auth) (.int .i64 (obD k a).time) (.string (obD k a).msg) w4 ∧ ObO (w1.heap.size + 1) (obD k a) ae ne ce ap np cp w4 := ⟨none, 0, 0, none, 0, 0, HO4.out, World.ownsRow_nil _ _ _ _, World.ownsRow_nil _ _ _ _, rfl, rfl, (by intro e he; cases he), HNX.out, empty_max, empty_max⟩
    obtain ⟨o, ho⟩ : ∃ o, obD k a = o := ⟨_, rfl⟩
    rw [ho] at HP HD
    obtain ⟨ae, ne, ce, ap, np, cp, hO, hX⟩ := HP
    have HO := lid hO
    have HX := lid hX
    have HZ := HZ4
    have HR := HR4
    have HB := HB4
    obtain ⟨rest, bad⟩ := s2
    clear ho hO hX HO4 HZ4 HR4 HB4 HO3 HZ3 HR3 HB3 s3
    obtain ⟨W, rfl⟩ : ∃ W, W = w4 := ⟨_, rfl⟩
    have hOl := HO.out.lt
    have hbl := HR.out.lt
    have hzl := HZ.out.lt
    have r1 : W.cell? ⟨w.heap.size + 1, 1, none⟩ = some (.bool bad) := HR.out.c1
    have r0 : W.cell? ⟨w.heap.size + 1, 0, none⟩ = some (.string (bstr rest)) := HR.out.c0
    have y0 := HZ.out.g0
    have q0 := HZ.out.fz 0
    have y1 := HZ.out.g1
    have q1 := HZ.out.fz 1
    have y2 := HZ.out.g2
    have q2 := HZ.out.fz 2
    have y3 := HZ.out.g3
    have q3 := HZ.out.fz 3
    have y4 := HZ.out.g4
    have q4 := HZ.out.fz 4
    have y5 := HZ.out.g5
    have q5 := HZ.out.fz 5
    have y6 := HZ.out.g6
    have q6 := HZ.out.fz 6
    have y7 := HZ.out.g7
    have q7 := HZ.out.fz 7
    have y8 := HZ.out.g8
    have q8 := HZ.out.fz 8
    have x0 := HO.out.g0
    have x1 := HO.out.g1
    have x2 := HO.out.g2
    have x3 := HO.out.g3
    have x4 := HO.out.g4
    have x5 := HO.out.g5
    have x6 := HO.out.g6
    have x7 := HO.out.g7
    have x8 := HO.out.g8
    have NO := lid (dec_no (l := l))
    have YES := lid (dec_yes (l := l))
    cases bad with
    | true =>
      have HV := lid (NO.out (by unfold okR; rw [HD.out]; simp))
      clear x0 x1 x2 x3 x4 x5 x6 x7 x8
      go_wp2_with fail
      have X := set9_oc (d0 := (.int .i64 0)) (d1 := (.string ⟨#[]⟩)) (d2 := (.slice none 0 0)) (d3 := (.int .u64 0)) (d4 := (.int .u64 0)) (d5 := (.slice none 0 0)) (d6 := (.string ⟨#[]⟩)) (d7 := (.int .i64 0)) (d8 := (.string ⟨#[]⟩)) HZ.out
      have z0 := X.g0
      have z1 := X.g1
      have z2 := X.g2
      have z3 := X.g3
      have z4 := X.g4
      have z5 := X.g5
      have z6 := X.g6
      have z7 := X.g7
      have z8 := X.g8
      unfold set9 at z0 z1 z2 z3 z4 z5 z6 z7 z8
      refine bodyPost_ret (v := .tuple #[.agg #[(.int .i64 0), (.string ⟨#[]⟩), (.slice none 0 0), (.int .u64 0), (.int .u64 0), (.slice none 0 0), (.string ⟨#[]⟩), (.int .i64 0), (.string ⟨#[]⟩)], .int .i64 13]) (by simp [results, Try.results23, go_sem, z0, z1, z2, z3, z4, z5, z6, z7, z8]) rfl ?_
      exact ⟨none, none, 0, 0, 0, 0, by rw [HV.out.1, HV.out.2]; rfl, Nat.le_refl _, by rw [HV.out.1]; exact none_obj _, set9_below _ _ _ _ _ _ _ _ _ HB.out (Nat.le_refl _)⟩
    | false =>
    have HT := lid (bstr_nil rest)
    cases hr : decide (rest = []) with
    | false =>
      rw [hr] at HT
      have t0 := HT.out
      have HV := lid (NO.out (by unfold okR; rw [HD.out]; simp only [Prod.mk.injEq]; simp only [decide_eq_false_iff_not] at hr; simp [hr]))
      clear x0 x1 x2 x3 x4 x5 x6 x7 x8 hr
      go_wp2_with fail
      have X := set9_oc (d0 := (.int .i64 0)) (d1 := (.string ⟨#[]⟩)) (d2 := (.slice none 0 0)) (d3 := (.int .u64 0)) (d4 := (.int .u64 0)) (d5 := (.slice none 0 0)) (d6 := (.string ⟨#[]⟩)) (d7 := (.int .i64 0)) (d8 := (.string ⟨#[]⟩)) HZ.out
      have z0 := X.g0
      have z1 := X.g1
      have z2 := X.g2
      have z3 := X.g3
      have z4 := X.g4
      have z5 := X.g5
      have z6 := X.g6
      have z7 := X.g7
      have z8 := X.g8
      unfold set9 at z0 z1 z2 z3 z4 z5 z6 z7 z8
      refine bodyPost_ret (v := .tuple #[.agg #[(.int .i64 0), (.string ⟨#[]⟩), (.slice none 0 0), (.int .u64 0), (.int .u64 0), (.slice none 0 0), (.string ⟨#[]⟩), (.int .i64 0), (.string ⟨#[]⟩)], .int .i64 13]) (by simp [results, Try.results23, go_sem, z0, z1, z2, z3, z4, z5, z6, z7, z8]) rfl ?_
      exact ⟨none, none, 0, 0, 0, 0, by rw [HV.out.1, HV.out.2]; rfl, Nat.le_refl _, by rw [HV.out.1]; exact none_obj _, set9_below _ _ _ _ _ _ _ _ _ HB.out (Nat.le_refl _)⟩
    | true =>
    rw [hr] at HT
    have t0 := HT.out
    have HNIL := lid (of_decide_eq_true hr)
    obtain ⟨hA, hcp⟩ := HX.out.obj
    have CC := lid (objCheck_any o ae ap ne ce np cp W hA hcp HX.out.2.2.2.2.2.1)
    clear hA hcp hr y0 q0 y1 q1 y2 q2 y3 q3 y4 q4 y5 q5 y6 q6 y7 q7 y8 q8
    go_wp2_with fail
    clear x0 x1 x2 x3 x4 x5 x6 x7 x8 r0 r1 t0
    (with_reducible refine (CC.out).mono ?_); rintro e V ⟨rfl, hbV⟩
    have HO2 := lid (HO.out.below hbV)
    have HZ2 := lid (HZ.out.below hbV)
    have HX2 : Hid (ObO (w1.heap.size + 1) o ae ne ce ap np cp V) := lid (HX.out.heap fun k _ hk => hbV.block k hk)
    have HB2 : Hid (Below w.heap.size w V) := lid (HB.out.trans (hbV.mono HB.out.size))
    have y0 := HZ2.out.g0
    have q0 := HZ2.out.fz 0
    have y1 := HZ2.out.g1
    have q1 := HZ2.out.fz 1
    have y2 := HZ2.out.g2
    have q2 := HZ2.out.fz 2
    have y3 := HZ2.out.g3
    have q3 := HZ2.out.fz 3
    have y4 := HZ2.out.g4
    have q4 := HZ2.out.fz 4
    have y5 := HZ2.out.g5
    have q5 := HZ2.out.fz 5
    have y6 := HZ2.out.g6
    have q6 := HZ2.out.fz 6
    have y7 := HZ2.out.g7
    have q7 := HZ2.out.fz 7
    have y8 := HZ2.out.g8
    have q8 := HZ2.out.fz 8
    have x0 := HO2.out.g0
    have x1 := HO2.out.g1
    have x2 := HO2.out.g2
    have x3 := HO2.out.g3
    have x4 := HO2.out.g4
    have x5 := HO2.out.g5
    have x6 := HO2.out.g6
    have x7 := HO2.out.g7
    have x8 := HO2.out.g8
    have hOl2 := HO2.out.lt
    have hzl2 := HZ2.out.lt
    clear CC HO HZ HX HB
    by_cases hv : checkO o = 0
    · have HV := lid (YES.out (by unfold okR; rw [HD.out, HNIL.out]; simp [hv]))
      rw [hv]
      clear hv
      go_wp2_with fail
      have X := set9_oc (d0 := (.int .i64 o.kind)) (d1 := (.string o.data)) (d2 := (.slice ae ne ce)) (d3 := (.int .u64 o.tree.1.toNat)) (d4 := (.int .u64 o.tree.2.toNat)) (d5 := (.slice ap np cp)) (d6 := (.string o.auth)) (d7 := (.int .i64 o.time)) (d8 := (.string o.msg)) HZ2.out
      have z0 := X.g0
      have z1 := X.g1
      have z2 := X.g2
      have z3 := X.g3
      have z4 := X.g4
      have z5 := X.g5
      have z6 := X.g6
      have z7 := X.g7
      have z8 := X.g8
      unfold set9 at z0 z1 z2 z3 z4 z5 z6 z7 z8
      refine bodyPost_ret (v := .tuple #[.agg #[(.int .i64 o.kind), (.string o.data), (.slice ae ne ce), (.int .u64 o.tree.1.toNat), (.int .u64 o.tree.2.toNat), (.slice ap np cp), (.string o.auth), (.int .i64 o.time), (.string o.msg)], .int .i64 0]) (by simp [results, Try.results23, go_sem, z0, z1, z2, z3, z4, z5, z6, z7, z8]) rfl ?_
      refine ⟨ae, ap, ne, ce, np, cp, by rw [HV.out.1, HV.out.2, HD.out], (HX2.out.obj).2, ?_, set9_below _ _ _ _ _ _ _ _ _ HB2.out (Nat.le_refl _)⟩
      rw [HV.out.1, HD.out]
      exact (ObO.obj (HX2.out.heap (w' := set9 V w.heap.size (.int .i64 o.kind) (.string o.data) (.slice ae ne ce) (.int .u64 o.tree.1.toNat) (.int .u64 o.tree.2.toNat) (.slice ap np cp) (.string o.auth) (.int .i64 o.time) (.string o.msg)) fun k hk _ => set9_heap _ _ _ _ _ _ _ _ _ _ _ (by have := hbase.out; omega))).1
    · have HV := lid (NO.out (by unfold okR; rw [HD.out]; simp [hv]))
      have uK : (checkO o != 0) = true := by simpa using hv
      clear hv x0 x1 x2 x3 x4 x5 x6 x7 x8
      go_wp2_with fail
      have X := set9_oc (d0 := (.int .i64 0)) (d1 := (.string ⟨#[]⟩)) (d2 := (.slice none 0 0)) (d3 := (.int .u64 0)) (d4 := (.int .u64 0)) (d5 := (.slice none 0 0)) (d6 := (.string ⟨#[]⟩)) (d7 := (.int .i64 0)) (d8 := (.string ⟨#[]⟩)) HZ2.out
      have z0 := X.g0
      have z1 := X.g1
      have z2 := X.g2
      have z3 := X.g3
      have z4 := X.g4
      have z5 := X.g5
      have z6 := X.g6
      have z7 := X.g7
      have z8 := X.g8
      unfold set9 at z0 z1 z2 z3 z4 z5 z6 z7 z8
      refine bodyPost_ret (v := .tuple #[.agg #[(.int .i64 0), (.string ⟨#[]⟩), (.slice none 0 0), (.int .u64 0), (.int .u64 0), (.slice none 0 0), (.string ⟨#[]⟩), (.int .i64 0), (.string ⟨#[]⟩)], .int .i64 13]) (by simp [results, Try.results23, go_sem, z0, z1, z2, z3, z4, z5, z6, z7, z8]) rfl ?_
      exact ⟨none, none, 0, 0, 0, 0, by rw [HV.out.1, HV.out.2]; rfl, Nat.le_refl _, by rw [HV.out.1]; exact none_obj _, set9_below _ _ _ _ _ _ _ _ _ HB2.out (Nat.le_refl _)⟩
  have n1 := kk
  clear kk
  by_cases kk : k = 4
  case pos =>
    have u1 : ((k : Int) == 1) = false := by simp; omega
    have u4 : ((k : Int) == 4) = true := by simp; omega
    have KK := lid kk
    clear kk
    clear n1
    replace HD : Hid (decR l = (obD k (rStr s1).1, (rStr s1).2)) := lid (HD.out.trans (decRk_D (.inr KK.out) s1))
    have CS := lid (rString_any (w.heap.size + 1) s1 w2 HR2.out L1.out)
    have HNX : Hid ((rStr s1).1.length ≤ 60000) := lid (Nat.le_trans (getX_le s1.1).2.1 hs1.out)
    go_wp2_with (with_reducible refine swap_world HW.out ?_)
    obtain ⟨r2, hr2⟩ : ∃ r, rStr s1 = r := ⟨_, rfl⟩
    rw [hr2] at CS HD HNX
    obtain ⟨a, s2⟩ := r2
    replace HD : Hid (decR l = (obD k a, s2)) := HD
    replace HNX : Hid (a.length ≤ 60000) := HNX
    clear hr2
    (with_reducible refine (CS.out).mono ?_); rintro e w3 ⟨rfl, hR, hK⟩
    have HO3 := lid (HO2.out.kp hK (by omega))
    have HZ3 := lid (HZ2.out.kp hK (by omega))
    have HB3 := lid (hK.below HB2.out (by omega))
    have HR3 := lid hR
    have s3 : w1.heap.size + 1 ≤ w3.heap.size := by have := hK.size; omega
    clear hR hK HO2 HZ2 HB2 HR2
    clear CS
    have o1 := HO3.out.g1
    have p1 := HO3.out.fz 1
    have ol3 := HO3.out.lt
    obtain ⟨w4, hw4⟩ : ∃ x, (w3.setCell ⟨w1.heap.size, 1, none⟩ (.string (bstr a))) = x := ⟨_, rfl⟩
    have HO4 := lid ((HO3.out.s1 (.string (bstr a))))
    rw [hw4] at HO4
    have HZ4 := lid (show Oc w.heap.size (.int .i64 0) (.string ⟨#[]⟩) (.slice none 0 0) (.int .u64 0) (.int .u64 0) (.slice none 0 0) (.string ⟨#[]⟩) (.int .i64 0) (.string ⟨#[]⟩) w4 by rw [← hw4]; exact HZ3.out.other (by omega))
    have HR4 := HR3.out
    replace HR4 := lid (show Rb 57 (w.heap.size + 1) _ w4 by rw [← hw4]; exact HR4.other (by omega))
    have HB4 : Hid (Below w.heap.size w w4) := lid (by rw [← hw4]; exact HB3.out.setCell (p := ⟨w1.heap.size, 1, none⟩) (by show _ ≤ w1.heap.size; omega) _)
    have s4 : w1.heap.size + 1 ≤ w4.heap.size := by rw [← hw4]; simpa using s3
    have HP : ∃ (ae : Option Addr) (ne ce : Nat) (ap : Option Addr) (np cp : Nat), Oc w1.heap.size (.int .i64 (obD k a).kind) (.string (obD k a).data) (.slice ae ne ce) (.int .u64 (obD k a).tree.1.toNat) (.int .u64 (obD k a).tree.2.toNat) (.slice ap np cp) (.string (obD k a).auth) (.int .i64 (obD k a).time) (.string (obD k a).msg) w4 ∧ ObO (w1.heap.size + 1) (obD k a) ae ne ce ap np cp w4 := ⟨none, 0, 0, none, 0, 0, HO4.out, World.ownsRow_nil _ _ _ _, World.ownsRow_nil _ _ _ _, rfl, rfl, (by intro e he; cases he), HNX.out, empty_max, empty_max⟩
    obtain ⟨o, ho⟩ : ∃ o, obD k a = o := ⟨_, rfl⟩
    rw [ho] at HP HD
    obtain ⟨ae, ne, ce, ap, np, cp, hO, hX⟩ := HP
    have HO := lid hO
    have HX := lid hX
    have HZ := HZ4
    have HR := HR4
    have HB := HB4
    obtain ⟨rest, bad⟩ := s2
    clear ho hO hX HO4 HZ4 HR4 HB4 HO3 HZ3 HR3 HB3 s3
    obtain ⟨W, rfl⟩ : ∃ W, W = w4 := ⟨_, rfl⟩
    have hOl := HO.out.lt
    have hbl := HR.out.lt
    have hzl := HZ.out.lt
    have r1 : W.cell? ⟨w.heap.size + 1, 1, none⟩ = some (.bool bad) := HR.out.c1
    have r0 : W.cell? ⟨w.heap.size + 1, 0, none⟩ = some (.string (bstr rest)) := HR.out.c0
    have y0 := HZ.out.g0
    have q0 := HZ.out.fz 0
    have y1 := HZ.out.g1
    have q1 := HZ.out.fz 1
    have y2 := HZ.out.g2
    have q2 := HZ.out.fz 2
    have y3 := HZ.out.g3
    have q3 := HZ.out.fz 3
    have y4 := HZ.out.g4
    have q4 := HZ.out.fz 4
    have y5 := HZ.out.g5
    have q5 := HZ.out.fz 5
    have y6 := HZ.out.g6
    have q6 := HZ.out.fz 6
    have y7 := HZ.out.g7
    have q7 := HZ.out.fz 7
    have y8 := HZ.out.g8
    have q8 := HZ.out.fz 8
    have x0 := HO.out.g0
    have x1 := HO.out.g1
    have x2 := HO.out.g2
    have x3 := HO.out.g3
    have x4 := HO.out.g4
    have x5 := HO.out.g5
    have x6 := HO.out.g6
    have x7 := HO.out.g7
    have x8 := HO.out.g8
    have NO := lid (dec_no (l := l))
    have YES := lid (dec_yes (l := l))
    cases bad with
    | true =>
      have HV := lid (NO.out (by unfold okR; rw [HD.out]; simp))
      clear x0 x1 x2 x3 x4 x5 x6 x7 x8
      go_wp2_with fail
      have X := set9_oc (d0 := (.int .i64 0)) (d1 := (.string ⟨#[]⟩)) (d2 := (.slice none 0 0)) (d3 := (.int .u64 0)) (d4 := (.int .u64 0)) (d5 := (.slice none 0 0)) (d6 := (.string ⟨#[]⟩)) (d7 := (.int .i64 0)) (d8 := (.string ⟨#[]⟩)) HZ.out
      have z0 := X.g0
      have z1 := X.g1
      have z2 := X.g2
      have z3 := X.g3
      have z4 := X.g4
      have z5 := X.g5
      have z6 := X.g6
      have z7 := X.g7
      have z8 := X.g8
      unfold set9 at z0 z1 z2 z3 z4 z5 z6 z7 z8
      refine bodyPost_ret (v := .tuple #[.agg #[(.int .i64 0), (.string ⟨#[]⟩), (.slice none 0 0), (.int .u64 0), (.int .u64 0), (.slice none 0 0), (.string ⟨#[]⟩), (.int .i64 0), (.string ⟨#[]⟩)], .int .i64 13]) (by simp [results, Try.results23, go_sem, z0, z1, z2, z3, z4, z5, z6, z7, z8]) rfl ?_
      exact ⟨none, none, 0, 0, 0, 0, by rw [HV.out.1, HV.out.2]; rfl, Nat.le_refl _, by rw [HV.out.1]; exact none_obj _, set9_below _ _ _ _ _ _ _ _ _ HB.out (Nat.le_refl _)⟩
    | false =>
    have HT := lid (bstr_nil rest)
    cases hr : decide (rest = []) with
    | false =>
      rw [hr] at HT
      have t0 := HT.out
      have HV := lid (NO.out (by unfold okR; rw [HD.out]; simp only [Prod.mk.injEq]; simp only [decide_eq_false_iff_not] at hr; simp [hr]))
      clear x0 x1 x2 x3 x4 x5 x6 x7 x8 hr
      go_wp2_with fail
      have X := set9_oc (d0 := (.int .i64 0)) (d1 := (.string ⟨#[]⟩)) (d2 := (.slice none 0 0)) (d3 := (.int .u64 0)) (d4 := (.int .u64 0)) (d5 := (.slice none 0 0)) (d6 := (.string ⟨#[]⟩)) (d7 := (.int .i64 0)) (d8 := (.string ⟨#[]⟩)) HZ.out
      have z0 := X.g0
      have z1 := X.g1
      have z2 := X.g2
      have z3 := X.g3
      have z4 := X.g4
      have z5 := X.g5
      have z6 := X.g6
      have z7 := X.g7
      have z8 := X.g8
      unfold set9 at z0 z1 z2 z3 z4 z5 z6 z7 z8
      refine bodyPost_ret (v := .tuple #[.agg #[(.int .i64 0), (.string ⟨#[]⟩), (.slice none 0 0), (.int .u64 0), (.int .u64 0), (.slice none 0 0), (.string ⟨#[]⟩), (.int .i64 0), (.string ⟨#[]⟩)], .int .i64 13]) (by simp [results, Try.results23, go_sem, z0, z1, z2, z3, z4, z5, z6, z7, z8]) rfl ?_
      exact ⟨none, none, 0, 0, 0, 0, by rw [HV.out.1, HV.out.2]; rfl, Nat.le_refl _, by rw [HV.out.1]; exact none_obj _, set9_below _ _ _ _ _ _ _ _ _ HB.out (Nat.le_refl _)⟩
    | true =>
    rw [hr] at HT
    have t0 := HT.out
    have HNIL := lid (of_decide_eq_true hr)
    obtain ⟨hA, hcp⟩ := HX.out.obj
    have CC := lid (objCheck_any o ae ap ne ce np cp W hA hcp HX.out.2.2.2.2.2.1)
    clear hA hcp hr y0 q0 y1 q1 y2 q2 y3 q3 y4 q4 y5 q5 y6 q6 y7 q7 y8 q8
    go_wp2_with fail
    clear x0 x1 x2 x3 x4 x5 x6 x7 x8 r0 r1 t0
    (with_reducible refine (CC.out).mono ?_); rintro e V ⟨rfl, hbV⟩
    have HO2 := lid (HO.out.below hbV)
    have HZ2 := lid (HZ.out.below hbV)
    have HX2 : Hid (ObO (w1.heap.size + 1) o ae ne ce ap np cp V) := lid (HX.out.heap fun k _ hk => hbV.block k hk)
    have HB2 : Hid (Below w.heap.size w V) := lid (HB.out.trans (hbV.mono HB.out.size))
    have y0 := HZ2.out.g0
    have q0 := HZ2.out.fz 0
    have y1 := HZ2.out.g1
    have q1 := HZ2.out.fz 1
    have y2 := HZ2.out.g2
    have q2 := HZ2.out.fz 2
    have y3 := HZ2.out.g3
    have q3 := HZ2.out.fz 3
    have y4 := HZ2.out.g4
    have q4 := HZ2.out.fz 4
    have y5 := HZ2.out.g5
    have q5 := HZ2.out.fz 5
    have y6 := HZ2.out.g6
    have q6 := HZ2.out.fz 6
    have y7 := HZ2.out.g7
    have q7 := HZ2.out.fz 7
    have y8 := HZ2.out.g8
    have q8 := HZ2.out.fz 8
    have x0 := HO2.out.g0
    have x1 := HO2.out.g1
    have x2 := HO2.out.g2
    have x3 := HO2.out.g3
    have x4 := HO2.out.g4
    have x5 := HO2.out.g5
    have x6 := HO2.out.g6
    have x7 := HO2.out.g7
    have x8 := HO2.out.g8
    have hOl2 := HO2.out.lt
    have hzl2 := HZ2.out.lt
    clear CC HO HZ HX HB
    by_cases hv : checkO o = 0
    · have HV := lid (YES.out (by unfold okR; rw [HD.out, HNIL.out]; simp [hv]))
      rw [hv]
      clear hv
      go_wp2_with fail
      have X := set9_oc (d0 := (.int .i64 o.kind)) (d1 := (.string o.data)) (d2 := (.slice ae ne ce)) (d3 := (.int .u64 o.tree.1.toNat)) (d4 := (.int .u64 o.tree.2.toNat)) (d5 := (.slice ap np cp)) (d6 := (.string o.auth)) (d7 := (.int .i64 o.time)) (d8 := (.string o.msg)) HZ2.out
      have z0 := X.g0
      have z1 := X.g1
      have z2 := X.g2
      have z3 := X.g3
      have z4 := X.g4
      have z5 := X.g5
      have z6 := X.g6
      have z7 := X.g7
      have z8 := X.g8
      unfold set9 at z0 z1 z2 z3 z4 z5 z6 z7 z8
      refine bodyPost_ret (v := .tuple #[.agg #[(.int .i64 o.kind), (.string o.data), (.slice ae ne ce), (.int .u64 o.tree.1.toNat), (.int .u64 o.tree.2.toNat), (.slice ap np cp), (.string o.auth), (.int .i64 o.time), (.string o.msg)], .int .i64 0]) (by simp [results, Try.results23, go_sem, z0, z1, z2, z3, z4, z5, z6, z7, z8]) rfl ?_
      refine ⟨ae, ap, ne, ce, np, cp, by rw [HV.out.1, HV.out.2, HD.out], (HX2.out.obj).2, ?_, set9_below _ _ _ _ _ _ _ _ _ HB2.out (Nat.le_refl _)⟩
      rw [HV.out.1, HD.out]
      exact (ObO.obj (HX2.out.heap (w' := set9 V w.heap.size (.int .i64 o.kind) (.string o.data) (.slice ae ne ce) (.int .u64 o.tree.1.toNat) (.int .u64 o.tree.2.toNat) (.slice ap np cp) (.string o.auth) (.int .i64 o.time) (.string o.msg)) fun k hk _ => set9_heap _ _ _ _ _ _ _ _ _ _ _ (by have := hbase.out; omega))).1
    · have HV := lid (NO.out (by unfold okR; rw [HD.out]; simp [hv]))
      have uK : (checkO o != 0) = true := by simpa using hv
      clear hv x0 x1 x2 x3 x4 x5 x6 x7 x8
      go_wp2_with fail
      have X := set9_oc (d0 := (.int .i64 0)) (d1 := (.string ⟨#[]⟩)) (d2 := (.slice none 0 0)) (d3 := (.int .u64 0)) (d4 := (.int .u64 0)) (d5 := (.slice none 0 0)) (d6 := (.string ⟨#[]⟩)) (d7 := (.int .i64 0)) (d8 := (.string ⟨#[]⟩)) HZ2.out
      have z0 := X.g0
      have z1 := X.g1
      have z2 := X.g2
      have z3 := X.g3
      have z4 := X.g4
      have z5 := X.g5
      have z6 := X.g6
      have z7 := X.g7
      have z8 := X.g8
      unfold set9 at z0 z1 z2 z3 z4 z5 z6 z7 z8
      refine bodyPost_ret (v := .tuple #[.agg #[(.int .i64 0), (.string ⟨#[]⟩), (.slice none 0 0), (.int .u64 0), (.int .u64 0), (.slice none 0 0), (.string ⟨#[]⟩), (.int .i64 0), (.string ⟨#[]⟩)], .int .i64 13]) (by simp [results, Try.results23, go_sem, z0, z1, z2, z3, z4, z5, z6, z7, z8]) rfl ?_
      exact ⟨none, none, 0, 0, 0, 0, by rw [HV.out.1, HV.out.2]; rfl, Nat.le_refl _, by rw [HV.out.1]; exact none_obj _, set9_below _ _ _ _ _ _ _ _ _ HB2.out (Nat.le_refl _)⟩
  have n4 := kk
  clear kk
  by_cases kk : k = 2
  case pos =>
    have u1 : ((k : Int) == 1) = false := by simp; omega
    have u4 : ((k : Int) == 4) = false := by simp; omega
    have u2 : ((k : Int) == 2) = true := by simp; omega
    have KK := lid kk
    clear kk
    clear n1 n4
    replace HD : Hid (decR l = (obE (rList rEnt 200 s1).1, (rList rEnt 200 s1).2)) := lid (HD.out.trans (by rw [KK.out]; exact decRk_E s1))
    have CS := lid (rListE_any (w.heap.size + 1) s1 w2 HR2.out L1.out)
    have HNX : Hid (∀ e ∈ (rList rEnt 200 s1).1, e.1.size ≤ maxLen) := lid (many_all rEnt_name _ _)
    go_wp2_with (with_reducible refine swap_world HW.out ?_)
    obtain ⟨r2, hr2⟩ : ∃ r, rList rEnt 200 s1 = r := ⟨_, rfl⟩
    rw [hr2] at CS HD HNX
    obtain ⟨L, s2⟩ := r2
    replace HD : Hid (decR l = (obE L, s2)) := HD
    replace HNX : Hid (∀ e ∈ L, e.1.size ≤ maxLen) := HNX
    clear hr2
    (with_reducible refine (CS.out).mono ?_); rintro e w3 ⟨v, rfl, hown, hR, hK⟩
    have HO3 := lid (HO2.out.kp hK (by omega))
    have HZ3 := lid (HZ2.out.kp hK (by omega))
    have HB3 := lid (hK.below HB2.out (by omega))
    have HR3 := lid hR
    have s3 : w1.heap.size + 1 ≤ w3.heap.size := by have := hK.size; omega
    obtain ⟨ae, ce, rfl⟩ := own_slice hown
    have HOW := lid (show w3.ownsRow (w1.heap.size + 1) 45 4 (.slice ae L.length ce) L.length (ecells L) by rw [← z2]; exact hown)
    clear hown
    clear hR hK HO2 HZ2 HB2 HR2
    clear CS
    have o2 := HO3.out.g2
    have p2 := HO3.out.fz 2
    have ol3 := HO3.out.lt
    obtain ⟨w4, hw4⟩ : ∃ x, (w3.setCell ⟨w1.heap.size, 2, none⟩ (.slice ae L.length ce)) = x := ⟨_, rfl⟩
    have HO4 := lid ((HO3.out.s2 (.slice ae L.length ce)))
    rw [hw4] at HO4
    have HZ4 := lid (show Oc w.heap.size (.int .i64 0) (.string ⟨#[]⟩) (.slice none 0 0) (.int .u64 0) (.int .u64 0) (.slice none 0 0) (.string ⟨#[]⟩) (.int .i64 0) (.string ⟨#[]⟩) w4 by rw [← hw4]; exact HZ3.out.other (by omega))
    have HR4 := HR3.out
    replace HR4 := lid (show Rb 57 (w.heap.size + 1) _ w4 by rw [← hw4]; exact HR4.other (by omega))
    have HB4 : Hid (Below w.heap.size w w4) := lid (by rw [← hw4]; exact HB3.out.setCell (p := ⟨w1.heap.size, 2, none⟩) (by show _ ≤ w1.heap.size; omega) _)
    have s4 : w1.heap.size + 1 ≤ w4.heap.size := by rw [← hw4]; simpa using s3
    have HOW4 := lid (show w4.ownsRow (w1.heap.size + 1) 45 4 (.slice ae L.length ce) L.length (ecells L) by rw [← hw4]; exact own_block HOW.out fun g hg => Below.heap_setCell _ _ _ _ (by have := (HOW.out.lt g hg).1; simp; omega))
    have HP : ∃ (ae : Option Addr) (ne ce : Nat) (ap : Option Addr) (np cp : Nat), Oc w1.heap.size (.int .i64 (obE L).kind) (.string (obE L).data) (.slice ae ne ce) (.int .u64 (obE L).tree.1.toNat) (.int .u64 (obE L).tree.2.toNat) (.slice ap np cp) (.string (obE L).auth) (.int .i64 (obE L).time) (.string (obE L).msg) w4 ∧ ObO (w1.heap.size + 1) (obE L) ae ne ce ap np cp w4 := ⟨ae, L.length, ce, none, 0, 0, (by have := HO4.out; rw [KK.out] at this; exact this), HOW4.out, World.ownsRow_nil _ _ _ _, rfl, rfl, HNX.out, empty_60, empty_max, empty_max⟩
    obtain ⟨o, ho⟩ : ∃ o, obE L = o := ⟨_, rfl⟩
    rw [ho] at HP HD
    obtain ⟨ae, ne, ce, ap, np, cp, hO, hX⟩ := HP
    have HO := lid hO
    have HX := lid hX
    have HZ := HZ4
    have HR := HR4
    have HB := HB4
    obtain ⟨rest, bad⟩ := s2
    clear ho hO hX HO4 HZ4 HR4 HB4 HOW HOW4 HO3 HZ3 HR3 HB3 s3
    obtain ⟨W, rfl⟩ : ∃ W, W = w4 := ⟨_, rfl⟩
    have hOl := HO.out.lt
    have hbl := HR.out.lt
    have hzl := HZ.out.lt
    have r1 : W.cell? ⟨w.heap.size + 1, 1, none⟩ = some (.bool bad) := HR.out.c1
    have r0 : W.cell? ⟨w.heap.size + 1, 0, none⟩ = some (.string (bstr rest)) := HR.out.c0
    have y0 := HZ.out.g0
    have q0 := HZ.out.fz 0
    have y1 := HZ.out.g1
    have q1 := HZ.out.fz 1
    have y2 := HZ.out.g2
    have q2 := HZ.out.fz 2
    have y3 := HZ.out.g3
    have q3 := HZ.out.fz 3
    have y4 := HZ.out.g4
    have q4 := HZ.out.fz 4
    have y5 := HZ.out.g5
    have q5 := HZ.out.fz 5
    have y6 := HZ.out.g6
    have q6 := HZ.out.fz 6
    have y7 := HZ.out.g7
    have q7 := HZ.out.fz 7
    have y8 := HZ.out.g8
    have q8 := HZ.out.fz 8
    have x0 := HO.out.g0
    have x1 := HO.out.g1
    have x2 := HO.out.g2
    have x3 := HO.out.g3
    have x4 := HO.out.g4
    have x5 := HO.out.g5
    have x6 := HO.out.g6
    have x7 := HO.out.g7
    have x8 := HO.out.g8
    have NO := lid (dec_no (l := l))
    have YES := lid (dec_yes (l := l))
    cases bad with
    | true =>
      have HV := lid (NO.out (by unfold okR; rw [HD.out]; simp))
      clear x0 x1 x2 x3 x4 x5 x6 x7 x8
      go_wp2_with fail
      have X := set9_oc (d0 := (.int .i64 0)) (d1 := (.string ⟨#[]⟩)) (d2 := (.slice none 0 0)) (d3 := (.int .u64 0)) (d4 := (.int .u64 0)) (d5 := (.slice none 0 0)) (d6 := (.string ⟨#[]⟩)) (d7 := (.int .i64 0)) (d8 := (.string ⟨#[]⟩)) HZ.out
      have z0 := X.g0
      have z1 := X.g1
      have z2 := X.g2
      have z3 := X.g3
      have z4 := X.g4
      have z5 := X.g5
      have z6 := X.g6
      have z7 := X.g7
      have z8 := X.g8
      unfold set9 at z0 z1 z2 z3 z4 z5 z6 z7 z8
      refine bodyPost_ret (v := .tuple #[.agg #[(.int .i64 0), (.string ⟨#[]⟩), (.slice none 0 0), (.int .u64 0), (.int .u64 0), (.slice none 0 0), (.string ⟨#[]⟩), (.int .i64 0), (.string ⟨#[]⟩)], .int .i64 13]) (by simp [results, Try.results23, go_sem, z0, z1, z2, z3, z4, z5, z6, z7, z8]) rfl ?_
      exact ⟨none, none, 0, 0, 0, 0, by rw [HV.out.1, HV.out.2]; rfl, Nat.le_refl _, by rw [HV.out.1]; exact none_obj _, set9_below _ _ _ _ _ _ _ _ _ HB.out (Nat.le_refl _)⟩
    | false =>
    have HT := lid (bstr_nil rest)
    cases hr : decide (rest = []) with
    | false =>
      rw [hr] at HT
      have t0 := HT.out
      have HV := lid (NO.out (by unfold okR; rw [HD.out]; simp only [Prod.mk.injEq]; simp only [decide_eq_false_iff_not] at hr; simp [hr]))
      clear x0 x1 x2 x3 x4 x5 x6 x7 x8 hr
      go_wp2_with fail
      have X := set9_oc (d0 := (.int .i64 0)) (d1 := (.string ⟨#[]⟩)) (d2 := (.slice none 0 0)) (d3 := (.int .u64 0)) (d4 := (.int .u64 0)) (d5 := (.slice none 0 0)) (d6 := (.string ⟨#[]⟩)) (d7 := (.int .i64 0)) (d8 := (.string ⟨#[]⟩)) HZ.out
      have z0 := X.g0
      have z1 := X.g1
      have z2 := X.g2
      have z3 := X.g3
      have z4 := X.g4
      have z5 := X.g5
      have z6 := X.g6
      have z7 := X.g7
      have z8 := X.g8
      unfold set9 at z0 z1 z2 z3 z4 z5 z6 z7 z8
      refine bodyPost_ret (v := .tuple #[.agg #[(.int .i64 0), (.string ⟨#[]⟩), (.slice none 0 0), (.int .u64 0), (.int .u64 0), (.slice none 0 0), (.string ⟨#[]⟩), (.int .i64 0), (.string ⟨#[]⟩)], .int .i64 13]) (by simp [results, Try.results23, go_sem, z0, z1, z2, z3, z4, z5, z6, z7, z8]) rfl ?_
      exact ⟨none, none, 0, 0, 0, 0, by rw [HV.out.1, HV.out.2]; rfl, Nat.le_refl _, by rw [HV.out.1]; exact none_obj _, set9_below _ _ _ _ _ _ _ _ _ HB.out (Nat.le_refl _)⟩
    | true =>
    rw [hr] at HT
    have t0 := HT.out
    have HNIL := lid (of_decide_eq_true hr)
    obtain ⟨hA, hcp⟩ := HX.out.obj
    have CC := lid (objCheck_any o ae ap ne ce np cp W hA hcp HX.out.2.2.2.2.2.1)
    clear hA hcp hr y0 q0 y1 q1 y2 q2 y3 q3 y4 q4 y5 q5 y6 q6 y7 q7 y8 q8
    go_wp2_with fail
    clear x0 x1 x2 x3 x4 x5 x6 x7 x8 r0 r1 t0
    (with_reducible refine (CC.out).mono ?_); rintro e V ⟨rfl, hbV⟩
    have HO2 := lid (HO.out.below hbV)
    have HZ2 := lid (HZ.out.below hbV)
    have HX2 : Hid (ObO (w1.heap.size + 1) o ae ne ce ap np cp V) := lid (HX.out.heap fun k _ hk => hbV.block k hk)
    have HB2 : Hid (Below w.heap.size w V) := lid (HB.out.trans (hbV.mono HB.out.size))
    have y0 := HZ2.out.g0
    have q0 := HZ2.out.fz 0
    have y1 := HZ2.out.g1
    have q1 := HZ2.out.fz 1
    have y2 := HZ2.out.g2
    have q2 := HZ2.out.fz 2
    have y3 := HZ2.out.g3
    have q3 := HZ2.out.fz 3
    have y4 := HZ2.out.g4
    have q4 := HZ2.out.fz 4
    have y5 := HZ2.out.g5
    have q5 := HZ2.out.fz 5
    have y6 := HZ2.out.g6
    have q6 := HZ2.out.fz 6
    have y7 := HZ2.out.g7
    have q7 := HZ2.out.fz 7
    have y8 := HZ2.out.g8
    have q8 := HZ2.out.fz 8
    have x0 := HO2.out.g0
    have x1 := HO2.out.g1
    have x2 := HO2.out.g2
    have x3 := HO2.out.g3
    have x4 := HO2.out.g4
    have x5 := HO2.out.g5
    have x6 := HO2.out.g6
    have x7 := HO2.out.g7
    have x8 := HO2.out.g8
    have hOl2 := HO2.out.lt
    have hzl2 := HZ2.out.lt
    clear CC HO HZ HX HB
    by_cases hv : checkO o = 0
    · have HV := lid (YES.out (by unfold okR; rw [HD.out, HNIL.out]; simp [hv]))
      rw [hv]
      clear hv
      go_wp2_with fail
      have X := set9_oc (d0 := (.int .i64 o.kind)) (d1 := (.string o.data)) (d2 := (.slice ae ne ce)) (d3 := (.int .u64 o.tree.1.toNat)) (d4 := (.int .u64 o.tree.2.toNat)) (d5 := (.slice ap np cp)) (d6 := (.string o.auth)) (d7 := (.int .i64 o.time)) (d8 := (.string o.msg)) HZ2.out
      have z0 := X.g0
      have z1 := X.g1
      have z2 := X.g2
      have z3 := X.g3
      have z4 := X.g4
      have z5 := X.g5
      have z6 := X.g6
      have z7 := X.g7
      have z8 := X.g8
      unfold set9 at z0 z1 z2 z3 z4 z5 z6 z7 z8
      refine bodyPost_ret (v := .tuple #[.agg #[(.int .i64 o.kind), (.string o.data), (.slice ae ne ce), (.int .u64 o.tree.1.toNat), (.int .u64 o.tree.2.toNat), (.slice ap np cp), (.string o.auth), (.int .i64 o.time), (.string o.msg)], .int .i64 0]) (by simp [results, Try.results23, go_sem, z0, z1, z2, z3, z4, z5, z6, z7, z8]) rfl ?_
      refine ⟨ae, ap, ne, ce, np, cp, by rw [HV.out.1, HV.out.2, HD.out], (HX2.out.obj).2, ?_, set9_below _ _ _ _ _ _ _ _ _ HB2.out (Nat.le_refl _)⟩
      rw [HV.out.1, HD.out]
      exact (ObO.obj (HX2.out.heap (w' := set9 V w.heap.size (.int .i64 o.kind) (.string o.data) (.slice ae ne ce) (.int .u64 o.tree.1.toNat) (.int .u64 o.tree.2.toNat) (.slice ap np cp) (.string o.auth) (.int .i64 o.time) (.string o.msg)) fun k hk _ => set9_heap _ _ _ _ _ _ _ _ _ _ _ (by have := hbase.out; omega))).1
    · have HV := lid (NO.out (by unfold okR; rw [HD.out]; simp [hv]))
      have uK : (checkO o != 0) = true := by simpa using hv
      clear hv x0 x1 x2 x3 x4 x5 x6 x7 x8
      go_wp2_with fail
      have X := set9_oc (d0 := (.int .i64 0)) (d1 := (.string ⟨#[]⟩)) (d2 := (.slice none 0 0)) (d3 := (.int .u64 0)) (d4 := (.int .u64 0)) (d5 := (.slice none 0 0)) (d6 := (.string ⟨#[]⟩)) (d7 := (.int .i64 0)) (d8 := (.string ⟨#[]⟩)) HZ2.out
      have z0 := X.g0
      have z1 := X.g1
      have z2 := X.g2
      have z3 := X.g3
      have z4 := X.g4
      have z5 := X.g5
      have z6 := X.g6
      have z7 := X.g7
      have z8 := X.g8
      unfold set9 at z0 z1 z2 z3 z4 z5 z6 z7 z8
      refine bodyPost_ret (v := .tuple #[.agg #[(.int .i64 0), (.string ⟨#[]⟩), (.slice none 0 0), (.int .u64 0), (.int .u64 0), (.slice none 0 0), (.string ⟨#[]⟩), (.int .i64 0), (.string ⟨#[]⟩)], .int .i64 13]) (by simp [results, Try.results23, go_sem, z0, z1, z2, z3, z4, z5, z6, z7, z8]) rfl ?_
      exact ⟨none, none, 0, 0, 0, 0, by rw [HV.out.1, HV.out.2]; rfl, Nat.le_refl _, by rw [HV.out.1]; exact none_obj _, set9_below _ _ _ _ _ _ _ _ _ HB2.out (Nat.le_refl _)⟩
  have n2 := kk
  clear kk
  by_cases kk : k = 3
  case pos =>
    have u1 : ((k : Int) == 1) = false := by simp; omega
    have u4 : ((k : Int) == 4) = false := by simp; omega
    have u2 : ((k : Int) == 2) = false := by simp; omega
    have u3 : ((k : Int) == 3) = true := by simp; omega
    have KK := lid kk
    clear kk
    clear n1 n4 n2
    replace HD : Hid (decR l = decRC s1) := lid (HD.out.trans (by rw [KK.out]; exact decRk_C s1))
    have CS := lid (rDigest_any (w.heap.size + 1) s1 w2 HR2.out L1.out)
    have L2 := lid (Nat.le_trans (rDig_len (s := s1)) L1.out)
    have hs2 := lid (Nat.le_trans (rDig_len (s := s1)) hs1.out)
    go_wp2_with (with_reducible refine swap_world HW.out ?_)
    obtain ⟨d, hd⟩ : ∃ r, (rDig s1).1 = r := ⟨_, rfl⟩
    obtain ⟨s2, hs⟩ : ∃ r, (rDig s1).2 = r := ⟨_, rfl⟩
    rw [hd, hs] at CS
    rw [hs] at L2 hs2
    (with_reducible refine (CS.out).mono ?_); rintro e w3 ⟨rfl, hR, hK⟩
    have HO3 := lid (HO2.out.kp hK (by omega))
    have HZ3 := lid (HZ2.out.kp hK (by omega))
    have HB3 := lid (hK.below HB2.out (by omega))
    have HR3 := lid hR
    have s3 : w1.heap.size + 1 ≤ w3.heap.size := by have := hK.size; omega
    clear hR hK HO2 HZ2 HB2 HR2
    clear CS
    have o3 := HO3.out.g3
    have p3 := HO3.out.fz 3
    have o4 := HO3.out.g4
    have p4 := HO3.out.fz 4
    have ol3 := HO3.out.lt
    obtain ⟨w4, hw4⟩ : ∃ x, ((w3.setCell ⟨w1.heap.size, 3, none⟩ (.int .u64 d.1.toNat)).setCell ⟨w1.heap.size, 4, none⟩ (.int .u64 d.2.toNat)) = x := ⟨_, rfl⟩
    have HO4 := lid (((HO3.out.s3 (.int .u64 d.1.toNat)).s4 (.int .u64 d.2.toNat)))
    rw [hw4] at HO4
    have HZ4 := lid (show Oc w.heap.size (.int .i64 0) (.string ⟨#[]⟩) (.slice none 0 0) (.int .u64 0) (.int .u64 0) (.slice none 0 0) (.string ⟨#[]⟩) (.int .i64 0) (.string ⟨#[]⟩) w4 by rw [← hw4]; exact (HZ3.out.other (by omega)).other (by omega))
    have HR4 := HR3.out
    replace HR4 := lid (show Rb 57 (w.heap.size + 1) _ w4 by rw [← hw4]; exact (HR4.other (by omega)).other (by omega))
    have HB4 : Hid (Below w.heap.size w w4) := lid (by rw [← hw4]; exact (HB3.out.setCell (p := ⟨w1.heap.size, 3, none⟩) (by show _ ≤ w1.heap.size; omega) _).setCell (p := ⟨w1.heap.size, 4, none⟩) (by show _ ≤ w1.heap.size; omega) _)
    have s4 : w1.heap.size + 1 ≤ w4.heap.size := by rw [← hw4]; simpa using s3
    have CP := lid (rListD_any (w.heap.size + 1) s2 w4 HR4.out L2.out)
    have L3 := lid (Nat.le_trans (rListD_len (s := s2)) L2.out)
    have hs3 := lid (Nat.le_trans (rListD_len (s := s2)) hs2.out)
    clear HO3 HZ3 HR3 HB3
    go_wp2_with fail
    clear hw4 o3 o4 p3 p4
    obtain ⟨pl, hp⟩ : ∃ r, (rList rDig 8 s2).1 = r := ⟨_, rfl⟩
    obtain ⟨s3', hs'⟩ : ∃ r, (rList rDig 8 s2).2 = r := ⟨_, rfl⟩
    rw [hp, hs'] at CP
    rw [hs'] at L3 hs3
    (with_reducible refine (CP.out).mono ?_); rintro e w5 ⟨v, rfl, hown, hR, hK⟩
    have HO5 := lid (HO4.out.kp hK (by omega))
    have HZ5 := lid (HZ4.out.kp hK (by omega))
    have HB5 := lid (hK.below HB4.out (by omega))
    have HR5 := lid hR
    have s5 : w1.heap.size + 1 ≤ w5.heap.size := by have := hK.size; omega
    obtain ⟨ap, cp, rfl⟩ := own_slice hown
    have HOW5 := lid (show w5.ownsRow (w1.heap.size + 1) 25 2 (.slice ap pl.length cp) pl.length (dcells pl) by exact ownsRow_base hown s4)
    clear hown
    clear hR hK HO4 HZ4 HB4 HR4
    clear CP
    have o5 := HO5.out.g5
    have p5 := HO5.out.fz 5
    have ol5 := HO5.out.lt
    obtain ⟨w6, hw6⟩ : ∃ x, (w5.setCell ⟨w1.heap.size, 5, none⟩ (.slice ap pl.length cp)) = x := ⟨_, rfl⟩
    have HO6 := lid ((HO5.out.s5 (.slice ap pl.length cp)))
    rw [hw6] at HO6
    have HZ6 := lid (show Oc w.heap.size (.int .i64 0) (.string ⟨#[]⟩) (.slice none 0 0) (.int .u64 0) (.int .u64 0) (.slice none 0 0) (.string ⟨#[]⟩) (.int .i64 0) (.string ⟨#[]⟩) w6 by rw [← hw6]; exact HZ5.out.other (by omega))
    have HR6 := HR5.out
    replace HR6 := lid (show Rb 57 (w.heap.size + 1) _ w6 by rw [← hw6]; exact HR6.other (by omega))
    have HB6 : Hid (Below w.heap.size w w6) := lid (by rw [← hw6]; exact HB5.out.setCell (p := ⟨w1.heap.size, 5, none⟩) (by show _ ≤ w1.heap.size; omega) _)
    have s6 : w1.heap.size + 1 ≤ w6.heap.size := by rw [← hw6]; simpa using s5
    have HOW6 := lid (show w6.ownsRow (w1.heap.size + 1) 25 2 (.slice ap pl.length cp) pl.length (dcells pl) by rw [← hw6]; exact own_block HOW5.out fun g hg => Below.heap_setCell _ _ _ _ (by have := (HOW5.out.lt g hg).1; simp; omega))
    have CP := lid (rString_any (w.heap.size + 1) s3' w6 HR6.out L3.out)
    have L6 := lid (Nat.le_trans (rStr_len (s := s3')) L3.out)
    have N6 := lid (Nat.le_trans (getX_le s3'.1).2.2 (show 65536 ≤ maxLen by decide))
    clear HO5 HZ5 HR5 HB5 HOW5
    go_wp2_with fail
    clear hw6 o5 p5
    obtain ⟨a, ha⟩ : ∃ r, (rStr s3').1 = r := ⟨_, rfl⟩
    obtain ⟨s6', hs6⟩ : ∃ r, (rStr s3').2 = r := ⟨_, rfl⟩
    rw [ha, hs6] at CP
    rw [hs6] at L6
    replace N6 : Hid (a.length ≤ maxLen) := by rw [← ha]; exact N6
    (with_reducible refine (CP.out).mono ?_); rintro e w7 ⟨rfl, hR, hK⟩
    have HO7 := lid (HO6.out.kp hK (by omega))
    have HZ7 := lid (HZ6.out.kp hK (by omega))
    have HB7 := lid (hK.below HB6.out (by omega))
    have HR7 := lid hR
    have s7 : w1.heap.size + 1 ≤ w7.heap.size := by have := hK.size; omega
    have HOW7 := lid (own_kp HOW6.out hK (by omega))
    clear hR hK HO6 HZ6 HB6 HR6
    clear CP
    have o6 := HO7.out.g6
    have p6 := HO7.out.fz 6
    have ol7 := HO7.out.lt
    obtain ⟨w8, hw8⟩ : ∃ x, (w7.setCell ⟨w1.heap.size, 6, none⟩ (.string (bstr a))) = x := ⟨_, rfl⟩
    have HO8 := lid ((HO7.out.s6 (.string (bstr a))))
    rw [hw8] at HO8
    have HZ8 := lid (show Oc w.heap.size (.int .i64 0) (.string ⟨#[]⟩) (.slice none 0 0) (.int .u64 0) (.int .u64 0) (.slice none 0 0) (.string ⟨#[]⟩) (.int .i64 0) (.string ⟨#[]⟩) w8 by rw [← hw8]; exact HZ7.out.other (by omega))
    have HR8 := HR7.out
    replace HR8 := lid (show Rb 57 (w.heap.size + 1) _ w8 by rw [← hw8]; exact HR8.other (by omega))
    have HB8 : Hid (Below w.heap.size w w8) := lid (by rw [← hw8]; exact HB7.out.setCell (p := ⟨w1.heap.size, 6, none⟩) (by show _ ≤ w1.heap.size; omega) _)
    have s8 : w1.heap.size + 1 ≤ w8.heap.size := by rw [← hw8]; simpa using s7
    have HOW8 := lid (show w8.ownsRow (w1.heap.size + 1) 25 2 (.slice ap pl.length cp) pl.length (dcells pl) by rw [← hw8]; exact own_block HOW7.out fun g hg => Below.heap_setCell _ _ _ _ (by have := (HOW7.out.lt g hg).1; simp; omega))
    have CP := lid (rNumber_any (w.heap.size + 1) s6' w8 HR8.out L6.out)
    have L8 := lid (Nat.le_trans (rNum_len (s := s6')) L6.out)

    clear HO7 HZ7 HR7 HB7 HOW7
    go_wp2_with fail
    clear hw8 o6 p6
    obtain ⟨tm, htm⟩ : ∃ r, (rNum s6').1 = r := ⟨_, rfl⟩
    obtain ⟨s8', hs8⟩ : ∃ r, (rNum s6').2 = r := ⟨_, rfl⟩
    rw [htm, hs8] at CP
    rw [hs8] at L8

    (with_reducible refine (CP.out).mono ?_); rintro e w9 ⟨rfl, hR, hK⟩
    have HO9 := lid (HO8.out.kp hK (by omega))
    have HZ9 := lid (HZ8.out.kp hK (by omega))
    have HB9 := lid (hK.below HB8.out (by omega))
    have HR9 := lid hR
    have s9 : w1.heap.size + 1 ≤ w9.heap.size := by have := hK.size; omega
    have HOW9 := lid (own_kp HOW8.out hK (by omega))
    clear hR hK HO8 HZ8 HB8 HR8
    clear CP
    have o7 := HO9.out.g7
    have p7 := HO9.out.fz 7
    have ol9 := HO9.out.lt
    obtain ⟨w10, hw10⟩ : ∃ x, (w9.setCell ⟨w1.heap.size, 7, none⟩ (.int .i64 tm)) = x := ⟨_, rfl⟩
    have HO10 := lid ((HO9.out.s7 (.int .i64 tm)))
    rw [hw10] at HO10
    have HZ10 := lid (show Oc w.heap.size (.int .i64 0) (.string ⟨#[]⟩) (.slice none 0 0) (.int .u64 0) (.int .u64 0) (.slice none 0 0) (.string ⟨#[]⟩) (.int .i64 0) (.string ⟨#[]⟩) w10 by rw [← hw10]; exact HZ9.out.other (by omega))
    have HR10 := HR9.out
    replace HR10 := lid (show Rb 57 (w.heap.size + 1) _ w10 by rw [← hw10]; exact HR10.other (by omega))
    have HB10 : Hid (Below w.heap.size w w10) := lid (by rw [← hw10]; exact HB9.out.setCell (p := ⟨w1.heap.size, 7, none⟩) (by show _ ≤ w1.heap.size; omega) _)
    have s10 : w1.heap.size + 1 ≤ w10.heap.size := by rw [← hw10]; simpa using s9
    have HOW10 := lid (show w10.ownsRow (w1.heap.size + 1) 25 2 (.slice ap pl.length cp) pl.length (dcells pl) by rw [← hw10]; exact own_block HOW9.out fun g hg => Below.heap_setCell _ _ _ _ (by have := (HOW9.out.lt g hg).1; simp; omega))
    have CP := lid (rString_any (w.heap.size + 1) s8' w10 HR10.out L8.out)
    have L10 := lid (Nat.le_trans (rStr_len (s := s8')) L8.out)
    have N10 := lid (Nat.le_trans (getX_le s8'.1).2.2 (show 65536 ≤ maxLen by decide))
    clear HO9 HZ9 HR9 HB9 HOW9
    go_wp2_with fail
    clear hw10 o7 p7
    obtain ⟨g, hg⟩ : ∃ r, (rStr s8').1 = r := ⟨_, rfl⟩
    obtain ⟨s10', hs10⟩ : ∃ r, (rStr s8').2 = r := ⟨_, rfl⟩
    rw [hg, hs10] at CP
    rw [hs10] at L10
    replace N10 : Hid (g.length ≤ maxLen) := by rw [← hg]; exact N10
    (with_reducible refine (CP.out).mono ?_); rintro e w11 ⟨rfl, hR, hK⟩
    have HO11 := lid (HO10.out.kp hK (by omega))
    have HZ11 := lid (HZ10.out.kp hK (by omega))
    have HB11 := lid (hK.below HB10.out (by omega))
    have HR11 := lid hR
    have s11 : w1.heap.size + 1 ≤ w11.heap.size := by have := hK.size; omega
    have HOW11 := lid (own_kp HOW10.out hK (by omega))
    clear hR hK HO10 HZ10 HB10 HR10
    clear CP
    have o8 := HO11.out.g8
    have p8 := HO11.out.fz 8
    have ol11 := HO11.out.lt
    obtain ⟨w12, hw12⟩ : ∃ x, (w11.setCell ⟨w1.heap.size, 8, none⟩ (.string (bstr g))) = x := ⟨_, rfl⟩
    have HO12 := lid ((HO11.out.s8 (.string (bstr g))))
    rw [hw12] at HO12
    have HZ12 := lid (show Oc w.heap.size (.int .i64 0) (.string ⟨#[]⟩) (.slice none 0 0) (.int .u64 0) (.int .u64 0) (.slice none 0 0) (.string ⟨#[]⟩) (.int .i64 0) (.string ⟨#[]⟩) w12 by rw [← hw12]; exact HZ11.out.other (by omega))
    have HR12 := HR11.out
    replace HR12 := lid (show Rb 57 (w.heap.size + 1) _ w12 by rw [← hw12]; exact HR12.other (by omega))
    have HB12 : Hid (Below w.heap.size w w12) := lid (by rw [← hw12]; exact HB11.out.setCell (p := ⟨w1.heap.size, 8, none⟩) (by show _ ≤ w1.heap.size; omega) _)
    have s12 : w1.heap.size + 1 ≤ w12.heap.size := by rw [← hw12]; simpa using s11
    have HOW12 := lid (show w12.ownsRow (w1.heap.size + 1) 25 2 (.slice ap pl.length cp) pl.length (dcells pl) by rw [← hw12]; exact own_block HOW11.out fun g hg => Below.heap_setCell _ _ _ _ (by have := (HOW11.out.lt g hg).1; simp; omega))
    replace HD : Hid (decR l = (obC d pl a tm g, s10')) := lid (by rw [HD.out]; unfold decRC; simp only [hd, hs, hp, hs', ha, hs6, htm, hs8, hg, hs10])
    clear hd hs hp hs' ha hs6 htm hs8 hg hs10
    have HP : ∃ (ae : Option Addr) (ne ce : Nat) (ap : Option Addr) (np cp : Nat), Oc w1.heap.size (.int .i64 (obC d pl a tm g).kind) (.string (obC d pl a tm g).data) (.slice ae ne ce) (.int .u64 (obC d pl a tm g).tree.1.toNat) (.int .u64 (obC d pl a tm g).tree.2.toNat) (.slice ap np cp) (.string (obC d pl a tm g).auth) (.int .i64 (obC d pl a tm g).time) (.string (obC d pl a tm g).msg) w12 ∧ ObO (w1.heap.size + 1) (obC d pl a tm g) ae ne ce ap np cp w12 := ⟨none, 0, 0, ap, pl.length, cp, (by have := HO12.out; rw [KK.out] at this; exact this), World.ownsRow_nil _ _ _ _, HOW12.out, rfl, rfl, (by intro e he; cases he), empty_60, N6.out, N10.out⟩
    obtain ⟨o, ho⟩ : ∃ o, obC d pl a tm g = o := ⟨_, rfl⟩
    rw [ho] at HP HD
    obtain ⟨ae, ne, ce, ap, np, cp, hO, hX⟩ := HP
    have HO := lid hO
    have HX := lid hX
    have HZ := HZ12
    have HR := HR12
    have HB := HB12
    obtain ⟨rest, bad⟩ := s10'
    clear ho hO hX HO12 HZ12 HR12 HB12 HOW11 HOW12 HO11 HZ11 HR11 HB11
    obtain ⟨W, rfl⟩ : ∃ W, W = w12 := ⟨_, rfl⟩
    have hOl := HO.out.lt
    have hbl := HR.out.lt
    have hzl := HZ.out.lt
    have r1 : W.cell? ⟨w.heap.size + 1, 1, none⟩ = some (.bool bad) := HR.out.c1
    have r0 : W.cell? ⟨w.heap.size + 1, 0, none⟩ = some (.string (bstr rest)) := HR.out.c0
    have y0 := HZ.out.g0
    have q0 := HZ.out.fz 0
    have y1 := HZ.out.g1
    have q1 := HZ.out.fz 1
    have y2 := HZ.out.g2
    have q2 := HZ.out.fz 2
    have y3 := HZ.out.g3
    have q3 := HZ.out.fz 3
    have y4 := HZ.out.g4
    have q4 := HZ.out.fz 4
    have y5 := HZ.out.g5
    have q5 := HZ.out.fz 5
    have y6 := HZ.out.g6
    have q6 := HZ.out.fz 6
    have y7 := HZ.out.g7
    have q7 := HZ.out.fz 7
    have y8 := HZ.out.g8
    have q8 := HZ.out.fz 8
    have x0 := HO.out.g0
    have x1 := HO.out.g1
    have x2 := HO.out.g2
    have x3 := HO.out.g3
    have x4 := HO.out.g4
    have x5 := HO.out.g5
    have x6 := HO.out.g6
    have x7 := HO.out.g7
    have x8 := HO.out.g8
    have NO := lid (dec_no (l := l))
    have YES := lid (dec_yes (l := l))
    cases bad with
    | true =>
      have HV := lid (NO.out (by unfold okR; rw [HD.out]; simp))
      clear x0 x1 x2 x3 x4 x5 x6 x7 x8
      go_wp2_with fail
      have X := set9_oc (d0 := (.int .i64 0)) (d1 := (.string ⟨#[]⟩)) (d2 := (.slice none 0 0)) (d3 := (.int .u64 0)) (d4 := (.int .u64 0)) (d5 := (.slice none 0 0)) (d6 := (.string ⟨#[]⟩)) (d7 := (.int .i64 0)) (d8 := (.string ⟨#[]⟩)) HZ.out
      have z0 := X.g0
      have z1 := X.g1
      have z2 := X.g2
      have z3 := X.g3
      have z4 := X.g4
      have z5 := X.g5
      have z6 := X.g6
      have z7 := X.g7
      have z8 := X.g8
      unfold set9 at z0 z1 z2 z3 z4 z5 z6 z7 z8
      refine bodyPost_ret (v := .tuple #[.agg #[(.int .i64 0), (.string ⟨#[]⟩), (.slice none 0 0), (.int .u64 0), (.int .u64 0), (.slice none 0 0), (.string ⟨#[]⟩), (.int .i64 0), (.string ⟨#[]⟩)], .int .i64 13]) (by simp [results, Try.results23, go_sem, z0, z1, z2, z3, z4, z5, z6, z7, z8]) rfl ?_
      exact ⟨none, none, 0, 0, 0, 0, by rw [HV.out.1, HV.out.2]; rfl, Nat.le_refl _, by rw [HV.out.1]; exact none_obj _, set9_below _ _ _ _ _ _ _ _ _ HB.out (Nat.le_refl _)⟩
    | false =>
    have HT := lid (bstr_nil rest)
    cases hr : decide (rest = []) with
    | false =>
      rw [hr] at HT
      have t0 := HT.out
      have HV := lid (NO.out (by unfold okR; rw [HD.out]; simp only [Prod.mk.injEq]; simp only [decide_eq_false_iff_not] at hr; simp [hr]))
      clear x0 x1 x2 x3 x4 x5 x6 x7 x8 hr
      go_wp2_with fail
      have X := set9_oc (d0 := (.int .i64 0)) (d1 := (.string ⟨#[]⟩)) (d2 := (.slice none 0 0)) (d3 := (.int .u64 0)) (d4 := (.int .u64 0)) (d5 := (.slice none 0 0)) (d6 := (.string ⟨#[]⟩)) (d7 := (.int .i64 0)) (d8 := (.string ⟨#[]⟩)) HZ.out
      have z0 := X.g0
      have z1 := X.g1
      have z2 := X.g2
      have z3 := X.g3
      have z4 := X.g4
      have z5 := X.g5
      have z6 := X.g6
      have z7 := X.g7
      have z8 := X.g8
      unfold set9 at z0 z1 z2 z3 z4 z5 z6 z7 z8
      refine bodyPost_ret (v := .tuple #[.agg #[(.int .i64 0), (.string ⟨#[]⟩), (.slice none 0 0), (.int .u64 0), (.int .u64 0), (.slice none 0 0), (.string ⟨#[]⟩), (.int .i64 0), (.string ⟨#[]⟩)], .int .i64 13]) (by simp [results, Try.results23, go_sem, z0, z1, z2, z3, z4, z5, z6, z7, z8]) rfl ?_
      exact ⟨none, none, 0, 0, 0, 0, by rw [HV.out.1, HV.out.2]; rfl, Nat.le_refl _, by rw [HV.out.1]; exact none_obj _, set9_below _ _ _ _ _ _ _ _ _ HB.out (Nat.le_refl _)⟩
    | true =>
    rw [hr] at HT
    have t0 := HT.out
    have HNIL := lid (of_decide_eq_true hr)
    obtain ⟨hA, hcp⟩ := HX.out.obj
    have CC := lid (objCheck_any o ae ap ne ce np cp W hA hcp HX.out.2.2.2.2.2.1)
    clear hA hcp hr y0 q0 y1 q1 y2 q2 y3 q3 y4 q4 y5 q5 y6 q6 y7 q7 y8 q8
    go_wp2_with fail
    clear x0 x1 x2 x3 x4 x5 x6 x7 x8 r0 r1 t0
    (with_reducible refine (CC.out).mono ?_); rintro e V ⟨rfl, hbV⟩
    have HO2 := lid (HO.out.below hbV)
    have HZ2 := lid (HZ.out.below hbV)
    have HX2 : Hid (ObO (w1.heap.size + 1) o ae ne ce ap np cp V) := lid (HX.out.heap fun k _ hk => hbV.block k hk)
    have HB2 : Hid (Below w.heap.size w V) := lid (HB.out.trans (hbV.mono HB.out.size))
    have y0 := HZ2.out.g0
    have q0 := HZ2.out.fz 0
    have y1 := HZ2.out.g1
    have q1 := HZ2.out.fz 1
    have y2 := HZ2.out.g2
    have q2 := HZ2.out.fz 2
    have y3 := HZ2.out.g3
    have q3 := HZ2.out.fz 3
    have y4 := HZ2.out.g4
    have q4 := HZ2.out.fz 4
    have y5 := HZ2.out.g5
    have q5 := HZ2.out.fz 5
    have y6 := HZ2.out.g6
    have q6 := HZ2.out.fz 6
    have y7 := HZ2.out.g7
    have q7 := HZ2.out.fz 7
    have y8 := HZ2.out.g8
    have q8 := HZ2.out.fz 8
    have x0 := HO2.out.g0
    have x1 := HO2.out.g1
    have x2 := HO2.out.g2
    have x3 := HO2.out.g3
    have x4 := HO2.out.g4
    have x5 := HO2.out.g5
    have x6 := HO2.out.g6
    have x7 := HO2.out.g7
    have x8 := HO2.out.g8
    have hOl2 := HO2.out.lt
    have hzl2 := HZ2.out.lt
    clear CC HO HZ HX HB
    by_cases hv : checkO o = 0
    · have HV := lid (YES.out (by unfold okR; rw [HD.out, HNIL.out]; simp [hv]))
      rw [hv]
      clear hv
      go_wp2_with fail
      have X := set9_oc (d0 := (.int .i64 o.kind)) (d1 := (.string o.data)) (d2 := (.slice ae ne ce)) (d3 := (.int .u64 o.tree.1.toNat)) (d4 := (.int .u64 o.tree.2.toNat)) (d5 := (.slice ap np cp)) (d6 := (.string o.auth)) (d7 := (.int .i64 o.time)) (d8 := (.string o.msg)) HZ2.out
      have z0 := X.g0
      have z1 := X.g1
      have z2 := X.g2
      have z3 := X.g3
      have z4 := X.g4
      have z5 := X.g5
      have z6 := X.g6
      have z7 := X.g7
      have z8 := X.g8
      unfold set9 at z0 z1 z2 z3 z4 z5 z6 z7 z8
      refine bodyPost_ret (v := .tuple #[.agg #[(.int .i64 o.kind), (.string o.data), (.slice ae ne ce), (.int .u64 o.tree.1.toNat), (.int .u64 o.tree.2.toNat), (.slice ap np cp), (.string o.auth), (.int .i64 o.time), (.string o.msg)], .int .i64 0]) (by simp [results, Try.results23, go_sem, z0, z1, z2, z3, z4, z5, z6, z7, z8]) rfl ?_
      refine ⟨ae, ap, ne, ce, np, cp, by rw [HV.out.1, HV.out.2, HD.out], (HX2.out.obj).2, ?_, set9_below _ _ _ _ _ _ _ _ _ HB2.out (Nat.le_refl _)⟩
      rw [HV.out.1, HD.out]
      exact (ObO.obj (HX2.out.heap (w' := set9 V w.heap.size (.int .i64 o.kind) (.string o.data) (.slice ae ne ce) (.int .u64 o.tree.1.toNat) (.int .u64 o.tree.2.toNat) (.slice ap np cp) (.string o.auth) (.int .i64 o.time) (.string o.msg)) fun k hk _ => set9_heap _ _ _ _ _ _ _ _ _ _ _ (by have := hbase.out; omega))).1
    · have HV := lid (NO.out (by unfold okR; rw [HD.out]; simp [hv]))
      have uK : (checkO o != 0) = true := by simpa using hv
      clear hv x0 x1 x2 x3 x4 x5 x6 x7 x8
      go_wp2_with fail
      have X := set9_oc (d0 := (.int .i64 0)) (d1 := (.string ⟨#[]⟩)) (d2 := (.slice none 0 0)) (d3 := (.int .u64 0)) (d4 := (.int .u64 0)) (d5 := (.slice none 0 0)) (d6 := (.string ⟨#[]⟩)) (d7 := (.int .i64 0)) (d8 := (.string ⟨#[]⟩)) HZ2.out
      have z0 := X.g0
      have z1 := X.g1
      have z2 := X.g2
      have z3 := X.g3
      have z4 := X.g4
      have z5 := X.g5
      have z6 := X.g6
      have z7 := X.g7
      have z8 := X.g8
      unfold set9 at z0 z1 z2 z3 z4 z5 z6 z7 z8
      refine bodyPost_ret (v := .tuple #[.agg #[(.int .i64 0), (.string ⟨#[]⟩), (.slice none 0 0), (.int .u64 0), (.int .u64 0), (.slice none 0 0), (.string ⟨#[]⟩), (.int .i64 0), (.string ⟨#[]⟩)], .int .i64 13]) (by simp [results, Try.results23, go_sem, z0, z1, z2, z3, z4, z5, z6, z7, z8]) rfl ?_
      exact ⟨none, none, 0, 0, 0, 0, by rw [HV.out.1, HV.out.2]; rfl, Nat.le_refl _, by rw [HV.out.1]; exact none_obj _, set9_below _ _ _ _ _ _ _ _ _ HB2.out (Nat.le_refl _)⟩
  have n3 := kk
  clear kk
  have u1 : ((k : Int) == 1) = false := by simp; omega
  have u4 : ((k : Int) == 4) = false := by simp; omega
  have u2 : ((k : Int) == 2) = false := by simp; omega
  have u3 : ((k : Int) == 3) = false := by simp; omega
  replace HD : Hid (decR l = (ob0 k, s1)) := lid (HD.out.trans (decRk_0 (by omega) n2 n3 s1))
  clear n1 n2 n3 n4
  have HKO : Hid ((k : Int) = (ob0 k).kind) := lid rfl
  have HP : ∃ (ae : Option Addr) (ne ce : Nat) (ap : Option Addr) (np cp : Nat), Oc w1.heap.size (.int .i64 (ob0 k).kind) (.string (ob0 k).data) (.slice ae ne ce) (.int .u64 (ob0 k).tree.1.toNat) (.int .u64 (ob0 k).tree.2.toNat) (.slice ap np cp) (.string (ob0 k).auth) (.int .i64 (ob0 k).time) (.string (ob0 k).msg) w2 ∧ ObO (w1.heap.size + 1) (ob0 k) ae ne ce ap np cp w2 := ⟨none, 0, 0, none, 0, 0, HO2.out, World.ownsRow_nil _ _ _ _, World.ownsRow_nil _ _ _ _, rfl, rfl, (by intro e he; cases he), empty_60, empty_max, empty_max⟩
  obtain ⟨o, ho⟩ : ∃ o, ob0 k = o := ⟨_, rfl⟩
  rw [ho] at HP HD HKO
  obtain ⟨ae, ne, ce, ap, np, cp, hO, hX⟩ := HP
  have HO := lid hO
  have HX := lid hX
  have HZ := HZ2
  have HR := HR2
  have HB := HB2
  obtain ⟨rest, bad⟩ := s1
  clear ho hO hX HO2 HZ2 HR2 HB2 
  obtain ⟨W, rfl⟩ : ∃ W, W = w2 := ⟨_, rfl⟩
  have hOl := HO.out.lt
  have hbl := HR.out.lt
  have hzl := HZ.out.lt
  have r1 : W.cell? ⟨w.heap.size + 1, 1, none⟩ = some (.bool bad) := HR.out.c1
  have r0 : W.cell? ⟨w.heap.size + 1, 0, none⟩ = some (.string (bstr rest)) := HR.out.c0
  have y0 := HZ.out.g0
  have q0 := HZ.out.fz 0
  have y1 := HZ.out.g1
  have q1 := HZ.out.fz 1
  have y2 := HZ.out.g2
  have q2 := HZ.out.fz 2
  have y3 := HZ.out.g3
  have q3 := HZ.out.fz 3
  have y4 := HZ.out.g4
  have q4 := HZ.out.fz 4
  have y5 := HZ.out.g5
  have q5 := HZ.out.fz 5
  have y6 := HZ.out.g6
  have q6 := HZ.out.fz 6
  have y7 := HZ.out.g7
  have q7 := HZ.out.fz 7
  have y8 := HZ.out.g8
  have q8 := HZ.out.fz 8
  have x0 := HO.out.g0
  have x1 := HO.out.g1
  have x2 := HO.out.g2
  have x3 := HO.out.g3
  have x4 := HO.out.g4
  have x5 := HO.out.g5
  have x6 := HO.out.g6
  have x7 := HO.out.g7
  have x8 := HO.out.g8
  have NO := lid (dec_no (l := l))
  have YES := lid (dec_yes (l := l))
  cases bad with
  | true =>
    have HV := lid (NO.out (by unfold okR; rw [HD.out]; simp))
    clear x0 x1 x2 x3 x4 x5 x6 x7 x8
    go_wp2_with (with_reducible refine swap_world HW.out ?_)
    have X := set9_oc (d0 := (.int .i64 0)) (d1 := (.string ⟨#[]⟩)) (d2 := (.slice none 0 0)) (d3 := (.int .u64 0)) (d4 := (.int .u64 0)) (d5 := (.slice none 0 0)) (d6 := (.string ⟨#[]⟩)) (d7 := (.int .i64 0)) (d8 := (.string ⟨#[]⟩)) HZ.out
    have z0 := X.g0
    have z1 := X.g1
    have z2 := X.g2
    have z3 := X.g3
    have z4 := X.g4
    have z5 := X.g5
    have z6 := X.g6
    have z7 := X.g7
    have z8 := X.g8
    unfold set9 at z0 z1 z2 z3 z4 z5 z6 z7 z8
    refine bodyPost_ret (v := .tuple #[.agg #[(.int .i64 0), (.string ⟨#[]⟩), (.slice none 0 0), (.int .u64 0), (.int .u64 0), (.slice none 0 0), (.string ⟨#[]⟩), (.int .i64 0), (.string ⟨#[]⟩)], .int .i64 13]) (by simp [results, Try.results23, go_sem, z0, z1, z2, z3, z4, z5, z6, z7, z8]) rfl ?_
    exact ⟨none, none, 0, 0, 0, 0, by rw [HV.out.1, HV.out.2]; rfl, Nat.le_refl _, by rw [HV.out.1]; exact none_obj _, set9_below _ _ _ _ _ _ _ _ _ HB.out (Nat.le_refl _)⟩
  | false =>
  have HT := lid (bstr_nil rest)
  cases hr : decide (rest = []) with
  | false =>
    rw [hr] at HT
    have t0 := HT.out
    have HV := lid (NO.out (by unfold okR; rw [HD.out]; simp only [Prod.mk.injEq]; simp only [decide_eq_false_iff_not] at hr; simp [hr]))
    clear x0 x1 x2 x3 x4 x5 x6 x7 x8 hr
    go_wp2_with (with_reducible refine swap_world HW.out ?_)
    have X := set9_oc (d0 := (.int .i64 0)) (d1 := (.string ⟨#[]⟩)) (d2 := (.slice none 0 0)) (d3 := (.int .u64 0)) (d4 := (.int .u64 0)) (d5 := (.slice none 0 0)) (d6 := (.string ⟨#[]⟩)) (d7 := (.int .i64 0)) (d8 := (.string ⟨#[]⟩)) HZ.out
    have z0 := X.g0
    have z1 := X.g1
    have z2 := X.g2
    have z3 := X.g3
    have z4 := X.g4
    have z5 := X.g5
    have z6 := X.g6
    have z7 := X.g7
    have z8 := X.g8
    unfold set9 at z0 z1 z2 z3 z4 z5 z6 z7 z8
    refine bodyPost_ret (v := .tuple #[.agg #[(.int .i64 0), (.string ⟨#[]⟩), (.slice none 0 0), (.int .u64 0), (.int .u64 0), (.slice none 0 0), (.string ⟨#[]⟩), (.int .i64 0), (.string ⟨#[]⟩)], .int .i64 13]) (by simp [results, Try.results23, go_sem, z0, z1, z2, z3, z4, z5, z6, z7, z8]) rfl ?_
    exact ⟨none, none, 0, 0, 0, 0, by rw [HV.out.1, HV.out.2]; rfl, Nat.le_refl _, by rw [HV.out.1]; exact none_obj _, set9_below _ _ _ _ _ _ _ _ _ HB.out (Nat.le_refl _)⟩
  | true =>
  rw [hr] at HT
  have t0 := HT.out
  have HNIL := lid (of_decide_eq_true hr)
  obtain ⟨hA, hcp⟩ := HX.out.obj
  have CC := lid (objCheck_any o ae ap ne ce np cp W hA hcp HX.out.2.2.2.2.2.1)
  clear hA hcp hr y0 q0 y1 q1 y2 q2 y3 q3 y4 q4 y5 q5 y6 q6 y7 q7 y8 q8
  go_wp2_with (with_reducible refine swap_world HW.out ?_)
  clear x0 x1 x2 x3 x4 x5 x6 x7 x8 r0 r1 t0
  rw [HKO.out]
  (with_reducible refine (CC.out).mono ?_); rintro e V ⟨rfl, hbV⟩
  have HO2 := lid (HO.out.below hbV)
  have HZ2 := lid (HZ.out.below hbV)
  have HX2 : Hid (ObO (w1.heap.size + 1) o ae ne ce ap np cp V) := lid (HX.out.heap fun k _ hk => hbV.block k hk)
  have HB2 : Hid (Below w.heap.size w V) := lid (HB.out.trans (hbV.mono HB.out.size))
  have y0 := HZ2.out.g0
  have q0 := HZ2.out.fz 0
  have y1 := HZ2.out.g1
  have q1 := HZ2.out.fz 1
  have y2 := HZ2.out.g2
  have q2 := HZ2.out.fz 2
  have y3 := HZ2.out.g3
  have q3 := HZ2.out.fz 3
  have y4 := HZ2.out.g4
  have q4 := HZ2.out.fz 4
  have y5 := HZ2.out.g5
  have q5 := HZ2.out.fz 5
  have y6 := HZ2.out.g6
  have q6 := HZ2.out.fz 6
  have y7 := HZ2.out.g7
  have q7 := HZ2.out.fz 7
  have y8 := HZ2.out.g8
  have q8 := HZ2.out.fz 8
  have x0 := HO2.out.g0
  have x1 := HO2.out.g1
  have x2 := HO2.out.g2
  have x3 := HO2.out.g3
  have x4 := HO2.out.g4
  have x5 := HO2.out.g5
  have x6 := HO2.out.g6
  have x7 := HO2.out.g7
  have x8 := HO2.out.g8
  have hOl2 := HO2.out.lt
  have hzl2 := HZ2.out.lt
  clear CC HO HZ HX HB
  by_cases hv : checkO o = 0
  · have HV := lid (YES.out (by unfold okR; rw [HD.out, HNIL.out]; simp [hv]))
    rw [hv]
    clear hv
    go_wp2_with fail
    have X := set9_oc (d0 := (.int .i64 o.kind)) (d1 := (.string o.data)) (d2 := (.slice ae ne ce)) (d3 := (.int .u64 o.tree.1.toNat)) (d4 := (.int .u64 o.tree.2.toNat)) (d5 := (.slice ap np cp)) (d6 := (.string o.auth)) (d7 := (.int .i64 o.time)) (d8 := (.string o.msg)) HZ2.out
    have z0 := X.g0
    have z1 := X.g1
    have z2 := X.g2
    have z3 := X.g3
    have z4 := X.g4
    have z5 := X.g5
    have z6 := X.g6
    have z7 := X.g7
    have z8 := X.g8
    unfold set9 at z0 z1 z2 z3 z4 z5 z6 z7 z8
    refine bodyPost_ret (v := .tuple #[.agg #[(.int .i64 o.kind), (.string o.data), (.slice ae ne ce), (.int .u64 o.tree.1.toNat), (.int .u64 o.tree.2.toNat), (.slice ap np cp), (.string o.auth), (.int .i64 o.time), (.string o.msg)], .int .i64 0]) (by simp [results, Try.results23, go_sem, z0, z1, z2, z3, z4, z5, z6, z7, z8]) rfl ?_
    refine ⟨ae, ap, ne, ce, np, cp, by rw [HV.out.1, HV.out.2, HD.out], (HX2.out.obj).2, ?_, set9_below _ _ _ _ _ _ _ _ _ HB2.out (Nat.le_refl _)⟩
    rw [HV.out.1, HD.out]
    exact (ObO.obj (HX2.out.heap (w' := set9 V w.heap.size (.int .i64 o.kind) (.string o.data) (.slice ae ne ce) (.int .u64 o.tree.1.toNat) (.int .u64 o.tree.2.toNat) (.slice ap np cp) (.string o.auth) (.int .i64 o.time) (.string o.msg)) fun k hk _ => set9_heap _ _ _ _ _ _ _ _ _ _ _ (by have := hbase.out; omega))).1
  · have HV := lid (NO.out (by unfold okR; rw [HD.out]; simp [hv]))
    have uK : (checkO o != 0) = true := by simpa using hv
    clear hv x0 x1 x2 x3 x4 x5 x6 x7 x8
    go_wp2_with fail
    have X := set9_oc (d0 := (.int .i64 0)) (d1 := (.string ⟨#[]⟩)) (d2 := (.slice none 0 0)) (d3 := (.int .u64 0)) (d4 := (.int .u64 0)) (d5 := (.slice none 0 0)) (d6 := (.string ⟨#[]⟩)) (d7 := (.int .i64 0)) (d8 := (.string ⟨#[]⟩)) HZ2.out
    have z0 := X.g0
    have z1 := X.g1
    have z2 := X.g2
    have z3 := X.g3
    have z4 := X.g4
    have z5 := X.g5
    have z6 := X.g6
    have z7 := X.g7
    have z8 := X.g8
    unfold set9 at z0 z1 z2 z3 z4 z5 z6 z7 z8
    refine bodyPost_ret (v := .tuple #[.agg #[(.int .i64 0), (.string ⟨#[]⟩), (.slice none 0 0), (.int .u64 0), (.int .u64 0), (.slice none 0 0), (.string ⟨#[]⟩), (.int .i64 0), (.string ⟨#[]⟩)], .int .i64 13]) (by simp [results, Try.results23, go_sem, z0, z1, z2, z3, z4, z5, z6, z7, z8]) rfl ?_
    exact ⟨none, none, 0, 0, 0, 0, by rw [HV.out.1, HV.out.2]; rfl, Nat.le_refl _, by rw [HV.out.1]; exact none_obj _, set9_below _ _ _ _ _ _ _ _ _ HB2.out (Nat.le_refl _)⟩

end Go.Proofs.Ytmkdcnkbhnegnaa

namespace Go.Proofs.Ytmkdcnkbhnegnaa
open Go.RowKit

theorem decq_no {l : List UInt8} (h : okQ l = false) : oQ l = ob0 0 ∧ eQ l = 13 := by unfold oQ eQ; rw [if_neg (by rw [h]; decide), if_neg (by rw [h]; decide)]; exact ⟨rfl, rfl⟩
theorem decq_yes {l : List UInt8} (h : okQ l = true) : oQ l = (decQ l).1 ∧ eQ l = 0 := by unfold oQ eQ; rw [if_pos h, if_pos h]; exact ⟨rfl, rfl⟩
theorem qNum_len {s : Rd} : (qNum s).2.1.length ≤ s.1.length := by
  unfold qNum
  split
  · exact Nat.le_refl _
  · simp only [List.length_drop]; omega
theorem qStr_len {s : Rd} : (qStr s).2.1.length ≤ s.1.length := by
  unfold qStr
  split
  · exact Nat.le_refl _
  · simp only [List.length_drop]; omega
theorem qStr_max {s : Rd} : (qStr s).1.length ≤ s.1.length ∧ (qStr s).1.length ≤ 65536 := by
  unfold qStr
  split
  · exact ⟨Nat.zero_le _, Nat.zero_le _⟩
  · exact (getX_le s.1).2
theorem qDig_len {s : Rd} : (qDig s).2.1.length ≤ s.1.length := by
  unfold qDig
  split
  · exact Nat.le_refl _
  · simp only [List.length_drop]; omega
theorem qDig_less {s : Rd} (h : (qDig s).2.2 = false) : (qDig s).2.1.length + 1 ≤ s.1.length := by
  unfold qDig at h ⊢
  split at h
  · cases h
  · rename_i h1
    rw [if_neg h1]
    simp only [List.length_drop]
    omega
theorem qEnt_len {s : Rd} : (qEnt s).2.1.length ≤ s.1.length := by
  unfold qEnt qEnt3
  exact Nat.le_trans qDig_len (Nat.le_trans qNum_len qStr_len)
theorem qEnt_less {s : Rd} (h : (qEnt s).2.2 = false) : (qEnt s).2.1.length + 1 ≤ s.1.length := by
  unfold qEnt qEnt3 at h ⊢
  exact Nat.le_trans (qDig_less h) (Nat.le_trans qNum_len qStr_len)
theorem qNum_n (s : Rd) : (qNum s).1 ≤ 1099511627776 := by
  unfold qNum
  split
  · exact Nat.zero_le _
  · exact (getI_le s.1).2
theorem qEnt_name (s : Rd) : (qEnt s).1.1.size ≤ maxLen := by
  unfold qEnt qEnt3
  simp only [bstr_size]
  exact Nat.le_trans qStr_max.2 (by simp [maxLen])

set_option maxRecDepth 100000 in
set_option maxHeartbeats 32000000 in
theorem refDecode_any (s : ByteArray) (w : World) (hs : s.size ≤ 60000) :
    Calls Try.prog 24 #[.string s] w (DecE (oQ s.data.toList) (eQ s.data.toList) w) := by
  obtain ⟨l, hl⟩ : ∃ l, s.data.toList = l := ⟨_, rfl⟩
  have hll : l.length ≤ 60000 := by rw [← hl]; exact hs
  rw [hl]
  have hsl : s = bstr l := by rw [← hl]; rfl
  subst hsl
  clear hl hs
  obtain ⟨wa, hwa⟩ : ∃ x, (w.alloc (.cells #[.int .i64 0, .string ⟨#[]⟩, .slice none 0 0, .int .u64 0, .int .u64 0, .slice none 0 0, .string ⟨#[]⟩, .int .i64 0, .string ⟨#[]⟩] 28)).alloc (.cells #[.string (bstr l), .bool false] 66) = x := ⟨_, rfl⟩
  have za : wa.heap.size = w.heap.size + 2 := by rw [← hwa]; simp
  have hba : Below w.heap.size w wa := by rw [← hwa]; exact ((Below.refl _ _).alloc (Nat.le_refl _) _).alloc (by simp) _
  have HZa : Oc w.heap.size (.int .i64 0) (.string ⟨#[]⟩) (.slice none 0 0) (.int .u64 0) (.int .u64 0) (.slice none 0 0) (.string ⟨#[]⟩) (.int .i64 0) (.string ⟨#[]⟩) wa := by rw [← hwa]; exact (Oc.new _ _ _ _ _ _ _ _ _ _).below (ba _ _)
  have HRa : Rb 66 (w.heap.size + 1) (l, false) wa := by rw [← hwa]; unfold Rb; have := heap_alloc_new (w.alloc (.cells #[.int .i64 0, .string ⟨#[]⟩, .slice none 0 0, .int .u64 0, .int .u64 0, .slice none 0 0, .string ⟨#[]⟩, .int .i64 0, .string ⟨#[]⟩] 28)) (.cells #[.string (bstr l), .bool false] 66); rw [World.size_alloc] at this; exact this
  obtain ⟨w0, hw0⟩ : ∃ w0, wa.alloc (.cells #[.int .i64 0, .string ⟨#[]⟩, .slice none 0 0, .int .u64 0, .int .u64 0, .slice none 0 0, .string ⟨#[]⟩, .int .i64 0, .string ⟨#[]⟩] 28) = w0 := ⟨_, rfl⟩
  have hb0 : Below w.heap.size w w0 := by rw [← hw0]; exact hba.alloc (by omega) _
  have z0 : w0.heap.size = w.heap.size + 3 := by rw [← hw0, World.size_alloc, za]
  have HZ0 : Hid (Oc w.heap.size (.int .i64 0) (.string ⟨#[]⟩) (.slice none 0 0) (.int .u64 0) (.int .u64 0) (.slice none 0 0) (.string ⟨#[]⟩) (.int .i64 0) (.string ⟨#[]⟩) w0) := lid (by rw [← hw0]; exact HZa.below (ba _ _))
  have HR0 : Hid (Rb 66 (w.heap.size + 1) (l, false) w0) := lid (by rw [← hw0]; exact Rb.below HRa (ba _ _))
  have HO0 : Hid (Oc (w.heap.size + 1 + 1) (.int .i64 0) (.string ⟨#[]⟩) (.slice none 0 0) (.int .u64 0) (.int .u64 0) (.slice none 0 0) (.string ⟨#[]⟩) (.int .i64 0) (.string ⟨#[]⟩) w0) := lid (by have e := za; rw [show w.heap.size + 2 = w.heap.size + 1 + 1 from rfl] at e; rw [← hw0, ← e]; exact Oc.new _ _ _ _ _ _ _ _ _ _)
  have HB0 := lid hb0
  have HW := lid hwa
  have HW2 := lid hw0
  have CN := lid (qNumber_any (w.heap.size + 1) (l, false) w0 HR0.out (max_of hll))
  have HD : Hid (decQ l = decQk (qNum (l, false)).1 (qNum (l, false)).2) := lid rfl
  have hL1 := qNum_len (s := (l, false))
  obtain ⟨r, hr⟩ : ∃ r, qNum (l, false) = r := ⟨_, rfl⟩
  rw [hr] at CN HD hL1
  obtain ⟨k, s1⟩ := r
  replace HD : Hid (decQ l = decQk k s1) := HD
  have hs1 : Hid (s1.1.length ≤ 60000) := lid (Nat.le_trans hL1 hll)
  have L1 : Hid (s1.1.length ≤ maxLen) := lid (max_of hs1.out)
  have HLL := lid hll
  clear hw0 hwa HZa HRa hba za hr hL1 hll hb0
  go_enter Try.func24, Try.ntmps24
  go_wp2_with fail
  rw [HW.out, HW2.out]
  clear HW HW2
  (with_reducible refine (CN.out).mono ?_); rintro e w1 ⟨rfl, hR, hK⟩
  have HO1 := lid (HO0.out.kp hK (by omega))
  have HZ1 := lid (HZ0.out.kp hK (by omega))
  have HB1 := lid (hK.below HB0.out (by omega))
  have HR1 := lid hR
  have s1' : (w.heap.size + 1 + 1) + 1 ≤ w1.heap.size := by have := hK.size; omega
  clear hR hK HO0 HZ0 HB0 HR0
  have o0 := HO1.out.g0
  have p0 := HO1.out.fz 0
  have ol1 := HO1.out.lt
  obtain ⟨w2, hw2⟩ : ∃ x, (w1.setCell ⟨(w.heap.size + 1 + 1), 0, none⟩ (.int .i64 k)) = x := ⟨_, rfl⟩
  have HO2 := lid ((HO1.out.s0 (.int .i64 k)))
  rw [hw2] at HO2
  have HZ2 := lid (show Oc w.heap.size (.int .i64 0) (.string ⟨#[]⟩) (.slice none 0 0) (.int .u64 0) (.int .u64 0) (.slice none 0 0) (.string ⟨#[]⟩) (.int .i64 0) (.string ⟨#[]⟩) w2 by rw [← hw2]; exact HZ1.out.other (by omega))
  have HR2 := HR1.out
  replace HR2 := lid (show Rb 66 (w.heap.size + 1) _ w2 by rw [← hw2]; exact HR2.other (by omega))
  have HB2 : Hid (Below w.heap.size w w2) := lid (by rw [← hw2]; exact HB1.out.setCell (p := ⟨(w.heap.size + 1 + 1), 0, none⟩) (by show _ ≤ w.heap.size + 1 + 1; omega) _)
  have s2 : (w.heap.size + 1 + 1) + 1 ≤ w2.heap.size := by rw [← hw2]; simpa using s1'
  have k0 := HO2.out.g0
  have kl := HO2.out.lt
  clear CN HO1 HZ1 HR1 HB1 z0
  by_cases kk : k = 2
  case pos =>
    have u2 : ((k : Int) == 2) = true := by simp; omega
    have KK := lid kk
    clear kk
    replace HD : Hid (decQ l = (obE (qList qEnt s1).1, (qList qEnt s1).2)) := lid (HD.out.trans (by rw [KK.out]; exact decQk_E s1))
    have CS := lid (qNumber_any (w.heap.size + 1) s1 w2 HR2.out L1.out)
    have hn := qNum_n s1
    have HQ : Hid (qList qEnt s1 = many qEnt (qNum s1).1 (qNum s1).2) := lid rfl
    have L2 := lid (Nat.le_trans (qNum_len (s := s1)) L1.out)
    have hs2 := lid (Nat.le_trans (qNum_len (s := s1)) hs1.out)
    have HNM : Hid (∀ e ∈ (qList qEnt s1).1, e.1.size ≤ maxLen) := lid (many_all qEnt_name _ _)
    go_wp2_with fail
    clear hw2 k0 kl
    obtain ⟨r2, hr2⟩ : ∃ r, qNum s1 = r := ⟨_, rfl⟩
    rw [hr2] at CS HQ L2 hs2 hn
    obtain ⟨n, s2⟩ := r2
    replace hn : n ≤ 1099511627776 := hn
    have hn' : n ≤ 9223372036854775807 := by omega
    clear hr2 hn
    (with_reducible refine (CS.out).mono ?_); rintro e w3 ⟨rfl, hR, hK⟩
    have HO3 := lid (HO2.out.kp hK (by omega))
    have HZ3 := lid (HZ2.out.kp hK (by omega))
    have HB3 := lid (hK.below HB2.out (by omega))
    have HR3 := lid hR
    have s3 : (w.heap.size + 1 + 1) + 1 ≤ w3.heap.size := by have := hK.size; omega
    clear hR hK HO2 HZ2 HB2 HR2
    clear CS
    go_wp2_with fail
    go_loopw [7] (fun i wr => ∃ (j : Nat) (sk : Rd) (L : List Ent) (ae : Option Addr) (ce : Nat), j ≤ n ∧ i = .int .i64 j ∧ Hid (Oc (w.heap.size + 1 + 1) (.int .i64 k) (.string ⟨#[]⟩) (.slice ae j ce) (.int .u64 0) (.int .u64 0) (.slice none 0 0) (.string ⟨#[]⟩) (.int .i64 0) (.string ⟨#[]⟩) wr) ∧ Hid (wr.ownsRow ((w.heap.size + 1 + 1) + 1) 45 4 (.slice ae j ce) j (ecells L)) ∧ Hid (Rb 66 (w.heap.size + 1) sk wr) ∧ Hid (Oc w.heap.size (.int .i64 0) (.string ⟨#[]⟩) (.slice none 0 0) (.int .u64 0) (.int .u64 0) (.slice none 0 0) (.string ⟨#[]⟩) (.int .i64 0) (.string ⟨#[]⟩) wr) ∧ Hid (Below w.heap.size w wr) ∧ (w.heap.size + 1 + 1) + 1 ≤ wr.heap.size ∧ Hid (many qEnt n s2 = (L ++ (many qEnt (n - j) sk).1, (many qEnt (n - j) sk).2)) ∧ Hid (L.length = j) ∧ Hid (sk.2 = false → j + sk.1.length ≤ 60000) ∧ Hid (sk.1.length ≤ maxLen)) (fun i _ => n - (intOf i).toNat)
    case atStart => exact ⟨0, s2, [], none, 0, Nat.zero_le _, rfl, HO3, lid (World.ownsRow_nil _ _ _ _), HR3, HZ3, HB3, s3, lid (by simp), lid rfl, lid (fun _ => by have := hs2.out; omega), L2⟩
    case round =>
      clear HO3 HZ3 HR3 HB3 s3 L2 hs2
      obtain ⟨j, sk, L, ae, ce, hj, rfl, HOr, HOWr, HRr, HZr, HBr, sr, HM, HL, HC, HS⟩ := hrel
      obtain ⟨lk, bk⟩ := sk
      have hlb := HRr.out.lt
      have c1 : wr.cell? ⟨w.heap.size + 1, 1, none⟩ = some (.bool bk) := HRr.out.c1
      by_cases hlt : j < n
      · have dk : decide ((j : Int) < (n : Int)) = true := by simp; omega
        cases bk with
        | true =>
          have HXM : Hid (many qEnt n s2 = (L, (lk, true))) := lid (by rw [HM.out, many_bad rfl, List.append_nil])
          replace HD : Hid (decQ l = (obE L, (lk, true))) := lid (by rw [HD.out, HQ.out, HXM.out])
          replace HNM : Hid (∀ e ∈ L, e.1.size ≤ maxLen) := lid (by have := HNM.out; rw [HQ.out, HXM.out] at this; exact this)
          obtain rfl : j = L.length := HL.out.symm
          obtain ⟨sk, hsk⟩ : ∃ x : Rd, (lk, true) = x := ⟨_, rfl⟩
          rw [hsk] at HD HRr
          clear HQ HM HXM HS HC HL hsk
          obtain ⟨rest, bad⟩ := sk
          have HP : ∃ (ae : Option Addr) (ne ce : Nat) (ap : Option Addr) (np cp : Nat), Oc (w.heap.size + 1 + 1) (.int .i64 (obE L).kind) (.string (obE L).data) (.slice ae ne ce) (.int .u64 (obE L).tree.1.toNat) (.int .u64 (obE L).tree.2.toNat) (.slice ap np cp) (.string (obE L).auth) (.int .i64 (obE L).time) (.string (obE L).msg) wr ∧ ObO ((w.heap.size + 1 + 1) + 1) (obE L) ae ne ce ap np cp wr := ⟨ae, L.length, ce, none, 0, 0, (by have := HOr.out; rw [KK.out] at this; exact this), HOWr.out, World.ownsRow_nil _ _ _ _, rfl, rfl, HNM.out, empty_60, empty_max, empty_max⟩
          obtain ⟨o, ho⟩ : ∃ o, obE L = o := ⟨_, rfl⟩
          rw [ho] at HP HD
          obtain ⟨ae, ne, ce, ap, np, cp, hO, hX⟩ := HP
          have HO := lid hO
          have HX := lid hX
          have HZ := HZr
          have HR := HRr
          have HB := HBr
          clear ho hO hX HOr HZr HRr HBr HNM HOWr
          obtain ⟨W, rfl⟩ : ∃ W, W = wr := ⟨_, rfl⟩
          have hOl := HO.out.lt
          have x0 := HO.out.g0
          have x1 := HO.out.g1
          have x2 := HO.out.g2
          have x3 := HO.out.g3
          have x4 := HO.out.g4
          have x5 := HO.out.g5
          have x6 := HO.out.g6
          have x7 := HO.out.g7
          have x8 := HO.out.g8
          have NO := lid (decq_no (l := l))
          have YES := lid (decq_yes (l := l))
          obtain ⟨hA, hcp⟩ := HX.out.obj
          have CC := lid (refEncode_any o ae ap ne ce np cp W hA hcp HX.out.2.2.2.2.2.1)
          clear hA hcp
          go_wp2_with fail
          clear x0 x1 x2 x3 x4 x5 x6 x7 x8
          (with_reducible refine (CC.out).mono ?_); rintro e V ⟨rfl, hbV⟩
          have HO2 := lid (HO.out.below hbV)
          have HZ2 := lid (HZ.out.below hbV)
          have HR2 := lid (Rb.below HR.out hbV)
          have HX2 : Hid (ObO ((w.heap.size + 1 + 1) + 1) o ae ne ce ap np cp V) := lid (HX.out.heap fun k _ hk => hbV.block k hk)
          have HB2 : Hid (Below w.heap.size w V) := lid (HB.out.trans (hbV.mono HB.out.size))
          have y0 := HZ2.out.g0
          have q0 := HZ2.out.fz 0
          have y1 := HZ2.out.g1
          have q1 := HZ2.out.fz 1
          have y2 := HZ2.out.g2
          have q2 := HZ2.out.fz 2
          have y3 := HZ2.out.g3
          have q3 := HZ2.out.fz 3
          have y4 := HZ2.out.g4
          have q4 := HZ2.out.fz 4
          have y5 := HZ2.out.g5
          have q5 := HZ2.out.fz 5
          have y6 := HZ2.out.g6
          have q6 := HZ2.out.fz 6
          have y7 := HZ2.out.g7
          have q7 := HZ2.out.fz 7
          have y8 := HZ2.out.g8
          have q8 := HZ2.out.fz 8
          have x0 := HO2.out.g0
          have x1 := HO2.out.g1
          have x2 := HO2.out.g2
          have x3 := HO2.out.g3
          have x4 := HO2.out.g4
          have x5 := HO2.out.g5
          have x6 := HO2.out.g6
          have x7 := HO2.out.g7
          have x8 := HO2.out.g8
          have hOl2 := HO2.out.lt
          have hzl2 := HZ2.out.lt
          have hbl2 := HR2.out.lt
          have r1 : V.cell? ⟨w.heap.size + 1, 1, none⟩ = some (.bool bad) := HR2.out.c1
          clear CC HO HZ HX HB HR
          cases bad with
          | true =>
            have HV := lid (NO.out (by unfold okQ; rw [HD.out]; rfl))
            clear x0 x1 x2 x3 x4 x5 x6 x7 x8
            go_wp2_with fail
            have X := set9_oc (d0 := (.int .i64 0)) (d1 := (.string ⟨#[]⟩)) (d2 := (.slice none 0 0)) (d3 := (.int .u64 0)) (d4 := (.int .u64 0)) (d5 := (.slice none 0 0)) (d6 := (.string ⟨#[]⟩)) (d7 := (.int .i64 0)) (d8 := (.string ⟨#[]⟩)) HZ2.out
            have z0 := X.g0
            have z1 := X.g1
            have z2 := X.g2
            have z3 := X.g3
            have z4 := X.g4
            have z5 := X.g5
            have z6 := X.g6
            have z7 := X.g7
            have z8 := X.g8
            unfold set9 at z0 z1 z2 z3 z4 z5 z6 z7 z8
            refine bodyPost_ret (v := .tuple #[.agg #[(.int .i64 0), (.string ⟨#[]⟩), (.slice none 0 0), (.int .u64 0), (.int .u64 0), (.slice none 0 0), (.string ⟨#[]⟩), (.int .i64 0), (.string ⟨#[]⟩)], .int .i64 13]) (by simp [results, Try.results24, go_sem, z0, z1, z2, z3, z4, z5, z6, z7, z8]) rfl ?_
            exact ⟨none, none, 0, 0, 0, 0, by rw [HV.out.1, HV.out.2]; rfl, Nat.le_refl _, by rw [HV.out.1]; exact none_obj _, set9_below _ _ _ _ _ _ _ _ _ HB2.out (Nat.le_refl _)⟩
          | false =>
          by_cases hv : checkO o = 0
          case neg =>
            have HV := lid (NO.out (by unfold okQ; rw [HD.out]; simp [hv]))
            have uK : (checkO o != 0) = true := by simpa using hv
            clear hv x0 x1 x2 x3 x4 x5 x6 x7 x8
            go_wp2_with fail
            have X := set9_oc (d0 := (.int .i64 0)) (d1 := (.string ⟨#[]⟩)) (d2 := (.slice none 0 0)) (d3 := (.int .u64 0)) (d4 := (.int .u64 0)) (d5 := (.slice none 0 0)) (d6 := (.string ⟨#[]⟩)) (d7 := (.int .i64 0)) (d8 := (.string ⟨#[]⟩)) HZ2.out
            have z0 := X.g0
            have z1 := X.g1
            have z2 := X.g2
            have z3 := X.g3
            have z4 := X.g4
            have z5 := X.g5
            have z6 := X.g6
            have z7 := X.g7
            have z8 := X.g8
            unfold set9 at z0 z1 z2 z3 z4 z5 z6 z7 z8
            refine bodyPost_ret (v := .tuple #[.agg #[(.int .i64 0), (.string ⟨#[]⟩), (.slice none 0 0), (.int .u64 0), (.int .u64 0), (.slice none 0 0), (.string ⟨#[]⟩), (.int .i64 0), (.string ⟨#[]⟩)], .int .i64 13]) (by simp [results, Try.results24, go_sem, z0, z1, z2, z3, z4, z5, z6, z7, z8]) rfl ?_
            exact ⟨none, none, 0, 0, 0, 0, by rw [HV.out.1, HV.out.2]; rfl, Nat.le_refl _, by rw [HV.out.1]; exact none_obj _, set9_below _ _ _ _ _ _ _ _ _ HB2.out (Nat.le_refl _)⟩
          case pos =>
          have HE : Hid (encT o = encL o) := lid (by unfold encT; rw [if_pos hv])
          rw [HE.out]
          by_cases ht : encL o = l
          · have HV := lid (YES.out (by unfold okQ; rw [HD.out]; simp [hv, ht]))
            rw [hv, ht]
            have t0 : ((bstr l).toList == (bstr l).toList) = true := by simp
            clear hv ht
            go_wp2_with fail
            have X := set9_oc (d0 := (.int .i64 o.kind)) (d1 := (.string o.data)) (d2 := (.slice ae ne ce)) (d3 := (.int .u64 o.tree.1.toNat)) (d4 := (.int .u64 o.tree.2.toNat)) (d5 := (.slice ap np cp)) (d6 := (.string o.auth)) (d7 := (.int .i64 o.time)) (d8 := (.string o.msg)) HZ2.out
            have z0 := X.g0
            have z1 := X.g1
            have z2 := X.g2
            have z3 := X.g3
            have z4 := X.g4
            have z5 := X.g5
            have z6 := X.g6
            have z7 := X.g7
            have z8 := X.g8
            unfold set9 at z0 z1 z2 z3 z4 z5 z6 z7 z8
            refine bodyPost_ret (v := .tuple #[.agg #[(.int .i64 o.kind), (.string o.data), (.slice ae ne ce), (.int .u64 o.tree.1.toNat), (.int .u64 o.tree.2.toNat), (.slice ap np cp), (.string o.auth), (.int .i64 o.time), (.string o.msg)], .int .i64 0]) (by simp [results, Try.results24, go_sem, z0, z1, z2, z3, z4, z5, z6, z7, z8]) rfl ?_
            refine ⟨ae, ap, ne, ce, np, cp, by rw [HV.out.1, HV.out.2, HD.out], (HX2.out.obj).2, ?_, set9_below _ _ _ _ _ _ _ _ _ HB2.out (Nat.le_refl _)⟩
            rw [HV.out.1, HD.out]
            exact (ObO.obj (HX2.out.heap (w' := set9 V w.heap.size (.int .i64 o.kind) (.string o.data) (.slice ae ne ce) (.int .u64 o.tree.1.toNat) (.int .u64 o.tree.2.toNat) (.slice ap np cp) (.string o.auth) (.int .i64 o.time) (.string o.msg)) fun k hk _ => set9_heap _ _ _ _ _ _ _ _ _ _ _ (by omega))).1
          · have HV := lid (NO.out (by unfold okQ; rw [HD.out]; simp [ht]))
            have t0 : ((bstr (encL o)).toList == (bstr l).toList) = false := str_ne (fun e => ht (congrArg (fun s : ByteArray => s.data.toList) e))
            rw [hv]
            clear hv ht x0 x1 x2 x3 x4 x5 x6 x7 x8
            go_wp2_with fail
            have X := set9_oc (d0 := (.int .i64 0)) (d1 := (.string ⟨#[]⟩)) (d2 := (.slice none 0 0)) (d3 := (.int .u64 0)) (d4 := (.int .u64 0)) (d5 := (.slice none 0 0)) (d6 := (.string ⟨#[]⟩)) (d7 := (.int .i64 0)) (d8 := (.string ⟨#[]⟩)) HZ2.out
            have z0 := X.g0
            have z1 := X.g1
            have z2 := X.g2
            have z3 := X.g3
            have z4 := X.g4
            have z5 := X.g5
            have z6 := X.g6
            have z7 := X.g7
            have z8 := X.g8
            unfold set9 at z0 z1 z2 z3 z4 z5 z6 z7 z8
            refine bodyPost_ret (v := .tuple #[.agg #[(.int .i64 0), (.string ⟨#[]⟩), (.slice none 0 0), (.int .u64 0), (.int .u64 0), (.slice none 0 0), (.string ⟨#[]⟩), (.int .i64 0), (.string ⟨#[]⟩)], .int .i64 13]) (by simp [results, Try.results24, go_sem, z0, z1, z2, z3, z4, z5, z6, z7, z8]) rfl ?_
            exact ⟨none, none, 0, 0, 0, 0, by rw [HV.out.1, HV.out.2]; rfl, Nat.le_refl _, by rw [HV.out.1]; exact none_obj _, set9_below _ _ _ _ _ _ _ _ _ HB2.out (Nat.le_refl _)⟩
        | false =>
          have hj6 : j + lk.length ≤ 60000 := HC.out rfl
          have HXN := lid (many_next (f := qEnt) (n := n - (j + 1)) (s := (lk, false)) rfl)
          have HK1 : Hid (n - j = n - (j + 1) + 1) := lid (by omega)
          have HLS := lid (qEnt_less (s := (lk, false)))
          have HLL2 := lid (qEnt_len (s := (lk, false)))
          have HG : Hid (∀ g, (Value.slice ae j ce).ownBlock = some g → g < wr.heap.size ∧ (w.heap.size + 1 + 1) + 1 ≤ g) := lid fun g hg => ⟨(HOWr.out.lt g hg).2, (HOWr.out.lt g hg).1⟩
          obtain ⟨x1, hx1⟩ : ∃ x, wr.alloc (.cells #[.string ⟨#[]⟩, .bool false, .int .u64 0, .int .u64 0] 45) = x := ⟨_, rfl⟩
          have hbx : Below wr.heap.size wr x1 := by rw [← hx1]; exact ba _ _
          have XO1 := lid (HOr.out.below hbx)
          have XZ1 := lid (HZr.out.below hbx)
          have XR1 := lid (Rb.below HRr.out hbx)
          have XB1 : Hid (Below w.heap.size w x1) := lid (HBr.out.trans (hbx.mono (by omega)))
          have XW1 := lid (own_below HOWr.out hbx)
          have XE1 := lid (show Eb wr.heap.size ⟨#[]⟩ false 0 0 x1 by rw [← hx1]; exact Eb.new _ _ _ _ _)
          have xl1 : wr.heap.size + 1 ≤ x1.heap.size := by rw [← hx1]; simp
          have HX := lid hx1
          have CA := lid (qText_any (w.heap.size + 1) (lk, false) x1 XR1.out HS.out)
          have HQE : Hid (qEnt (lk, false) = qEnt3 (qStr (lk, false)).1 (qNum (qStr (lk, false)).2)) := lid rfl
          have LA := lid (Nat.le_trans (qStr_len (s := (lk, false))) HS.out)
          obtain ⟨a, ha⟩ : ∃ x, (qStr (lk, false)).1 = x := ⟨_, rfl⟩
          obtain ⟨sa, hsa⟩ : ∃ x, (qStr (lk, false)).2 = x := ⟨_, rfl⟩
          rw [ha, hsa] at CA HQE
          rw [hsa] at LA
          clear hx1 hbx ha hsa HOr HZr HRr HBr HOWr
          go_wp2_with fail
          rw [HX.out]
          clear HX c1 dk
          (with_reducible refine (CA.out).mono ?_); rintro e x2 ⟨rfl, hR, hK⟩
          have XO2 := lid (XO1.out.kp hK (by omega))
          have XZ2 := lid (XZ1.out.kp hK (by omega))
          have XB2 := lid (hK.below XB1.out (by omega))
          have XE2 := lid (XE1.out.kp hK (by omega))
          have XW2 := lid (own_kp XW1.out hK (by omega))
          have XR2 := lid hR
          clear hR hK XO1 XZ1 XB1 XR1 XE1 XW1
          clear CA
          have e0 := XE2.out.c0
          have f0 := XE2.out.fz 0
          have el2 := XE2.out.lt
          obtain ⟨x3, hx3⟩ : ∃ x, (x2.setCell ⟨wr.heap.size, 0, none⟩ (.string (bstr a))) = x := ⟨_, rfl⟩
          have XO3 := lid (show Oc (w.heap.size + 1 + 1) (.int .i64 k) (.string ⟨#[]⟩) (.slice ae j ce) (.int .u64 0) (.int .u64 0) (.slice none 0 0) (.string ⟨#[]⟩) (.int .i64 0) (.string ⟨#[]⟩) x3 by rw [← hx3]; exact XO2.out.other (by omega))
          have XZ3 := lid (show Oc w.heap.size (.int .i64 0) (.string ⟨#[]⟩) (.slice none 0 0) (.int .u64 0) (.int .u64 0) (.slice none 0 0) (.string ⟨#[]⟩) (.int .i64 0) (.string ⟨#[]⟩) x3 by rw [← hx3]; exact XZ2.out.other (by omega))
          have XR3 := XR2.out
          replace XR3 := lid (show Rb 66 (w.heap.size + 1) _ x3 by rw [← hx3]; exact XR3.other (by omega))
          have XB3 : Hid (Below w.heap.size w x3) := lid (by rw [← hx3]; exact XB2.out.setCell (p := ⟨wr.heap.size, 0, none⟩) (by show _ ≤ wr.heap.size; omega) _)
          have XE3 := lid (XE2.out.set0 (bstr a))
          rw [hx3] at XE3
          have XW3 := lid (show x3.ownsRow ((w.heap.size + 1 + 1) + 1) 45 4 (.slice ae j ce) j (ecells L) by rw [← hx3]; exact own_block XW2.out fun g hg => Below.heap_setCell _ _ _ _ (by have := HG.out g hg; simp; omega))
          have CA := lid (qNumber_any (w.heap.size + 1) sa x3 XR3.out LA.out)
          have LB := lid (Nat.le_trans (qNum_len (s := sa)) LA.out)
          obtain ⟨d, hd⟩ : ∃ x, (qNum sa).1 = x := ⟨_, rfl⟩
          obtain ⟨sb, hsb⟩ : ∃ x, (qNum sa).2 = x := ⟨_, rfl⟩
          replace HQE : Hid (qEnt (lk, false) = qEnt3 a (d, sb)) := lid (by rw [HQE.out, ← hd, ← hsb])
          rw [hd, hsb] at CA
          rw [hsb] at LB
          clear hd hsb XO2 XZ2 XR2 XB2 XE2 XW2
          go_wp2_with fail
          clear hx3 e0 f0 el2
          (with_reducible refine (CA.out).mono ?_); rintro e x4 ⟨rfl, hR, hK⟩
          have XO4 := lid (XO3.out.kp hK (by omega))
          have XZ4 := lid (XZ3.out.kp hK (by omega))
          have XB4 := lid (hK.below XB3.out (by omega))
          have XE4 := lid (XE3.out.kp hK (by omega))
          have XW4 := lid (own_kp XW3.out hK (by omega))
          have XR4 := lid hR
          clear hR hK XO3 XZ3 XB3 XR3 XE3 XW3
          clear CA
          have hq : ((d : Int) == 1) = decide (d = 1) := by rw [Bool.eq_iff_iff]; simp; omega
          obtain ⟨q, hqq⟩ : ∃ q, decide (d = 1) = q := ⟨_, rfl⟩
          rw [hqq] at hq
          replace HQE : Hid (qEnt (lk, false) = ((bstr a, q, (qDig sb).1), (qDig sb).2)) := lid (by rw [HQE.out, ← hqq]; rfl)
          clear hqq
          have e1 := XE4.out.c1
          have f1 := XE4.out.fz 1
          have el4 := XE4.out.lt
          obtain ⟨x5, hx5⟩ : ∃ x, (x4.setCell ⟨wr.heap.size, 1, none⟩ (.bool q)) = x := ⟨_, rfl⟩
          have XO5 := lid (show Oc (w.heap.size + 1 + 1) (.int .i64 k) (.string ⟨#[]⟩) (.slice ae j ce) (.int .u64 0) (.int .u64 0) (.slice none 0 0) (.string ⟨#[]⟩) (.int .i64 0) (.string ⟨#[]⟩) x5 by rw [← hx5]; exact XO4.out.other (by omega))
          have XZ5 := lid (show Oc w.heap.size (.int .i64 0) (.string ⟨#[]⟩) (.slice none 0 0) (.int .u64 0) (.int .u64 0) (.slice none 0 0) (.string ⟨#[]⟩) (.int .i64 0) (.string ⟨#[]⟩) x5 by rw [← hx5]; exact XZ4.out.other (by omega))
          have XR5 := XR4.out
          replace XR5 := lid (show Rb 66 (w.heap.size + 1) _ x5 by rw [← hx5]; exact XR5.other (by omega))
          have XB5 : Hid (Below w.heap.size w x5) := lid (by rw [← hx5]; exact XB4.out.setCell (p := ⟨wr.heap.size, 1, none⟩) (by show _ ≤ wr.heap.size; omega) _)
          have XE5 := lid (XE4.out.set1 q)
          rw [hx5] at XE5
          have XW5 := lid (show x5.ownsRow ((w.heap.size + 1 + 1) + 1) 45 4 (.slice ae j ce) j (ecells L) by rw [← hx5]; exact own_block XW4.out fun g hg => Below.heap_setCell _ _ _ _ (by have := HG.out g hg; simp; omega))
          have CA := lid (qDigest_any (w.heap.size + 1) sb x5 XR5.out LB.out)
          obtain ⟨dg, hdg⟩ : ∃ x, (qDig sb).1 = x := ⟨_, rfl⟩
          obtain ⟨sc, hsc⟩ : ∃ x, (qDig sb).2 = x := ⟨_, rfl⟩
          rw [hdg, hsc] at CA HQE
          clear hdg hsc XO4 XZ4 XR4 XB4 XE4 XW4
          go_wp2_with fail
          clear hx5 e1 f1 el4 hq
          rw [HQE.out] at HXN HLS HLL2
          (with_reducible refine (CA.out).mono ?_); rintro e x6 ⟨rfl, hR, hK⟩
          have XO6 := lid (XO5.out.kp hK (by omega))
          have XZ6 := lid (XZ5.out.kp hK (by omega))
          have XB6 := lid (hK.below XB5.out (by omega))
          have XE6 := lid (XE5.out.kp hK (by omega))
          have XW6 := lid (own_kp XW5.out hK (by omega))
          have XR6 := lid hR
          clear hR hK XO5 XZ5 XB5 XR5 XE5 XW5
          clear CA HQE
          have e2 := XE6.out.c2
          have f2 := XE6.out.fz 2
          have e3 := XE6.out.c3
          have f3 := XE6.out.fz 3
          have el6 := XE6.out.lt
          obtain ⟨x7, hx7⟩ : ∃ x, ((x6.setCell ⟨wr.heap.size, 2, none⟩ (.int .u64 dg.1.toNat)).setCell ⟨wr.heap.size, 3, none⟩ (.int .u64 dg.2.toNat)) = x := ⟨_, rfl⟩
          have XO7 := lid (show Oc (w.heap.size + 1 + 1) (.int .i64 k) (.string ⟨#[]⟩) (.slice ae j ce) (.int .u64 0) (.int .u64 0) (.slice none 0 0) (.string ⟨#[]⟩) (.int .i64 0) (.string ⟨#[]⟩) x7 by rw [← hx7]; exact (XO6.out.other (by omega)).other (by omega))
          have XZ7 := lid (show Oc w.heap.size (.int .i64 0) (.string ⟨#[]⟩) (.slice none 0 0) (.int .u64 0) (.int .u64 0) (.slice none 0 0) (.string ⟨#[]⟩) (.int .i64 0) (.string ⟨#[]⟩) x7 by rw [← hx7]; exact (XZ6.out.other (by omega)).other (by omega))
          have XR7 := XR6.out
          replace XR7 := lid (show Rb 66 (w.heap.size + 1) _ x7 by rw [← hx7]; exact (XR7.other (by omega)).other (by omega))
          have XB7 : Hid (Below w.heap.size w x7) := lid (by rw [← hx7]; exact (XB6.out.setCell (p := ⟨wr.heap.size, 2, none⟩) (by show _ ≤ wr.heap.size; omega) _).setCell (p := ⟨wr.heap.size, 3, none⟩) (by show _ ≤ wr.heap.size; omega) _)
          have XE7 := lid ((XE6.out.set2 dg.1.toNat).set3 dg.2.toNat)
          rw [hx7] at XE7
          have XW7 := lid (show x7.ownsRow ((w.heap.size + 1 + 1) + 1) 45 4 (.slice ae j ce) j (ecells L) by rw [← hx7]; exact own_block XW6.out fun g hg => (Below.heap_setCell _ _ _ _ (by have := HG.out g hg; simp; omega)).trans (Below.heap_setCell _ _ _ _ (by have := HG.out g hg; simp; omega)))
          have m2 := XO7.out.g2
          have v0 := XE7.out.c0
          have v1 := XE7.out.c1
          have v2 := XE7.out.c2
          have v3 := XE7.out.c3
          have ml := XO7.out.lt
          have vl := XE7.out.lt
          have hz7 : (w.heap.size + 1 + 1) + 1 ≤ x7.heap.size := by omega
          clear XO6 XZ6 XR6 XB6 XE6 XW6
          go_wp2_with (at_builtin; go_must (refine wpList_append_newG #[.string (bstr a), .bool q, .int .u64 dg.1.toNat, .int .u64 dg.2.toNat] rfl _ _ 22 rfl ((w.heap.size + 1 + 1) + 1) 45 (.agg #[.string ⟨#[]⟩, .bool false, .int .u64 0, .int .u64 0]) 4 40 info_ent Try.underlying22 rfl (by decide) _ j _ XW7.out rfl rfl rfl (by simp [Value.oneCell']) (by unfold maxLen; omega) (by omega) hz7 ?_))
          intro v' x8 hown' hgrow
          clear hx7 e2 e3 f2 f3 el6 m2 v0 v1 v2 v3
          have hba : Below x7.heap.size x7 (x7.alloc (.cells #[.string (bstr a), .bool q, .int .u64 dg.1.toNat, .int .u64 dg.2.toNat] 45)) := ba _ _
          have hne : ∀ g, g < (w.heap.size + 1 + 1) + 1 → some g ≠ (Value.slice ae j ce).ownBlock := fun g hg e => by have := (HG.out g e.symm).2; omega
          have XO8 := lid (show Oc (w.heap.size + 1 + 1) (.int .i64 k) (.string ⟨#[]⟩) (.slice ae j ce) (.int .u64 0) (.int .u64 0) (.slice none 0 0) (.string ⟨#[]⟩) (.int .i64 0) (.string ⟨#[]⟩) x8 from (hgrow.block _ (by rw [World.size_alloc]; omega) (hne _ (by omega))).trans (XO7.out.below hba))
          have XZ8 := lid (show Oc w.heap.size (.int .i64 0) (.string ⟨#[]⟩) (.slice none 0 0) (.int .u64 0) (.int .u64 0) (.slice none 0 0) (.string ⟨#[]⟩) (.int .i64 0) (.string ⟨#[]⟩) x8 from (hgrow.block _ (by rw [World.size_alloc]; omega) (hne _ (by omega))).trans (XZ7.out.below hba))
          have XR8 := lid (show Rb 66 (w.heap.size + 1) sc x8 from (hgrow.block _ (by rw [World.size_alloc]; omega) (hne _ (by omega))).trans (Rb.below XR7.out hba))
          have XB8 : Hid (Below w.heap.size w x8) := lid ((XB7.out.trans (hba.mono (by omega))).grown hgrow (by rw [World.size_alloc]; omega) (fun g hg => by have := (HG.out g hg).2; omega))
          have XW8 : Hid (x8.ownsRow ((w.heap.size + 1 + 1) + 1) 45 4 v' (j + 1) (ecells (L ++ [(bstr a, q, dg)]))) := lid (by rw [ecells_snoc]; exact hown')
          have xl8 : (w.heap.size + 1 + 1) + 1 ≤ x8.heap.size := by have := hgrow.size; rw [World.size_alloc] at this; omega
          obtain ⟨ae2, ce2, rfl⟩ := own_slice hown'
          clear hown' hgrow hba hne XO7 XZ7 XR7 XB7 XW7 XE7
          have o2 := XO8.out.g2
          have p2 := XO8.out.fz 2
          have ol := XO8.out.lt
          obtain ⟨x9, hx9⟩ : ∃ x, x8.setCell ⟨(w.heap.size + 1 + 1), 2, none⟩ (.slice ae2 (j + 1) ce2) = x := ⟨_, rfl⟩
          have XO9 := lid (show Oc (w.heap.size + 1 + 1) (.int .i64 k) (.string ⟨#[]⟩) (.slice ae2 (j + 1) ce2) (.int .u64 0) (.int .u64 0) (.slice none 0 0) (.string ⟨#[]⟩) (.int .i64 0) (.string ⟨#[]⟩) x9 by rw [← hx9]; exact XO8.out.s2 _)
          have XZ9 := lid (show Oc w.heap.size (.int .i64 0) (.string ⟨#[]⟩) (.slice none 0 0) (.int .u64 0) (.int .u64 0) (.slice none 0 0) (.string ⟨#[]⟩) (.int .i64 0) (.string ⟨#[]⟩) x9 by rw [← hx9]; exact XZ8.out.other (by omega))
          have XR9 := lid (show Rb 66 (w.heap.size + 1) sc x9 by rw [← hx9]; exact XR8.out.other (by omega))
          have XB9 : Hid (Below w.heap.size w x9) := lid (by rw [← hx9]; exact XB8.out.setCell (p := ⟨(w.heap.size + 1 + 1), 2, none⟩) (by show _ ≤ w.heap.size + 1 + 1; omega) _)
          have XW9 := lid (show x9.ownsRow ((w.heap.size + 1 + 1) + 1) 45 4 (.slice ae2 (j + 1) ce2) (j + 1) (ecells (L ++ [(bstr a, q, dg)])) by rw [← hx9]; exact own_block XW8.out fun g hg => Below.heap_setCell _ _ _ _ (by have := (XW8.out.lt g hg).1; simp; omega))
          have xl9 : (w.heap.size + 1 + 1) + 1 ≤ x9.heap.size := by rw [← hx9]; simpa using xl8
          go_wp2_with fail
          go_roundw
          case rel => exact ⟨j + 1, sc, L ++ [(bstr a, q, dg)], ae2, ce2, by omega, by go_num, XO9, XW9, XR9, XZ9, XB9, xl9, lid (by rw [HM.out, HK1.out, HXN.out]; simp), lid (by simp [HL.out]), lid (fun h => by have h2 : sc.1.length + 1 ≤ lk.length := HLS.out h; omega), lid (Nat.le_trans HLL2.out HS.out)⟩
          case measure => simp [intOf]; omega
      · obtain rfl : j = n := by omega
        have dk : decide ((j : Int) < (j : Int)) = false := by simp
        have HXM : Hid (many qEnt j s2 = (L, (lk, bk))) := lid (by rw [HM.out, Nat.sub_self, many, List.append_nil])
        replace HD : Hid (decQ l = (obE L, (lk, bk))) := lid (by rw [HD.out, HQ.out, HXM.out])
        replace HNM : Hid (∀ e ∈ L, e.1.size ≤ maxLen) := lid (by have := HNM.out; rw [HQ.out, HXM.out] at this; exact this)
        obtain rfl : j = L.length := HL.out.symm
        obtain ⟨sk, hsk⟩ : ∃ x : Rd, (lk, bk) = x := ⟨_, rfl⟩
        rw [hsk] at HD HRr
        clear HQ HM HXM HS HC HL hsk
        obtain ⟨rest, bad⟩ := sk
        have HP : ∃ (ae : Option Addr) (ne ce : Nat) (ap : Option Addr) (np cp : Nat), Oc (w.heap.size + 1 + 1) (.int .i64 (obE L).kind) (.string (obE L).data) (.slice ae ne ce) (.int .u64 (obE L).tree.1.toNat) (.int .u64 (obE L).tree.2.toNat) (.slice ap np cp) (.string (obE L).auth) (.int .i64 (obE L).time) (.string (obE L).msg) wr ∧ ObO ((w.heap.size + 1 + 1) + 1) (obE L) ae ne ce ap np cp wr := ⟨ae, L.length, ce, none, 0, 0, (by have := HOr.out; rw [KK.out] at this; exact this), HOWr.out, World.ownsRow_nil _ _ _ _, rfl, rfl, HNM.out, empty_60, empty_max, empty_max⟩
        obtain ⟨o, ho⟩ : ∃ o, obE L = o := ⟨_, rfl⟩
        rw [ho] at HP HD
        obtain ⟨ae, ne, ce, ap, np, cp, hO, hX⟩ := HP
        have HO := lid hO
        have HX := lid hX
        have HZ := HZr
        have HR := HRr
        have HB := HBr
        clear ho hO hX HOr HZr HRr HBr HNM HOWr
        obtain ⟨W, rfl⟩ : ∃ W, W = wr := ⟨_, rfl⟩
        have hOl := HO.out.lt
        have x0 := HO.out.g0
        have x1 := HO.out.g1
        have x2 := HO.out.g2
        have x3 := HO.out.g3
        have x4 := HO.out.g4
        have x5 := HO.out.g5
        have x6 := HO.out.g6
        have x7 := HO.out.g7
        have x8 := HO.out.g8
        have NO := lid (decq_no (l := l))
        have YES := lid (decq_yes (l := l))
        obtain ⟨hA, hcp⟩ := HX.out.obj
        have CC := lid (refEncode_any o ae ap ne ce np cp W hA hcp HX.out.2.2.2.2.2.1)
        clear hA hcp
        go_wp2_with fail
        clear x0 x1 x2 x3 x4 x5 x6 x7 x8
        (with_reducible refine (CC.out).mono ?_); rintro e V ⟨rfl, hbV⟩
        have HO2 := lid (HO.out.below hbV)
        have HZ2 := lid (HZ.out.below hbV)
        have HR2 := lid (Rb.below HR.out hbV)
        have HX2 : Hid (ObO ((w.heap.size + 1 + 1) + 1) o ae ne ce ap np cp V) := lid (HX.out.heap fun k _ hk => hbV.block k hk)
        have HB2 : Hid (Below w.heap.size w V) := lid (HB.out.trans (hbV.mono HB.out.size))
        have y0 := HZ2.out.g0
        have q0 := HZ2.out.fz 0
        have y1 := HZ2.out.g1
        have q1 := HZ2.out.fz 1
        have y2 := HZ2.out.g2
        have q2 := HZ2.out.fz 2
        have y3 := HZ2.out.g3
        have q3 := HZ2.out.fz 3
        have y4 := HZ2.out.g4
        have q4 := HZ2.out.fz 4
        have y5 := HZ2.out.g5
        have q5 := HZ2.out.fz 5
        have y6 := HZ2.out.g6
        have q6 := HZ2.out.fz 6
        have y7 := HZ2.out.g7
        have q7 := HZ2.out.fz 7
        have y8 := HZ2.out.g8
        have q8 := HZ2.out.fz 8
        have x0 := HO2.out.g0
        have x1 := HO2.out.g1
        have x2 := HO2.out.g2
        have x3 := HO2.out.g3
        have x4 := HO2.out.g4
        have x5 := HO2.out.g5
        have x6 := HO2.out.g6
        have x7 := HO2.out.g7
        have x8 := HO2.out.g8
        have hOl2 := HO2.out.lt
        have hzl2 := HZ2.out.lt
        have hbl2 := HR2.out.lt
        have r1 : V.cell? ⟨w.heap.size + 1, 1, none⟩ = some (.bool bad) := HR2.out.c1
        clear CC HO HZ HX HB HR
        cases bad with
        | true =>
          have HV := lid (NO.out (by unfold okQ; rw [HD.out]; rfl))
          clear x0 x1 x2 x3 x4 x5 x6 x7 x8
          go_wp2_with fail
          have X := set9_oc (d0 := (.int .i64 0)) (d1 := (.string ⟨#[]⟩)) (d2 := (.slice none 0 0)) (d3 := (.int .u64 0)) (d4 := (.int .u64 0)) (d5 := (.slice none 0 0)) (d6 := (.string ⟨#[]⟩)) (d7 := (.int .i64 0)) (d8 := (.string ⟨#[]⟩)) HZ2.out
          have z0 := X.g0
          have z1 := X.g1
          have z2 := X.g2
          have z3 := X.g3
          have z4 := X.g4
          have z5 := X.g5
          have z6 := X.g6
          have z7 := X.g7
          have z8 := X.g8
          unfold set9 at z0 z1 z2 z3 z4 z5 z6 z7 z8
          refine bodyPost_ret (v := .tuple #[.agg #[(.int .i64 0), (.string ⟨#[]⟩), (.slice none 0 0), (.int .u64 0), (.int .u64 0), (.slice none 0 0), (.string ⟨#[]⟩), (.int .i64 0), (.string ⟨#[]⟩)], .int .i64 13]) (by simp [results, Try.results24, go_sem, z0, z1, z2, z3, z4, z5, z6, z7, z8]) rfl ?_
          exact ⟨none, none, 0, 0, 0, 0, by rw [HV.out.1, HV.out.2]; rfl, Nat.le_refl _, by rw [HV.out.1]; exact none_obj _, set9_below _ _ _ _ _ _ _ _ _ HB2.out (Nat.le_refl _)⟩
        | false =>
        by_cases hv : checkO o = 0
        case neg =>
          have HV := lid (NO.out (by unfold okQ; rw [HD.out]; simp [hv]))
          have uK : (checkO o != 0) = true := by simpa using hv
          clear hv x0 x1 x2 x3 x4 x5 x6 x7 x8
          go_wp2_with fail
          have X := set9_oc (d0 := (.int .i64 0)) (d1 := (.string ⟨#[]⟩)) (d2 := (.slice none 0 0)) (d3 := (.int .u64 0)) (d4 := (.int .u64 0)) (d5 := (.slice none 0 0)) (d6 := (.string ⟨#[]⟩)) (d7 := (.int .i64 0)) (d8 := (.string ⟨#[]⟩)) HZ2.out
          have z0 := X.g0
          have z1 := X.g1
          have z2 := X.g2
          have z3 := X.g3
          have z4 := X.g4
          have z5 := X.g5
          have z6 := X.g6
          have z7 := X.g7
          have z8 := X.g8
          unfold set9 at z0 z1 z2 z3 z4 z5 z6 z7 z8
          refine bodyPost_ret (v := .tuple #[.agg #[(.int .i64 0), (.string ⟨#[]⟩), (.slice none 0 0), (.int .u64 0), (.int .u64 0), (.slice none 0 0), (.string ⟨#[]⟩), (.int .i64 0), (.string ⟨#[]⟩)], .int .i64 13]) (by simp [results, Try.results24, go_sem, z0, z1, z2, z3, z4, z5, z6, z7, z8]) rfl ?_
          exact ⟨none, none, 0, 0, 0, 0, by rw [HV.out.1, HV.out.2]; rfl, Nat.le_refl _, by rw [HV.out.1]; exact none_obj _, set9_below _ _ _ _ _ _ _ _ _ HB2.out (Nat.le_refl _)⟩
        case pos =>
        have HE : Hid (encT o = encL o) := lid (by unfold encT; rw [if_pos hv])
        rw [HE.out]
        by_cases ht : encL o = l
        · have HV := lid (YES.out (by unfold okQ; rw [HD.out]; simp [hv, ht]))
          rw [hv, ht]
          have t0 : ((bstr l).toList == (bstr l).toList) = true := by simp
          clear hv ht
          go_wp2_with fail
          have X := set9_oc (d0 := (.int .i64 o.kind)) (d1 := (.string o.data)) (d2 := (.slice ae ne ce)) (d3 := (.int .u64 o.tree.1.toNat)) (d4 := (.int .u64 o.tree.2.toNat)) (d5 := (.slice ap np cp)) (d6 := (.string o.auth)) (d7 := (.int .i64 o.time)) (d8 := (.string o.msg)) HZ2.out
          have z0 := X.g0
          have z1 := X.g1
          have z2 := X.g2
          have z3 := X.g3
          have z4 := X.g4
          have z5 := X.g5
          have z6 := X.g6
          have z7 := X.g7
          have z8 := X.g8
          unfold set9 at z0 z1 z2 z3 z4 z5 z6 z7 z8
          refine bodyPost_ret (v := .tuple #[.agg #[(.int .i64 o.kind), (.string o.data), (.slice ae ne ce), (.int .u64 o.tree.1.toNat), (.int .u64 o.tree.2.toNat), (.slice ap np cp), (.string o.auth), (.int .i64 o.time), (.string o.msg)], .int .i64 0]) (by simp [results, Try.results24, go_sem, z0, z1, z2, z3, z4, z5, z6, z7, z8]) rfl ?_
          refine ⟨ae, ap, ne, ce, np, cp, by rw [HV.out.1, HV.out.2, HD.out], (HX2.out.obj).2, ?_, set9_below _ _ _ _ _ _ _ _ _ HB2.out (Nat.le_refl _)⟩
          rw [HV.out.1, HD.out]
          exact (ObO.obj (HX2.out.heap (w' := set9 V w.heap.size (.int .i64 o.kind) (.string o.data) (.slice ae ne ce) (.int .u64 o.tree.1.toNat) (.int .u64 o.tree.2.toNat) (.slice ap np cp) (.string o.auth) (.int .i64 o.time) (.string o.msg)) fun k hk _ => set9_heap _ _ _ _ _ _ _ _ _ _ _ (by omega))).1
        · have HV := lid (NO.out (by unfold okQ; rw [HD.out]; simp [ht]))
          have t0 : ((bstr (encL o)).toList == (bstr l).toList) = false := str_ne (fun e => ht (congrArg (fun s : ByteArray => s.data.toList) e))
          rw [hv]
          clear hv ht x0 x1 x2 x3 x4 x5 x6 x7 x8
          go_wp2_with fail
          have X := set9_oc (d0 := (.int .i64 0)) (d1 := (.string ⟨#[]⟩)) (d2 := (.slice none 0 0)) (d3 := (.int .u64 0)) (d4 := (.int .u64 0)) (d5 := (.slice none 0 0)) (d6 := (.string ⟨#[]⟩)) (d7 := (.int .i64 0)) (d8 := (.string ⟨#[]⟩)) HZ2.out
          have z0 := X.g0
          have z1 := X.g1
          have z2 := X.g2
          have z3 := X.g3
          have z4 := X.g4
          have z5 := X.g5
          have z6 := X.g6
          have z7 := X.g7
          have z8 := X.g8
          unfold set9 at z0 z1 z2 z3 z4 z5 z6 z7 z8
          refine bodyPost_ret (v := .tuple #[.agg #[(.int .i64 0), (.string ⟨#[]⟩), (.slice none 0 0), (.int .u64 0), (.int .u64 0), (.slice none 0 0), (.string ⟨#[]⟩), (.int .i64 0), (.string ⟨#[]⟩)], .int .i64 13]) (by simp [results, Try.results24, go_sem, z0, z1, z2, z3, z4, z5, z6, z7, z8]) rfl ?_
          exact ⟨none, none, 0, 0, 0, 0, by rw [HV.out.1, HV.out.2]; rfl, Nat.le_refl _, by rw [HV.out.1]; exact none_obj _, set9_below _ _ _ _ _ _ _ _ _ HB2.out (Nat.le_refl _)⟩
  have n2 := kk
  clear kk
  by_cases kk : k = 3
  case pos =>
    have u2 : ((k : Int) == 2) = false := by simp; omega
    have u3 : ((k : Int) == 3) = true := by simp; omega
    have KK := lid kk
    clear kk
    clear n2
    replace HD : Hid (decQ l = decQC s1) := lid (HD.out.trans (by rw [KK.out]; exact decQk_C s1))
    have CS := lid (qDigest_any (w.heap.size + 1) s1 w2 HR2.out L1.out)
    have L2 := lid (Nat.le_trans (qDig_len (s := s1)) L1.out)
    have hs2 := lid (Nat.le_trans (qDig_len (s := s1)) hs1.out)
    go_wp2_with fail
    clear hw2 k0 kl
    obtain ⟨d, hd⟩ : ∃ r, (qDig s1).1 = r := ⟨_, rfl⟩
    obtain ⟨s2, hs⟩ : ∃ r, (qDig s1).2 = r := ⟨_, rfl⟩
    have HD1 := lid hd
    have HD2 := lid hs
    rw [hd, hs] at CS
    rw [hs] at L2 hs2
    clear hd hs
    (with_reducible refine (CS.out).mono ?_); rintro e w3 ⟨rfl, hR, hK⟩
    have HO3 := lid (HO2.out.kp hK (by omega))
    have HZ3 := lid (HZ2.out.kp hK (by omega))
    have HB3 := lid (hK.below HB2.out (by omega))
    have HR3 := lid hR
    have s3 : (w.heap.size + 1 + 1) + 1 ≤ w3.heap.size := by have := hK.size; omega
    clear hR hK HO2 HZ2 HB2 HR2
    clear CS
    have o3 := HO3.out.g3
    have p3 := HO3.out.fz 3
    have o4 := HO3.out.g4
    have p4 := HO3.out.fz 4
    have ol3 := HO3.out.lt
    obtain ⟨w4, hw4⟩ : ∃ x, ((w3.setCell ⟨(w.heap.size + 1 + 1), 3, none⟩ (.int .u64 d.1.toNat)).setCell ⟨(w.heap.size + 1 + 1), 4, none⟩ (.int .u64 d.2.toNat)) = x := ⟨_, rfl⟩
    have HO4 := lid (((HO3.out.s3 (.int .u64 d.1.toNat)).s4 (.int .u64 d.2.toNat)))
    rw [hw4] at HO4
    have HZ4 := lid (show Oc w.heap.size (.int .i64 0) (.string ⟨#[]⟩) (.slice none 0 0) (.int .u64 0) (.int .u64 0) (.slice none 0 0) (.string ⟨#[]⟩) (.int .i64 0) (.string ⟨#[]⟩) w4 by rw [← hw4]; exact (HZ3.out.other (by omega)).other (by omega))
    have HR4 := HR3.out
    replace HR4 := lid (show Rb 66 (w.heap.size + 1) _ w4 by rw [← hw4]; exact (HR4.other (by omega)).other (by omega))
    have HB4 : Hid (Below w.heap.size w w4) := lid (by rw [← hw4]; exact (HB3.out.setCell (p := ⟨(w.heap.size + 1 + 1), 3, none⟩) (by show _ ≤ w.heap.size + 1 + 1; omega) _).setCell (p := ⟨(w.heap.size + 1 + 1), 4, none⟩) (by show _ ≤ w.heap.size + 1 + 1; omega) _)
    have s4 : (w.heap.size + 1 + 1) + 1 ≤ w4.heap.size := by rw [← hw4]; simpa using s3
    have CN := lid (qNumber_any (w.heap.size + 1) s2 w4 HR4.out L2.out)
    have hn := qNum_n s2
    have HQ : Hid (qList qDig s2 = many qDig (qNum s2).1 (qNum s2).2) := lid rfl
    have L3 := lid (Nat.le_trans (qNum_len (s := s2)) L2.out)
    have hs3 := lid (Nat.le_trans (qNum_len (s := s2)) hs2.out)
    clear HO3 HZ3 HR3 HB3
    go_wp2_with fail
    clear hw4 o3 o4 p3 p4
    obtain ⟨r2, hr2⟩ : ∃ r, qNum s2 = r := ⟨_, rfl⟩
    rw [hr2] at CN HQ L3 hs3 hn
    obtain ⟨n, s3⟩ := r2
    replace hn : n ≤ 1099511627776 := hn
    have hn' : n ≤ 9223372036854775807 := by omega
    clear hr2 hn
    (with_reducible refine (CN.out).mono ?_); rintro e w5 ⟨rfl, hR, hK⟩
    have HO5 := lid (HO4.out.kp hK (by omega))
    have HZ5 := lid (HZ4.out.kp hK (by omega))
    have HB5 := lid (hK.below HB4.out (by omega))
    have HR5 := lid hR
    have s5 : (w.heap.size + 1 + 1) + 1 ≤ w5.heap.size := by have := hK.size; omega
    clear hR hK HO4 HZ4 HB4 HR4
    clear CN
    obtain ⟨zz, hzz⟩ : ∃ x : Nat, x = 0 := ⟨_, rfl⟩
    go_wp2_with fail
    go_loopw [10] (fun i wr => ∃ (j : Nat) (sk : Rd) (L : List Dg) (ap : Option Addr) (cp : Nat), j ≤ n ∧ i = .int .i64 j ∧ Hid (Oc (w.heap.size + 1 + 1) (.int .i64 k) (.string ⟨#[]⟩) (.slice none 0 0) (.int .u64 d.1.toNat) (.int .u64 d.2.toNat) (.slice ap j cp) (.string ⟨#[]⟩) (.int .i64 0) (.string ⟨#[]⟩) wr) ∧ Hid (wr.ownsRow ((w.heap.size + 1 + 1) + 1) 25 2 (.slice ap j cp) j (dcells L)) ∧ Hid (Rb 66 (w.heap.size + 1) sk wr) ∧ Hid (Oc w.heap.size (.int .i64 0) (.string ⟨#[]⟩) (.slice none 0 0) (.int .u64 0) (.int .u64 0) (.slice none 0 0) (.string ⟨#[]⟩) (.int .i64 0) (.string ⟨#[]⟩) wr) ∧ Hid (Below w.heap.size w wr) ∧ (w.heap.size + 1 + 1) + 1 ≤ wr.heap.size ∧ Hid (many qDig n s3 = (L ++ (many qDig (n - j) sk).1, (many qDig (n - j) sk).2)) ∧ Hid (L.length = j) ∧ Hid (sk.2 = false → j + sk.1.length ≤ 60000) ∧ Hid (sk.1.length ≤ maxLen)) (fun i _ => n - (intOf i).toNat)
    case atStart => exact ⟨0, s3, [], none, 0, Nat.zero_le _, rfl, HO5, lid (World.ownsRow_nil _ _ _ _), HR5, HZ5, HB5, s5, lid (by simp), lid rfl, lid (fun _ => by have := hs3.out; omega), L3⟩
    case round =>
      clear HO5 HZ5 HR5 HB5 s5 s4 L3 hs3 ol3 hzz zz
      obtain ⟨j, sk, L, ap, cp, hj, rfl, HOr, HOWr, HRr, HZr, HBr, sr, HM, HL, HC, HS⟩ := hrel
      obtain ⟨lk, bk⟩ := sk
      have hlb := HRr.out.lt
      have c1 : wr.cell? ⟨w.heap.size + 1, 1, none⟩ = some (.bool bk) := HRr.out.c1
      by_cases hlt : j < n
      · have dk : decide ((j : Int) < (n : Int)) = true := by simp; omega
        cases bk with
        | true =>
          have HXM : Hid (many qDig n s3 = (L, (lk, true))) := lid (by rw [HM.out, many_bad rfl, List.append_nil])
          replace HQ : Hid (qList qDig s2 = (L, (lk, true))) := lid (by rw [HQ.out, HXM.out])
          obtain rfl : j = L.length := HL.out.symm
          obtain ⟨sk, hsk⟩ : ∃ x : Rd, (lk, true) = x := ⟨_, rfl⟩
          replace HS : Hid (sk.1.length ≤ maxLen) := lid (by rw [← hsk]; exact HS.out)
          rw [hsk] at HQ HRr
          clear HM HXM HC HL hsk
          have HOW6 := HOWr
          obtain ⟨w6, rfl⟩ : ∃ x, x = wr := ⟨_, rfl⟩
          have HO6 := HOr
          have HZ6 := HZr
          have HR6 := HRr
          have HB6 := HBr
          have s6 := sr
          clear HOWr HOr HZr HRr HBr sr
          have CP := lid (qText_any (w.heap.size + 1) sk w6 HR6.out HS.out)
          have L6 := lid (Nat.le_trans (qStr_len (s := sk)) HS.out)
          have N6 := lid (Nat.le_trans (qStr_max (s := sk)).2 (show 65536 ≤ maxLen by decide))
          go_wp2_with fail
          obtain ⟨a, ha⟩ : ∃ r, (qStr sk).1 = r := ⟨_, rfl⟩
          obtain ⟨s6', hs6⟩ : ∃ r, (qStr sk).2 = r := ⟨_, rfl⟩
          rw [ha, hs6] at CP
          rw [hs6] at L6
          replace N6 : Hid (a.length ≤ maxLen) := by rw [← ha]; exact N6
          (with_reducible refine (CP.out).mono ?_); rintro e w7 ⟨rfl, hR, hK⟩
          have HO7 := lid (HO6.out.kp hK (by omega))
          have HZ7 := lid (HZ6.out.kp hK (by omega))
          have HB7 := lid (hK.below HB6.out (by omega))
          have HR7 := lid hR
          have s7 : (w.heap.size + 1 + 1) + 1 ≤ w7.heap.size := by have := hK.size; omega
          have HOW7 := lid (own_kp HOW6.out hK (by omega))
          clear hR hK HO6 HZ6 HB6 HR6
          clear CP
          have o6 := HO7.out.g6
          have p6 := HO7.out.fz 6
          have ol7 := HO7.out.lt
          obtain ⟨w8, hw8⟩ : ∃ x, (w7.setCell ⟨(w.heap.size + 1 + 1), 6, none⟩ (.string (bstr a))) = x := ⟨_, rfl⟩
          have HO8 := lid ((HO7.out.s6 (.string (bstr a))))
          rw [hw8] at HO8
          have HZ8 := lid (show Oc w.heap.size (.int .i64 0) (.string ⟨#[]⟩) (.slice none 0 0) (.int .u64 0) (.int .u64 0) (.slice none 0 0) (.string ⟨#[]⟩) (.int .i64 0) (.string ⟨#[]⟩) w8 by rw [← hw8]; exact HZ7.out.other (by omega))
          have HR8 := HR7.out
          replace HR8 := lid (show Rb 66 (w.heap.size + 1) _ w8 by rw [← hw8]; exact HR8.other (by omega))
          have HB8 : Hid (Below w.heap.size w w8) := lid (by rw [← hw8]; exact HB7.out.setCell (p := ⟨(w.heap.size + 1 + 1), 6, none⟩) (by show _ ≤ w.heap.size + 1 + 1; omega) _)
          have s8 : (w.heap.size + 1 + 1) + 1 ≤ w8.heap.size := by rw [← hw8]; simpa using s7
          have HOW8 := lid (show w8.ownsRow ((w.heap.size + 1 + 1) + 1) 25 2 (.slice ap L.length cp) L.length (dcells L) by rw [← hw8]; exact own_block HOW7.out fun g hg => Below.heap_setCell _ _ _ _ (by have := (HOW7.out.lt g hg).1; simp; omega))
          have CP := lid (qNumber_any (w.heap.size + 1) s6' w8 HR8.out L6.out)
          have L8 := lid (Nat.le_trans (qNum_len (s := s6')) L6.out)
          clear HO7 HZ7 HR7 HB7 HOW7
          go_wp2_with fail
          clear hw8 o6 p6
          obtain ⟨tm, htm⟩ : ∃ r, (qNum s6').1 = r := ⟨_, rfl⟩
          obtain ⟨s8', hs8⟩ : ∃ r, (qNum s6').2 = r := ⟨_, rfl⟩
          rw [htm, hs8] at CP
          rw [hs8] at L8
          (with_reducible refine (CP.out).mono ?_); rintro e w9 ⟨rfl, hR, hK⟩
          have HO9 := lid (HO8.out.kp hK (by omega))
          have HZ9 := lid (HZ8.out.kp hK (by omega))
          have HB9 := lid (hK.below HB8.out (by omega))
          have HR9 := lid hR
          have s9 : (w.heap.size + 1 + 1) + 1 ≤ w9.heap.size := by have := hK.size; omega
          have HOW9 := lid (own_kp HOW8.out hK (by omega))
          clear hR hK HO8 HZ8 HB8 HR8
          clear CP
          have o7 := HO9.out.g7
          have p7 := HO9.out.fz 7
          have ol9 := HO9.out.lt
          obtain ⟨w10, hw10⟩ : ∃ x, (w9.setCell ⟨(w.heap.size + 1 + 1), 7, none⟩ (.int .i64 tm)) = x := ⟨_, rfl⟩
          have HO10 := lid ((HO9.out.s7 (.int .i64 tm)))
          rw [hw10] at HO10
          have HZ10 := lid (show Oc w.heap.size (.int .i64 0) (.string ⟨#[]⟩) (.slice none 0 0) (.int .u64 0) (.int .u64 0) (.slice none 0 0) (.string ⟨#[]⟩) (.int .i64 0) (.string ⟨#[]⟩) w10 by rw [← hw10]; exact HZ9.out.other (by omega))
          have HR10 := HR9.out
          replace HR10 := lid (show Rb 66 (w.heap.size + 1) _ w10 by rw [← hw10]; exact HR10.other (by omega))
          have HB10 : Hid (Below w.heap.size w w10) := lid (by rw [← hw10]; exact HB9.out.setCell (p := ⟨(w.heap.size + 1 + 1), 7, none⟩) (by show _ ≤ w.heap.size + 1 + 1; omega) _)
          have s10 : (w.heap.size + 1 + 1) + 1 ≤ w10.heap.size := by rw [← hw10]; simpa using s9
          have HOW10 := lid (show w10.ownsRow ((w.heap.size + 1 + 1) + 1) 25 2 (.slice ap L.length cp) L.length (dcells L) by rw [← hw10]; exact own_block HOW9.out fun g hg => Below.heap_setCell _ _ _ _ (by have := (HOW9.out.lt g hg).1; simp; omega))
          have CP := lid (qText_any (w.heap.size + 1) s8' w10 HR10.out L8.out)
          have L10 := lid (Nat.le_trans (qStr_len (s := s8')) L8.out)
          have N10 := lid (Nat.le_trans (qStr_max (s := s8')).2 (show 65536 ≤ maxLen by decide))
          clear HO9 HZ9 HR9 HB9 HOW9
          go_wp2_with fail
          clear hw10 o7 p7
          obtain ⟨g, hg⟩ : ∃ r, (qStr s8').1 = r := ⟨_, rfl⟩
          obtain ⟨s10', hs10⟩ : ∃ r, (qStr s8').2 = r := ⟨_, rfl⟩
          rw [hg, hs10] at CP
          rw [hs10] at L10
          replace N10 : Hid (g.length ≤ maxLen) := by rw [← hg]; exact N10
          (with_reducible refine (CP.out).mono ?_); rintro e w11 ⟨rfl, hR, hK⟩
          have HO11 := lid (HO10.out.kp hK (by omega))
          have HZ11 := lid (HZ10.out.kp hK (by omega))
          have HB11 := lid (hK.below HB10.out (by omega))
          have HR11 := lid hR
          have s11 : (w.heap.size + 1 + 1) + 1 ≤ w11.heap.size := by have := hK.size; omega
          have HOW11 := lid (own_kp HOW10.out hK (by omega))
          clear hR hK HO10 HZ10 HB10 HR10
          clear CP
          have o8 := HO11.out.g8
          have p8 := HO11.out.fz 8
          have ol11 := HO11.out.lt
          obtain ⟨w12, hw12⟩ : ∃ x, (w11.setCell ⟨(w.heap.size + 1 + 1), 8, none⟩ (.string (bstr g))) = x := ⟨_, rfl⟩
          have HO12 := lid ((HO11.out.s8 (.string (bstr g))))
          rw [hw12] at HO12
          have HZ12 := lid (show Oc w.heap.size (.int .i64 0) (.string ⟨#[]⟩) (.slice none 0 0) (.int .u64 0) (.int .u64 0) (.slice none 0 0) (.string ⟨#[]⟩) (.int .i64 0) (.string ⟨#[]⟩) w12 by rw [← hw12]; exact HZ11.out.other (by omega))
          have HR12 := HR11.out
          replace HR12 := lid (show Rb 66 (w.heap.size + 1) _ w12 by rw [← hw12]; exact HR12.other (by omega))
          have HB12 : Hid (Below w.heap.size w w12) := lid (by rw [← hw12]; exact HB11.out.setCell (p := ⟨(w.heap.size + 1 + 1), 8, none⟩) (by show _ ≤ w.heap.size + 1 + 1; omega) _)
          have s12 : (w.heap.size + 1 + 1) + 1 ≤ w12.heap.size := by rw [← hw12]; simpa using s11
          have HOW12 := lid (show w12.ownsRow ((w.heap.size + 1 + 1) + 1) 25 2 (.slice ap L.length cp) L.length (dcells L) by rw [← hw12]; exact own_block HOW11.out fun g hg => Below.heap_setCell _ _ _ _ (by have := (HOW11.out.lt g hg).1; simp; omega))
          replace HD : Hid (decQ l = (obC d L a tm g, s10')) := lid (by rw [HD.out]; unfold decQC; simp only [HD1.out, HD2.out, HQ.out, ha, hs6, htm, hs8, hg, hs10])
          clear HD1 HD2 HQ ha hs6 htm hs8 hg hs10
          have HP : ∃ (ae : Option Addr) (ne ce : Nat) (ap : Option Addr) (np cp : Nat), Oc (w.heap.size + 1 + 1) (.int .i64 (obC d L a tm g).kind) (.string (obC d L a tm g).data) (.slice ae ne ce) (.int .u64 (obC d L a tm g).tree.1.toNat) (.int .u64 (obC d L a tm g).tree.2.toNat) (.slice ap np cp) (.string (obC d L a tm g).auth) (.int .i64 (obC d L a tm g).time) (.string (obC d L a tm g).msg) w12 ∧ ObO ((w.heap.size + 1 + 1) + 1) (obC d L a tm g) ae ne ce ap np cp w12 := ⟨none, 0, 0, ap, L.length, cp, (by have := HO12.out; rw [KK.out] at this; exact this), World.ownsRow_nil _ _ _ _, HOW12.out, rfl, rfl, (by intro e he; cases he), empty_60, N6.out, N10.out⟩
          obtain ⟨o, ho⟩ : ∃ o, obC d L a tm g = o := ⟨_, rfl⟩
          rw [ho] at HP HD
          obtain ⟨ae, ne, ce, ap, np, cp, hO, hX⟩ := HP
          have HO := lid hO
          have HX := lid hX
          have HZ := HZ12
          have HR := HR12
          have HB := HB12
          obtain ⟨rest, bad⟩ := s10'
          clear ho hO hX HO12 HZ12 HR12 HB12 HOW11 HOW12 HO11 HZ11 HR11 HB11
          obtain ⟨W, rfl⟩ : ∃ W, W = w12 := ⟨_, rfl⟩
          have hOl := HO.out.lt
          have x0 := HO.out.g0
          have x1 := HO.out.g1
          have x2 := HO.out.g2
          have x3 := HO.out.g3
          have x4 := HO.out.g4
          have x5 := HO.out.g5
          have x6 := HO.out.g6
          have x7 := HO.out.g7
          have x8 := HO.out.g8
          have NO := lid (decq_no (l := l))
          have YES := lid (decq_yes (l := l))
          obtain ⟨hA, hcp⟩ := HX.out.obj
          have CC := lid (refEncode_any o ae ap ne ce np cp W hA hcp HX.out.2.2.2.2.2.1)
          clear hA hcp
          go_wp2_with fail
          clear x0 x1 x2 x3 x4 x5 x6 x7 x8
          (with_reducible refine (CC.out).mono ?_); rintro e V ⟨rfl, hbV⟩
          have HO2 := lid (HO.out.below hbV)
          have HZ2 := lid (HZ.out.below hbV)
          have HR2 := lid (Rb.below HR.out hbV)
          have HX2 : Hid (ObO ((w.heap.size + 1 + 1) + 1) o ae ne ce ap np cp V) := lid (HX.out.heap fun k _ hk => hbV.block k hk)
          have HB2 : Hid (Below w.heap.size w V) := lid (HB.out.trans (hbV.mono HB.out.size))
          have y0 := HZ2.out.g0
          have q0 := HZ2.out.fz 0
          have y1 := HZ2.out.g1
          have q1 := HZ2.out.fz 1
          have y2 := HZ2.out.g2
          have q2 := HZ2.out.fz 2
          have y3 := HZ2.out.g3
          have q3 := HZ2.out.fz 3
          have y4 := HZ2.out.g4
          have q4 := HZ2.out.fz 4
          have y5 := HZ2.out.g5
          have q5 := HZ2.out.fz 5
          have y6 := HZ2.out.g6
          have q6 := HZ2.out.fz 6
          have y7 := HZ2.out.g7
          have q7 := HZ2.out.fz 7
          have y8 := HZ2.out.g8
          have q8 := HZ2.out.fz 8
          have x0 := HO2.out.g0
          have x1 := HO2.out.g1
          have x2 := HO2.out.g2
          have x3 := HO2.out.g3
          have x4 := HO2.out.g4
          have x5 := HO2.out.g5
          have x6 := HO2.out.g6
          have x7 := HO2.out.g7
          have x8 := HO2.out.g8
          have hOl2 := HO2.out.lt
          have hzl2 := HZ2.out.lt
          have hbl2 := HR2.out.lt
          have r1 : V.cell? ⟨w.heap.size + 1, 1, none⟩ = some (.bool bad) := HR2.out.c1
          clear CC HO HZ HX HB HR
          cases bad with
          | true =>
            have HV := lid (NO.out (by unfold okQ; rw [HD.out]; rfl))
            clear x0 x1 x2 x3 x4 x5 x6 x7 x8
            go_wp2_with fail
            have X := set9_oc (d0 := (.int .i64 0)) (d1 := (.string ⟨#[]⟩)) (d2 := (.slice none 0 0)) (d3 := (.int .u64 0)) (d4 := (.int .u64 0)) (d5 := (.slice none 0 0)) (d6 := (.string ⟨#[]⟩)) (d7 := (.int .i64 0)) (d8 := (.string ⟨#[]⟩)) HZ2.out
            have z0 := X.g0
            have z1 := X.g1
            have z2 := X.g2
            have z3 := X.g3
            have z4 := X.g4
            have z5 := X.g5
            have z6 := X.g6
            have z7 := X.g7
            have z8 := X.g8
            unfold set9 at z0 z1 z2 z3 z4 z5 z6 z7 z8
            refine bodyPost_ret (v := .tuple #[.agg #[(.int .i64 0), (.string ⟨#[]⟩), (.slice none 0 0), (.int .u64 0), (.int .u64 0), (.slice none 0 0), (.string ⟨#[]⟩), (.int .i64 0), (.string ⟨#[]⟩)], .int .i64 13]) (by simp [results, Try.results24, go_sem, z0, z1, z2, z3, z4, z5, z6, z7, z8]) rfl ?_
            exact ⟨none, none, 0, 0, 0, 0, by rw [HV.out.1, HV.out.2]; rfl, Nat.le_refl _, by rw [HV.out.1]; exact none_obj _, set9_below _ _ _ _ _ _ _ _ _ HB2.out (Nat.le_refl _)⟩
          | false =>
          by_cases hv : checkO o = 0
          case neg =>
            have HV := lid (NO.out (by unfold okQ; rw [HD.out]; simp [hv]))
            have uK : (checkO o != 0) = true := by simpa using hv
            clear hv x0 x1 x2 x3 x4 x5 x6 x7 x8
            go_wp2_with fail
            have X := set9_oc (d0 := (.int .i64 0)) (d1 := (.string ⟨#[]⟩)) (d2 := (.slice none 0 0)) (d3 := (.int .u64 0)) (d4 := (.int .u64 0)) (d5 := (.slice none 0 0)) (d6 := (.string ⟨#[]⟩)) (d7 := (.int .i64 0)) (d8 := (.string ⟨#[]⟩)) HZ2.out
            have z0 := X.g0
            have z1 := X.g1
            have z2 := X.g2
            have z3 := X.g3
            have z4 := X.g4
            have z5 := X.g5
            have z6 := X.g6
            have z7 := X.g7
            have z8 := X.g8
            unfold set9 at z0 z1 z2 z3 z4 z5 z6 z7 z8
            refine bodyPost_ret (v := .tuple #[.agg #[(.int .i64 0), (.string ⟨#[]⟩), (.slice none 0 0), (.int .u64 0), (.int .u64 0), (.slice none 0 0), (.string ⟨#[]⟩), (.int .i64 0), (.string ⟨#[]⟩)], .int .i64 13]) (by simp [results, Try.results24, go_sem, z0, z1, z2, z3, z4, z5, z6, z7, z8]) rfl ?_
            exact ⟨none, none, 0, 0, 0, 0, by rw [HV.out.1, HV.out.2]; rfl, Nat.le_refl _, by rw [HV.out.1]; exact none_obj _, set9_below _ _ _ _ _ _ _ _ _ HB2.out (Nat.le_refl _)⟩
          case pos =>
          have HE : Hid (encT o = encL o) := lid (by unfold encT; rw [if_pos hv])
          rw [HE.out]
          by_cases ht : encL o = l
          · have HV := lid (YES.out (by unfold okQ; rw [HD.out]; simp [hv, ht]))
            rw [hv, ht]
            have t0 : ((bstr l).toList == (bstr l).toList) = true := by simp
            clear hv ht
            go_wp2_with fail
            have X := set9_oc (d0 := (.int .i64 o.kind)) (d1 := (.string o.data)) (d2 := (.slice ae ne ce)) (d3 := (.int .u64 o.tree.1.toNat)) (d4 := (.int .u64 o.tree.2.toNat)) (d5 := (.slice ap np cp)) (d6 := (.string o.auth)) (d7 := (.int .i64 o.time)) (d8 := (.string o.msg)) HZ2.out
            have z0 := X.g0
            have z1 := X.g1
            have z2 := X.g2
            have z3 := X.g3
            have z4 := X.g4
            have z5 := X.g5
            have z6 := X.g6
            have z7 := X.g7
            have z8 := X.g8
            unfold set9 at z0 z1 z2 z3 z4 z5 z6 z7 z8
            refine bodyPost_ret (v := .tuple #[.agg #[(.int .i64 o.kind), (.string o.data), (.slice ae ne ce), (.int .u64 o.tree.1.toNat), (.int .u64 o.tree.2.toNat), (.slice ap np cp), (.string o.auth), (.int .i64 o.time), (.string o.msg)], .int .i64 0]) (by simp [results, Try.results24, go_sem, z0, z1, z2, z3, z4, z5, z6, z7, z8]) rfl ?_
            refine ⟨ae, ap, ne, ce, np, cp, by rw [HV.out.1, HV.out.2, HD.out], (HX2.out.obj).2, ?_, set9_below _ _ _ _ _ _ _ _ _ HB2.out (Nat.le_refl _)⟩
            rw [HV.out.1, HD.out]
            exact (ObO.obj (HX2.out.heap (w' := set9 V w.heap.size (.int .i64 o.kind) (.string o.data) (.slice ae ne ce) (.int .u64 o.tree.1.toNat) (.int .u64 o.tree.2.toNat) (.slice ap np cp) (.string o.auth) (.int .i64 o.time) (.string o.msg)) fun k hk _ => set9_heap _ _ _ _ _ _ _ _ _ _ _ (by omega))).1
          · have HV := lid (NO.out (by unfold okQ; rw [HD.out]; simp [ht]))
            have t0 : ((bstr (encL o)).toList == (bstr l).toList) = false := str_ne (fun e => ht (congrArg (fun s : ByteArray => s.data.toList) e))
            rw [hv]
            clear hv ht x0 x1 x2 x3 x4 x5 x6 x7 x8
            go_wp2_with fail
            have X := set9_oc (d0 := (.int .i64 0)) (d1 := (.string ⟨#[]⟩)) (d2 := (.slice none 0 0)) (d3 := (.int .u64 0)) (d4 := (.int .u64 0)) (d5 := (.slice none 0 0)) (d6 := (.string ⟨#[]⟩)) (d7 := (.int .i64 0)) (d8 := (.string ⟨#[]⟩)) HZ2.out
            have z0 := X.g0
            have z1 := X.g1
            have z2 := X.g2
            have z3 := X.g3
            have z4 := X.g4
            have z5 := X.g5
            have z6 := X.g6
            have z7 := X.g7
            have z8 := X.g8
            unfold set9 at z0 z1 z2 z3 z4 z5 z6 z7 z8
            refine bodyPost_ret (v := .tuple #[.agg #[(.int .i64 0), (.string ⟨#[]⟩), (.slice none 0 0), (.int .u64 0), (.int .u64 0), (.slice none 0 0), (.string ⟨#[]⟩), (.int .i64 0), (.string ⟨#[]⟩)], .int .i64 13]) (by simp [results, Try.results24, go_sem, z0, z1, z2, z3, z4, z5, z6, z7, z8]) rfl ?_
            exact ⟨none, none, 0, 0, 0, 0, by rw [HV.out.1, HV.out.2]; rfl, Nat.le_refl _, by rw [HV.out.1]; exact none_obj _, set9_below _ _ _ _ _ _ _ _ _ HB2.out (Nat.le_refl _)⟩
        | false =>
          have hj6 : j + lk.length ≤ 60000 := HC.out rfl
          have HXN := lid (many_next (f := qDig) (n := n - (j + 1)) (s := (lk, false)) rfl)
          have HK1 : Hid (n - j = n - (j + 1) + 1) := lid (by omega)
          have HLS := lid (qDig_less (s := (lk, false)))
          have HLL2 := lid (qDig_len (s := (lk, false)))
          have HG : Hid (∀ g, (Value.slice ap j cp).ownBlock = some g → g < wr.heap.size ∧ (w.heap.size + 1 + 1) + 1 ≤ g) := lid fun g hg => ⟨(HOWr.out.lt g hg).2, (HOWr.out.lt g hg).1⟩
          have CA := lid (qDigest_any (w.heap.size + 1) (lk, false) wr.drew HRr.out HS.out)
          obtain ⟨dg, hdg⟩ : ∃ x, (qDig (lk, false)).1 = x := ⟨_, rfl⟩
          obtain ⟨sc, hsc⟩ : ∃ x, (qDig (lk, false)).2 = x := ⟨_, rfl⟩
          rw [hdg, hsc] at CA HXN
          rw [hsc] at HLS HLL2
          have m5 := HOr.out.g5
          have ml := HOr.out.lt
          have C5 := SinceK.cell (k := (w.heap.size + 1 + 1)) (W := wr) m5
          clear hdg hsc
          go_wp2_with fail
          refine wp_region_seqL 7 (fun w' => ∃ s : SinceK (w.heap.size + 1 + 1) wr, w' = s.world) [(0, true), (1, true), (2, true), (3, false), (4, false), (5, false), (6, true), (7, false)] (by kernel_rfl) (by kernel_rfl) (by intro c d v a w h; cases d <;> exact h) (sincek (KeepK.refl _ _).drew) ?_
          repeat (first | (refine seqL_skip (by rfl) (by rfl) (by rfl) ?_; simp only [Act.put, List.setIfInBounds_toArray, List.set_cons_succ, List.set_cons_zero]) | (refine seqL_float (by rfl) (by rfl) (by rfl) (by rfl) ?_; intro K hK; go_big_quiet_op; go_big_quiet_on))
          refine seqL_chain (by rfl) ?_
          intro K hK
          go_wp2_with fail
          (with_reducible refine (CA.out).mono ?_); rintro e x2 ⟨rfl, hR, hK⟩
          have hzd : wr.drew.heap.size = wr.heap.size := rfl
          have x2l : wr.heap.size ≤ x2.heap.size := hK.size
          have XO2 := lid (show Oc (w.heap.size + 1 + 1) (.int .i64 k) (.string ⟨#[]⟩) (.slice none 0 0) (.int .u64 d.1.toNat) (.int .u64 d.2.toNat) (.slice ap j cp) (.string ⟨#[]⟩) (.int .i64 0) (.string ⟨#[]⟩) x2 from HOr.out.kp (w := wr.drew) hK (by omega))
          have XZ2 := lid (show Oc w.heap.size (.int .i64 0) (.string ⟨#[]⟩) (.slice none 0 0) (.int .u64 0) (.int .u64 0) (.slice none 0 0) (.string ⟨#[]⟩) (.int .i64 0) (.string ⟨#[]⟩) x2 from HZr.out.kp (w := wr.drew) hK (by omega))
          have XB2 : Hid (Below w.heap.size w x2) := lid (hK.below HBr.out.drew (by omega))
          have XW2 := lid (own_kp HOWr.out.drew hK (by omega))
          have XR2 := lid hR
          have XK2 : Hid (x2.heap[(w.heap.size + 1 + 1)]? = wr.heap[(w.heap.size + 1 + 1)]?) := lid (hK.2 _ (by show _ < wr.heap.size; omega) (by omega))
          clear hR hK CA c1 C5 m5
          go_wp2_with fail
          refine hK.out _ _ (sincek XK2.out) ?_
          clear hK K
          repeat (first | (refine seqL_skip (by rfl) (by rfl) (by rfl) ?_; simp only [Act.put, List.setIfInBounds_toArray, List.set_cons_succ, List.set_cons_zero]) | (refine seqL_float (by rfl) (by rfl) (by rfl) (by rfl) ?_; intro K hK; go_big_quiet_op; go_big_quiet_on))
          refine seqL_chain (by rfl) ?_
          intro K hK
          go_wp2_with fail
          go_wp2_with fail
          refine hK.out _ _ (sincek ((Below.heap_alloc _ _ _ (by omega)).trans XK2.out)) ?_
          clear hK K
          repeat (first | (refine seqL_skip (by rfl) (by rfl) (by rfl) ?_; simp only [Act.put, List.setIfInBounds_toArray, List.set_cons_succ, List.set_cons_zero]) | (refine seqL_float (by rfl) (by rfl) (by rfl) (by rfl) ?_; intro K hK; go_big_quiet_op; go_big_quiet_on))
          refine seqL_chain (by rfl) ?_
          intro K hK
          refine wpList_append_newG #[.int .u64 dg.1.toNat, .int .u64 dg.2.toNat] rfl _ _ 26 rfl ((w.heap.size + 1 + 1) + 1) 25 (.agg #[.int .u64 0, .int .u64 0]) 2 16 info_dgo Try.underlying26 rfl (by decide) (.slice ap j cp) j _ XW2.out rfl rfl rfl (by simp [Value.oneCell']) (by unfold maxLen; omega) (by omega) (by omega) ?_
          intro v' x3 hown' hgrow
          have hba : Below x2.heap.size x2 (x2.alloc (.cells #[.int .u64 dg.1.toNat, .int .u64 dg.2.toNat] 25)) := ba _ _
          have hne : ∀ g, g < (w.heap.size + 1 + 1) + 1 → some g ≠ (Value.slice ap j cp).ownBlock := fun g hg e => by have := (HG.out g e.symm).2; omega
          have XO3 := lid (show Oc (w.heap.size + 1 + 1) (.int .i64 k) (.string ⟨#[]⟩) (.slice none 0 0) (.int .u64 d.1.toNat) (.int .u64 d.2.toNat) (.slice ap j cp) (.string ⟨#[]⟩) (.int .i64 0) (.string ⟨#[]⟩) x3 from (hgrow.block _ (by rw [World.size_alloc]; omega) (hne _ (by omega))).trans (XO2.out.below hba))
          have XZ3 := lid (show Oc w.heap.size (.int .i64 0) (.string ⟨#[]⟩) (.slice none 0 0) (.int .u64 0) (.int .u64 0) (.slice none 0 0) (.string ⟨#[]⟩) (.int .i64 0) (.string ⟨#[]⟩) x3 from (hgrow.block _ (by rw [World.size_alloc]; omega) (hne _ (by omega))).trans (XZ2.out.below hba))
          have XR3 := lid (show Rb 66 (w.heap.size + 1) sc x3 from (hgrow.block _ (by rw [World.size_alloc]; omega) (hne _ (by omega))).trans (Rb.below XR2.out hba))
          have XB3 : Hid (Below w.heap.size w x3) := lid ((XB2.out.trans (hba.mono (by omega))).grown hgrow (by rw [World.size_alloc]; omega) (fun g hg => by have := (HG.out g hg).2; omega))
          have XW3 : Hid (x3.ownsRow ((w.heap.size + 1 + 1) + 1) 25 2 v' (j + 1) (dcells (L ++ [dg]))) := lid (by rw [dcells_snoc]; exact hown')
          have XK3 : Hid (x3.heap[(w.heap.size + 1 + 1)]? = wr.heap[(w.heap.size + 1 + 1)]?) := lid (XO3.out.trans HOr.out.symm)
          have xl3 : (w.heap.size + 1 + 1) + 1 ≤ x3.heap.size := by have := hgrow.size; rw [World.size_alloc] at this; omega
          obtain ⟨ap2, cp2, rfl⟩ := own_slice hown'
          clear hown' hgrow hba hne XO2 XZ2 XR2 XB2 XW2 HOr HZr HRr HBr HOWr XK2
          have o5 := XO3.out.g5
          have p5 := XO3.out.fz 5
          have ol := XO3.out.lt
          simp only [Act.put, List.setIfInBounds_toArray, List.set_cons_succ, List.set_cons_zero]
          go_wp2_with fail
          refine hK.out _ _ (sincek XK3.out) ?_
          clear hK K
          repeat (first | (refine seqL_skip (by rfl) (by rfl) (by rfl) ?_; simp only [Act.put, List.setIfInBounds_toArray, List.set_cons_succ, List.set_cons_zero]) | (refine seqL_float (by rfl) (by rfl) (by rfl) (by rfl) ?_; intro K hK; go_big_quiet_op; go_big_quiet_on))
          clear XK3
          obtain ⟨x9, hx9⟩ : ∃ x, x3.setCell ⟨(w.heap.size + 1 + 1), 5, none⟩ (.slice ap2 (j + 1) cp2) = x := ⟨_, rfl⟩
          have XO9 := lid (show Oc (w.heap.size + 1 + 1) (.int .i64 k) (.string ⟨#[]⟩) (.slice none 0 0) (.int .u64 d.1.toNat) (.int .u64 d.2.toNat) (.slice ap2 (j + 1) cp2) (.string ⟨#[]⟩) (.int .i64 0) (.string ⟨#[]⟩) x9 by rw [← hx9]; exact XO3.out.s5 _)
          have XZ9 := lid (show Oc w.heap.size (.int .i64 0) (.string ⟨#[]⟩) (.slice none 0 0) (.int .u64 0) (.int .u64 0) (.slice none 0 0) (.string ⟨#[]⟩) (.int .i64 0) (.string ⟨#[]⟩) x9 by rw [← hx9]; exact XZ3.out.other (by omega))
          have XR9 := lid (show Rb 66 (w.heap.size + 1) sc x9 by rw [← hx9]; exact XR3.out.other (by omega))
          have XB9 : Hid (Below w.heap.size w x9) := lid (by rw [← hx9]; exact XB3.out.setCell (p := ⟨(w.heap.size + 1 + 1), 5, none⟩) (by show _ ≤ w.heap.size + 1 + 1; omega) _)
          have XW9 := lid (show x9.ownsRow ((w.heap.size + 1 + 1) + 1) 25 2 (.slice ap2 (j + 1) cp2) (j + 1) (dcells (L ++ [dg])) by rw [← hx9]; exact own_block XW3.out fun g hg => Below.heap_setCell _ _ _ _ (by have := (XW3.out.lt g hg).1; simp; omega))
          have xl9 : (w.heap.size + 1 + 1) + 1 ≤ x9.heap.size := by rw [← hx9]; simpa using xl3
          refine seqL_last (by rfl) (by rfl) ?_
          intro K hK
          go_wp2_with fail
          refine hK.out _ _ ?_
          clear hK K
          go_wp2_with fail
          go_roundw
          case rel => exact ⟨j + 1, sc, L ++ [dg], ap2, cp2, by omega, by go_num, XO9, XW9, XR9, XZ9, XB9, xl9, lid (by rw [HM.out, HK1.out, HXN.out]; simp), lid (by simp [HL.out]), lid (fun h => by have h2 : sc.1.length + 1 ≤ lk.length := HLS.out h; omega), lid (Nat.le_trans HLL2.out HS.out)⟩
          case measure => simp [intOf]; omega
      · obtain rfl : j = n := by omega
        have dk : decide ((j : Int) < (j : Int)) = false := by simp
        have HXM : Hid (many qDig j s3 = (L, (lk, bk))) := lid (by rw [HM.out, Nat.sub_self, many, List.append_nil])
        replace HQ : Hid (qList qDig s2 = (L, (lk, bk))) := lid (by rw [HQ.out, HXM.out])
        obtain rfl : j = L.length := HL.out.symm
        obtain ⟨sk, hsk⟩ : ∃ x : Rd, (lk, bk) = x := ⟨_, rfl⟩
        replace HS : Hid (sk.1.length ≤ maxLen) := lid (by rw [← hsk]; exact HS.out)
        rw [hsk] at HQ HRr
        clear HM HXM HC HL hsk
        have HOW6 := HOWr
        obtain ⟨w6, rfl⟩ : ∃ x, x = wr := ⟨_, rfl⟩
        have HO6 := HOr
        have HZ6 := HZr
        have HR6 := HRr
        have HB6 := HBr
        have s6 := sr
        clear HOWr HOr HZr HRr HBr sr
        have CP := lid (qText_any (w.heap.size + 1) sk w6 HR6.out HS.out)
        have L6 := lid (Nat.le_trans (qStr_len (s := sk)) HS.out)
        have N6 := lid (Nat.le_trans (qStr_max (s := sk)).2 (show 65536 ≤ maxLen by decide))
        go_wp2_with fail
        obtain ⟨a, ha⟩ : ∃ r, (qStr sk).1 = r := ⟨_, rfl⟩
        obtain ⟨s6', hs6⟩ : ∃ r, (qStr sk).2 = r := ⟨_, rfl⟩
        rw [ha, hs6] at CP
        rw [hs6] at L6
        replace N6 : Hid (a.length ≤ maxLen) := by rw [← ha]; exact N6
        (with_reducible refine (CP.out).mono ?_); rintro e w7 ⟨rfl, hR, hK⟩
        have HO7 := lid (HO6.out.kp hK (by omega))
        have HZ7 := lid (HZ6.out.kp hK (by omega))
        have HB7 := lid (hK.below HB6.out (by omega))
        have HR7 := lid hR
        have s7 : (w.heap.size + 1 + 1) + 1 ≤ w7.heap.size := by have := hK.size; omega
        have HOW7 := lid (own_kp HOW6.out hK (by omega))
        clear hR hK HO6 HZ6 HB6 HR6
        clear CP
        have o6 := HO7.out.g6
        have p6 := HO7.out.fz 6
        have ol7 := HO7.out.lt
        obtain ⟨w8, hw8⟩ : ∃ x, (w7.setCell ⟨(w.heap.size + 1 + 1), 6, none⟩ (.string (bstr a))) = x := ⟨_, rfl⟩
        have HO8 := lid ((HO7.out.s6 (.string (bstr a))))
        rw [hw8] at HO8
        have HZ8 := lid (show Oc w.heap.size (.int .i64 0) (.string ⟨#[]⟩) (.slice none 0 0) (.int .u64 0) (.int .u64 0) (.slice none 0 0) (.string ⟨#[]⟩) (.int .i64 0) (.string ⟨#[]⟩) w8 by rw [← hw8]; exact HZ7.out.other (by omega))
        have HR8 := HR7.out
        replace HR8 := lid (show Rb 66 (w.heap.size + 1) _ w8 by rw [← hw8]; exact HR8.other (by omega))
        have HB8 : Hid (Below w.heap.size w w8) := lid (by rw [← hw8]; exact HB7.out.setCell (p := ⟨(w.heap.size + 1 + 1), 6, none⟩) (by show _ ≤ w.heap.size + 1 + 1; omega) _)
        have s8 : (w.heap.size + 1 + 1) + 1 ≤ w8.heap.size := by rw [← hw8]; simpa using s7
        have HOW8 := lid (show w8.ownsRow ((w.heap.size + 1 + 1) + 1) 25 2 (.slice ap L.length cp) L.length (dcells L) by rw [← hw8]; exact own_block HOW7.out fun g hg => Below.heap_setCell _ _ _ _ (by have := (HOW7.out.lt g hg).1; simp; omega))
        have CP := lid (qNumber_any (w.heap.size + 1) s6' w8 HR8.out L6.out)
        have L8 := lid (Nat.le_trans (qNum_len (s := s6')) L6.out)
        clear HO7 HZ7 HR7 HB7 HOW7
        go_wp2_with fail
        clear hw8 o6 p6
        obtain ⟨tm, htm⟩ : ∃ r, (qNum s6').1 = r := ⟨_, rfl⟩
        obtain ⟨s8', hs8⟩ : ∃ r, (qNum s6').2 = r := ⟨_, rfl⟩
        rw [htm, hs8] at CP
        rw [hs8] at L8
        (with_reducible refine (CP.out).mono ?_); rintro e w9 ⟨rfl, hR, hK⟩
        have HO9 := lid (HO8.out.kp hK (by omega))
        have HZ9 := lid (HZ8.out.kp hK (by omega))
        have HB9 := lid (hK.below HB8.out (by omega))
        have HR9 := lid hR
        have s9 : (w.heap.size + 1 + 1) + 1 ≤ w9.heap.size := by have := hK.size; omega
        have HOW9 := lid (own_kp HOW8.out hK (by omega))
        clear hR hK HO8 HZ8 HB8 HR8
        clear CP
        have o7 := HO9.out.g7
        have p7 := HO9.out.fz 7
        have ol9 := HO9.out.lt
        obtain ⟨w10, hw10⟩ : ∃ x, (w9.setCell ⟨(w.heap.size + 1 + 1), 7, none⟩ (.int .i64 tm)) = x := ⟨_, rfl⟩
        have HO10 := lid ((HO9.out.s7 (.int .i64 tm)))
        rw [hw10] at HO10
        have HZ10 := lid (show Oc w.heap.size (.int .i64 0) (.string ⟨#[]⟩) (.slice none 0 0) (.int .u64 0) (.int .u64 0) (.slice none 0 0) (.string ⟨#[]⟩) (.int .i64 0) (.string ⟨#[]⟩) w10 by rw [← hw10]; exact HZ9.out.other (by omega))
        have HR10 := HR9.out
        replace HR10 := lid (show Rb 66 (w.heap.size + 1) _ w10 by rw [← hw10]; exact HR10.other (by omega))
        have HB10 : Hid (Below w.heap.size w w10) := lid (by rw [← hw10]; exact HB9.out.setCell (p := ⟨(w.heap.size + 1 + 1), 7, none⟩) (by show _ ≤ w.heap.size + 1 + 1; omega) _)
        have s10 : (w.heap.size + 1 + 1) + 1 ≤ w10.heap.size := by rw [← hw10]; simpa using s9
        have HOW10 := lid (show w10.ownsRow ((w.heap.size + 1 + 1) + 1) 25 2 (.slice ap L.length cp) L.length (dcells L) by rw [← hw10]; exact own_block HOW9.out fun g hg => Below.heap_setCell _ _ _ _ (by have := (HOW9.out.lt g hg).1; simp; omega))
        have CP := lid (qText_any (w.heap.size + 1) s8' w10 HR10.out L8.out)
        have L10 := lid (Nat.le_trans (qStr_len (s := s8')) L8.out)
        have N10 := lid (Nat.le_trans (qStr_max (s := s8')).2 (show 65536 ≤ maxLen by decide))
        clear HO9 HZ9 HR9 HB9 HOW9
        go_wp2_with fail
        clear hw10 o7 p7
        obtain ⟨g, hg⟩ : ∃ r, (qStr s8').1 = r := ⟨_, rfl⟩
        obtain ⟨s10', hs10⟩ : ∃ r, (qStr s8').2 = r := ⟨_, rfl⟩
        rw [hg, hs10] at CP
        rw [hs10] at L10
        replace N10 : Hid (g.length ≤ maxLen) := by rw [← hg]; exact N10
        (with_reducible refine (CP.out).mono ?_); rintro e w11 ⟨rfl, hR, hK⟩
        have HO11 := lid (HO10.out.kp hK (by omega))
        have HZ11 := lid (HZ10.out.kp hK (by omega))
        have HB11 := lid (hK.below HB10.out (by omega))
        have HR11 := lid hR
        have s11 : (w.heap.size + 1 + 1) + 1 ≤ w11.heap.size := by have := hK.size; omega
        have HOW11 := lid (own_kp HOW10.out hK (by omega))
        clear hR hK HO10 HZ10 HB10 HR10
        clear CP
        have o8 := HO11.out.g8
        have p8 := HO11.out.fz 8
        have ol11 := HO11.out.lt
        obtain ⟨w12, hw12⟩ : ∃ x, (w11.setCell ⟨(w.heap.size + 1 + 1), 8, none⟩ (.string (bstr g))) = x := ⟨_, rfl⟩
        have HO12 := lid ((HO11.out.s8 (.string (bstr g))))
        rw [hw12] at HO12
        have HZ12 := lid (show Oc w.heap.size (.int .i64 0) (.string ⟨#[]⟩) (.slice none 0 0) (.int .u64 0) (.int .u64 0) (.slice none 0 0) (.string ⟨#[]⟩) (.int .i64 0) (.string ⟨#[]⟩) w12 by rw [← hw12]; exact HZ11.out.other (by omega))
        have HR12 := HR11.out
        replace HR12 := lid (show Rb 66 (w.heap.size + 1) _ w12 by rw [← hw12]; exact HR12.other (by omega))
        have HB12 : Hid (Below w.heap.size w w12) := lid (by rw [← hw12]; exact HB11.out.setCell (p := ⟨(w.heap.size + 1 + 1), 8, none⟩) (by show _ ≤ w.heap.size + 1 + 1; omega) _)
        have s12 : (w.heap.size + 1 + 1) + 1 ≤ w12.heap.size := by rw [← hw12]; simpa using s11
        have HOW12 := lid (show w12.ownsRow ((w.heap.size + 1 + 1) + 1) 25 2 (.slice ap L.length cp) L.length (dcells L) by rw [← hw12]; exact own_block HOW11.out fun g hg => Below.heap_setCell _ _ _ _ (by have := (HOW11.out.lt g hg).1; simp; omega))
        replace HD : Hid (decQ l = (obC d L a tm g, s10')) := lid (by rw [HD.out]; unfold decQC; simp only [HD1.out, HD2.out, HQ.out, ha, hs6, htm, hs8, hg, hs10])
        clear HD1 HD2 HQ ha hs6 htm hs8 hg hs10
        have HP : ∃ (ae : Option Addr) (ne ce : Nat) (ap : Option Addr) (np cp : Nat), Oc (w.heap.size + 1 + 1) (.int .i64 (obC d L a tm g).kind) (.string (obC d L a tm g).data) (.slice ae ne ce) (.int .u64 (obC d L a tm g).tree.1.toNat) (.int .u64 (obC d L a tm g).tree.2.toNat) (.slice ap np cp) (.string (obC d L a tm g).auth) (.int .i64 (obC d L a tm g).time) (.string (obC d L a tm g).msg) w12 ∧ ObO ((w.heap.size + 1 + 1) + 1) (obC d L a tm g) ae ne ce ap np cp w12 := ⟨none, 0, 0, ap, L.length, cp, (by have := HO12.out; rw [KK.out] at this; exact this), World.ownsRow_nil _ _ _ _, HOW12.out, rfl, rfl, (by intro e he; cases he), empty_60, N6.out, N10.out⟩
        obtain ⟨o, ho⟩ : ∃ o, obC d L a tm g = o := ⟨_, rfl⟩
        rw [ho] at HP HD
        obtain ⟨ae, ne, ce, ap, np, cp, hO, hX⟩ := HP
        have HO := lid hO
        have HX := lid hX
        have HZ := HZ12
        have HR := HR12
        have HB := HB12
        obtain ⟨rest, bad⟩ := s10'
        clear ho hO hX HO12 HZ12 HR12 HB12 HOW11 HOW12 HO11 HZ11 HR11 HB11
        obtain ⟨W, rfl⟩ : ∃ W, W = w12 := ⟨_, rfl⟩
        have hOl := HO.out.lt
        have x0 := HO.out.g0
        have x1 := HO.out.g1
        have x2 := HO.out.g2
        have x3 := HO.out.g3
        have x4 := HO.out.g4
        have x5 := HO.out.g5
        have x6 := HO.out.g6
        have x7 := HO.out.g7
        have x8 := HO.out.g8
        have NO := lid (decq_no (l := l))
        have YES := lid (decq_yes (l := l))
        obtain ⟨hA, hcp⟩ := HX.out.obj
        have CC := lid (refEncode_any o ae ap ne ce np cp W hA hcp HX.out.2.2.2.2.2.1)
        clear hA hcp
        go_wp2_with fail
        clear x0 x1 x2 x3 x4 x5 x6 x7 x8
        (with_reducible refine (CC.out).mono ?_); rintro e V ⟨rfl, hbV⟩
        have HO2 := lid (HO.out.below hbV)
        have HZ2 := lid (HZ.out.below hbV)
        have HR2 := lid (Rb.below HR.out hbV)
        have HX2 : Hid (ObO ((w.heap.size + 1 + 1) + 1) o ae ne ce ap np cp V) := lid (HX.out.heap fun k _ hk => hbV.block k hk)
        have HB2 : Hid (Below w.heap.size w V) := lid (HB.out.trans (hbV.mono HB.out.size))
        have y0 := HZ2.out.g0
        have q0 := HZ2.out.fz 0
        have y1 := HZ2.out.g1
        have q1 := HZ2.out.fz 1
        have y2 := HZ2.out.g2
        have q2 := HZ2.out.fz 2
        have y3 := HZ2.out.g3
        have q3 := HZ2.out.fz 3
        have y4 := HZ2.out.g4
        have q4 := HZ2.out.fz 4
        have y5 := HZ2.out.g5
        have q5 := HZ2.out.fz 5
        have y6 := HZ2.out.g6
        have q6 := HZ2.out.fz 6
        have y7 := HZ2.out.g7
        have q7 := HZ2.out.fz 7
        have y8 := HZ2.out.g8
        have q8 := HZ2.out.fz 8
        have x0 := HO2.out.g0
        have x1 := HO2.out.g1
        have x2 := HO2.out.g2
        have x3 := HO2.out.g3
        have x4 := HO2.out.g4
        have x5 := HO2.out.g5
        have x6 := HO2.out.g6
        have x7 := HO2.out.g7
        have x8 := HO2.out.g8
        have hOl2 := HO2.out.lt
        have hzl2 := HZ2.out.lt
        have hbl2 := HR2.out.lt
        have r1 : V.cell? ⟨w.heap.size + 1, 1, none⟩ = some (.bool bad) := HR2.out.c1
        clear CC HO HZ HX HB HR
        cases bad with
        | true =>
          have HV := lid (NO.out (by unfold okQ; rw [HD.out]; rfl))
          clear x0 x1 x2 x3 x4 x5 x6 x7 x8
          go_wp2_with fail
          have X := set9_oc (d0 := (.int .i64 0)) (d1 := (.string ⟨#[]⟩)) (d2 := (.slice none 0 0)) (d3 := (.int .u64 0)) (d4 := (.int .u64 0)) (d5 := (.slice none 0 0)) (d6 := (.string ⟨#[]⟩)) (d7 := (.int .i64 0)) (d8 := (.string ⟨#[]⟩)) HZ2.out
          have z0 := X.g0
          have z1 := X.g1
          have z2 := X.g2
          have z3 := X.g3
          have z4 := X.g4
          have z5 := X.g5
          have z6 := X.g6
          have z7 := X.g7
          have z8 := X.g8
          unfold set9 at z0 z1 z2 z3 z4 z5 z6 z7 z8
          refine bodyPost_ret (v := .tuple #[.agg #[(.int .i64 0), (.string ⟨#[]⟩), (.slice none 0 0), (.int .u64 0), (.int .u64 0), (.slice none 0 0), (.string ⟨#[]⟩), (.int .i64 0), (.string ⟨#[]⟩)], .int .i64 13]) (by simp [results, Try.results24, go_sem, z0, z1, z2, z3, z4, z5, z6, z7, z8]) rfl ?_
          exact ⟨none, none, 0, 0, 0, 0, by rw [HV.out.1, HV.out.2]; rfl, Nat.le_refl _, by rw [HV.out.1]; exact none_obj _, set9_below _ _ _ _ _ _ _ _ _ HB2.out (Nat.le_refl _)⟩
        | false =>
        by_cases hv : checkO o = 0
        case neg =>
          have HV := lid (NO.out (by unfold okQ; rw [HD.out]; simp [hv]))
          have uK : (checkO o != 0) = true := by simpa using hv
          clear hv x0 x1 x2 x3 x4 x5 x6 x7 x8
          go_wp2_with fail
          have X := set9_oc (d0 := (.int .i64 0)) (d1 := (.string ⟨#[]⟩)) (d2 := (.slice none 0 0)) (d3 := (.int .u64 0)) (d4 := (.int .u64 0)) (d5 := (.slice none 0 0)) (d6 := (.string ⟨#[]⟩)) (d7 := (.int .i64 0)) (d8 := (.string ⟨#[]⟩)) HZ2.out
          have z0 := X.g0
          have z1 := X.g1
          have z2 := X.g2
          have z3 := X.g3
          have z4 := X.g4
          have z5 := X.g5
          have z6 := X.g6
          have z7 := X.g7
          have z8 := X.g8
          unfold set9 at z0 z1 z2 z3 z4 z5 z6 z7 z8
          refine bodyPost_ret (v := .tuple #[.agg #[(.int .i64 0), (.string ⟨#[]⟩), (.slice none 0 0), (.int .u64 0), (.int .u64 0), (.slice none 0 0), (.string ⟨#[]⟩), (.int .i64 0), (.string ⟨#[]⟩)], .int .i64 13]) (by simp [results, Try.results24, go_sem, z0, z1, z2, z3, z4, z5, z6, z7, z8]) rfl ?_
          exact ⟨none, none, 0, 0, 0, 0, by rw [HV.out.1, HV.out.2]; rfl, Nat.le_refl _, by rw [HV.out.1]; exact none_obj _, set9_below _ _ _ _ _ _ _ _ _ HB2.out (Nat.le_refl _)⟩
        case pos =>
        have HE : Hid (encT o = encL o) := lid (by unfold encT; rw [if_pos hv])
        rw [HE.out]
        by_cases ht : encL o = l
        · have HV := lid (YES.out (by unfold okQ; rw [HD.out]; simp [hv, ht]))
          rw [hv, ht]
          have t0 : ((bstr l).toList == (bstr l).toList) = true := by simp
          clear hv ht
          go_wp2_with fail
          have X := set9_oc (d0 := (.int .i64 o.kind)) (d1 := (.string o.data)) (d2 := (.slice ae ne ce)) (d3 := (.int .u64 o.tree.1.toNat)) (d4 := (.int .u64 o.tree.2.toNat)) (d5 := (.slice ap np cp)) (d6 := (.string o.auth)) (d7 := (.int .i64 o.time)) (d8 := (.string o.msg)) HZ2.out
          have z0 := X.g0
          have z1 := X.g1
          have z2 := X.g2
          have z3 := X.g3
          have z4 := X.g4
          have z5 := X.g5
          have z6 := X.g6
          have z7 := X.g7
          have z8 := X.g8
          unfold set9 at z0 z1 z2 z3 z4 z5 z6 z7 z8
          refine bodyPost_ret (v := .tuple #[.agg #[(.int .i64 o.kind), (.string o.data), (.slice ae ne ce), (.int .u64 o.tree.1.toNat), (.int .u64 o.tree.2.toNat), (.slice ap np cp), (.string o.auth), (.int .i64 o.time), (.string o.msg)], .int .i64 0]) (by simp [results, Try.results24, go_sem, z0, z1, z2, z3, z4, z5, z6, z7, z8]) rfl ?_
          refine ⟨ae, ap, ne, ce, np, cp, by rw [HV.out.1, HV.out.2, HD.out], (HX2.out.obj).2, ?_, set9_below _ _ _ _ _ _ _ _ _ HB2.out (Nat.le_refl _)⟩
          rw [HV.out.1, HD.out]
          exact (ObO.obj (HX2.out.heap (w' := set9 V w.heap.size (.int .i64 o.kind) (.string o.data) (.slice ae ne ce) (.int .u64 o.tree.1.toNat) (.int .u64 o.tree.2.toNat) (.slice ap np cp) (.string o.auth) (.int .i64 o.time) (.string o.msg)) fun k hk _ => set9_heap _ _ _ _ _ _ _ _ _ _ _ (by omega))).1
        · have HV := lid (NO.out (by unfold okQ; rw [HD.out]; simp [ht]))
          have t0 : ((bstr (encL o)).toList == (bstr l).toList) = false := str_ne (fun e => ht (congrArg (fun s : ByteArray => s.data.toList) e))
          rw [hv]
          clear hv ht x0 x1 x2 x3 x4 x5 x6 x7 x8
          go_wp2_with fail
          have X := set9_oc (d0 := (.int .i64 0)) (d1 := (.string ⟨#[]⟩)) (d2 := (.slice none 0 0)) (d3 := (.int .u64 0)) (d4 := (.int .u64 0)) (d5 := (.slice none 0 0)) (d6 := (.string ⟨#[]⟩)) (d7 := (.int .i64 0)) (d8 := (.string ⟨#[]⟩)) HZ2.out
          have z0 := X.g0
          have z1 := X.g1
          have z2 := X.g2
          have z3 := X.g3
          have z4 := X.g4
          have z5 := X.g5
          have z6 := X.g6
          have z7 := X.g7
          have z8 := X.g8
          unfold set9 at z0 z1 z2 z3 z4 z5 z6 z7 z8
          refine bodyPost_ret (v := .tuple #[.agg #[(.int .i64 0), (.string ⟨#[]⟩), (.slice none 0 0), (.int .u64 0), (.int .u64 0), (.slice none 0 0), (.string ⟨#[]⟩), (.int .i64 0), (.string ⟨#[]⟩)], .int .i64 13]) (by simp [results, Try.results24, go_sem, z0, z1, z2, z3, z4, z5, z6, z7, z8]) rfl ?_
          exact ⟨none, none, 0, 0, 0, 0, by rw [HV.out.1, HV.out.2]; rfl, Nat.le_refl _, by rw [HV.out.1]; exact none_obj _, set9_below _ _ _ _ _ _ _ _ _ HB2.out (Nat.le_refl _)⟩
  have n3 := kk
  clear kk
  have u2 : ((k : Int) == 2) = false := by simp; omega
  have u3 : ((k : Int) == 3) = false := by simp; omega
  replace HD : Hid (decQ l = (obD k (qStr s1).1, (qStr s1).2)) := lid (HD.out.trans (decQk_D n2 n3 s1))
  have CS := lid (qText_any (w.heap.size + 1) s1 w2 HR2.out L1.out)
  have HNX : Hid ((qStr s1).1.length ≤ 60000) := lid (Nat.le_trans qStr_max.1 hs1.out)
  clear n2 n3
  go_wp2_with fail
  clear hw2 k0 kl
  obtain ⟨r2, hr2⟩ : ∃ r, qStr s1 = r := ⟨_, rfl⟩
  rw [hr2] at CS HD HNX
  obtain ⟨a, s2⟩ := r2
  replace HD : Hid (decQ l = (obD k a, s2)) := HD
  replace HNX : Hid (a.length ≤ 60000) := HNX
  clear hr2
  (with_reducible refine (CS.out).mono ?_); rintro e w3 ⟨rfl, hR, hK⟩
  have HO3 := lid (HO2.out.kp hK (by omega))
  have HZ3 := lid (HZ2.out.kp hK (by omega))
  have HB3 := lid (hK.below HB2.out (by omega))
  have HR3 := lid hR
  have s3 : (w.heap.size + 1 + 1) + 1 ≤ w3.heap.size := by have := hK.size; omega
  clear hR hK HO2 HZ2 HB2 HR2
  clear CS
  have o1 := HO3.out.g1
  have p1 := HO3.out.fz 1
  have ol3 := HO3.out.lt
  obtain ⟨w4, hw4⟩ : ∃ x, (w3.setCell ⟨(w.heap.size + 1 + 1), 1, none⟩ (.string (bstr a))) = x := ⟨_, rfl⟩
  have HO4 := lid ((HO3.out.s1 (.string (bstr a))))
  rw [hw4] at HO4
  have HZ4 := lid (show Oc w.heap.size (.int .i64 0) (.string ⟨#[]⟩) (.slice none 0 0) (.int .u64 0) (.int .u64 0) (.slice none 0 0) (.string ⟨#[]⟩) (.int .i64 0) (.string ⟨#[]⟩) w4 by rw [← hw4]; exact HZ3.out.other (by omega))
  have HR4 := HR3.out
  replace HR4 := lid (show Rb 66 (w.heap.size + 1) _ w4 by rw [← hw4]; exact HR4.other (by omega))
  have HB4 : Hid (Below w.heap.size w w4) := lid (by rw [← hw4]; exact HB3.out.setCell (p := ⟨(w.heap.size + 1 + 1), 1, none⟩) (by show _ ≤ w.heap.size + 1 + 1; omega) _)
  have s4 : (w.heap.size + 1 + 1) + 1 ≤ w4.heap.size := by rw [← hw4]; simpa using s3
  have HP : ∃ (ae : Option Addr) (ne ce : Nat) (ap : Option Addr) (np cp : Nat), Oc (w.heap.size + 1 + 1) (.int .i64 (obD k a).kind) (.string (obD k a).data) (.slice ae ne ce) (.int .u64 (obD k a).tree.1.toNat) (.int .u64 (obD k a).tree.2.toNat) (.slice ap np cp) (.string (obD k a).auth) (.int .i64 (obD k a).time) (.string (obD k a).msg) w4 ∧ ObO ((w.heap.size + 1 + 1) + 1) (obD k a) ae ne ce ap np cp w4 := ⟨none, 0, 0, none, 0, 0, HO4.out, World.ownsRow_nil _ _ _ _, World.ownsRow_nil _ _ _ _, rfl, rfl, (by intro e he; cases he), HNX.out, empty_max, empty_max⟩
  obtain ⟨o, ho⟩ : ∃ o, obD k a = o := ⟨_, rfl⟩
  rw [ho] at HP HD
  obtain ⟨ae, ne, ce, ap, np, cp, hO, hX⟩ := HP
  have HO := lid hO
  have HX := lid hX
  have HZ := HZ4
  have HR := HR4
  have HB := HB4
  obtain ⟨rest, bad⟩ := s2
  clear ho hO hX HO4 HZ4 HR4 HB4 HO3 HZ3 HR3 HB3 s3
  obtain ⟨W, rfl⟩ : ∃ W, W = w4 := ⟨_, rfl⟩
  have hOl := HO.out.lt
  have x0 := HO.out.g0
  have x1 := HO.out.g1
  have x2 := HO.out.g2
  have x3 := HO.out.g3
  have x4 := HO.out.g4
  have x5 := HO.out.g5
  have x6 := HO.out.g6
  have x7 := HO.out.g7
  have x8 := HO.out.g8
  have NO := lid (decq_no (l := l))
  have YES := lid (decq_yes (l := l))
  obtain ⟨hA, hcp⟩ := HX.out.obj
  have CC := lid (refEncode_any o ae ap ne ce np cp W hA hcp HX.out.2.2.2.2.2.1)
  clear hA hcp
  go_wp2_with fail
  clear x0 x1 x2 x3 x4 x5 x6 x7 x8
  (with_reducible refine (CC.out).mono ?_); rintro e V ⟨rfl, hbV⟩
  have HO2 := lid (HO.out.below hbV)
  have HZ2 := lid (HZ.out.below hbV)
  have HR2 := lid (Rb.below HR.out hbV)
  have HX2 : Hid (ObO ((w.heap.size + 1 + 1) + 1) o ae ne ce ap np cp V) := lid (HX.out.heap fun k _ hk => hbV.block k hk)
  have HB2 : Hid (Below w.heap.size w V) := lid (HB.out.trans (hbV.mono HB.out.size))
  have y0 := HZ2.out.g0
  have q0 := HZ2.out.fz 0
  have y1 := HZ2.out.g1
  have q1 := HZ2.out.fz 1
  have y2 := HZ2.out.g2
  have q2 := HZ2.out.fz 2
  have y3 := HZ2.out.g3
  have q3 := HZ2.out.fz 3
  have y4 := HZ2.out.g4
  have q4 := HZ2.out.fz 4
  have y5 := HZ2.out.g5
  have q5 := HZ2.out.fz 5
  have y6 := HZ2.out.g6
  have q6 := HZ2.out.fz 6
  have y7 := HZ2.out.g7
  have q7 := HZ2.out.fz 7
  have y8 := HZ2.out.g8
  have q8 := HZ2.out.fz 8
  have x0 := HO2.out.g0
  have x1 := HO2.out.g1
  have x2 := HO2.out.g2
  have x3 := HO2.out.g3
  have x4 := HO2.out.g4
  have x5 := HO2.out.g5
  have x6 := HO2.out.g6
  have x7 := HO2.out.g7
  have x8 := HO2.out.g8
  have hOl2 := HO2.out.lt
  have hzl2 := HZ2.out.lt
  have hbl2 := HR2.out.lt
  have r1 : V.cell? ⟨w.heap.size + 1, 1, none⟩ = some (.bool bad) := HR2.out.c1
  clear CC HO HZ HX HB HR
  cases bad with
  | true =>
    have HV := lid (NO.out (by unfold okQ; rw [HD.out]; rfl))
    clear x0 x1 x2 x3 x4 x5 x6 x7 x8
    go_wp2_with fail
    have X := set9_oc (d0 := (.int .i64 0)) (d1 := (.string ⟨#[]⟩)) (d2 := (.slice none 0 0)) (d3 := (.int .u64 0)) (d4 := (.int .u64 0)) (d5 := (.slice none 0 0)) (d6 := (.string ⟨#[]⟩)) (d7 := (.int .i64 0)) (d8 := (.string ⟨#[]⟩)) HZ2.out
    have z0 := X.g0
    have z1 := X.g1
    have z2 := X.g2
    have z3 := X.g3
    have z4 := X.g4
    have z5 := X.g5
    have z6 := X.g6
    have z7 := X.g7
    have z8 := X.g8
    unfold set9 at z0 z1 z2 z3 z4 z5 z6 z7 z8
    refine bodyPost_ret (v := .tuple #[.agg #[(.int .i64 0), (.string ⟨#[]⟩), (.slice none 0 0), (.int .u64 0), (.int .u64 0), (.slice none 0 0), (.string ⟨#[]⟩), (.int .i64 0), (.string ⟨#[]⟩)], .int .i64 13]) (by simp [results, Try.results24, go_sem, z0, z1, z2, z3, z4, z5, z6, z7, z8]) rfl ?_
    exact ⟨none, none, 0, 0, 0, 0, by rw [HV.out.1, HV.out.2]; rfl, Nat.le_refl _, by rw [HV.out.1]; exact none_obj _, set9_below _ _ _ _ _ _ _ _ _ HB2.out (Nat.le_refl _)⟩
  | false =>
  by_cases hv : checkO o = 0
  case neg =>
    have HV := lid (NO.out (by unfold okQ; rw [HD.out]; simp [hv]))
    have uK : (checkO o != 0) = true := by simpa using hv
    clear hv x0 x1 x2 x3 x4 x5 x6 x7 x8
    go_wp2_with fail
    have X := set9_oc (d0 := (.int .i64 0)) (d1 := (.string ⟨#[]⟩)) (d2 := (.slice none 0 0)) (d3 := (.int .u64 0)) (d4 := (.int .u64 0)) (d5 := (.slice none 0 0)) (d6 := (.string ⟨#[]⟩)) (d7 := (.int .i64 0)) (d8 := (.string ⟨#[]⟩)) HZ2.out
    have z0 := X.g0
    have z1 := X.g1
    have z2 := X.g2
    have z3 := X.g3
    have z4 := X.g4
    have z5 := X.g5
    have z6 := X.g6
    have z7 := X.g7
    have z8 := X.g8
    unfold set9 at z0 z1 z2 z3 z4 z5 z6 z7 z8
    refine bodyPost_ret (v := .tuple #[.agg #[(.int .i64 0), (.string ⟨#[]⟩), (.slice none 0 0), (.int .u64 0), (.int .u64 0), (.slice none 0 0), (.string ⟨#[]⟩), (.int .i64 0), (.string ⟨#[]⟩)], .int .i64 13]) (by simp [results, Try.results24, go_sem, z0, z1, z2, z3, z4, z5, z6, z7, z8]) rfl ?_
    exact ⟨none, none, 0, 0, 0, 0, by rw [HV.out.1, HV.out.2]; rfl, Nat.le_refl _, by rw [HV.out.1]; exact none_obj _, set9_below _ _ _ _ _ _ _ _ _ HB2.out (Nat.le_refl _)⟩
  case pos =>
  have HE : Hid (encT o = encL o) := lid (by unfold encT; rw [if_pos hv])
  rw [HE.out]
  by_cases ht : encL o = l
  · have HV := lid (YES.out (by unfold okQ; rw [HD.out]; simp [hv, ht]))
    rw [hv, ht]
    have t0 : ((bstr l).toList == (bstr l).toList) = true := by simp
    clear hv ht
    go_wp2_with fail
    have X := set9_oc (d0 := (.int .i64 o.kind)) (d1 := (.string o.data)) (d2 := (.slice ae ne ce)) (d3 := (.int .u64 o.tree.1.toNat)) (d4 := (.int .u64 o.tree.2.toNat)) (d5 := (.slice ap np cp)) (d6 := (.string o.auth)) (d7 := (.int .i64 o.time)) (d8 := (.string o.msg)) HZ2.out
    have z0 := X.g0
    have z1 := X.g1
    have z2 := X.g2
    have z3 := X.g3
    have z4 := X.g4
    have z5 := X.g5
    have z6 := X.g6
    have z7 := X.g7
    have z8 := X.g8
    unfold set9 at z0 z1 z2 z3 z4 z5 z6 z7 z8
    refine bodyPost_ret (v := .tuple #[.agg #[(.int .i64 o.kind), (.string o.data), (.slice ae ne ce), (.int .u64 o.tree.1.toNat), (.int .u64 o.tree.2.toNat), (.slice ap np cp), (.string o.auth), (.int .i64 o.time), (.string o.msg)], .int .i64 0]) (by simp [results, Try.results24, go_sem, z0, z1, z2, z3, z4, z5, z6, z7, z8]) rfl ?_
    refine ⟨ae, ap, ne, ce, np, cp, by rw [HV.out.1, HV.out.2, HD.out], (HX2.out.obj).2, ?_, set9_below _ _ _ _ _ _ _ _ _ HB2.out (Nat.le_refl _)⟩
    rw [HV.out.1, HD.out]
    exact (ObO.obj (HX2.out.heap (w' := set9 V w.heap.size (.int .i64 o.kind) (.string o.data) (.slice ae ne ce) (.int .u64 o.tree.1.toNat) (.int .u64 o.tree.2.toNat) (.slice ap np cp) (.string o.auth) (.int .i64 o.time) (.string o.msg)) fun k hk _ => set9_heap _ _ _ _ _ _ _ _ _ _ _ (by omega))).1
  · have HV := lid (NO.out (by unfold okQ; rw [HD.out]; simp [ht]))
    have t0 : ((bstr (encL o)).toList == (bstr l).toList) = false := str_ne (fun e => ht (congrArg (fun s : ByteArray => s.data.toList) e))
    rw [hv]
    clear hv ht x0 x1 x2 x3 x4 x5 x6 x7 x8
    go_wp2_with fail
    have X := set9_oc (d0 := (.int .i64 0)) (d1 := (.string ⟨#[]⟩)) (d2 := (.slice none 0 0)) (d3 := (.int .u64 0)) (d4 := (.int .u64 0)) (d5 := (.slice none 0 0)) (d6 := (.string ⟨#[]⟩)) (d7 := (.int .i64 0)) (d8 := (.string ⟨#[]⟩)) HZ2.out
    have z0 := X.g0
    have z1 := X.g1
    have z2 := X.g2
    have z3 := X.g3
    have z4 := X.g4
    have z5 := X.g5
    have z6 := X.g6
    have z7 := X.g7
    have z8 := X.g8
    unfold set9 at z0 z1 z2 z3 z4 z5 z6 z7 z8
    refine bodyPost_ret (v := .tuple #[.agg #[(.int .i64 0), (.string ⟨#[]⟩), (.slice none 0 0), (.int .u64 0), (.int .u64 0), (.slice none 0 0), (.string ⟨#[]⟩), (.int .i64 0), (.string ⟨#[]⟩)], .int .i64 13]) (by simp [results, Try.results24, go_sem, z0, z1, z2, z3, z4, z5, z6, z7, z8]) rfl ?_
    exact ⟨none, none, 0, 0, 0, 0, by rw [HV.out.1, HV.out.2]; rfl, Nat.le_refl _, by rw [HV.out.1]; exact none_obj _, set9_below _ _ _ _ _ _ _ _ _ HB2.out (Nat.le_refl _)⟩

end Go.Proofs.Ytmkdcnkbhnegnaa

namespace Go.Proofs.Ytmkdcnkbhnegnaa
open Go.RowKit

theorem eR_ne {l : List UInt8} (h : ¬ eR l = 0) : oR l = ob0 0 ∧ eR l = 13 := by
  unfold eR oR at *
  split at h
  · exact absurd rfl h
  · rename_i h1; rw [if_neg h1, if_neg h1]; exact ⟨rfl, rfl⟩

set_option maxRecDepth 100000 in
set_option maxHeartbeats 16000000 in
theorem LawDecode_any (s : ByteArray) (w : World) (hs : s.size ≤ maxLen) :
    Calls Try.prog 7 #[.string s] w fun e w' => e = .returned (.bool true) ∧ Below w.heap.size w w' := by
  have hs' : s.size ≤ 9223372036854775807 := hs
  have CA := lid awake_any
  by_cases h600 : 600 < s.size
  · have u1 : decide ((600 : Int) < (s.size : Int)) = true := by simp; omega
    have u1' : decide (600 < s.size) = true := by simp; omega
    go_enter Try.func7, Try.ntmps7
    go_wp2_with fail
    (with_reducible refine (CA.out _).mono ?_); rintro e w1 ⟨rfl, hb1⟩
    go_wp2_with fail
    go_ret
    exact ⟨rfl, hb1⟩
  have u1 : decide ((600 : Int) < (s.size : Int)) = false := by simp; omega
  have u1' : decide (600 < s.size) = false := by simp; omega
  have C1 := lid (fun w => objDecode_any s w (by omega))
  have C2 := lid (fun w => refDecode_any s w (by omega))
  obtain ⟨h1, h2⟩ := dec_same s.data.toList
  rw [← h1, ← h2] at C2
  obtain ⟨o, ho⟩ : ∃ o, oR s.data.toList = o := ⟨_, rfl⟩
  obtain ⟨n, hn⟩ : ∃ n, eR s.data.toList = n := ⟨_, rfl⟩
  rw [ho, hn] at C1 C2
  clear h1 h2 ho hn h600 hs
  go_enter Try.func7, Try.ntmps7
  go_wp2_with fail
  (with_reducible refine (C1.out _).mono ?_); rintro e w1 ⟨ae, ap, ne, ce, np, cp, rfl, hcp, hA, hb1⟩
  obtain ⟨w2, hw2⟩ : ∃ x, w1.alloc (.cells (ocells o ae ne ce ap np cp) 28) = x := ⟨_, rfl⟩
  have hb2 : Below w1.heap.size w1 w2 := by rw [← hw2]; exact ba _ _
  have HO2 := lid (show OBox w2 w1.heap.size o ae ne ce ap np cp by rw [← hw2]; exact OBox.new _ _ _ _ _ _ _ _ _)
  have HA2 := lid (hA.below hb2)
  have HW := lid hw2
  have hB2 := hb1.trans (hb2.mono hb1.size)
  clear hw2 hA hb1 hb2
  go_wp2_with fail
  rw [HW.out]
  clear HW
  (with_reducible refine (C2.out _).mono ?_); rintro e w3 ⟨be, bp, me, de, mp, dp, rfl, hdp, hA, hb3⟩
  obtain ⟨w4, hw4⟩ : ∃ x, w3.alloc (.cells (ocells o be me de bp mp dp) 28) = x := ⟨_, rfl⟩
  have hb4 : Below w3.heap.size w3 w4 := by rw [← hw4]; exact ba _ _
  have HO4 := lid ((HO2.out.below hb3).below hb4)
  have HQ4 := lid (show OBox w4 w3.heap.size o be me de bp mp dp by rw [← hw4]; exact OBox.new _ _ _ _ _ _ _ _ _)
  have HA4 := lid ((HA2.out.below hb3).below hb4)
  have HB4 := lid (hA.below hb4)
  have hB4 := (hB2.trans (hb3.mono hB2.size)).trans (hb4.mono (hB2.trans (hb3.mono hB2.size)).size)
  obtain ⟨l0, c0, c1, c2, c3, c4, c5, c6, c7, c8⟩ := HO4.out
  obtain ⟨m0, d0, d1, d2, d3, d4, d5, d6, d7, d8⟩ := HQ4.out
  rw [← hw4] at c0 c1 c2 c3 c4 c5 c6 c7 c8 d0 d1 d2 d3 d4 d5 d6 d7 d8
  have HW := lid hw4
  have CS := lid (SameO_any o ae ap ne ce np cp o be bp me de mp dp w4 HA4.out HB4.out)
  clear hw4 hA hb3 hb4 HO2 HA2
  have e1 : (n == n) = true := by simp
  go_wp2_with fail
  rw [HW.out]
  clear HW c0 c1 c2 c3 c4 c5 c6 c7 c8 d0 d1 d2 d3 d4 d5 d6 d7 d8 l0 m0
  (with_reducible refine (CS.out).mono ?_); rintro e w5 ⟨rfl, hb5⟩
  simp only [decide_true]
  have hB5 := hB4.trans (hb5.mono hB4.size)
  go_wp2_with fail
  (with_reducible refine (CA.out _).mono ?_); rintro e w6 ⟨rfl, hb6⟩
  go_wp2_with fail
  go_ret
  exact ⟨rfl, hB5.trans (hb6.mono hB5.size)⟩
theorem oR_encT {o : Ob} (h : checkO o = 0) (hd : o.data.size ≤ 60000) : oR (bstr (encT o)).data.toList = o ∧ eR (bstr (encT o)).data.toList = 0 := by
  unfold encT
  rw [if_pos h, bstr_list]
  exact oR_enc h (by omega)
theorem encT_60 {o : Ob} (h : o.data.size ≤ 200) (hs : Small o) : (bstr (encT o)).size ≤ 60000 := by
  rw [bstr_size]
  unfold encT
  split
  · rename_i h1
    unfold encL
    split
    · rename_i h2
      have := entsL_len (o := o) (checkO_names h1 h2) (Nat.le_refl _)
      have h3 := hs.2.1
      omega
    · split
      · rename_i h2
        have h3 := parsL_len o (Nat.le_refl _)
        have h4 := hs.2.2.1
        have h5 := oputX_len o.auth.data.toList
        have h6 := oputX_len o.msg.data.toList
        have h7 := oputI_len o.time
        have h8 : o.auth.data.toList.length ≤ 50 := hs.2.2.2.1
        have h9 : o.msg.data.toList.length ≤ 250 := hs.2.2.2.2.1
        simp only [List.length_append]
        omega
      · have h3 := oputX_len o.data.data.toList
        have h4 := oputI_len o.kind
        have h5 : o.data.data.toList.length ≤ 200 := h
        simp only [List.length_append]
        omega
  · simp
set_option maxRecDepth 100000 in
set_option maxHeartbeats 16000000 in
theorem LawTrip_any (o : Ob) (ae ap : Option Addr) (ne ce np cp : Nat) (w : World) (h : ObjA w ae ne ap np o) (hc : np ≤ cp) :
    Calls Try.prog 8 #[.agg (ocells o ae ne ce ap np cp)] w fun e w' => e = .returned (.bool true) ∧ Below w.heap.size w w' := by
  have hb0 := ba w (Obj.cells (ocells o ae ne ce ap np cp) 28)
  have HO0 := OBox.new w o ae ne ce ap np cp 28
  obtain ⟨W, hW⟩ : ∃ W, w.alloc (Obj.cells (ocells o ae ne ce ap np cp) 28) = W := ⟨_, rfl⟩
  rw [hW] at hb0 HO0
  have HA := lid (h.below hb0)
  have HW := lid hW
  have HO := lid HO0
  have CG := lid (fun w (h : ObjA w ae ne ap np o) => Great_any o ae ap ne ce np cp w h)
  have CA := lid awake_any
  have HH := lid hc
  clear hW h HO0
  obtain ⟨l0, c0, c1, c2, c3, c4, c5, c6, c7, c8⟩ := HO.out
  rw [← HW.out] at c0 c1 c2 c3 c4 c5 c6 c7 c8
  go_enter Try.func8, Try.ntmps8
  go_wp2_with fail
  rw [HW.out]
  clear HW c0 c1 c2 c3 c4 c5 c6 c7 c8
  (with_reducible refine (CG.out _ HA.out).mono ?_); rintro e w1 ⟨rfl, hb1⟩
  have hw1 := hb0.trans (hb1.mono hb0.size)
  cases hS : smallB o with
  | false =>
    clear hS
    simp only [Bool.not_false]
    go_wp2_with fail
    (with_reducible refine (CA.out _).mono ?_); rintro e w2 ⟨rfl, hb2⟩
    go_wp2_with fail
    go_ret
    exact ⟨rfl, hw1.trans (hb2.mono hw1.size)⟩
  | true =>
  have HSM := lid (small_of hS)
  have hd : Hid (o.data.size ≤ 60000) := lid (by have := HSM.out.1; omega)
  clear hS
  simp only [Bool.not_true]
  have HO1 := lid (HO.out.below hb1)
  have HA1 := lid (HA.out.below hb1)
  have C1 := lid (fun w (h : ObjA w ae ne ap np o) => objEncode_any o ae ap ne ce np cp w h HH.out hd.out)
  have C2 := lid (fun w (h : ObjA w ae ne ap np o) => objCheck_any o ae ap ne ce np cp w h HH.out hd.out)
  have HT := lid (fun h => oR_encT (o := o) h hd.out)
  have HT0 : Hid (¬ checkO o = 0 → bstr (encT o) = ⟨#[]⟩) := lid (fun h => by unfold encT; rw [if_neg h]; rfl)
  have C3 := lid (fun w => objDecode_any (bstr (encT o)) w (encT_60 HSM.out.1 HSM.out))
  obtain ⟨S, hS⟩ : ∃ S, bstr (encT o) = S := ⟨_, rfl⟩
  rw [hS] at C1 C3 HT HT0
  obtain ⟨l1, c0, c1, c2, c3, c4, c5, c6, c7, c8⟩ := HO1.out
  clear hS HO HA
  go_wp2_with fail
  (with_reducible refine (C1.out _ HA1.out).mono ?_); rintro e w2 ⟨rfl, hb2⟩
  have hw2 := hw1.trans (hb2.mono hw1.size)
  have HO2 := lid (HO1.out.below hb2)
  have HA2 := lid (HA1.out.below hb2)
  clear c0 c1 c2 c3 c4 c5 c6 c7 c8
  by_cases hv : checkO o = 0
  case neg =>
    have uK : (checkO o != 0) = true := by simpa using hv
    have e1 : (checkO o == checkO o) = true := by simp
    obtain rfl := HT0.out hv
    have e0 : ((⟨#[]⟩ : ByteArray).toList == []) = true := by rw [emptyB_spell]; rfl
    obtain ⟨l2, c0, c1, c2, c3, c4, c5, c6, c7, c8⟩ := HO2.out
    clear hv
    go_wp2_with fail
    clear c0 c1 c2 c3 c4 c5 c6 c7 c8
    (with_reducible refine (C2.out _ HA2.out).mono ?_); rintro e w3 ⟨rfl, hb3⟩
    have hw3 := hw2.trans (hb3.mono hw2.size)
    go_wp2_with fail
    (with_reducible refine (CA.out _).mono ?_); rintro e w4 ⟨rfl, hb4⟩
    go_wp2_with fail
    go_ret
    exact ⟨rfl, hw3.trans (hb4.mono hw3.size)⟩
  obtain ⟨hT1, hT2⟩ := HT.out hv
  rw [hT1, hT2] at C3
  have HV := lid hv
  rw [hv]
  clear hv hT1 hT2
  go_wp2_with fail
  (with_reducible refine (C3.out _).mono ?_); rintro e w3 ⟨be, bp, me, de, mp, dp, rfl, hdp, hA, hb3⟩
  have hw3 := hw2.trans (hb3.mono hw2.size)
  obtain ⟨w4, hw4⟩ : ∃ x, w3.alloc (.cells (ocells o be me de bp mp dp) 28) = x := ⟨_, rfl⟩
  have hb4 : Below w3.heap.size w3 w4 := by rw [← hw4]; exact ba _ _
  have HO4 := lid ((HO2.out.below hb3).below hb4)
  have HQ4 := lid (show OBox w4 w3.heap.size o be me de bp mp dp by rw [← hw4]; exact OBox.new _ _ _ _ _ _ _ _ _)
  have HA4 := lid ((HA2.out.below hb3).below hb4)
  have HB4 := lid (hA.below hb4)
  have hW4 := hw3.trans (hb4.mono hw3.size)
  obtain ⟨l4, c0, c1, c2, c3, c4, c5, c6, c7, c8⟩ := HO4.out
  rw [← hw4] at c0 c1 c2 c3 c4 c5 c6 c7 c8
  have HW := lid hw4
  clear hw4 hA hb4 HO2 HA2
  go_wp2_with fail
  rw [HW.out]
  clear HW c0 c1 c2 c3 c4 c5 c6 c7 c8
  (with_reducible refine (C2.out _ HA4.out).mono ?_); rintro e w5 ⟨rfl, hb5⟩
  rw [HV.out]
  have hW5 := hW4.trans (hb5.mono hW4.size)
  obtain ⟨l5, c0, c1, c2, c3, c4, c5, c6, c7, c8⟩ := HO4.out.below hb5
  obtain ⟨m5, d0, d1, d2, d3, d4, d5, d6, d7, d8⟩ := HQ4.out.below hb5
  have CS := lid (SameO_any o be bp me de mp dp o ae ap ne ce np cp w5 (HB4.out.below hb5) (HA4.out.below hb5))
  go_wp2_with fail
  clear c0 c1 c2 c3 c4 c5 c6 c7 c8 d0 d1 d2 d3 d4 d5 d6 d7 d8 l5 m5
  (with_reducible refine (CS.out).mono ?_); rintro e w6 ⟨rfl, hb6⟩
  simp only [decide_true]
  have hW6 := hW5.trans (hb6.mono hW5.size)
  go_wp2_with fail
  (with_reducible refine (CA.out _).mono ?_); rintro e w7 ⟨rfl, hb7⟩
  go_wp2_with fail
  go_ret
  exact ⟨rfl, hW6.trans (hb7.mono hW6.size)⟩

theorem oR_size (l : List UInt8) : (oR l).data.size ≤ 65536 := by
  rw [(dec_same l).1]
  unfold oQ
  split
  · exact decQ_size _
  · decide
theorem canon_small {l : List UInt8} (hl : l.length ≤ 600) (h : eR l = 0) : (oR l).data.size ≤ 60000 := by
  obtain ⟨h1, h2⟩ := eR_canon h
  have h3 := congrArg List.length h2
  have h5 := oR_size l
  rcases valid_form h1 with ⟨k, hk, e⟩ | ⟨e, _⟩ | ⟨m, e, _⟩
  · obtain ⟨d, hd⟩ : ∃ d, (oR l).data.data.toList = d := ⟨_, rfl⟩
    have h6 : (oR l).data.size = d.length := by rw [← hd]; rfl
    rw [hd] at e
    rw [e, encL_D hk (by omega)] at h3
    unfold putT at h3
    simp only [List.length_append] at h3
    omega
  · rw [e]; exact empty_60
  · rw [e]; exact empty_60
set_option maxRecDepth 100000 in
set_option maxHeartbeats 16000000 in
theorem LawCanon_any (s : ByteArray) (w : World) (hs : s.size ≤ maxLen) :
    Calls Try.prog 9 #[.string s] w fun e w' => e = .returned (.bool true) ∧ Below w.heap.size w w' := by
  have hs' : s.size ≤ 9223372036854775807 := hs
  have CA := lid awake_any
  by_cases h600 : 600 < s.size
  · have u1 : decide ((600 : Int) < (s.size : Int)) = true := by simp; omega
    have u1' : decide (600 < s.size) = true := by simp; omega
    go_enter Try.func9, Try.ntmps9
    go_wp2_with fail
    (with_reducible refine (CA.out _).mono ?_); rintro e w1 ⟨rfl, hb1⟩
    go_wp2_with fail
    go_ret
    exact ⟨rfl, hb1⟩
  have u1 : decide ((600 : Int) < (s.size : Int)) = false := by simp; omega
  have u1' : decide (600 < s.size) = false := by simp; omega
  have C1 := lid (fun w => objDecode_any s w (by omega))
  have HE := lid (eR_canon (l := s.data.toList))
  have HN := lid (eR_ne (l := s.data.toList))
  have HDS : Hid (eR s.data.toList = 0 → (oR s.data.toList).data.size ≤ 60000) := lid (canon_small (by have : s.data.toList.length = s.size := rfl; omega))
  obtain ⟨o, ho⟩ : ∃ o, oR s.data.toList = o := ⟨_, rfl⟩
  obtain ⟨n, hn⟩ : ∃ n, eR s.data.toList = n := ⟨_, rfl⟩
  rw [ho, hn] at C1 HE HN HDS
  clear ho hn h600 hs
  go_enter Try.func9, Try.ntmps9
  go_wp2_with fail
  (with_reducible refine (C1.out _).mono ?_); rintro e w1 ⟨ae, ap, ne, ce, np, cp, rfl, hcp, hA, hb1⟩
  obtain ⟨w2, hw2⟩ : ∃ x, w1.alloc (.cells (ocells o ae ne ce ap np cp) 28) = x := ⟨_, rfl⟩
  have hb2 : Below w1.heap.size w1 w2 := by rw [← hw2]; exact ba _ _
  have HO2 := lid (show OBox w2 w1.heap.size o ae ne ce ap np cp by rw [← hw2]; exact OBox.new _ _ _ _ _ _ _ _ _)
  have HA2 := lid (hA.below hb2)
  have hB2 := hb1.trans (hb2.mono hb1.size)
  obtain ⟨l2, c0, c1, c2, c3, c4, c5, c6, c7, c8⟩ := HO2.out
  rw [← hw2] at c0 c1 c2 c3 c4 c5 c6 c7 c8
  have HW := lid hw2
  clear hw2 hA hb1 hb2
  by_cases hv : n = 0
  case neg =>
    obtain ⟨rfl, rfl⟩ := HN.out hv
    have CS : Hid (Calls Try.prog 21 #[.agg (ocells (ob0 0) ae ne ce ap np cp), .agg #[.int .i64 0, .string ⟨#[]⟩, .slice none 0 0, .int .u64 0, .int .u64 0, .slice none 0 0, .string ⟨#[]⟩, .int .i64 0, .string ⟨#[]⟩]] w2 fun e w' => e = .returned (.bool (decide (ob0 0 = ob0 0))) ∧ Below w2.heap.size w2 w') := lid (SameO_any (ob0 0) ae ap ne ce np cp (ob0 0) none none 0 0 0 0 w2 HA2.out (none_obj _))
    clear hv
    go_wp2_with fail
    rw [HW.out]
    clear HW c0 c1 c2 c3 c4 c5 c6 c7 c8
    (with_reducible refine (CS.out).mono ?_); rintro e w3 ⟨rfl, hb3⟩
    simp only [decide_true]
    have hB3 := hB2.trans (hb3.mono hB2.size)
    go_wp2_with fail
    (with_reducible refine (CA.out _).mono ?_); rintro e w4 ⟨rfl, hb4⟩
    go_wp2_with fail
    go_ret
    exact ⟨rfl, hB3.trans (hb4.mono hB3.size)⟩
  obtain ⟨h1, h2⟩ := HE.out hv
  have HDD := lid (HDS.out hv)
  have HV := lid h1
  have HX : Hid (bstr (encT o) = s) := lid (by unfold encT; rw [if_pos h1, h2]; rfl)
  have CE := lid (objEncode_any o ae ap ne ce np cp w2 HA2.out hcp HDD.out)
  rw [HX.out, HV.out] at CE
  subst hv
  have e1 : (s.toList == s.toList) = true := by simp
  clear h1 h2 HE HN HDS
  go_wp2_with fail
  rw [HW.out]
  clear HW c0 c1 c2 c3 c4 c5 c6 c7 c8
  (with_reducible refine (CE.out).mono ?_); rintro e w3 ⟨rfl, hb3⟩
  have hB3 := hB2.trans (hb3.mono hB2.size)
  go_wp2_with fail
  (with_reducible refine (CA.out _).mono ?_); rintro e w4 ⟨rfl, hb4⟩
  go_wp2_with fail
  go_ret
  exact ⟨rfl, hB3.trans (hb4.mono hB3.size)⟩
end Go.Proofs.Ytmkdcnkbhnegnaa
