/-
  object.Decode.
-/
import Derived.Test.YtphjillihapbfaaGreatDoorGrpO
namespace Go.Proofs.YtphjillihapbfaaGreatDoor
open Go.RowKit

theorem dcells_get2 (l : List Dg) (j : Nat) (h : j < l.length) : (dcells l)[j * 2]? = some (.int .u64 (l[j]).1.toNat) ∧ (dcells l)[j * 2 + 1]? = some (.int .u64 (l[j]).2.toNat) := by
  induction l generalizing j with
  | nil => simp at h
  | cons d l ih =>
    cases j with
    | zero => simp [dcells]
    | succ j =>
      have := ih j (by simpa using h)
      rw [show (j + 1) * 2 = j * 2 + 2 by omega]
      simpa [dcells] using this

theorem dsl_of_own2 {w : World} {base : Nat} {v : Value} {n : Nat} {l : List Dg} (h : w.ownsRow base 31 2 v n (dcells l)) : ∃ ao cap, v = .slice ao n cap ∧ l.length = n ∧ n ≤ cap ∧ DSl w ao l := by
  have hl : l.length = n := by
    have := h.1
    rw [dcells_length] at this
    omega
  rcases h.2 with ⟨rfl, rfl⟩ | ⟨g, cap, cur, rfl, hg, hc, hn, hm, hsz, htk⟩
  · exact ⟨none, 0, rfl, hl, Nat.le_refl _, .inl hl⟩
  · refine ⟨some ⟨g, 0, none⟩, cap, rfl, hl, hn, .inr ⟨g, 0, rfl, (h.lt g rfl).2, ?_⟩⟩
    intro j hj
    obtain ⟨h1, h2⟩ := dcells_get2 l j hj
    rw [Nat.zero_add]
    rw [h.cellAt (j * 2) (by omega), h.cellAt (j * 2 + 1) (by omega)]
    exact ⟨h1, h2⟩

/-- Nine cells in block O. -/
def Oc (O : Nat) (c0 c1 c2 c3 c4 c5 c6 c7 c8 : Value) (w : World) : Prop := w.heap[O]? = some (.cells #[c0, c1, c2, c3, c4, c5, c6, c7, c8] 72 (0, 0))
section
variable {O : Nat} {c0 c1 c2 c3 c4 c5 c6 c7 c8 u : Value} {w w' : World}
theorem Oc.lt (h : Oc O c0 c1 c2 c3 c4 c5 c6 c7 c8 w) : O < w.heap.size := (Array.getElem?_eq_some_iff.1 h).1
theorem Oc.fz (h : Oc O c0 c1 c2 c3 c4 c5 c6 c7 c8 w) (o : Nat) : w.frozen? ⟨O, o, none⟩ = false := Lib.frozen_of_heap h o
theorem Oc.kp {b : Nat} (h : Oc O c0 c1 c2 c3 c4 c5 c6 c7 c8 w) (hk : Kp b w w') (hb : O ≠ b) : Oc O c0 c1 c2 c3 c4 c5 c6 c7 c8 w' := (hk.2 O h.lt hb).trans h
theorem Oc.below (h : Oc O c0 c1 c2 c3 c4 c5 c6 c7 c8 w) (hb : Below w.heap.size w w') : Oc O c0 c1 c2 c3 c4 c5 c6 c7 c8 w' := (hb.block O h.lt).trans h
theorem Oc.other {j o : Nat} (h : Oc O c0 c1 c2 c3 c4 c5 c6 c7 c8 w) (hj : O ≠ j) : Oc O c0 c1 c2 c3 c4 c5 c6 c7 c8 (w.setCell ⟨j, o, none⟩ u) := (Below.heap_setCell _ _ _ _ hj).trans h
theorem Oc.new (w : World) (c0 c1 c2 c3 c4 c5 c6 c7 c8 : Value) : Oc w.heap.size c0 c1 c2 c3 c4 c5 c6 c7 c8 (w.alloc (.cells #[c0, c1, c2, c3, c4, c5, c6, c7, c8] 72)) := heap_alloc_new _ _
theorem Oc.g0 (h : Oc O c0 c1 c2 c3 c4 c5 c6 c7 c8 w) : w.cell? ⟨O, 0, none⟩ = some c0 := by rw [Lib.cell_of_heap h]; rfl
theorem Oc.g1 (h : Oc O c0 c1 c2 c3 c4 c5 c6 c7 c8 w) : w.cell? ⟨O, 1, none⟩ = some c1 := by rw [Lib.cell_of_heap h]; rfl
theorem Oc.g2 (h : Oc O c0 c1 c2 c3 c4 c5 c6 c7 c8 w) : w.cell? ⟨O, 2, none⟩ = some c2 := by rw [Lib.cell_of_heap h]; rfl
theorem Oc.g3 (h : Oc O c0 c1 c2 c3 c4 c5 c6 c7 c8 w) : w.cell? ⟨O, 3, none⟩ = some c3 := by rw [Lib.cell_of_heap h]; rfl
theorem Oc.g4 (h : Oc O c0 c1 c2 c3 c4 c5 c6 c7 c8 w) : w.cell? ⟨O, 4, none⟩ = some c4 := by rw [Lib.cell_of_heap h]; rfl
theorem Oc.g5 (h : Oc O c0 c1 c2 c3 c4 c5 c6 c7 c8 w) : w.cell? ⟨O, 5, none⟩ = some c5 := by rw [Lib.cell_of_heap h]; rfl
theorem Oc.g6 (h : Oc O c0 c1 c2 c3 c4 c5 c6 c7 c8 w) : w.cell? ⟨O, 6, none⟩ = some c6 := by rw [Lib.cell_of_heap h]; rfl
theorem Oc.g7 (h : Oc O c0 c1 c2 c3 c4 c5 c6 c7 c8 w) : w.cell? ⟨O, 7, none⟩ = some c7 := by rw [Lib.cell_of_heap h]; rfl
theorem Oc.g8 (h : Oc O c0 c1 c2 c3 c4 c5 c6 c7 c8 w) : w.cell? ⟨O, 8, none⟩ = some c8 := by rw [Lib.cell_of_heap h]; rfl
theorem Oc.s0 (h : Oc O c0 c1 c2 c3 c4 c5 c6 c7 c8 w) (u : Value) : Oc O u c1 c2 c3 c4 c5 c6 c7 c8 (w.setCell ⟨O, 0, none⟩ u) := heap_setCell_same w O 0 _ _ _ h
theorem Oc.s1 (h : Oc O c0 c1 c2 c3 c4 c5 c6 c7 c8 w) (u : Value) : Oc O c0 u c2 c3 c4 c5 c6 c7 c8 (w.setCell ⟨O, 1, none⟩ u) := heap_setCell_same w O 1 _ _ _ h
theorem Oc.s2 (h : Oc O c0 c1 c2 c3 c4 c5 c6 c7 c8 w) (u : Value) : Oc O c0 c1 u c3 c4 c5 c6 c7 c8 (w.setCell ⟨O, 2, none⟩ u) := heap_setCell_same w O 2 _ _ _ h
theorem Oc.s3 (h : Oc O c0 c1 c2 c3 c4 c5 c6 c7 c8 w) (u : Value) : Oc O c0 c1 c2 u c4 c5 c6 c7 c8 (w.setCell ⟨O, 3, none⟩ u) := heap_setCell_same w O 3 _ _ _ h
theorem Oc.s4 (h : Oc O c0 c1 c2 c3 c4 c5 c6 c7 c8 w) (u : Value) : Oc O c0 c1 c2 c3 u c5 c6 c7 c8 (w.setCell ⟨O, 4, none⟩ u) := heap_setCell_same w O 4 _ _ _ h
theorem Oc.s5 (h : Oc O c0 c1 c2 c3 c4 c5 c6 c7 c8 w) (u : Value) : Oc O c0 c1 c2 c3 c4 u c6 c7 c8 (w.setCell ⟨O, 5, none⟩ u) := heap_setCell_same w O 5 _ _ _ h
theorem Oc.s6 (h : Oc O c0 c1 c2 c3 c4 c5 c6 c7 c8 w) (u : Value) : Oc O c0 c1 c2 c3 c4 c5 u c7 c8 (w.setCell ⟨O, 6, none⟩ u) := heap_setCell_same w O 6 _ _ _ h
theorem Oc.s7 (h : Oc O c0 c1 c2 c3 c4 c5 c6 c7 c8 w) (u : Value) : Oc O c0 c1 c2 c3 c4 c5 c6 u c8 (w.setCell ⟨O, 7, none⟩ u) := heap_setCell_same w O 7 _ _ _ h
theorem Oc.s8 (h : Oc O c0 c1 c2 c3 c4 c5 c6 c7 c8 w) (u : Value) : Oc O c0 c1 c2 c3 c4 c5 c6 c7 u (w.setCell ⟨O, 8, none⟩ u) := heap_setCell_same w O 8 _ _ _ h
end
def set9 (w : World) (B : Nat) (d0 d1 d2 d3 d4 d5 d6 d7 d8 : Value) : World := (((((((((w.setCell ⟨B, 0, none⟩ d0).setCell ⟨B, 1, none⟩ d1).setCell ⟨B, 2, none⟩ d2).setCell ⟨B, 3, none⟩ d3).setCell ⟨B, 4, none⟩ d4).setCell ⟨B, 5, none⟩ d5).setCell ⟨B, 6, none⟩ d6).setCell ⟨B, 7, none⟩ d7).setCell ⟨B, 8, none⟩ d8)
theorem set9_oc {B : Nat} {c0 c1 c2 c3 c4 c5 c6 c7 c8 d0 d1 d2 d3 d4 d5 d6 d7 d8 : Value} {w : World} (h : Oc B c0 c1 c2 c3 c4 c5 c6 c7 c8 w) : Oc B d0 d1 d2 d3 d4 d5 d6 d7 d8 (set9 w B d0 d1 d2 d3 d4 d5 d6 d7 d8) := ((((((((h.s0 d0).s1 d1).s2 d2).s3 d3).s4 d4).s5 d5).s6 d6).s7 d7).s8 d8
theorem set9_heap (w : World) (B : Nat) (d0 d1 d2 d3 d4 d5 d6 d7 d8 : Value) {k : Nat} (hk : k ≠ B) : (set9 w B d0 d1 d2 d3 d4 d5 d6 d7 d8).heap[k]? = w.heap[k]? := by
  unfold set9
  iterate 9 rw [Below.heap_setCell _ _ _ _ (by simpa using hk)]
theorem set9_below {w0 w : World} {N B : Nat} (d0 d1 d2 d3 d4 d5 d6 d7 d8 : Value) (h : Below N w0 w) (hB : N ≤ B) : Below N w0 (set9 w B d0 d1 d2 d3 d4 d5 d6 d7 d8) := by
  unfold set9
  exact ((((((((h.setCell (p := ⟨B, 0, none⟩) hB d0).setCell (p := ⟨B, 1, none⟩) hB d1).setCell (p := ⟨B, 2, none⟩) hB d2).setCell (p := ⟨B, 3, none⟩) hB d3).setCell (p := ⟨B, 4, none⟩) hB d4).setCell (p := ⟨B, 5, none⟩) hB d5).setCell (p := ⟨B, 6, none⟩) hB d6).setCell (p := ⟨B, 7, none⟩) hB d7).setCell (p := ⟨B, 8, none⟩) hB d8
/-- The sizes of an object that was read. -/
def ObS (o : Ob) : Prop := (∀ e ∈ o.ents, e.1.size ≤ maxLen) ∧ o.data.size ≤ 60000 ∧ o.auth.size ≤ maxLen ∧ o.msg.size ≤ maxLen
/-- An object whose slices the call owns. -/
def ObO (base : Nat) (o : Ob) (ae : Option Addr) (ne ce : Nat) (ap : Option Addr) (np cp : Nat) (w : World) : Prop :=
  w.ownsRow base 83 4 (.slice ae ne ce) ne (ecells o.ents) ∧ w.ownsRow base 31 2 (.slice ap np cp) np (dcells o.pars) ∧ o.ents.length = ne ∧ o.pars.length = np ∧ ObS o
theorem ObO.obj {base : Nat} {o : Ob} {ae ap : Option Addr} {ne ce np cp : Nat} {w : World} (h : ObO base o ae ne ce ap np cp w) : ObjA w ae ne ap np o ∧ np ≤ cp := by
  obtain ⟨h1, h2, h3, h4, h5, h6, h7, h8⟩ := h
  obtain ⟨ae', ce', e1, l1, l2, l3⟩ := Sl.of_own h1
  obtain ⟨ap', cp', e2, _, m1, m2⟩ := dsl_of_own2 h2
  obtain ⟨ap2, cp2, e3, m3, m4, _⟩ := Sl.of_own h2
  cases e1
  cases e2
  cases e3
  exact ⟨⟨h3, l3, by omega, h5, h4, m2, by omega, by simp [maxLen]; omega, h7, h8⟩, m1⟩
theorem ObO.heap {base : Nat} {o : Ob} {ae ap : Option Addr} {ne ce np cp : Nat} {w w' : World} (h : ObO base o ae ne ce ap np cp w) (hk : ∀ k, base ≤ k → k < w.heap.size → w'.heap[k]? = w.heap[k]?) : ObO base o ae ne ce ap np cp w' := by
  obtain ⟨h1, h2, h3⟩ := h
  exact ⟨own_block h1 fun g hg => hk g (h1.lt g hg).1 (h1.lt g hg).2, own_block h2 fun g hg => hk g (h2.lt g hg).1 (h2.lt g hg).2, h3⟩
theorem ObO.kp {base b : Nat} {o : Ob} {ae ap : Option Addr} {ne ce np cp : Nat} {w w' : World} (h : ObO base o ae ne ce ap np cp w) (hk : Kp b w w') (hb : b < base) : ObO base o ae ne ce ap np cp w' := h.heap fun k h1 h2 => hk.2 k h2 (by omega)
theorem ObO.other {base j i : Nat} {o : Ob} {ae ap : Option Addr} {ne ce np cp : Nat} {w : World} {u : Value} (h : ObO base o ae ne ce ap np cp w) (hj : j < base) : ObO base o ae ne ce ap np cp (w.setCell ⟨j, i, none⟩ u) := h.heap fun k h1 _ => Below.heap_setCell _ _ _ _ (by simp; omega)
theorem max_of {x : Nat} (h : x ≤ 60000) : x ≤ maxLen := Nat.le_trans h (by simp [maxLen])
theorem swap_world {P : Program} {ops : Array Oper} {Q : Exit → Act → World → Prop} {rest : List Oper} {a : Act} {w w' : World} (h : w = w') (h2 : wpList P ops Q rest a w') : wpList P ops Q rest a w := by rw [h]; exact h2
theorem empty_max : ByteArray.size ⟨#[]⟩ ≤ maxLen := by decide
theorem empty_60 : ByteArray.size ⟨#[]⟩ ≤ 60000 := by decide
theorem many_len {α : Type} {f : Rd → α × Rd} (hf : ∀ s, (f s).2.1.length ≤ s.1.length) : ∀ (n : Nat) (s : Rd), (many f n s).2.1.length ≤ s.1.length
  | 0, _ => Nat.le_refl _
  | n + 1, s => by
    by_cases hs : s.2 = true
    · rw [many_bad hs]; exact Nat.le_refl _
    · rw [many_next (by simpa using hs)]
      exact Nat.le_trans (many_len hf n _) (hf s)
theorem rListD_len {s : Rd} : (rList rDig 8 s).2.1.length ≤ s.1.length := Nat.le_trans (many_len (fun _ => rDig_len) _ _) (rNum_len (s := s))
/-- How Decode ends. -/
def DecE (o : Ob) (n : Int) (w : World) (e : Ending) (w' : World) : Prop := ∃ ae ap ne ce np cp, e = .returned (.tuple #[.agg (ocells o ae ne ce ap np cp), .int .i64 n]) ∧ np ≤ cp ∧ ObjA w' ae ne ap np o ∧ Below w.heap.size w w'
theorem many_all {α : Type} {f : Rd → α × Rd} {P : α → Prop} (hf : ∀ s, P (f s).1) : ∀ (n : Nat) (s : Rd), ∀ x ∈ (many f n s).1, P x
  | 0, _, x, hx => by simp [many] at hx
  | n + 1, s, x, hx => by
    by_cases hs : s.2 = true
    · rw [many_bad hs] at hx; cases hx
    · rw [many_next (by simpa using hs)] at hx
      rcases List.mem_cons.1 hx with rfl | hx
      · exact hf s
      · exact many_all hf n _ x hx
theorem rEnt_name (s : Rd) : (rEnt s).1.1.size ≤ maxLen := by
  have := (getX_le s.1).2.2
  unfold rEnt rEnt3
  simp only [bstr_size]
  exact Nat.le_trans this (by simp [maxLen])
theorem dec_no {l : List UInt8} (h : okR l = false) : oR l = ob0 0 ∧ eR l = 13 := by unfold oR eR; rw [if_neg (by rw [h]; decide), if_neg (by rw [h]; decide)]; exact ⟨rfl, rfl⟩
theorem dec_yes {l : List UInt8} (h : okR l = true) : oR l = (decR l).1 ∧ eR l = 0 := by unfold oR eR; rw [if_pos h, if_pos h]; exact ⟨rfl, rfl⟩
theorem bstr_nil (l : List UInt8) : ((bstr l).toList == []) = decide (l = []) := by
  rw [emptyB_spell]
  unfold emptyB
  by_cases h : l = []
  · subst h; rfl
  · rw [decide_eq_false h, decide_eq_false]
    intro e
    exact h (congrArg (fun s : ByteArray => s.data.toList) e)
theorem none_obj (w : World) : ObjA w none 0 none 0 (ob0 0) := exObjA w rfl rfl (by decide) rfl rfl

set_option maxRecDepth 100000 in
set_option maxHeartbeats 32000000 in
theorem objDecode_any (s : ByteArray) (w : World) (hs : s.size ≤ 60000) :
    Calls Tryz.prog 86 #[.string s] w (DecE (oR s.data.toList) (eR s.data.toList) w) := by
  obtain ⟨l, hl⟩ : ∃ l, s.data.toList = l := ⟨_, rfl⟩
  have hll : l.length ≤ 60000 := by rw [← hl]; exact hs
  rw [hl]
  have hsl : s = bstr l := by rw [← hl]; rfl
  subst hsl
  clear hl hs
  obtain ⟨w0, hw0⟩ : ∃ w0, (w.alloc (.cells #[.int .i64 0, .string ⟨#[]⟩, .slice none 0 0, .int .u64 0, .int .u64 0, .slice none 0 0, .string ⟨#[]⟩, .int .i64 0, .string ⟨#[]⟩] 72)).alloc (.cells #[.string (bstr l), .bool false] 160) = w0 := ⟨_, rfl⟩
  have hb0 : Below w.heap.size w w0 := by rw [← hw0]; exact ((Below.refl _ _).alloc (Nat.le_refl _) _).alloc (by simp) _
  have z0 : w0.heap.size = w.heap.size + 2 := by rw [← hw0]; simp
  have HZ0 : Hid (Oc w.heap.size (.int .i64 0) (.string ⟨#[]⟩) (.slice none 0 0) (.int .u64 0) (.int .u64 0) (.slice none 0 0) (.string ⟨#[]⟩) (.int .i64 0) (.string ⟨#[]⟩) w0) := lid (by rw [← hw0]; exact (Oc.new _ _ _ _ _ _ _ _ _ _).below (ba _ _))
  have HR0 : Hid (Rb 160 (w.heap.size + 1) (l, false) w0) := lid (by rw [← hw0]; unfold Rb; have := heap_alloc_new (w.alloc (.cells #[.int .i64 0, .string ⟨#[]⟩, .slice none 0 0, .int .u64 0, .int .u64 0, .slice none 0 0, .string ⟨#[]⟩, .int .i64 0, .string ⟨#[]⟩] 72)) (.cells #[.string (bstr l), .bool false] 160); rw [World.size_alloc] at this; exact this)
  have HW := lid hw0
  have C1 := lid (rNumber_any (w.heap.size + 1) (l, false) w0 HR0.out (max_of hll))
  have HD : Hid (decR l = decRk (rNum (l, false)).1 (rNum (l, false)).2) := lid rfl
  have hL1 := rNum_len (s := (l, false))
  obtain ⟨r, hr⟩ : ∃ r, rNum (l, false) = r := ⟨_, rfl⟩
  rw [hr] at C1 HD hL1
  obtain ⟨k, s1⟩ := r
  replace HD : Hid (decR l = decRk k s1) := HD
  have hs1 : Hid (s1.1.length ≤ 60000) := lid (Nat.le_trans hL1 hll)
  have L1 : Hid (s1.1.length ≤ maxLen) := lid (max_of hs1.out)
  have HLL := lid hll
  clear hw0 hr hL1 hll
  go_enter Tryz.func86, Tryz.ntmps86
  go_wp2_with fail
  rw [HW.out]
  clear HW
  (with_reducible refine (C1.out).mono ?_); rintro e w1 ⟨rfl, hR1, hK1⟩
  have z1 : w.heap.size + 2 ≤ w1.heap.size := by have := hK1.size; omega
  obtain ⟨w2, hw2⟩ : ∃ w2, w1.alloc (.cells #[.int .i64 k, .string ⟨#[]⟩, .slice none 0 0, .int .u64 0, .int .u64 0, .slice none 0 0, .string ⟨#[]⟩, .int .i64 0, .string ⟨#[]⟩] 72) = w2 := ⟨_, rfl⟩
  have hb2 : Below w1.heap.size w1 w2 := by rw [← hw2]; exact ba _ _
  have z2 : w2.heap.size = w1.heap.size + 1 := by rw [← hw2]; simp
  have HO2 : Hid (Oc w1.heap.size (.int .i64 k) (.string ⟨#[]⟩) (.slice none 0 0) (.int .u64 0) (.int .u64 0) (.slice none 0 0) (.string ⟨#[]⟩) (.int .i64 0) (.string ⟨#[]⟩) w2) := lid (by rw [← hw2]; exact Oc.new _ _ _ _ _ _ _ _ _ _)
  have HR2 : Hid (Rb 160 (w.heap.size + 1) s1 w2) := lid (Rb.below hR1 hb2)
  have HZ2 : Hid (Oc w.heap.size (.int .i64 0) (.string ⟨#[]⟩) (.slice none 0 0) (.int .u64 0) (.int .u64 0) (.slice none 0 0) (.string ⟨#[]⟩) (.int .i64 0) (.string ⟨#[]⟩) w2) := lid ((HZ0.out.kp hK1 (by omega)).below hb2)
  have HB2 : Hid (Below w.heap.size w w2) := lid ((hK1.below hb0 (by omega)).trans (hb2.mono (by omega)))
  have HW := lid hw2
  have hbase : Hid (w.heap.size + 1 < w1.heap.size + 1 ∧ w1.heap.size < w1.heap.size + 1) := lid (by omega)
  have k0 := HO2.out.g0
  have kl := HO2.out.lt
  clear hw2 hb2 hR1 hK1 HZ0 HR0 hb0 C1 z0
  by_cases kk : k = 1
  case pos =>
    have u1 : ((k : Int) == 1) = true := by simp; omega
    have KK := lid kk
    clear kk
    replace HD : Hid (decR l = (obD k (rStr s1).1, (rStr s1).2)) := lid (HD.out.trans (decRk_D (.inl KK.out) s1))
    have CS := lid (rString_any (w.heap.size + 1) s1 w2 HR2.out L1.out)
    have HNX : Hid ((rStr s1).1.length ≤ 60000) := lid (Nat.le_trans (getX_le s1.1).2.1 hs1.out)
    go_wp2_with (with_reducible refine swap_world HW.out ?_)
    obtain ⟨r2, hr2⟩ : ∃ r, rStr s1 = r := ⟨_, rfl⟩
    rw [hr2] at CS HD HNX
    obtain ⟨a, s2⟩ := r2
    replace HD : Hid (decR l = (obD k a, s2)) := HD
    replace HNX : Hid (a.length ≤ 60000) := HNX
    clear hr2
    (with_reducible refine (CS.out).mono ?_); rintro e w3 ⟨rfl, hR, hK⟩
    have HO3 := lid (HO2.out.kp hK (by omega))
    have HZ3 := lid (HZ2.out.kp hK (by omega))
    have HB3 := lid (hK.below HB2.out (by omega))
    have HR3 := lid hR
    have s3 : w1.heap.size + 1 ≤ w3.heap.size := by have := hK.size; omega
    clear hR hK HO2 HZ2 HB2 HR2
    clear CS
    have o1 := HO3.out.g1
    have p1 := HO3.out.fz 1
    have ol3 := HO3.out.lt
    obtain ⟨w4, hw4⟩ : ∃ x, (w3.setCell ⟨w1.heap.size, 1, none⟩ (.string (bstr a))) = x := ⟨_, rfl⟩
    have HO4 := lid ((HO3.out.s1 (.string (bstr a))))
    rw [hw4] at HO4
    have HZ4 := lid (show Oc w.heap.size (.int .i64 0) (.string ⟨#[]⟩) (.slice none 0 0) (.int .u64 0) (.int .u64 0) (.slice none 0 0) (.string ⟨#[]⟩) (.int .i64 0) (.string ⟨#[]⟩) w4 by rw [← hw4]; exact HZ3.out.other (by omega))
    have HR4 := HR3.out
    replace HR4 := lid (show Rb 160 (w.heap.size + 1) _ w4 by rw [← hw4]; exact HR4.other (by omega))
    have HB4 : Hid (Below w.heap.size w w4) := lid (by rw [← hw4]; exact HB3.out.setCell (p := ⟨w1.heap.size, 1, none⟩) (by show _ ≤ w1.heap.size; omega) _)
    have s4 : w1.heap.size + 1 ≤ w4.heap.size := by rw [← hw4]; simpa using s3
    have HP : ∃ (ae : Option Addr) (ne ce : Nat) (ap : Option Addr) (np cp : Nat), Oc w1.heap.size (.int .i64 (obD k a).kind) (.string (obD k a).data) (.slice ae ne ce) (.int .u64 (obD k a).tree.1.toNat) (.int .u64 (obD k a).tree.2.toNat) (.slice ap np cp) (.string (obD k a).auth) (.int .i64 (obD k a).time) (.string (obD k a).msg) w4 ∧ ObO (w1.heap.size + 1) (obD k a) ae ne ce ap np cp w4 := ⟨none, 0, 0, none, 0, 0, HO4.out, World.ownsRow_nil _ _ _ _, World.ownsRow_nil _ _ _ _, rfl, rfl, (by intro e he; cases he), HNX.out, empty_max, empty_max⟩
    obtain ⟨o, ho⟩ : ∃ o, obD k a = o := ⟨_, rfl⟩
    rw [ho] at HP HD
    obtain ⟨ae, ne, ce, ap, np, cp, hO, hX⟩ := HP
    have HO := lid hO
    have HX := lid hX
    have HZ := HZ4
    have HR := HR4
    have HB := HB4
    obtain ⟨rest, bad⟩ := s2
    clear ho hO hX HO4 HZ4 HR4 HB4 HO3 HZ3 HR3 HB3 s3
    obtain ⟨W, rfl⟩ : ∃ W, W = w4 := ⟨_, rfl⟩
    have hOl := HO.out.lt
    have hbl := HR.out.lt
    have hzl := HZ.out.lt
    have r1 : W.cell? ⟨w.heap.size + 1, 1, none⟩ = some (.bool bad) := HR.out.c1
    have r0 : W.cell? ⟨w.heap.size + 1, 0, none⟩ = some (.string (bstr rest)) := HR.out.c0
    have y0 := HZ.out.g0
    have q0 := HZ.out.fz 0
    have y1 := HZ.out.g1
    have q1 := HZ.out.fz 1
    have y2 := HZ.out.g2
    have q2 := HZ.out.fz 2
    have y3 := HZ.out.g3
    have q3 := HZ.out.fz 3
    have y4 := HZ.out.g4
    have q4 := HZ.out.fz 4
    have y5 := HZ.out.g5
    have q5 := HZ.out.fz 5
    have y6 := HZ.out.g6
    have q6 := HZ.out.fz 6
    have y7 := HZ.out.g7
    have q7 := HZ.out.fz 7
    have y8 := HZ.out.g8
    have q8 := HZ.out.fz 8
    have x0 := HO.out.g0
    have x1 := HO.out.g1
    have x2 := HO.out.g2
    have x3 := HO.out.g3
    have x4 := HO.out.g4
    have x5 := HO.out.g5
    have x6 := HO.out.g6
    have x7 := HO.out.g7
    have x8 := HO.out.g8
    have NO := lid (dec_no (l := l))
    have YES := lid (dec_yes (l := l))
    cases bad with
    | true =>
      have HV := lid (NO.out (by unfold okR; rw [HD.out]; simp))
      clear x0 x1 x2 x3 x4 x5 x6 x7 x8
      go_wp2_with fail
      have X := set9_oc (d0 := (.int .i64 0)) (d1 := (.string ⟨#[]⟩)) (d2 := (.slice none 0 0)) (d3 := (.int .u64 0)) (d4 := (.int .u64 0)) (d5 := (.slice none 0 0)) (d6 := (.string ⟨#[]⟩)) (d7 := (.int .i64 0)) (d8 := (.string ⟨#[]⟩)) HZ.out
      have z0 := X.g0
      have z1 := X.g1
      have z2 := X.g2
      have z3 := X.g3
      have z4 := X.g4
      have z5 := X.g5
      have z6 := X.g6
      have z7 := X.g7
      have z8 := X.g8
      unfold set9 at z0 z1 z2 z3 z4 z5 z6 z7 z8
      refine bodyPost_ret (v := .tuple #[.agg #[(.int .i64 0), (.string ⟨#[]⟩), (.slice none 0 0), (.int .u64 0), (.int .u64 0), (.slice none 0 0), (.string ⟨#[]⟩), (.int .i64 0), (.string ⟨#[]⟩)], .int .i64 13]) (by simp [results, Tryz.results86, go_sem, z0, z1, z2, z3, z4, z5, z6, z7, z8]) rfl ?_
      exact ⟨none, none, 0, 0, 0, 0, by rw [HV.out.1, HV.out.2]; rfl, Nat.le_refl _, by rw [HV.out.1]; exact none_obj _, set9_below _ _ _ _ _ _ _ _ _ HB.out (Nat.le_refl _)⟩
    | false =>
    have HT := lid (bstr_nil rest)
    cases hr : decide (rest = []) with
    | false =>
      rw [hr] at HT
      have t0 := HT.out
      have HV := lid (NO.out (by unfold okR; rw [HD.out]; simp only [Prod.mk.injEq]; simp only [decide_eq_false_iff_not] at hr; simp [hr]))
      clear x0 x1 x2 x3 x4 x5 x6 x7 x8 hr
      go_wp2_with fail
      have X := set9_oc (d0 := (.int .i64 0)) (d1 := (.string ⟨#[]⟩)) (d2 := (.slice none 0 0)) (d3 := (.int .u64 0)) (d4 := (.int .u64 0)) (d5 := (.slice none 0 0)) (d6 := (.string ⟨#[]⟩)) (d7 := (.int .i64 0)) (d8 := (.string ⟨#[]⟩)) HZ.out
      have z0 := X.g0
      have z1 := X.g1
      have z2 := X.g2
      have z3 := X.g3
      have z4 := X.g4
      have z5 := X.g5
      have z6 := X.g6
      have z7 := X.g7
      have z8 := X.g8
      unfold set9 at z0 z1 z2 z3 z4 z5 z6 z7 z8
      refine bodyPost_ret (v := .tuple #[.agg #[(.int .i64 0), (.string ⟨#[]⟩), (.slice none 0 0), (.int .u64 0), (.int .u64 0), (.slice none 0 0), (.string ⟨#[]⟩), (.int .i64 0), (.string ⟨#[]⟩)], .int .i64 13]) (by simp [results, Tryz.results86, go_sem, z0, z1, z2, z3, z4, z5, z6, z7, z8]) rfl ?_
      exact ⟨none, none, 0, 0, 0, 0, by rw [HV.out.1, HV.out.2]; rfl, Nat.le_refl _, by rw [HV.out.1]; exact none_obj _, set9_below _ _ _ _ _ _ _ _ _ HB.out (Nat.le_refl _)⟩
    | true =>
    rw [hr] at HT
    have t0 := HT.out
    have HNIL := lid (of_decide_eq_true hr)
    obtain ⟨hA, hcp⟩ := HX.out.obj
    have CC := lid (objCheck_any o ae ap ne ce np cp W hA hcp HX.out.2.2.2.2.2.1)
    clear hA hcp hr y0 q0 y1 q1 y2 q2 y3 q3 y4 q4 y5 q5 y6 q6 y7 q7 y8 q8
    go_wp2_with fail
    clear x0 x1 x2 x3 x4 x5 x6 x7 x8 r0 r1 t0
    (with_reducible refine (CC.out).mono ?_); rintro e V ⟨rfl, hbV⟩
    have HO2 := lid (HO.out.below hbV)
    have HZ2 := lid (HZ.out.below hbV)
    have HX2 : Hid (ObO (w1.heap.size + 1) o ae ne ce ap np cp V) := lid (HX.out.heap fun k _ hk => hbV.block k hk)
    have HB2 : Hid (Below w.heap.size w V) := lid (HB.out.trans (hbV.mono HB.out.size))
    have y0 := HZ2.out.g0
    have q0 := HZ2.out.fz 0
    have y1 := HZ2.out.g1
    have q1 := HZ2.out.fz 1
    have y2 := HZ2.out.g2
    have q2 := HZ2.out.fz 2
    have y3 := HZ2.out.g3
    have q3 := HZ2.out.fz 3
    have y4 := HZ2.out.g4
    have q4 := HZ2.out.fz 4
    have y5 := HZ2.out.g5
    have q5 := HZ2.out.fz 5
    have y6 := HZ2.out.g6
    have q6 := HZ2.out.fz 6
    have y7 := HZ2.out.g7
    have q7 := HZ2.out.fz 7
    have y8 := HZ2.out.g8
    have q8 := HZ2.out.fz 8
    have x0 := HO2.out.g0
    have x1 := HO2.out.g1
    have x2 := HO2.out.g2
    have x3 := HO2.out.g3
    have x4 := HO2.out.g4
    have x5 := HO2.out.g5
    have x6 := HO2.out.g6
    have x7 := HO2.out.g7
    have x8 := HO2.out.g8
    have hOl2 := HO2.out.lt
    have hzl2 := HZ2.out.lt
    clear CC HO HZ HX HB
    by_cases hv : checkO o = 0
    · have HV := lid (YES.out (by unfold okR; rw [HD.out, HNIL.out]; simp [hv]))
      rw [hv]
      clear hv
      go_wp2_with fail
      have X := set9_oc (d0 := (.int .i64 o.kind)) (d1 := (.string o.data)) (d2 := (.slice ae ne ce)) (d3 := (.int .u64 o.tree.1.toNat)) (d4 := (.int .u64 o.tree.2.toNat)) (d5 := (.slice ap np cp)) (d6 := (.string o.auth)) (d7 := (.int .i64 o.time)) (d8 := (.string o.msg)) HZ2.out
      have z0 := X.g0
      have z1 := X.g1
      have z2 := X.g2
      have z3 := X.g3
      have z4 := X.g4
      have z5 := X.g5
      have z6 := X.g6
      have z7 := X.g7
      have z8 := X.g8
      unfold set9 at z0 z1 z2 z3 z4 z5 z6 z7 z8
      refine bodyPost_ret (v := .tuple #[.agg #[(.int .i64 o.kind), (.string o.data), (.slice ae ne ce), (.int .u64 o.tree.1.toNat), (.int .u64 o.tree.2.toNat), (.slice ap np cp), (.string o.auth), (.int .i64 o.time), (.string o.msg)], .int .i64 0]) (by simp [results, Tryz.results86, go_sem, z0, z1, z2, z3, z4, z5, z6, z7, z8]) rfl ?_
      refine ⟨ae, ap, ne, ce, np, cp, by rw [HV.out.1, HV.out.2, HD.out], (HX2.out.obj).2, ?_, set9_below _ _ _ _ _ _ _ _ _ HB2.out (Nat.le_refl _)⟩
      rw [HV.out.1, HD.out]
      exact (ObO.obj (HX2.out.heap (w' := set9 V w.heap.size (.int .i64 o.kind) (.string o.data) (.slice ae ne ce) (.int .u64 o.tree.1.toNat) (.int .u64 o.tree.2.toNat) (.slice ap np cp) (.string o.auth) (.int .i64 o.time) (.string o.msg)) fun k hk _ => set9_heap _ _ _ _ _ _ _ _ _ _ _ (by have := hbase.out; omega))).1
    · have HV := lid (NO.out (by unfold okR; rw [HD.out]; simp [hv]))
      have uK : (checkO o != 0) = true := by simpa using hv
      clear hv x0 x1 x2 x3 x4 x5 x6 x7 x8
      go_wp2_with fail
      have X := set9_oc (d0 := (.int .i64 0)) (d1 := (.string ⟨#[]⟩)) (d2 := (.slice none 0 0)) (d3 := (.int .u64 0)) (d4 := (.int .u64 0)) (d5 := (.slice none 0 0)) (d6 := (.string ⟨#[]⟩)) (d7 := (.int .i64 0)) (d8 := (.string ⟨#[]⟩)) HZ2.out
      have z0 := X.g0
      have z1 := X.g1
      have z2 := X.g2
      have z3 := X.g3
      have z4 := X.g4
      have z5 := X.g5
      have z6 := X.g6
      have z7 := X.g7
      have z8 := X.g8
      unfold set9 at z0 z1 z2 z3 z4 z5 z6 z7 z8
      refine bodyPost_ret (v := .tuple #[.agg #[(.int .i64 0), (.string ⟨#[]⟩), (.slice none 0 0), (.int .u64 0), (.int .u64 0), (.slice none 0 0), (.string ⟨#[]⟩), (.int .i64 0), (.string ⟨#[]⟩)], .int .i64 13]) (by simp [results, Tryz.results86, go_sem, z0, z1, z2, z3, z4, z5, z6, z7, z8]) rfl ?_
      exact ⟨none, none, 0, 0, 0, 0, by rw [HV.out.1, HV.out.2]; rfl, Nat.le_refl _, by rw [HV.out.1]; exact none_obj _, set9_below _ _ _ _ _ _ _ _ _ HB2.out (Nat.le_refl _)⟩
  have n1 := kk
  clear kk
  by_cases kk : k = 4
  case pos =>
    have u1 : ((k : Int) == 1) = false := by simp; omega
    have u4 : ((k : Int) == 4) = true := by simp; omega
    have KK := lid kk
    clear kk
    clear n1
    replace HD : Hid (decR l = (obD k (rStr s1).1, (rStr s1).2)) := lid (HD.out.trans (decRk_D (.inr KK.out) s1))
    have CS := lid (rString_any (w.heap.size + 1) s1 w2 HR2.out L1.out)
    have HNX : Hid ((rStr s1).1.length ≤ 60000) := lid (Nat.le_trans (getX_le s1.1).2.1 hs1.out)
    go_wp2_with (with_reducible refine swap_world HW.out ?_)
    obtain ⟨r2, hr2⟩ : ∃ r, rStr s1 = r := ⟨_, rfl⟩
    rw [hr2] at CS HD HNX
    obtain ⟨a, s2⟩ := r2
    replace HD : Hid (decR l = (obD k a, s2)) := HD
    replace HNX : Hid (a.length ≤ 60000) := HNX
    clear hr2
    (with_reducible refine (CS.out).mono ?_); rintro e w3 ⟨rfl, hR, hK⟩
    have HO3 := lid (HO2.out.kp hK (by omega))
    have HZ3 := lid (HZ2.out.kp hK (by omega))
    have HB3 := lid (hK.below HB2.out (by omega))
    have HR3 := lid hR
    have s3 : w1.heap.size + 1 ≤ w3.heap.size := by have := hK.size; omega
    clear hR hK HO2 HZ2 HB2 HR2
    clear CS
    have o1 := HO3.out.g1
    have p1 := HO3.out.fz 1
    have ol3 := HO3.out.lt
    obtain ⟨w4, hw4⟩ : ∃ x, (w3.setCell ⟨w1.heap.size, 1, none⟩ (.string (bstr a))) = x := ⟨_, rfl⟩
    have HO4 := lid ((HO3.out.s1 (.string (bstr a))))
    rw [hw4] at HO4
    have HZ4 := lid (show Oc w.heap.size (.int .i64 0) (.string ⟨#[]⟩) (.slice none 0 0) (.int .u64 0) (.int .u64 0) (.slice none 0 0) (.string ⟨#[]⟩) (.int .i64 0) (.string ⟨#[]⟩) w4 by rw [← hw4]; exact HZ3.out.other (by omega))
    have HR4 := HR3.out
    replace HR4 := lid (show Rb 160 (w.heap.size + 1) _ w4 by rw [← hw4]; exact HR4.other (by omega))
    have HB4 : Hid (Below w.heap.size w w4) := lid (by rw [← hw4]; exact HB3.out.setCell (p := ⟨w1.heap.size, 1, none⟩) (by show _ ≤ w1.heap.size; omega) _)
    have s4 : w1.heap.size + 1 ≤ w4.heap.size := by rw [← hw4]; simpa using s3
    have HP : ∃ (ae : Option Addr) (ne ce : Nat) (ap : Option Addr) (np cp : Nat), Oc w1.heap.size (.int .i64 (obD k a).kind) (.string (obD k a).data) (.slice ae ne ce) (.int .u64 (obD k a).tree.1.toNat) (.int .u64 (obD k a).tree.2.toNat) (.slice ap np cp) (.string (obD k a).auth) (.int .i64 (obD k a).time) (.string (obD k a).msg) w4 ∧ ObO (w1.heap.size + 1) (obD k a) ae ne ce ap np cp w4 := ⟨none, 0, 0, none, 0, 0, HO4.out, World.ownsRow_nil _ _ _ _, World.ownsRow_nil _ _ _ _, rfl, rfl, (by intro e he; cases he), HNX.out, empty_max, empty_max⟩
    obtain ⟨o, ho⟩ : ∃ o, obD k a = o := ⟨_, rfl⟩
    rw [ho] at HP HD
    obtain ⟨ae, ne, ce, ap, np, cp, hO, hX⟩ := HP
    have HO := lid hO
    have HX := lid hX
    have HZ := HZ4
    have HR := HR4
    have HB := HB4
    obtain ⟨rest, bad⟩ := s2
    clear ho hO hX HO4 HZ4 HR4 HB4 HO3 HZ3 HR3 HB3 s3
    obtain ⟨W, rfl⟩ : ∃ W, W = w4 := ⟨_, rfl⟩
    have hOl := HO.out.lt
    have hbl := HR.out.lt
    have hzl := HZ.out.lt
    have r1 : W.cell? ⟨w.heap.size + 1, 1, none⟩ = some (.bool bad) := HR.out.c1
    have r0 : W.cell? ⟨w.heap.size + 1, 0, none⟩ = some (.string (bstr rest)) := HR.out.c0
    have y0 := HZ.out.g0
    have q0 := HZ.out.fz 0
    have y1 := HZ.out.g1
    have q1 := HZ.out.fz 1
    have y2 := HZ.out.g2
    have q2 := HZ.out.fz 2
    have y3 := HZ.out.g3
    have q3 := HZ.out.fz 3
    have y4 := HZ.out.g4
    have q4 := HZ.out.fz 4
    have y5 := HZ.out.g5
    have q5 := HZ.out.fz 5
    have y6 := HZ.out.g6
    have q6 := HZ.out.fz 6
    have y7 := HZ.out.g7
    have q7 := HZ.out.fz 7
    have y8 := HZ.out.g8
    have q8 := HZ.out.fz 8
    have x0 := HO.out.g0
    have x1 := HO.out.g1
    have x2 := HO.out.g2
    have x3 := HO.out.g3
    have x4 := HO.out.g4
    have x5 := HO.out.g5
    have x6 := HO.out.g6
    have x7 := HO.out.g7
    have x8 := HO.out.g8
    have NO := lid (dec_no (l := l))
    have YES := lid (dec_yes (l := l))
    cases bad with
    | true =>
      have HV := lid (NO.out (by unfold okR; rw [HD.out]; simp))
      clear x0 x1 x2 x3 x4 x5 x6 x7 x8
      go_wp2_with fail
      have X := set9_oc (d0 := (.int .i64 0)) (d1 := (.string ⟨#[]⟩)) (d2 := (.slice none 0 0)) (d3 := (.int .u64 0)) (d4 := (.int .u64 0)) (d5 := (.slice none 0 0)) (d6 := (.string ⟨#[]⟩)) (d7 := (.int .i64 0)) (d8 := (.string ⟨#[]⟩)) HZ.out
      have z0 := X.g0
      have z1 := X.g1
      have z2 := X.g2
      have z3 := X.g3
      have z4 := X.g4
      have z5 := X.g5
      have z6 := X.g6
      have z7 := X.g7
      have z8 := X.g8
      unfold set9 at z0 z1 z2 z3 z4 z5 z6 z7 z8
      refine bodyPost_ret (v := .tuple #[.agg #[(.int .i64 0), (.string ⟨#[]⟩), (.slice none 0 0), (.int .u64 0), (.int .u64 0), (.slice none 0 0), (.string ⟨#[]⟩), (.int .i64 0), (.string ⟨#[]⟩)], .int .i64 13]) (by simp [results, Tryz.results86, go_sem, z0, z1, z2, z3, z4, z5, z6, z7, z8]) rfl ?_
      exact ⟨none, none, 0, 0, 0, 0, by rw [HV.out.1, HV.out.2]; rfl, Nat.le_refl _, by rw [HV.out.1]; exact none_obj _, set9_below _ _ _ _ _ _ _ _ _ HB.out (Nat.le_refl _)⟩
    | false =>
    have HT := lid (bstr_nil rest)
    cases hr : decide (rest = []) with
    | false =>
      rw [hr] at HT
      have t0 := HT.out
      have HV := lid (NO.out (by unfold okR; rw [HD.out]; simp only [Prod.mk.injEq]; simp only [decide_eq_false_iff_not] at hr; simp [hr]))
      clear x0 x1 x2 x3 x4 x5 x6 x7 x8 hr
      go_wp2_with fail
      have X := set9_oc (d0 := (.int .i64 0)) (d1 := (.string ⟨#[]⟩)) (d2 := (.slice none 0 0)) (d3 := (.int .u64 0)) (d4 := (.int .u64 0)) (d5 := (.slice none 0 0)) (d6 := (.string ⟨#[]⟩)) (d7 := (.int .i64 0)) (d8 := (.string ⟨#[]⟩)) HZ.out
      have z0 := X.g0
      have z1 := X.g1
      have z2 := X.g2
      have z3 := X.g3
      have z4 := X.g4
      have z5 := X.g5
      have z6 := X.g6
      have z7 := X.g7
      have z8 := X.g8
      unfold set9 at z0 z1 z2 z3 z4 z5 z6 z7 z8
      refine bodyPost_ret (v := .tuple #[.agg #[(.int .i64 0), (.string ⟨#[]⟩), (.slice none 0 0), (.int .u64 0), (.int .u64 0), (.slice none 0 0), (.string ⟨#[]⟩), (.int .i64 0), (.string ⟨#[]⟩)], .int .i64 13]) (by simp [results, Tryz.results86, go_sem, z0, z1, z2, z3, z4, z5, z6, z7, z8]) rfl ?_
      exact ⟨none, none, 0, 0, 0, 0, by rw [HV.out.1, HV.out.2]; rfl, Nat.le_refl _, by rw [HV.out.1]; exact none_obj _, set9_below _ _ _ _ _ _ _ _ _ HB.out (Nat.le_refl _)⟩
    | true =>
    rw [hr] at HT
    have t0 := HT.out
    have HNIL := lid (of_decide_eq_true hr)
    obtain ⟨hA, hcp⟩ := HX.out.obj
    have CC := lid (objCheck_any o ae ap ne ce np cp W hA hcp HX.out.2.2.2.2.2.1)
    clear hA hcp hr y0 q0 y1 q1 y2 q2 y3 q3 y4 q4 y5 q5 y6 q6 y7 q7 y8 q8
    go_wp2_with fail
    clear x0 x1 x2 x3 x4 x5 x6 x7 x8 r0 r1 t0
    (with_reducible refine (CC.out).mono ?_); rintro e V ⟨rfl, hbV⟩
    have HO2 := lid (HO.out.below hbV)
    have HZ2 := lid (HZ.out.below hbV)
    have HX2 : Hid (ObO (w1.heap.size + 1) o ae ne ce ap np cp V) := lid (HX.out.heap fun k _ hk => hbV.block k hk)
    have HB2 : Hid (Below w.heap.size w V) := lid (HB.out.trans (hbV.mono HB.out.size))
    have y0 := HZ2.out.g0
    have q0 := HZ2.out.fz 0
    have y1 := HZ2.out.g1
    have q1 := HZ2.out.fz 1
    have y2 := HZ2.out.g2
    have q2 := HZ2.out.fz 2
    have y3 := HZ2.out.g3
    have q3 := HZ2.out.fz 3
    have y4 := HZ2.out.g4
    have q4 := HZ2.out.fz 4
    have y5 := HZ2.out.g5
    have q5 := HZ2.out.fz 5
    have y6 := HZ2.out.g6
    have q6 := HZ2.out.fz 6
    have y7 := HZ2.out.g7
    have q7 := HZ2.out.fz 7
    have y8 := HZ2.out.g8
    have q8 := HZ2.out.fz 8
    have x0 := HO2.out.g0
    have x1 := HO2.out.g1
    have x2 := HO2.out.g2
    have x3 := HO2.out.g3
    have x4 := HO2.out.g4
    have x5 := HO2.out.g5
    have x6 := HO2.out.g6
    have x7 := HO2.out.g7
    have x8 := HO2.out.g8
    have hOl2 := HO2.out.lt
    have hzl2 := HZ2.out.lt
    clear CC HO HZ HX HB
    by_cases hv : checkO o = 0
    · have HV := lid (YES.out (by unfold okR; rw [HD.out, HNIL.out]; simp [hv]))
      rw [hv]
      clear hv
      go_wp2_with fail
      have X := set9_oc (d0 := (.int .i64 o.kind)) (d1 := (.string o.data)) (d2 := (.slice ae ne ce)) (d3 := (.int .u64 o.tree.1.toNat)) (d4 := (.int .u64 o.tree.2.toNat)) (d5 := (.slice ap np cp)) (d6 := (.string o.auth)) (d7 := (.int .i64 o.time)) (d8 := (.string o.msg)) HZ2.out
      have z0 := X.g0
      have z1 := X.g1
      have z2 := X.g2
      have z3 := X.g3
      have z4 := X.g4
      have z5 := X.g5
      have z6 := X.g6
      have z7 := X.g7
      have z8 := X.g8
      unfold set9 at z0 z1 z2 z3 z4 z5 z6 z7 z8
      refine bodyPost_ret (v := .tuple #[.agg #[(.int .i64 o.kind), (.string o.data), (.slice ae ne ce), (.int .u64 o.tree.1.toNat), (.int .u64 o.tree.2.toNat), (.slice ap np cp), (.string o.auth), (.int .i64 o.time), (.string o.msg)], .int .i64 0]) (by simp [results, Tryz.results86, go_sem, z0, z1, z2, z3, z4, z5, z6, z7, z8]) rfl ?_
      refine ⟨ae, ap, ne, ce, np, cp, by rw [HV.out.1, HV.out.2, HD.out], (HX2.out.obj).2, ?_, set9_below _ _ _ _ _ _ _ _ _ HB2.out (Nat.le_refl _)⟩
      rw [HV.out.1, HD.out]
      exact (ObO.obj (HX2.out.heap (w' := set9 V w.heap.size (.int .i64 o.kind) (.string o.data) (.slice ae ne ce) (.int .u64 o.tree.1.toNat) (.int .u64 o.tree.2.toNat) (.slice ap np cp) (.string o.auth) (.int .i64 o.time) (.string o.msg)) fun k hk _ => set9_heap _ _ _ _ _ _ _ _ _ _ _ (by have := hbase.out; omega))).1
    · have HV := lid (NO.out (by unfold okR; rw [HD.out]; simp [hv]))
      have uK : (checkO o != 0) = true := by simpa using hv
      clear hv x0 x1 x2 x3 x4 x5 x6 x7 x8
      go_wp2_with fail
      have X := set9_oc (d0 := (.int .i64 0)) (d1 := (.string ⟨#[]⟩)) (d2 := (.slice none 0 0)) (d3 := (.int .u64 0)) (d4 := (.int .u64 0)) (d5 := (.slice none 0 0)) (d6 := (.string ⟨#[]⟩)) (d7 := (.int .i64 0)) (d8 := (.string ⟨#[]⟩)) HZ2.out
      have z0 := X.g0
      have z1 := X.g1
      have z2 := X.g2
      have z3 := X.g3
      have z4 := X.g4
      have z5 := X.g5
      have z6 := X.g6
      have z7 := X.g7
      have z8 := X.g8
      unfold set9 at z0 z1 z2 z3 z4 z5 z6 z7 z8
      refine bodyPost_ret (v := .tuple #[.agg #[(.int .i64 0), (.string ⟨#[]⟩), (.slice none 0 0), (.int .u64 0), (.int .u64 0), (.slice none 0 0), (.string ⟨#[]⟩), (.int .i64 0), (.string ⟨#[]⟩)], .int .i64 13]) (by simp [results, Tryz.results86, go_sem, z0, z1, z2, z3, z4, z5, z6, z7, z8]) rfl ?_
      exact ⟨none, none, 0, 0, 0, 0, by rw [HV.out.1, HV.out.2]; rfl, Nat.le_refl _, by rw [HV.out.1]; exact none_obj _, set9_below _ _ _ _ _ _ _ _ _ HB2.out (Nat.le_refl _)⟩
  have n4 := kk
  clear kk
  by_cases kk : k = 2
  case pos =>
    have u1 : ((k : Int) == 1) = false := by simp; omega
    have u4 : ((k : Int) == 4) = false := by simp; omega
    have u2 : ((k : Int) == 2) = true := by simp; omega
    have KK := lid kk
    clear kk
    clear n1 n4
    replace HD : Hid (decR l = (obE (rList rEnt 200 s1).1, (rList rEnt 200 s1).2)) := lid (HD.out.trans (by rw [KK.out]; exact decRk_E s1))
    have CS := lid (rListE_any (w.heap.size + 1) s1 w2 HR2.out L1.out)
    have HNX : Hid (∀ e ∈ (rList rEnt 200 s1).1, e.1.size ≤ maxLen) := lid (many_all rEnt_name _ _)
    go_wp2_with (with_reducible refine swap_world HW.out ?_)
    obtain ⟨r2, hr2⟩ : ∃ r, rList rEnt 200 s1 = r := ⟨_, rfl⟩
    rw [hr2] at CS HD HNX
    obtain ⟨L, s2⟩ := r2
    replace HD : Hid (decR l = (obE L, s2)) := HD
    replace HNX : Hid (∀ e ∈ L, e.1.size ≤ maxLen) := HNX
    clear hr2
    (with_reducible refine (CS.out).mono ?_); rintro e w3 ⟨v, rfl, hown, hR, hK⟩
    have HO3 := lid (HO2.out.kp hK (by omega))
    have HZ3 := lid (HZ2.out.kp hK (by omega))
    have HB3 := lid (hK.below HB2.out (by omega))
    have HR3 := lid hR
    have s3 : w1.heap.size + 1 ≤ w3.heap.size := by have := hK.size; omega
    obtain ⟨ae, ce, rfl⟩ := own_slice hown
    have HOW := lid (show w3.ownsRow (w1.heap.size + 1) 83 4 (.slice ae L.length ce) L.length (ecells L) by rw [← z2]; exact hown)
    clear hown
    clear hR hK HO2 HZ2 HB2 HR2
    clear CS
    have o2 := HO3.out.g2
    have p2 := HO3.out.fz 2
    have ol3 := HO3.out.lt
    obtain ⟨w4, hw4⟩ : ∃ x, (w3.setCell ⟨w1.heap.size, 2, none⟩ (.slice ae L.length ce)) = x := ⟨_, rfl⟩
    have HO4 := lid ((HO3.out.s2 (.slice ae L.length ce)))
    rw [hw4] at HO4
    have HZ4 := lid (show Oc w.heap.size (.int .i64 0) (.string ⟨#[]⟩) (.slice none 0 0) (.int .u64 0) (.int .u64 0) (.slice none 0 0) (.string ⟨#[]⟩) (.int .i64 0) (.string ⟨#[]⟩) w4 by rw [← hw4]; exact HZ3.out.other (by omega))
    have HR4 := HR3.out
    replace HR4 := lid (show Rb 160 (w.heap.size + 1) _ w4 by rw [← hw4]; exact HR4.other (by omega))
    have HB4 : Hid (Below w.heap.size w w4) := lid (by rw [← hw4]; exact HB3.out.setCell (p := ⟨w1.heap.size, 2, none⟩) (by show _ ≤ w1.heap.size; omega) _)
    have s4 : w1.heap.size + 1 ≤ w4.heap.size := by rw [← hw4]; simpa using s3
    have HOW4 := lid (show w4.ownsRow (w1.heap.size + 1) 83 4 (.slice ae L.length ce) L.length (ecells L) by rw [← hw4]; exact own_block HOW.out fun g hg => Below.heap_setCell _ _ _ _ (by have := (HOW.out.lt g hg).1; simp; omega))
    have HP : ∃ (ae : Option Addr) (ne ce : Nat) (ap : Option Addr) (np cp : Nat), Oc w1.heap.size (.int .i64 (obE L).kind) (.string (obE L).data) (.slice ae ne ce) (.int .u64 (obE L).tree.1.toNat) (.int .u64 (obE L).tree.2.toNat) (.slice ap np cp) (.string (obE L).auth) (.int .i64 (obE L).time) (.string (obE L).msg) w4 ∧ ObO (w1.heap.size + 1) (obE L) ae ne ce ap np cp w4 := ⟨ae, L.length, ce, none, 0, 0, (by have := HO4.out; rw [KK.out] at this; exact this), HOW4.out, World.ownsRow_nil _ _ _ _, rfl, rfl, HNX.out, empty_60, empty_max, empty_max⟩
    obtain ⟨o, ho⟩ : ∃ o, obE L = o := ⟨_, rfl⟩
    rw [ho] at HP HD
    obtain ⟨ae, ne, ce, ap, np, cp, hO, hX⟩ := HP
    have HO := lid hO
    have HX := lid hX
    have HZ := HZ4
    have HR := HR4
    have HB := HB4
    obtain ⟨rest, bad⟩ := s2
    clear ho hO hX HO4 HZ4 HR4 HB4 HOW HOW4 HO3 HZ3 HR3 HB3 s3
    obtain ⟨W, rfl⟩ : ∃ W, W = w4 := ⟨_, rfl⟩
    have hOl := HO.out.lt
    have hbl := HR.out.lt
    have hzl := HZ.out.lt
    have r1 : W.cell? ⟨w.heap.size + 1, 1, none⟩ = some (.bool bad) := HR.out.c1
    have r0 : W.cell? ⟨w.heap.size + 1, 0, none⟩ = some (.string (bstr rest)) := HR.out.c0
    have y0 := HZ.out.g0
    have q0 := HZ.out.fz 0
    have y1 := HZ.out.g1
    have q1 := HZ.out.fz 1
    have y2 := HZ.out.g2
    have q2 := HZ.out.fz 2
    have y3 := HZ.out.g3
    have q3 := HZ.out.fz 3
    have y4 := HZ.out.g4
    have q4 := HZ.out.fz 4
    have y5 := HZ.out.g5
    have q5 := HZ.out.fz 5
    have y6 := HZ.out.g6
    have q6 := HZ.out.fz 6
    have y7 := HZ.out.g7
    have q7 := HZ.out.fz 7
    have y8 := HZ.out.g8
    have q8 := HZ.out.fz 8
    have x0 := HO.out.g0
    have x1 := HO.out.g1
    have x2 := HO.out.g2
    have x3 := HO.out.g3
    have x4 := HO.out.g4
    have x5 := HO.out.g5
    have x6 := HO.out.g6
    have x7 := HO.out.g7
    have x8 := HO.out.g8
    have NO := lid (dec_no (l := l))
    have YES := lid (dec_yes (l := l))
    cases bad with
    | true =>
      have HV := lid (NO.out (by unfold okR; rw [HD.out]; simp))
      clear x0 x1 x2 x3 x4 x5 x6 x7 x8
      go_wp2_with fail
      have X := set9_oc (d0 := (.int .i64 0)) (d1 := (.string ⟨#[]⟩)) (d2 := (.slice none 0 0)) (d3 := (.int .u64 0)) (d4 := (.int .u64 0)) (d5 := (.slice none 0 0)) (d6 := (.string ⟨#[]⟩)) (d7 := (.int .i64 0)) (d8 := (.string ⟨#[]⟩)) HZ.out
      have z0 := X.g0
      have z1 := X.g1
      have z2 := X.g2
      have z3 := X.g3
      have z4 := X.g4
      have z5 := X.g5
      have z6 := X.g6
      have z7 := X.g7
      have z8 := X.g8
      unfold set9 at z0 z1 z2 z3 z4 z5 z6 z7 z8
      refine bodyPost_ret (v := .tuple #[.agg #[(.int .i64 0), (.string ⟨#[]⟩), (.slice none 0 0), (.int .u64 0), (.int .u64 0), (.slice none 0 0), (.string ⟨#[]⟩), (.int .i64 0), (.string ⟨#[]⟩)], .int .i64 13]) (by simp [results, Tryz.results86, go_sem, z0, z1, z2, z3, z4, z5, z6, z7, z8]) rfl ?_
      exact ⟨none, none, 0, 0, 0, 0, by rw [HV.out.1, HV.out.2]; rfl, Nat.le_refl _, by rw [HV.out.1]; exact none_obj _, set9_below _ _ _ _ _ _ _ _ _ HB.out (Nat.le_refl _)⟩
    | false =>
    have HT := lid (bstr_nil rest)
    cases hr : decide (rest = []) with
    | false =>
      rw [hr] at HT
      have t0 := HT.out
      have HV := lid (NO.out (by unfold okR; rw [HD.out]; simp only [Prod.mk.injEq]; simp only [decide_eq_false_iff_not] at hr; simp [hr]))
      clear x0 x1 x2 x3 x4 x5 x6 x7 x8 hr
      go_wp2_with fail
      have X := set9_oc (d0 := (.int .i64 0)) (d1 := (.string ⟨#[]⟩)) (d2 := (.slice none 0 0)) (d3 := (.int .u64 0)) (d4 := (.int .u64 0)) (d5 := (.slice none 0 0)) (d6 := (.string ⟨#[]⟩)) (d7 := (.int .i64 0)) (d8 := (.string ⟨#[]⟩)) HZ.out
      have z0 := X.g0
      have z1 := X.g1
      have z2 := X.g2
      have z3 := X.g3
      have z4 := X.g4
      have z5 := X.g5
      have z6 := X.g6
      have z7 := X.g7
      have z8 := X.g8
      unfold set9 at z0 z1 z2 z3 z4 z5 z6 z7 z8
      refine bodyPost_ret (v := .tuple #[.agg #[(.int .i64 0), (.string ⟨#[]⟩), (.slice none 0 0), (.int .u64 0), (.int .u64 0), (.slice none 0 0), (.string ⟨#[]⟩), (.int .i64 0), (.string ⟨#[]⟩)], .int .i64 13]) (by simp [results, Tryz.results86, go_sem, z0, z1, z2, z3, z4, z5, z6, z7, z8]) rfl ?_
      exact ⟨none, none, 0, 0, 0, 0, by rw [HV.out.1, HV.out.2]; rfl, Nat.le_refl _, by rw [HV.out.1]; exact none_obj _, set9_below _ _ _ _ _ _ _ _ _ HB.out (Nat.le_refl _)⟩
    | true =>
    rw [hr] at HT
    have t0 := HT.out
    have HNIL := lid (of_decide_eq_true hr)
    obtain ⟨hA, hcp⟩ := HX.out.obj
    have CC := lid (objCheck_any o ae ap ne ce np cp W hA hcp HX.out.2.2.2.2.2.1)
    clear hA hcp hr y0 q0 y1 q1 y2 q2 y3 q3 y4 q4 y5 q5 y6 q6 y7 q7 y8 q8
    go_wp2_with fail
    clear x0 x1 x2 x3 x4 x5 x6 x7 x8 r0 r1 t0
    (with_reducible refine (CC.out).mono ?_); rintro e V ⟨rfl, hbV⟩
    have HO2 := lid (HO.out.below hbV)
    have HZ2 := lid (HZ.out.below hbV)
    have HX2 : Hid (ObO (w1.heap.size + 1) o ae ne ce ap np cp V) := lid (HX.out.heap fun k _ hk => hbV.block k hk)
    have HB2 : Hid (Below w.heap.size w V) := lid (HB.out.trans (hbV.mono HB.out.size))
    have y0 := HZ2.out.g0
    have q0 := HZ2.out.fz 0
    have y1 := HZ2.out.g1
    have q1 := HZ2.out.fz 1
    have y2 := HZ2.out.g2
    have q2 := HZ2.out.fz 2
    have y3 := HZ2.out.g3
    have q3 := HZ2.out.fz 3
    have y4 := HZ2.out.g4
    have q4 := HZ2.out.fz 4
    have y5 := HZ2.out.g5
    have q5 := HZ2.out.fz 5
    have y6 := HZ2.out.g6
    have q6 := HZ2.out.fz 6
    have y7 := HZ2.out.g7
    have q7 := HZ2.out.fz 7
    have y8 := HZ2.out.g8
    have q8 := HZ2.out.fz 8
    have x0 := HO2.out.g0
    have x1 := HO2.out.g1
    have x2 := HO2.out.g2
    have x3 := HO2.out.g3
    have x4 := HO2.out.g4
    have x5 := HO2.out.g5
    have x6 := HO2.out.g6
    have x7 := HO2.out.g7
    have x8 := HO2.out.g8
    have hOl2 := HO2.out.lt
    have hzl2 := HZ2.out.lt
    clear CC HO HZ HX HB
    by_cases hv : checkO o = 0
    · have HV := lid (YES.out (by unfold okR; rw [HD.out, HNIL.out]; simp [hv]))
      rw [hv]
      clear hv
      go_wp2_with fail
      have X := set9_oc (d0 := (.int .i64 o.kind)) (d1 := (.string o.data)) (d2 := (.slice ae ne ce)) (d3 := (.int .u64 o.tree.1.toNat)) (d4 := (.int .u64 o.tree.2.toNat)) (d5 := (.slice ap np cp)) (d6 := (.string o.auth)) (d7 := (.int .i64 o.time)) (d8 := (.string o.msg)) HZ2.out
      have z0 := X.g0
      have z1 := X.g1
      have z2 := X.g2
      have z3 := X.g3
      have z4 := X.g4
      have z5 := X.g5
      have z6 := X.g6
      have z7 := X.g7
      have z8 := X.g8
      unfold set9 at z0 z1 z2 z3 z4 z5 z6 z7 z8
      refine bodyPost_ret (v := .tuple #[.agg #[(.int .i64 o.kind), (.string o.data), (.slice ae ne ce), (.int .u64 o.tree.1.toNat), (.int .u64 o.tree.2.toNat), (.slice ap np cp), (.string o.auth), (.int .i64 o.time), (.string o.msg)], .int .i64 0]) (by simp [results, Tryz.results86, go_sem, z0, z1, z2, z3, z4, z5, z6, z7, z8]) rfl ?_
      refine ⟨ae, ap, ne, ce, np, cp, by rw [HV.out.1, HV.out.2, HD.out], (HX2.out.obj).2, ?_, set9_below _ _ _ _ _ _ _ _ _ HB2.out (Nat.le_refl _)⟩
      rw [HV.out.1, HD.out]
      exact (ObO.obj (HX2.out.heap (w' := set9 V w.heap.size (.int .i64 o.kind) (.string o.data) (.slice ae ne ce) (.int .u64 o.tree.1.toNat) (.int .u64 o.tree.2.toNat) (.slice ap np cp) (.string o.auth) (.int .i64 o.time) (.string o.msg)) fun k hk _ => set9_heap _ _ _ _ _ _ _ _ _ _ _ (by have := hbase.out; omega))).1
    · have HV := lid (NO.out (by unfold okR; rw [HD.out]; simp [hv]))
      have uK : (checkO o != 0) = true := by simpa using hv
      clear hv x0 x1 x2 x3 x4 x5 x6 x7 x8
      go_wp2_with fail
      have X := set9_oc (d0 := (.int .i64 0)) (d1 := (.string ⟨#[]⟩)) (d2 := (.slice none 0 0)) (d3 := (.int .u64 0)) (d4 := (.int .u64 0)) (d5 := (.slice none 0 0)) (d6 := (.string ⟨#[]⟩)) (d7 := (.int .i64 0)) (d8 := (.string ⟨#[]⟩)) HZ2.out
      have z0 := X.g0
      have z1 := X.g1
      have z2 := X.g2
      have z3 := X.g3
      have z4 := X.g4
      have z5 := X.g5
      have z6 := X.g6
      have z7 := X.g7
      have z8 := X.g8
      unfold set9 at z0 z1 z2 z3 z4 z5 z6 z7 z8
      refine bodyPost_ret (v := .tuple #[.agg #[(.int .i64 0), (.string ⟨#[]⟩), (.slice none 0 0), (.int .u64 0), (.int .u64 0), (.slice none 0 0), (.string ⟨#[]⟩), (.int .i64 0), (.string ⟨#[]⟩)], .int .i64 13]) (by simp [results, Tryz.results86, go_sem, z0, z1, z2, z3, z4, z5, z6, z7, z8]) rfl ?_
      exact ⟨none, none, 0, 0, 0, 0, by rw [HV.out.1, HV.out.2]; rfl, Nat.le_refl _, by rw [HV.out.1]; exact none_obj _, set9_below _ _ _ _ _ _ _ _ _ HB2.out (Nat.le_refl _)⟩
  have n2 := kk
  clear kk
  by_cases kk : k = 3
  case pos =>
    have u1 : ((k : Int) == 1) = false := by simp; omega
    have u4 : ((k : Int) == 4) = false := by simp; omega
    have u2 : ((k : Int) == 2) = false := by simp; omega
    have u3 : ((k : Int) == 3) = true := by simp; omega
    have KK := lid kk
    clear kk
    clear n1 n4 n2
    replace HD : Hid (decR l = decRC s1) := lid (HD.out.trans (by rw [KK.out]; exact decRk_C s1))
    have CS := lid (rDigest_any (w.heap.size + 1) s1 w2 HR2.out L1.out)
    have L2 := lid (Nat.le_trans (rDig_len (s := s1)) L1.out)
    have hs2 := lid (Nat.le_trans (rDig_len (s := s1)) hs1.out)
    go_wp2_with (with_reducible refine swap_world HW.out ?_)
    obtain ⟨d, hd⟩ : ∃ r, (rDig s1).1 = r := ⟨_, rfl⟩
    obtain ⟨s2, hs⟩ : ∃ r, (rDig s1).2 = r := ⟨_, rfl⟩
    rw [hd, hs] at CS
    rw [hs] at L2 hs2
    (with_reducible refine (CS.out).mono ?_); rintro e w3 ⟨rfl, hR, hK⟩
    have HO3 := lid (HO2.out.kp hK (by omega))
    have HZ3 := lid (HZ2.out.kp hK (by omega))
    have HB3 := lid (hK.below HB2.out (by omega))
    have HR3 := lid hR
    have s3 : w1.heap.size + 1 ≤ w3.heap.size := by have := hK.size; omega
    clear hR hK HO2 HZ2 HB2 HR2
    clear CS
    have o3 := HO3.out.g3
    have p3 := HO3.out.fz 3
    have o4 := HO3.out.g4
    have p4 := HO3.out.fz 4
    have ol3 := HO3.out.lt
    obtain ⟨w4, hw4⟩ : ∃ x, ((w3.setCell ⟨w1.heap.size, 3, none⟩ (.int .u64 d.1.toNat)).setCell ⟨w1.heap.size, 4, none⟩ (.int .u64 d.2.toNat)) = x := ⟨_, rfl⟩
    have HO4 := lid (((HO3.out.s3 (.int .u64 d.1.toNat)).s4 (.int .u64 d.2.toNat)))
    rw [hw4] at HO4
    have HZ4 := lid (show Oc w.heap.size (.int .i64 0) (.string ⟨#[]⟩) (.slice none 0 0) (.int .u64 0) (.int .u64 0) (.slice none 0 0) (.string ⟨#[]⟩) (.int .i64 0) (.string ⟨#[]⟩) w4 by rw [← hw4]; exact (HZ3.out.other (by omega)).other (by omega))
    have HR4 := HR3.out
    replace HR4 := lid (show Rb 160 (w.heap.size + 1) _ w4 by rw [← hw4]; exact (HR4.other (by omega)).other (by omega))
    have HB4 : Hid (Below w.heap.size w w4) := lid (by rw [← hw4]; exact (HB3.out.setCell (p := ⟨w1.heap.size, 3, none⟩) (by show _ ≤ w1.heap.size; omega) _).setCell (p := ⟨w1.heap.size, 4, none⟩) (by show _ ≤ w1.heap.size; omega) _)
    have s4 : w1.heap.size + 1 ≤ w4.heap.size := by rw [← hw4]; simpa using s3
    have CP := lid (rListD_any (w.heap.size + 1) s2 w4 HR4.out L2.out)
    have L3 := lid (Nat.le_trans (rListD_len (s := s2)) L2.out)
    have hs3 := lid (Nat.le_trans (rListD_len (s := s2)) hs2.out)
    clear HO3 HZ3 HR3 HB3
    go_wp2_with fail
    clear hw4 o3 o4 p3 p4
    obtain ⟨pl, hp⟩ : ∃ r, (rList rDig 8 s2).1 = r := ⟨_, rfl⟩
    obtain ⟨s3', hs'⟩ : ∃ r, (rList rDig 8 s2).2 = r := ⟨_, rfl⟩
    rw [hp, hs'] at CP
    rw [hs'] at L3 hs3
    (with_reducible refine (CP.out).mono ?_); rintro e w5 ⟨v, rfl, hown, hR, hK⟩
    have HO5 := lid (HO4.out.kp hK (by omega))
    have HZ5 := lid (HZ4.out.kp hK (by omega))
    have HB5 := lid (hK.below HB4.out (by omega))
    have HR5 := lid hR
    have s5 : w1.heap.size + 1 ≤ w5.heap.size := by have := hK.size; omega
    obtain ⟨ap, cp, rfl⟩ := own_slice hown
    have HOW5 := lid (show w5.ownsRow (w1.heap.size + 1) 31 2 (.slice ap pl.length cp) pl.length (dcells pl) by exact ownsRow_base hown s4)
    clear hown
    clear hR hK HO4 HZ4 HB4 HR4
    clear CP
    have o5 := HO5.out.g5
    have p5 := HO5.out.fz 5
    have ol5 := HO5.out.lt
    obtain ⟨w6, hw6⟩ : ∃ x, (w5.setCell ⟨w1.heap.size, 5, none⟩ (.slice ap pl.length cp)) = x := ⟨_, rfl⟩
    have HO6 := lid ((HO5.out.s5 (.slice ap pl.length cp)))
    rw [hw6] at HO6
    have HZ6 := lid (show Oc w.heap.size (.int .i64 0) (.string ⟨#[]⟩) (.slice none 0 0) (.int .u64 0) (.int .u64 0) (.slice none 0 0) (.string ⟨#[]⟩) (.int .i64 0) (.string ⟨#[]⟩) w6 by rw [← hw6]; exact HZ5.out.other (by omega))
    have HR6 := HR5.out
    replace HR6 := lid (show Rb 160 (w.heap.size + 1) _ w6 by rw [← hw6]; exact HR6.other (by omega))
    have HB6 : Hid (Below w.heap.size w w6) := lid (by rw [← hw6]; exact HB5.out.setCell (p := ⟨w1.heap.size, 5, none⟩) (by show _ ≤ w1.heap.size; omega) _)
    have s6 : w1.heap.size + 1 ≤ w6.heap.size := by rw [← hw6]; simpa using s5
    have HOW6 := lid (show w6.ownsRow (w1.heap.size + 1) 31 2 (.slice ap pl.length cp) pl.length (dcells pl) by rw [← hw6]; exact own_block HOW5.out fun g hg => Below.heap_setCell _ _ _ _ (by have := (HOW5.out.lt g hg).1; simp; omega))
    have CP := lid (rString_any (w.heap.size + 1) s3' w6 HR6.out L3.out)
    have L6 := lid (Nat.le_trans (rStr_len (s := s3')) L3.out)
    have N6 := lid (Nat.le_trans (getX_le s3'.1).2.2 (show 65536 ≤ maxLen by decide))
    clear HO5 HZ5 HR5 HB5 HOW5
    go_wp2_with fail
    clear hw6 o5 p5
    obtain ⟨a, ha⟩ : ∃ r, (rStr s3').1 = r := ⟨_, rfl⟩
    obtain ⟨s6', hs6⟩ : ∃ r, (rStr s3').2 = r := ⟨_, rfl⟩
    rw [ha, hs6] at CP
    rw [hs6] at L6
    replace N6 : Hid (a.length ≤ maxLen) := by rw [← ha]; exact N6
    (with_reducible refine (CP.out).mono ?_); rintro e w7 ⟨rfl, hR, hK⟩
    have HO7 := lid (HO6.out.kp hK (by omega))
    have HZ7 := lid (HZ6.out.kp hK (by omega))
    have HB7 := lid (hK.below HB6.out (by omega))
    have HR7 := lid hR
    have s7 : w1.heap.size + 1 ≤ w7.heap.size := by have := hK.size; omega
    have HOW7 := lid (own_kp HOW6.out hK (by omega))
    clear hR hK HO6 HZ6 HB6 HR6
    clear CP
    have o6 := HO7.out.g6
    have p6 := HO7.out.fz 6
    have ol7 := HO7.out.lt
    obtain ⟨w8, hw8⟩ : ∃ x, (w7.setCell ⟨w1.heap.size, 6, none⟩ (.string (bstr a))) = x := ⟨_, rfl⟩
    have HO8 := lid ((HO7.out.s6 (.string (bstr a))))
    rw [hw8] at HO8
    have HZ8 := lid (show Oc w.heap.size (.int .i64 0) (.string ⟨#[]⟩) (.slice none 0 0) (.int .u64 0) (.int .u64 0) (.slice none 0 0) (.string ⟨#[]⟩) (.int .i64 0) (.string ⟨#[]⟩) w8 by rw [← hw8]; exact HZ7.out.other (by omega))
    have HR8 := HR7.out
    replace HR8 := lid (show Rb 160 (w.heap.size + 1) _ w8 by rw [← hw8]; exact HR8.other (by omega))
    have HB8 : Hid (Below w.heap.size w w8) := lid (by rw [← hw8]; exact HB7.out.setCell (p := ⟨w1.heap.size, 6, none⟩) (by show _ ≤ w1.heap.size; omega) _)
    have s8 : w1.heap.size + 1 ≤ w8.heap.size := by rw [← hw8]; simpa using s7
    have HOW8 := lid (show w8.ownsRow (w1.heap.size + 1) 31 2 (.slice ap pl.length cp) pl.length (dcells pl) by rw [← hw8]; exact own_block HOW7.out fun g hg => Below.heap_setCell _ _ _ _ (by have := (HOW7.out.lt g hg).1; simp; omega))
    have CP := lid (rNumber_any (w.heap.size + 1) s6' w8 HR8.out L6.out)
    have L8 := lid (Nat.le_trans (rNum_len (s := s6')) L6.out)

    clear HO7 HZ7 HR7 HB7 HOW7
    go_wp2_with fail
    clear hw8 o6 p6
    obtain ⟨tm, htm⟩ : ∃ r, (rNum s6').1 = r := ⟨_, rfl⟩
    obtain ⟨s8', hs8⟩ : ∃ r, (rNum s6').2 = r := ⟨_, rfl⟩
    rw [htm, hs8] at CP
    rw [hs8] at L8

    (with_reducible refine (CP.out).mono ?_); rintro e w9 ⟨rfl, hR, hK⟩
    have HO9 := lid (HO8.out.kp hK (by omega))
    have HZ9 := lid (HZ8.out.kp hK (by omega))
    have HB9 := lid (hK.below HB8.out (by omega))
    have HR9 := lid hR
    have s9 : w1.heap.size + 1 ≤ w9.heap.size := by have := hK.size; omega
    have HOW9 := lid (own_kp HOW8.out hK (by omega))
    clear hR hK HO8 HZ8 HB8 HR8
    clear CP
    have o7 := HO9.out.g7
    have p7 := HO9.out.fz 7
    have ol9 := HO9.out.lt
    obtain ⟨w10, hw10⟩ : ∃ x, (w9.setCell ⟨w1.heap.size, 7, none⟩ (.int .i64 tm)) = x := ⟨_, rfl⟩
    have HO10 := lid ((HO9.out.s7 (.int .i64 tm)))
    rw [hw10] at HO10
    have HZ10 := lid (show Oc w.heap.size (.int .i64 0) (.string ⟨#[]⟩) (.slice none 0 0) (.int .u64 0) (.int .u64 0) (.slice none 0 0) (.string ⟨#[]⟩) (.int .i64 0) (.string ⟨#[]⟩) w10 by rw [← hw10]; exact HZ9.out.other (by omega))
    have HR10 := HR9.out
    replace HR10 := lid (show Rb 160 (w.heap.size + 1) _ w10 by rw [← hw10]; exact HR10.other (by omega))
    have HB10 : Hid (Below w.heap.size w w10) := lid (by rw [← hw10]; exact HB9.out.setCell (p := ⟨w1.heap.size, 7, none⟩) (by show _ ≤ w1.heap.size; omega) _)
    have s10 : w1.heap.size + 1 ≤ w10.heap.size := by rw [← hw10]; simpa using s9
    have HOW10 := lid (show w10.ownsRow (w1.heap.size + 1) 31 2 (.slice ap pl.length cp) pl.length (dcells pl) by rw [← hw10]; exact own_block HOW9.out fun g hg => Below.heap_setCell _ _ _ _ (by have := (HOW9.out.lt g hg).1; simp; omega))
    have CP := lid (rString_any (w.heap.size + 1) s8' w10 HR10.out L8.out)
    have L10 := lid (Nat.le_trans (rStr_len (s := s8')) L8.out)
    have N10 := lid (Nat.le_trans (getX_le s8'.1).2.2 (show 65536 ≤ maxLen by decide))
    clear HO9 HZ9 HR9 HB9 HOW9
    go_wp2_with fail
    clear hw10 o7 p7
    obtain ⟨g, hg⟩ : ∃ r, (rStr s8').1 = r := ⟨_, rfl⟩
    obtain ⟨s10', hs10⟩ : ∃ r, (rStr s8').2 = r := ⟨_, rfl⟩
    rw [hg, hs10] at CP
    rw [hs10] at L10
    replace N10 : Hid (g.length ≤ maxLen) := by rw [← hg]; exact N10
    (with_reducible refine (CP.out).mono ?_); rintro e w11 ⟨rfl, hR, hK⟩
    have HO11 := lid (HO10.out.kp hK (by omega))
    have HZ11 := lid (HZ10.out.kp hK (by omega))
    have HB11 := lid (hK.below HB10.out (by omega))
    have HR11 := lid hR
    have s11 : w1.heap.size + 1 ≤ w11.heap.size := by have := hK.size; omega
    have HOW11 := lid (own_kp HOW10.out hK (by omega))
    clear hR hK HO10 HZ10 HB10 HR10
    clear CP
    have o8 := HO11.out.g8
    have p8 := HO11.out.fz 8
    have ol11 := HO11.out.lt
    obtain ⟨w12, hw12⟩ : ∃ x, (w11.setCell ⟨w1.heap.size, 8, none⟩ (.string (bstr g))) = x := ⟨_, rfl⟩
    have HO12 := lid ((HO11.out.s8 (.string (bstr g))))
    rw [hw12] at HO12
    have HZ12 := lid (show Oc w.heap.size (.int .i64 0) (.string ⟨#[]⟩) (.slice none 0 0) (.int .u64 0) (.int .u64 0) (.slice none 0 0) (.string ⟨#[]⟩) (.int .i64 0) (.string ⟨#[]⟩) w12 by rw [← hw12]; exact HZ11.out.other (by omega))
    have HR12 := HR11.out
    replace HR12 := lid (show Rb 160 (w.heap.size + 1) _ w12 by rw [← hw12]; exact HR12.other (by omega))
    have HB12 : Hid (Below w.heap.size w w12) := lid (by rw [← hw12]; exact HB11.out.setCell (p := ⟨w1.heap.size, 8, none⟩) (by show _ ≤ w1.heap.size; omega) _)
    have s12 : w1.heap.size + 1 ≤ w12.heap.size := by rw [← hw12]; simpa using s11
    have HOW12 := lid (show w12.ownsRow (w1.heap.size + 1) 31 2 (.slice ap pl.length cp) pl.length (dcells pl) by rw [← hw12]; exact own_block HOW11.out fun g hg => Below.heap_setCell _ _ _ _ (by have := (HOW11.out.lt g hg).1; simp; omega))
    replace HD : Hid (decR l = (obC d pl a tm g, s10')) := lid (by rw [HD.out]; unfold decRC; simp only [hd, hs, hp, hs', ha, hs6, htm, hs8, hg, hs10])
    clear hd hs hp hs' ha hs6 htm hs8 hg hs10
    have HP : ∃ (ae : Option Addr) (ne ce : Nat) (ap : Option Addr) (np cp : Nat), Oc w1.heap.size (.int .i64 (obC d pl a tm g).kind) (.string (obC d pl a tm g).data) (.slice ae ne ce) (.int .u64 (obC d pl a tm g).tree.1.toNat) (.int .u64 (obC d pl a tm g).tree.2.toNat) (.slice ap np cp) (.string (obC d pl a tm g).auth) (.int .i64 (obC d pl a tm g).time) (.string (obC d pl a tm g).msg) w12 ∧ ObO (w1.heap.size + 1) (obC d pl a tm g) ae ne ce ap np cp w12 := ⟨none, 0, 0, ap, pl.length, cp, (by have := HO12.out; rw [KK.out] at this; exact this), World.ownsRow_nil _ _ _ _, HOW12.out, rfl, rfl, (by intro e he; cases he), empty_60, N6.out, N10.out⟩
    obtain ⟨o, ho⟩ : ∃ o, obC d pl a tm g = o := ⟨_, rfl⟩
    rw [ho] at HP HD
    obtain ⟨ae, ne, ce, ap, np, cp, hO, hX⟩ := HP
    have HO := lid hO
    have HX := lid hX
    have HZ := HZ12
    have HR := HR12
    have HB := HB12
    obtain ⟨rest, bad⟩ := s10'
    clear ho hO hX HO12 HZ12 HR12 HB12 HOW11 HOW12 HO11 HZ11 HR11 HB11
    obtain ⟨W, rfl⟩ : ∃ W, W = w12 := ⟨_, rfl⟩
    have hOl := HO.out.lt
    have hbl := HR.out.lt
    have hzl := HZ.out.lt
    have r1 : W.cell? ⟨w.heap.size + 1, 1, none⟩ = some (.bool bad) := HR.out.c1
    have r0 : W.cell? ⟨w.heap.size + 1, 0, none⟩ = some (.string (bstr rest)) := HR.out.c0
    have y0 := HZ.out.g0
    have q0 := HZ.out.fz 0
    have y1 := HZ.out.g1
    have q1 := HZ.out.fz 1
    have y2 := HZ.out.g2
    have q2 := HZ.out.fz 2
    have y3 := HZ.out.g3
    have q3 := HZ.out.fz 3
    have y4 := HZ.out.g4
    have q4 := HZ.out.fz 4
    have y5 := HZ.out.g5
    have q5 := HZ.out.fz 5
    have y6 := HZ.out.g6
    have q6 := HZ.out.fz 6
    have y7 := HZ.out.g7
    have q7 := HZ.out.fz 7
    have y8 := HZ.out.g8
    have q8 := HZ.out.fz 8
    have x0 := HO.out.g0
    have x1 := HO.out.g1
    have x2 := HO.out.g2
    have x3 := HO.out.g3
    have x4 := HO.out.g4
    have x5 := HO.out.g5
    have x6 := HO.out.g6
    have x7 := HO.out.g7
    have x8 := HO.out.g8
    have NO := lid (dec_no (l := l))
    have YES := lid (dec_yes (l := l))
    cases bad with
    | true =>
      have HV := lid (NO.out (by unfold okR; rw [HD.out]; simp))
      clear x0 x1 x2 x3 x4 x5 x6 x7 x8
      go_wp2_with fail
      have X := set9_oc (d0 := (.int .i64 0)) (d1 := (.string ⟨#[]⟩)) (d2 := (.slice none 0 0)) (d3 := (.int .u64 0)) (d4 := (.int .u64 0)) (d5 := (.slice none 0 0)) (d6 := (.string ⟨#[]⟩)) (d7 := (.int .i64 0)) (d8 := (.string ⟨#[]⟩)) HZ.out
      have z0 := X.g0
      have z1 := X.g1
      have z2 := X.g2
      have z3 := X.g3
      have z4 := X.g4
      have z5 := X.g5
      have z6 := X.g6
      have z7 := X.g7
      have z8 := X.g8
      unfold set9 at z0 z1 z2 z3 z4 z5 z6 z7 z8
      refine bodyPost_ret (v := .tuple #[.agg #[(.int .i64 0), (.string ⟨#[]⟩), (.slice none 0 0), (.int .u64 0), (.int .u64 0), (.slice none 0 0), (.string ⟨#[]⟩), (.int .i64 0), (.string ⟨#[]⟩)], .int .i64 13]) (by simp [results, Tryz.results86, go_sem, z0, z1, z2, z3, z4, z5, z6, z7, z8]) rfl ?_
      exact ⟨none, none, 0, 0, 0, 0, by rw [HV.out.1, HV.out.2]; rfl, Nat.le_refl _, by rw [HV.out.1]; exact none_obj _, set9_below _ _ _ _ _ _ _ _ _ HB.out (Nat.le_refl _)⟩
    | false =>
    have HT := lid (bstr_nil rest)
    cases hr : decide (rest = []) with
    | false =>
      rw [hr] at HT
      have t0 := HT.out
      have HV := lid (NO.out (by unfold okR; rw [HD.out]; simp only [Prod.mk.injEq]; simp only [decide_eq_false_iff_not] at hr; simp [hr]))
      clear x0 x1 x2 x3 x4 x5 x6 x7 x8 hr
      go_wp2_with fail
      have X := set9_oc (d0 := (.int .i64 0)) (d1 := (.string ⟨#[]⟩)) (d2 := (.slice none 0 0)) (d3 := (.int .u64 0)) (d4 := (.int .u64 0)) (d5 := (.slice none 0 0)) (d6 := (.string ⟨#[]⟩)) (d7 := (.int .i64 0)) (d8 := (.string ⟨#[]⟩)) HZ.out
      have z0 := X.g0
      have z1 := X.g1
      have z2 := X.g2
      have z3 := X.g3
      have z4 := X.g4
      have z5 := X.g5
      have z6 := X.g6
      have z7 := X.g7
      have z8 := X.g8
      unfold set9 at z0 z1 z2 z3 z4 z5 z6 z7 z8
      refine bodyPost_ret (v := .tuple #[.agg #[(.int .i64 0), (.string ⟨#[]⟩), (.slice none 0 0), (.int .u64 0), (.int .u64 0), (.slice none 0 0), (.string ⟨#[]⟩), (.int .i64 0), (.string ⟨#[]⟩)], .int .i64 13]) (by simp [results, Tryz.results86, go_sem, z0, z1, z2, z3, z4, z5, z6, z7, z8]) rfl ?_
      exact ⟨none, none, 0, 0, 0, 0, by rw [HV.out.1, HV.out.2]; rfl, Nat.le_refl _, by rw [HV.out.1]; exact none_obj _, set9_below _ _ _ _ _ _ _ _ _ HB.out (Nat.le_refl _)⟩
    | true =>
    rw [hr] at HT
    have t0 := HT.out
    have HNIL := lid (of_decide_eq_true hr)
    obtain ⟨hA, hcp⟩ := HX.out.obj
    have CC := lid (objCheck_any o ae ap ne ce np cp W hA hcp HX.out.2.2.2.2.2.1)
    clear hA hcp hr y0 q0 y1 q1 y2 q2 y3 q3 y4 q4 y5 q5 y6 q6 y7 q7 y8 q8
    go_wp2_with fail
    clear x0 x1 x2 x3 x4 x5 x6 x7 x8 r0 r1 t0
    (with_reducible refine (CC.out).mono ?_); rintro e V ⟨rfl, hbV⟩
    have HO2 := lid (HO.out.below hbV)
    have HZ2 := lid (HZ.out.below hbV)
    have HX2 : Hid (ObO (w1.heap.size + 1) o ae ne ce ap np cp V) := lid (HX.out.heap fun k _ hk => hbV.block k hk)
    have HB2 : Hid (Below w.heap.size w V) := lid (HB.out.trans (hbV.mono HB.out.size))
    have y0 := HZ2.out.g0
    have q0 := HZ2.out.fz 0
    have y1 := HZ2.out.g1
    have q1 := HZ2.out.fz 1
    have y2 := HZ2.out.g2
    have q2 := HZ2.out.fz 2
    have y3 := HZ2.out.g3
    have q3 := HZ2.out.fz 3
    have y4 := HZ2.out.g4
    have q4 := HZ2.out.fz 4
    have y5 := HZ2.out.g5
    have q5 := HZ2.out.fz 5
    have y6 := HZ2.out.g6
    have q6 := HZ2.out.fz 6
    have y7 := HZ2.out.g7
    have q7 := HZ2.out.fz 7
    have y8 := HZ2.out.g8
    have q8 := HZ2.out.fz 8
    have x0 := HO2.out.g0
    have x1 := HO2.out.g1
    have x2 := HO2.out.g2
    have x3 := HO2.out.g3
    have x4 := HO2.out.g4
    have x5 := HO2.out.g5
    have x6 := HO2.out.g6
    have x7 := HO2.out.g7
    have x8 := HO2.out.g8
    have hOl2 := HO2.out.lt
    have hzl2 := HZ2.out.lt
    clear CC HO HZ HX HB
    by_cases hv : checkO o = 0
    · have HV := lid (YES.out (by unfold okR; rw [HD.out, HNIL.out]; simp [hv]))
      rw [hv]
      clear hv
      go_wp2_with fail
      have X := set9_oc (d0 := (.int .i64 o.kind)) (d1 := (.string o.data)) (d2 := (.slice ae ne ce)) (d3 := (.int .u64 o.tree.1.toNat)) (d4 := (.int .u64 o.tree.2.toNat)) (d5 := (.slice ap np cp)) (d6 := (.string o.auth)) (d7 := (.int .i64 o.time)) (d8 := (.string o.msg)) HZ2.out
      have z0 := X.g0
      have z1 := X.g1
      have z2 := X.g2
      have z3 := X.g3
      have z4 := X.g4
      have z5 := X.g5
      have z6 := X.g6
      have z7 := X.g7
      have z8 := X.g8
      unfold set9 at z0 z1 z2 z3 z4 z5 z6 z7 z8
      refine bodyPost_ret (v := .tuple #[.agg #[(.int .i64 o.kind), (.string o.data), (.slice ae ne ce), (.int .u64 o.tree.1.toNat), (.int .u64 o.tree.2.toNat), (.slice ap np cp), (.string o.auth), (.int .i64 o.time), (.string o.msg)], .int .i64 0]) (by simp [results, Tryz.results86, go_sem, z0, z1, z2, z3, z4, z5, z6, z7, z8]) rfl ?_
      refine ⟨ae, ap, ne, ce, np, cp, by rw [HV.out.1, HV.out.2, HD.out], (HX2.out.obj).2, ?_, set9_below _ _ _ _ _ _ _ _ _ HB2.out (Nat.le_refl _)⟩
      rw [HV.out.1, HD.out]
      exact (ObO.obj (HX2.out.heap (w' := set9 V w.heap.size (.int .i64 o.kind) (.string o.data) (.slice ae ne ce) (.int .u64 o.tree.1.toNat) (.int .u64 o.tree.2.toNat) (.slice ap np cp) (.string o.auth) (.int .i64 o.time) (.string o.msg)) fun k hk _ => set9_heap _ _ _ _ _ _ _ _ _ _ _ (by have := hbase.out; omega))).1
    · have HV := lid (NO.out (by unfold okR; rw [HD.out]; simp [hv]))
      have uK : (checkO o != 0) = true := by simpa using hv
      clear hv x0 x1 x2 x3 x4 x5 x6 x7 x8
      go_wp2_with fail
      have X := set9_oc (d0 := (.int .i64 0)) (d1 := (.string ⟨#[]⟩)) (d2 := (.slice none 0 0)) (d3 := (.int .u64 0)) (d4 := (.int .u64 0)) (d5 := (.slice none 0 0)) (d6 := (.string ⟨#[]⟩)) (d7 := (.int .i64 0)) (d8 := (.string ⟨#[]⟩)) HZ2.out
      have z0 := X.g0
      have z1 := X.g1
      have z2 := X.g2
      have z3 := X.g3
      have z4 := X.g4
      have z5 := X.g5
      have z6 := X.g6
      have z7 := X.g7
      have z8 := X.g8
      unfold set9 at z0 z1 z2 z3 z4 z5 z6 z7 z8
      refine bodyPost_ret (v := .tuple #[.agg #[(.int .i64 0), (.string ⟨#[]⟩), (.slice none 0 0), (.int .u64 0), (.int .u64 0), (.slice none 0 0), (.string ⟨#[]⟩), (.int .i64 0), (.string ⟨#[]⟩)], .int .i64 13]) (by simp [results, Tryz.results86, go_sem, z0, z1, z2, z3, z4, z5, z6, z7, z8]) rfl ?_
      exact ⟨none, none, 0, 0, 0, 0, by rw [HV.out.1, HV.out.2]; rfl, Nat.le_refl _, by rw [HV.out.1]; exact none_obj _, set9_below _ _ _ _ _ _ _ _ _ HB2.out (Nat.le_refl _)⟩
  have n3 := kk
  clear kk
  have u1 : ((k : Int) == 1) = false := by simp; omega
  have u4 : ((k : Int) == 4) = false := by simp; omega
  have u2 : ((k : Int) == 2) = false := by simp; omega
  have u3 : ((k : Int) == 3) = false := by simp; omega
  replace HD : Hid (decR l = (ob0 k, s1)) := lid (HD.out.trans (decRk_0 (by omega) n2 n3 s1))
  clear n1 n2 n3 n4
  have HKO : Hid ((k : Int) = (ob0 k).kind) := lid rfl
  have HP : ∃ (ae : Option Addr) (ne ce : Nat) (ap : Option Addr) (np cp : Nat), Oc w1.heap.size (.int .i64 (ob0 k).kind) (.string (ob0 k).data) (.slice ae ne ce) (.int .u64 (ob0 k).tree.1.toNat) (.int .u64 (ob0 k).tree.2.toNat) (.slice ap np cp) (.string (ob0 k).auth) (.int .i64 (ob0 k).time) (.string (ob0 k).msg) w2 ∧ ObO (w1.heap.size + 1) (ob0 k) ae ne ce ap np cp w2 := ⟨none, 0, 0, none, 0, 0, HO2.out, World.ownsRow_nil _ _ _ _, World.ownsRow_nil _ _ _ _, rfl, rfl, (by intro e he; cases he), empty_60, empty_max, empty_max⟩
  obtain ⟨o, ho⟩ : ∃ o, ob0 k = o := ⟨_, rfl⟩
  rw [ho] at HP HD HKO
  obtain ⟨ae, ne, ce, ap, np, cp, hO, hX⟩ := HP
  have HO := lid hO
  have HX := lid hX
  have HZ := HZ2
  have HR := HR2
  have HB := HB2
  obtain ⟨rest, bad⟩ := s1
  clear ho hO hX HO2 HZ2 HR2 HB2 
  obtain ⟨W, rfl⟩ : ∃ W, W = w2 := ⟨_, rfl⟩
  have hOl := HO.out.lt
  have hbl := HR.out.lt
  have hzl := HZ.out.lt
  have r1 : W.cell? ⟨w.heap.size + 1, 1, none⟩ = some (.bool bad) := HR.out.c1
  have r0 : W.cell? ⟨w.heap.size + 1, 0, none⟩ = some (.string (bstr rest)) := HR.out.c0
  have y0 := HZ.out.g0
  have q0 := HZ.out.fz 0
  have y1 := HZ.out.g1
  have q1 := HZ.out.fz 1
  have y2 := HZ.out.g2
  have q2 := HZ.out.fz 2
  have y3 := HZ.out.g3
  have q3 := HZ.out.fz 3
  have y4 := HZ.out.g4
  have q4 := HZ.out.fz 4
  have y5 := HZ.out.g5
  have q5 := HZ.out.fz 5
  have y6 := HZ.out.g6
  have q6 := HZ.out.fz 6
  have y7 := HZ.out.g7
  have q7 := HZ.out.fz 7
  have y8 := HZ.out.g8
  have q8 := HZ.out.fz 8
  have x0 := HO.out.g0
  have x1 := HO.out.g1
  have x2 := HO.out.g2
  have x3 := HO.out.g3
  have x4 := HO.out.g4
  have x5 := HO.out.g5
  have x6 := HO.out.g6
  have x7 := HO.out.g7
  have x8 := HO.out.g8
  have NO := lid (dec_no (l := l))
  have YES := lid (dec_yes (l := l))
  cases bad with
  | true =>
    have HV := lid (NO.out (by unfold okR; rw [HD.out]; simp))
    clear x0 x1 x2 x3 x4 x5 x6 x7 x8
    go_wp2_with (with_reducible refine swap_world HW.out ?_)
    have X := set9_oc (d0 := (.int .i64 0)) (d1 := (.string ⟨#[]⟩)) (d2 := (.slice none 0 0)) (d3 := (.int .u64 0)) (d4 := (.int .u64 0)) (d5 := (.slice none 0 0)) (d6 := (.string ⟨#[]⟩)) (d7 := (.int .i64 0)) (d8 := (.string ⟨#[]⟩)) HZ.out
    have z0 := X.g0
    have z1 := X.g1
    have z2 := X.g2
    have z3 := X.g3
    have z4 := X.g4
    have z5 := X.g5
    have z6 := X.g6
    have z7 := X.g7
    have z8 := X.g8
    unfold set9 at z0 z1 z2 z3 z4 z5 z6 z7 z8
    refine bodyPost_ret (v := .tuple #[.agg #[(.int .i64 0), (.string ⟨#[]⟩), (.slice none 0 0), (.int .u64 0), (.int .u64 0), (.slice none 0 0), (.string ⟨#[]⟩), (.int .i64 0), (.string ⟨#[]⟩)], .int .i64 13]) (by simp [results, Tryz.results86, go_sem, z0, z1, z2, z3, z4, z5, z6, z7, z8]) rfl ?_
    exact ⟨none, none, 0, 0, 0, 0, by rw [HV.out.1, HV.out.2]; rfl, Nat.le_refl _, by rw [HV.out.1]; exact none_obj _, set9_below _ _ _ _ _ _ _ _ _ HB.out (Nat.le_refl _)⟩
  | false =>
  have HT := lid (bstr_nil rest)
  cases hr : decide (rest = []) with
  | false =>
    rw [hr] at HT
    have t0 := HT.out
    have HV := lid (NO.out (by unfold okR; rw [HD.out]; simp only [Prod.mk.injEq]; simp only [decide_eq_false_iff_not] at hr; simp [hr]))
    clear x0 x1 x2 x3 x4 x5 x6 x7 x8 hr
    go_wp2_with (with_reducible refine swap_world HW.out ?_)
    have X := set9_oc (d0 := (.int .i64 0)) (d1 := (.string ⟨#[]⟩)) (d2 := (.slice none 0 0)) (d3 := (.int .u64 0)) (d4 := (.int .u64 0)) (d5 := (.slice none 0 0)) (d6 := (.string ⟨#[]⟩)) (d7 := (.int .i64 0)) (d8 := (.string ⟨#[]⟩)) HZ.out
    have z0 := X.g0
    have z1 := X.g1
    have z2 := X.g2
    have z3 := X.g3
    have z4 := X.g4
    have z5 := X.g5
    have z6 := X.g6
    have z7 := X.g7
    have z8 := X.g8
    unfold set9 at z0 z1 z2 z3 z4 z5 z6 z7 z8
    refine bodyPost_ret (v := .tuple #[.agg #[(.int .i64 0), (.string ⟨#[]⟩), (.slice none 0 0), (.int .u64 0), (.int .u64 0), (.slice none 0 0), (.string ⟨#[]⟩), (.int .i64 0), (.string ⟨#[]⟩)], .int .i64 13]) (by simp [results, Tryz.results86, go_sem, z0, z1, z2, z3, z4, z5, z6, z7, z8]) rfl ?_
    exact ⟨none, none, 0, 0, 0, 0, by rw [HV.out.1, HV.out.2]; rfl, Nat.le_refl _, by rw [HV.out.1]; exact none_obj _, set9_below _ _ _ _ _ _ _ _ _ HB.out (Nat.le_refl _)⟩
  | true =>
  rw [hr] at HT
  have t0 := HT.out
  have HNIL := lid (of_decide_eq_true hr)
  obtain ⟨hA, hcp⟩ := HX.out.obj
  have CC := lid (objCheck_any o ae ap ne ce np cp W hA hcp HX.out.2.2.2.2.2.1)
  clear hA hcp hr y0 q0 y1 q1 y2 q2 y3 q3 y4 q4 y5 q5 y6 q6 y7 q7 y8 q8
  go_wp2_with (with_reducible refine swap_world HW.out ?_)
  clear x0 x1 x2 x3 x4 x5 x6 x7 x8 r0 r1 t0
  rw [HKO.out]
  (with_reducible refine (CC.out).mono ?_); rintro e V ⟨rfl, hbV⟩
  have HO2 := lid (HO.out.below hbV)
  have HZ2 := lid (HZ.out.below hbV)
  have HX2 : Hid (ObO (w1.heap.size + 1) o ae ne ce ap np cp V) := lid (HX.out.heap fun k _ hk => hbV.block k hk)
  have HB2 : Hid (Below w.heap.size w V) := lid (HB.out.trans (hbV.mono HB.out.size))
  have y0 := HZ2.out.g0
  have q0 := HZ2.out.fz 0
  have y1 := HZ2.out.g1
  have q1 := HZ2.out.fz 1
  have y2 := HZ2.out.g2
  have q2 := HZ2.out.fz 2
  have y3 := HZ2.out.g3
  have q3 := HZ2.out.fz 3
  have y4 := HZ2.out.g4
  have q4 := HZ2.out.fz 4
  have y5 := HZ2.out.g5
  have q5 := HZ2.out.fz 5
  have y6 := HZ2.out.g6
  have q6 := HZ2.out.fz 6
  have y7 := HZ2.out.g7
  have q7 := HZ2.out.fz 7
  have y8 := HZ2.out.g8
  have q8 := HZ2.out.fz 8
  have x0 := HO2.out.g0
  have x1 := HO2.out.g1
  have x2 := HO2.out.g2
  have x3 := HO2.out.g3
  have x4 := HO2.out.g4
  have x5 := HO2.out.g5
  have x6 := HO2.out.g6
  have x7 := HO2.out.g7
  have x8 := HO2.out.g8
  have hOl2 := HO2.out.lt
  have hzl2 := HZ2.out.lt
  clear CC HO HZ HX HB
  by_cases hv : checkO o = 0
  · have HV := lid (YES.out (by unfold okR; rw [HD.out, HNIL.out]; simp [hv]))
    rw [hv]
    clear hv
    go_wp2_with fail
    have X := set9_oc (d0 := (.int .i64 o.kind)) (d1 := (.string o.data)) (d2 := (.slice ae ne ce)) (d3 := (.int .u64 o.tree.1.toNat)) (d4 := (.int .u64 o.tree.2.toNat)) (d5 := (.slice ap np cp)) (d6 := (.string o.auth)) (d7 := (.int .i64 o.time)) (d8 := (.string o.msg)) HZ2.out
    have z0 := X.g0
    have z1 := X.g1
    have z2 := X.g2
    have z3 := X.g3
    have z4 := X.g4
    have z5 := X.g5
    have z6 := X.g6
    have z7 := X.g7
    have z8 := X.g8
    unfold set9 at z0 z1 z2 z3 z4 z5 z6 z7 z8
    refine bodyPost_ret (v := .tuple #[.agg #[(.int .i64 o.kind), (.string o.data), (.slice ae ne ce), (.int .u64 o.tree.1.toNat), (.int .u64 o.tree.2.toNat), (.slice ap np cp), (.string o.auth), (.int .i64 o.time), (.string o.msg)], .int .i64 0]) (by simp [results, Tryz.results86, go_sem, z0, z1, z2, z3, z4, z5, z6, z7, z8]) rfl ?_
    refine ⟨ae, ap, ne, ce, np, cp, by rw [HV.out.1, HV.out.2, HD.out], (HX2.out.obj).2, ?_, set9_below _ _ _ _ _ _ _ _ _ HB2.out (Nat.le_refl _)⟩
    rw [HV.out.1, HD.out]
    exact (ObO.obj (HX2.out.heap (w' := set9 V w.heap.size (.int .i64 o.kind) (.string o.data) (.slice ae ne ce) (.int .u64 o.tree.1.toNat) (.int .u64 o.tree.2.toNat) (.slice ap np cp) (.string o.auth) (.int .i64 o.time) (.string o.msg)) fun k hk _ => set9_heap _ _ _ _ _ _ _ _ _ _ _ (by have := hbase.out; omega))).1
  · have HV := lid (NO.out (by unfold okR; rw [HD.out]; simp [hv]))
    have uK : (checkO o != 0) = true := by simpa using hv
    clear hv x0 x1 x2 x3 x4 x5 x6 x7 x8
    go_wp2_with fail
    have X := set9_oc (d0 := (.int .i64 0)) (d1 := (.string ⟨#[]⟩)) (d2 := (.slice none 0 0)) (d3 := (.int .u64 0)) (d4 := (.int .u64 0)) (d5 := (.slice none 0 0)) (d6 := (.string ⟨#[]⟩)) (d7 := (.int .i64 0)) (d8 := (.string ⟨#[]⟩)) HZ2.out
    have z0 := X.g0
    have z1 := X.g1
    have z2 := X.g2
    have z3 := X.g3
    have z4 := X.g4
    have z5 := X.g5
    have z6 := X.g6
    have z7 := X.g7
    have z8 := X.g8
    unfold set9 at z0 z1 z2 z3 z4 z5 z6 z7 z8
    refine bodyPost_ret (v := .tuple #[.agg #[(.int .i64 0), (.string ⟨#[]⟩), (.slice none 0 0), (.int .u64 0), (.int .u64 0), (.slice none 0 0), (.string ⟨#[]⟩), (.int .i64 0), (.string ⟨#[]⟩)], .int .i64 13]) (by simp [results, Tryz.results86, go_sem, z0, z1, z2, z3, z4, z5, z6, z7, z8]) rfl ?_
    exact ⟨none, none, 0, 0, 0, 0, by rw [HV.out.1, HV.out.2]; rfl, Nat.le_refl _, by rw [HV.out.1]; exact none_obj _, set9_below _ _ _ _ _ _ _ _ _ HB2.out (Nat.le_refl _)⟩

end Go.Proofs.YtphjillihapbfaaGreatDoor
