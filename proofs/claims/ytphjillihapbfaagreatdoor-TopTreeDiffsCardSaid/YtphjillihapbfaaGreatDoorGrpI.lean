/-
  ObjTop RdNum DecSpec DecPlain DecCanon.
-/
import Derived.Test.YtphjillihapbfaaGreatDoorObjEncode
import Derived.Test.YtphjillihapbfaaGreatDoorGrpA
import Derived.Test.YtphjillihapbfaaGreatDoorGrpE
namespace Go.Proofs.YtphjillihapbfaaGreatDoor
open Go.RowKit

theorem two_set {w : World} {b : Nat} {x y : Value} (u v : Value) (h0 : w.cell? ⟨b, 0, none⟩ = some x) (h1 : w.cell? ⟨b, 1, none⟩ = some y) :
    ((w.setCell ⟨b, 0, none⟩ u).setCell ⟨b, 1, none⟩ v).cell? ⟨b, 0, none⟩ = some u ∧ ((w.setCell ⟨b, 0, none⟩ u).setCell ⟨b, 1, none⟩ v).cell? ⟨b, 1, none⟩ = some v := by
  constructor <;> simp [h0, h1, World.cell?_setCell_same, World.cell?_setCell_other]
def nameD (o : Ob) : Dg := if checkO o = 0 then ofU (encL o) else (0, 0)
set_option maxRecDepth 100000 in
set_option maxHeartbeats 8000000 in
theorem objCheck_any (o : Ob) (ae ap : Option Addr) (ne ce np cp : Nat) (w : World) (h : ObjA w ae ne ap np o) (hc : np ≤ cp) (hd : o.data.size ≤ 60000) :
    Calls Tryz.prog 23 #[.agg (ocells o ae ne ce ap np cp)] w fun e w' => e = .returned (.int .i64 (checkO o)) ∧ Below w.heap.size w w' := by
  have hb0 := ba w (Obj.cells (ocells o ae ne ce ap np cp) 72)
  have HO0 := OBox.new w o ae ne ce ap np cp 72
  obtain ⟨W, hW⟩ : ∃ W, w.alloc (Obj.cells (ocells o ae ne ce ap np cp) 72) = W := ⟨_, rfl⟩
  rw [hW] at hb0 HO0
  have HA := lid (h.below hb0)
  have HW := lid hW
  have HEN := lid HW.out
  have HO := lid HO0
  have CE := lid (fun w (h : ObjA w ae ne ap np o) => objEncode_any o ae ap ne ce np cp w h hc hd)
  clear hW h HO0 hd
  go_enter Tryz.func23, Tryz.ntmps23
  go_wp2_with fail
  rw [HW.out]
  clear HW HEN
  (with_reducible refine (CE.out _ HA.out).mono ?_); rintro e w1 ⟨rfl, hb1⟩
  go_wp2_with fail
  go_ret
  exact ⟨rfl, hb0.trans (hb1.mono hb0.size)⟩
end Go.Proofs.YtphjillihapbfaaGreatDoor

namespace Go.Proofs.YtphjillihapbfaaGreatDoor
open Go.RowKit

/-- What is left to read, and whether something is wrong. -/
abbrev Rd := List UInt8 × Bool
def rNum (s : Rd) : Nat × Rd := ((getI s.1).1, (s.1.drop (getI s.1).2.1, s.2 || !decide ((getI s.1).2.2 = 0)))
def rStr (s : Rd) : List UInt8 × Rd := ((getX s.1).1, (s.1.drop (getX s.1).2.1, s.2 || !decide ((getX s.1).2.2 = 0)))
def qNum (s : Rd) : Nat × Rd := if s.2 = true ∨ (getI s.1).2.2 ≠ 0 then (0, (s.1, true)) else ((getI s.1).1, (s.1.drop (getI s.1).2.1, false))
def qStr (s : Rd) : List UInt8 × Rd := if s.2 = true ∨ (getX s.1).2.2 ≠ 0 then ([], (s.1, true)) else ((getX s.1).1, (s.1.drop (getX s.1).2.1, false))
abbrev rcell (s : Rd) : Array Value := #[.string (bstr s.1), .bool s.2]
/-- A reader in box b. -/
def Rb (t : TypeId) (b : Nat) (s : Rd) (w : World) : Prop := w.heap[b]? = some (.cells (rcell s) t (0, 0))
/-- All blocks but b stay. -/
def Kp (b : Nat) (w w' : World) : Prop := Below b w w' ∧ ∀ k, k < w.heap.size → k ≠ b → w'.heap[k]? = w.heap[k]?
theorem Kp.refl (b : Nat) (w : World) : Kp b w w := ⟨Below.refl _ _, fun _ _ _ => rfl⟩
theorem Kp.size {b : Nat} {w w' : World} (h : Kp b w w') : w.heap.size ≤ w'.heap.size := h.1.size
theorem Kp.trans {b : Nat} {w w1 w2 : World} (h : Kp b w w1) (k : Kp b w1 w2) : Kp b w w2 := ⟨h.1.trans k.1, fun j hj hb => (k.2 j (Nat.lt_of_lt_of_le hj h.size) hb).trans (h.2 j hj hb)⟩
theorem Kp.setCell {b : Nat} {w w1 : World} (h : Kp b w w1) (o : Nat) (u : Value) : Kp b w (w1.setCell ⟨b, o, none⟩ u) := ⟨h.1.setCell (p := ⟨b, o, none⟩) (Nat.le_refl _) _, fun j hj hb => (Below.heap_setCell _ _ _ _ hb).trans (h.2 j hj hb)⟩
theorem Kp.of_below {b : Nat} {w w' : World} (hb : b ≤ w.heap.size) (h : Below w.heap.size w w') : Kp b w w' := ⟨h.mono hb, fun k hk _ => h.block k hk⟩
theorem Kp.below {b B : Nat} {w0 w w' : World} (h : Kp b w w') (k : Below B w0 w) (hb : B ≤ b) : Below B w0 w' := k.trans (h.1.mono hb)
theorem Kp.cell {b : Nat} {w w' : World} (h : Kp b w w') {k : Nat} (hk : k < w.heap.size) (hb : k ≠ b) (o : Nat) : w'.cell? ⟨k, o, none⟩ = w.cell? ⟨k, o, none⟩ := World.cell?_of_block (w := w) (a := ⟨k, o, none⟩) (h.2 k hk hb)
theorem Rb.lt {t : TypeId} {b : Nat} {s : Rd} {w : World} (h : Rb t b s w) : b < w.heap.size := (Array.getElem?_eq_some_iff.1 h).1
theorem Rb.c0 {t : TypeId} {b : Nat} {s : Rd} {w : World} (h : Rb t b s w) : w.cell? ⟨b, 0, none⟩ = some (.string (bstr s.1)) := by rw [Lib.cell_of_heap h]; rfl
theorem Rb.c1 {t : TypeId} {b : Nat} {s : Rd} {w : World} (h : Rb t b s w) : w.cell? ⟨b, 1, none⟩ = some (.bool s.2) := by rw [Lib.cell_of_heap h]; rfl
theorem Rb.fz {t : TypeId} {b : Nat} {s : Rd} {w : World} (h : Rb t b s w) (o : Nat) : w.frozen? ⟨b, o, none⟩ = false := Lib.frozen_of_heap h o
theorem Rb.set0 {t : TypeId} {b : Nat} {s : Rd} {w : World} (h : Rb t b s w) (l : List UInt8) : Rb t b (l, s.2) (w.setCell ⟨b, 0, none⟩ (.string (bstr l))) := heap_setCell_same w b 0 _ _ _ h
theorem Rb.set1 {t : TypeId} {b : Nat} {s : Rd} {w : World} (h : Rb t b s w) (v : Bool) : Rb t b (s.1, v) (w.setCell ⟨b, 1, none⟩ (.bool v)) := heap_setCell_same w b 1 _ _ _ h
theorem Rb.below {t : TypeId} {b : Nat} {s : Rd} {w w' : World} (h : Rb t b s w) (hb : Below w.heap.size w w') : Rb t b s w' := (hb.block b h.lt).trans h
theorem bstr_drop (l : List UInt8) (k : Nat) : bstr (l.drop k) = (bstr l).extract k l.length := by
  have := bstr_extract (bstr l) k l.length
  rw [← this, bstr_list, List.take_of_length_le (by rw [List.length_drop]; exact Nat.le_refl _)]

set_option maxRecDepth 100000 in
set_option maxHeartbeats 4000000 in
theorem rNumber_any (b : Nat) (s : Rd) (w : World) (h : Rb 160 b s w) (hl : s.1.length ≤ maxLen) :
    Calls Tryz.prog 111 #[.pointer (some ⟨b, 0, none⟩)] w fun e w' => e = .returned (.int .i64 (rNum s).1) ∧ Rb 160 b (rNum s).2 w' ∧ Kp b w w' := by
  obtain ⟨l, bad⟩ := s
  have HI := lid (getI_le l)
  have HB := lid (bstr_drop l)
  have hS : (bstr l).size = l.length := rfl
  have HG := lid (GetInt_any (bstr l) w hl)
  have hl' : l.length ≤ 9223372036854775807 := hl
  have hlt := h.lt
  have c0 := h.c0
  have c1 := h.c1
  have f1 := h.fz 1
  have H := lid h
  have HV : Hid (rNum (l, bad) = ((getI l).1, (l.drop (getI l).2.1, bad || !decide ((getI l).2.2 = 0)))) := lid rfl
  rw [bstr_list] at HG
  clear h hl
  go_enter Tryz.func111, Tryz.ntmps111
  go_wp2_with fail
  (with_reducible refine (HG.out).mono ?_); rintro e w1 ⟨rfl, rfl⟩
  clear HG
  obtain ⟨r, hr⟩ : ∃ r, getI l = r := ⟨_, rfl⟩
  rw [hr] at HI HV ⊢
  obtain ⟨n, k, e⟩ := r
  have hk := HI.out.1
  simp only at HV hk
  clear hr HI
  have hsl : (bstr l).extract k (bstr l).size = bstr (l.drop k) := (HB.out k).symm
  cases bad with
  | true =>
    clear hS
    obtain ⟨w2, hw2⟩ : ∃ w2, w1.setCell ⟨b, 1, none⟩ (.bool true) = w2 := ⟨_, rfl⟩
    have H2 : Rb 160 b (l, true) w2 := by rw [← hw2]; exact H.out.set1 true
    have d0 := H2.c0
    have g0 := H2.fz 0
    have h2lt := H2.lt
    have K2 : Hid (Kp b w1 w2) := lid (by rw [← hw2]; exact (Kp.refl _ _).setCell _ _)
    have HH2 := lid H2
    clear H2
    go_wp2_with fail
    go_ret
    refine ⟨ret_i64 (by rw [HV.out]), ?_, K2.out.setCell 0 _⟩
    rw [HV.out, ← HB.out]
    exact HH2.out.set0 _
  | false =>
    by_cases h0 : e = 0
    · subst h0
      clear hS
      obtain ⟨w2, hw2⟩ : ∃ w2, w1.setCell ⟨b, 1, none⟩ (.bool false) = w2 := ⟨_, rfl⟩
      have H2 : Rb 160 b (l, false) w2 := by rw [← hw2]; exact H.out.set1 false
      have d0 := H2.c0
      have g0 := H2.fz 0
      have h2lt := H2.lt
      have K2 : Hid (Kp b w1 w2) := lid (by rw [← hw2]; exact (Kp.refl _ _).setCell _ _)
      have HH2 := lid H2
      clear H2
      go_wp2_with fail
      go_ret
      refine ⟨ret_i64 (by rw [HV.out]), ?_, K2.out.setCell 0 _⟩
      rw [HV.out, ← HB.out]
      exact HH2.out.set0 _
    · have u0 : (e != 0) = true := by simpa using h0
      have HV2 : Hid ((false || !decide (e = 0)) = true) := lid (by simp [h0])
      rw [HV2.out] at HV
      clear h0 hS
      obtain ⟨w2, hw2⟩ : ∃ w2, w1.setCell ⟨b, 1, none⟩ (.bool true) = w2 := ⟨_, rfl⟩
      have H2 : Rb 160 b (l, true) w2 := by rw [← hw2]; exact H.out.set1 true
      have d0 := H2.c0
      have g0 := H2.fz 0
      have h2lt := H2.lt
      have K2 : Hid (Kp b w1 w2) := lid (by rw [← hw2]; exact (Kp.refl _ _).setCell _ _)
      have HH2 := lid H2
      clear H2
      go_wp2_with fail
      go_ret
      refine ⟨ret_i64 (by rw [HV.out]), ?_, K2.out.setCell 0 _⟩
      rw [HV.out, ← HB.out]
      exact HH2.out.set0 _
set_option maxRecDepth 100000 in
set_option maxHeartbeats 4000000 in
theorem rString_any (b : Nat) (s : Rd) (w : World) (h : Rb 160 b s w) (hl : s.1.length ≤ maxLen) :
    Calls Tryz.prog 112 #[.pointer (some ⟨b, 0, none⟩)] w fun e w' => e = .returned (.string (bstr (rStr s).1)) ∧ Rb 160 b (rStr s).2 w' ∧ Kp b w w' := by
  obtain ⟨l, bad⟩ := s
  have HI := lid (getX_le l)
  have HB := lid (bstr_drop l)
  have hS : (bstr l).size = l.length := rfl
  have HG := lid (GetText_any (bstr l) w hl)
  have hl' : l.length ≤ 9223372036854775807 := hl
  have hlt := h.lt
  have c0 := h.c0
  have c1 := h.c1
  have f1 := h.fz 1
  have H := lid h
  have HV : Hid (rStr (l, bad) = ((getX l).1, (l.drop (getX l).2.1, bad || !decide ((getX l).2.2 = 0)))) := lid rfl
  rw [bstr_list] at HG
  clear h hl
  go_enter Tryz.func112, Tryz.ntmps112
  go_wp2_with fail
  (with_reducible refine (HG.out).mono ?_); rintro e w1 ⟨rfl, rfl⟩
  clear HG
  obtain ⟨r, hr⟩ : ∃ r, getX l = r := ⟨_, rfl⟩
  rw [hr] at HI HV ⊢
  obtain ⟨n, k, e⟩ := r
  have hk := HI.out.1
  simp only at HV hk
  clear hr HI
  have hsl : (bstr l).extract k (bstr l).size = bstr (l.drop k) := (HB.out k).symm
  cases bad with
  | true =>
    clear hS
    obtain ⟨w2, hw2⟩ : ∃ w2, w1.setCell ⟨b, 1, none⟩ (.bool true) = w2 := ⟨_, rfl⟩
    have H2 : Rb 160 b (l, true) w2 := by rw [← hw2]; exact H.out.set1 true
    have d0 := H2.c0
    have g0 := H2.fz 0
    have h2lt := H2.lt
    have K2 : Hid (Kp b w1 w2) := lid (by rw [← hw2]; exact (Kp.refl _ _).setCell _ _)
    have HH2 := lid H2
    clear H2
    go_wp2_with fail
    go_ret
    refine ⟨ret_string (by rw [HV.out]), ?_, K2.out.setCell 0 _⟩
    rw [HV.out, ← HB.out]
    exact HH2.out.set0 _
  | false =>
    by_cases h0 : e = 0
    · subst h0
      clear hS
      obtain ⟨w2, hw2⟩ : ∃ w2, w1.setCell ⟨b, 1, none⟩ (.bool false) = w2 := ⟨_, rfl⟩
      have H2 : Rb 160 b (l, false) w2 := by rw [← hw2]; exact H.out.set1 false
      have d0 := H2.c0
      have g0 := H2.fz 0
      have h2lt := H2.lt
      have K2 : Hid (Kp b w1 w2) := lid (by rw [← hw2]; exact (Kp.refl _ _).setCell _ _)
      have HH2 := lid H2
      clear H2
      go_wp2_with fail
      go_ret
      refine ⟨ret_string (by rw [HV.out]), ?_, K2.out.setCell 0 _⟩
      rw [HV.out, ← HB.out]
      exact HH2.out.set0 _
    · have u0 : (e != 0) = true := by simpa using h0
      have HV2 : Hid ((false || !decide (e = 0)) = true) := lid (by simp [h0])
      rw [HV2.out] at HV
      clear h0 hS
      obtain ⟨w2, hw2⟩ : ∃ w2, w1.setCell ⟨b, 1, none⟩ (.bool true) = w2 := ⟨_, rfl⟩
      have H2 : Rb 160 b (l, true) w2 := by rw [← hw2]; exact H.out.set1 true
      have d0 := H2.c0
      have g0 := H2.fz 0
      have h2lt := H2.lt
      have K2 : Hid (Kp b w1 w2) := lid (by rw [← hw2]; exact (Kp.refl _ _).setCell _ _)
      have HH2 := lid H2
      clear H2
      go_wp2_with fail
      go_ret
      refine ⟨ret_string (by rw [HV.out]), ?_, K2.out.setCell 0 _⟩
      rw [HV.out, ← HB.out]
      exact HH2.out.set0 _
end Go.Proofs.YtphjillihapbfaaGreatDoor

namespace Go.Proofs.YtphjillihapbfaaGreatDoor
open Go.RowKit

/-- A number of bytes, the greatest first. -/
def beN (l : List UInt8) : Nat := l.foldl (fun a c => a * 256 + c.toNat) 0
theorem beN_snoc (l : List UInt8) (c : UInt8) : beN (l ++ [c]) = beN l * 256 + c.toNat := by simp [beN]
theorem beN_lt : ∀ (k : Nat) (l : List UInt8), l.length ≤ k → beN l < 256 ^ k := by
  intro k
  induction k with
  | zero => intro l h; rw [List.eq_nil_of_length_eq_zero (l := l) (by omega)]; simp [beN]
  | succ k ih =>
    intro l h
    rcases List.eq_nil_or_concat l with rfl | ⟨m, c, rfl⟩
    · exact Nat.lt_of_lt_of_le (by simp [beN]) (Nat.one_le_pow _ _ (by omega))
    · rw [List.concat_eq_append, beN_snoc]
      have := ih m (by rw [List.concat_eq_append, List.length_append] at h; simp at h; omega)
      have hc := c.toNat_lt
      rw [Nat.pow_succ]
      omega
/-- The digest of sixteen bytes. -/
def digOf (l : List UInt8) : Dg := (UInt64.ofNat (beN (l.take 8)), UInt64.ofNat (beN ((l.drop 8).take 8)))
theorem beN_bytes (x : UInt64) (f : Nat → UInt8) (hf : ∀ j, j < 8 → (f j).toNat = x.toNat / 2 ^ (56 - 8 * j) % 256) : ∀ k, k ≤ 8 → beN ((List.range k).map f) = x.toNat / 2 ^ (64 - 8 * k) := by
  intro k
  induction k with
  | zero => intro _; simp [beN]; exact (Nat.div_eq_of_lt x.toNat_lt).symm
  | succ k ih =>
    intro hk
    rw [List.range_succ, List.map_append, List.map_singleton, beN_snoc, ih (by omega), hf k (by omega)]
    rw [show 64 - 8 * k = (56 - 8 * k) + 8 by omega, Nat.pow_add, ← Nat.div_div_eq_div_mul, show 64 - 8 * (k + 1) = 56 - 8 * k by omega]
    omega
theorem byteAt_nat (x y : UInt64) (k : Nat) : (byteAt x y k).toNat = (if k < 8 then x else y).toNat / 2 ^ (56 - 8 * (k % 8)) % 256 := by
  unfold byteAt
  simp
theorem bytesU_halves (x y : UInt64) : bytesU x y = (List.range 8).map (byteAt x y) ++ (List.range 8).map (fun j => byteAt x y (8 + j)) := rfl
theorem digOf_digL (d : Dg) (t : List UInt8) : digOf (digL d ++ t) = d := by
  obtain ⟨x, y⟩ := d
  unfold digOf digL
  rw [bytesU_halves, List.append_assoc]
  rw [List.take_append_of_le_length (by simp), List.take_of_length_le (by simp), List.drop_append_of_le_length (by simp), List.drop_of_length_le (by simp), List.nil_append, List.take_append_of_le_length (by simp), List.take_of_length_le (by simp)]
  rw [beN_bytes x _ (fun j hj => by rw [byteAt_nat, if_pos hj, show j % 8 = j by omega]) 8 (Nat.le_refl _), beN_bytes y _ (fun j hj => by rw [byteAt_nat, if_neg (by omega), show (8 + j) % 8 = j by omega]) 8 (Nat.le_refl _)]
  simp
theorem bytes_beN : ∀ (k : Nat) (l : List UInt8), l.length = k → k ≤ 8 → ∀ j (hj : j < l.length), beN l / 256 ^ (k - 1 - j) % 256 = (l[j]).toNat := by
  intro k
  induction k with
  | zero => intro l h _ j hj; omega
  | succ k ih =>
    intro l h hk j hj
    rcases List.eq_nil_or_concat l with rfl | ⟨m, c, rfl⟩
    · simp at hj
    · have hc := c.toNat_lt
      have hm : m.length = k := by simpa using h
      simp only [List.concat_eq_append] at hj ⊢
      rw [beN_snoc]
      by_cases hjk : j < k
      · rw [List.getElem_append_left (by omega), ← ih m hm (by omega) j (by omega)]
        rw [show k + 1 - 1 - j = (k - 1 - j) + 1 by omega, Nat.pow_succ, Nat.mul_comm (256 ^ (k - 1 - j)), ← Nat.div_div_eq_div_mul]
        congr 2
        omega
      · have : j = k := by rw [List.length_append] at hj; simp at hj; omega
        subst this
        rw [List.getElem_append_right (by omega)]
        simp [hm]
theorem digL_digOf {l : List UInt8} (h : 16 ≤ l.length) : digL (digOf l) = l.take 16 := by
  unfold digL
  apply List.ext_getElem
  · rw [bytesU_length, List.length_take]; omega
  · intro j h1 h2
    rw [bytesU_length] at h1
    apply UInt8.toNat_inj.1
    rw [List.getElem_take]
    simp only [bytesU, List.getElem_map, List.getElem_range]
    rw [byteAt_nat]
    have hl1 : beN (l.take 8) < 256 ^ 8 := beN_lt 8 _ (by rw [List.length_take]; omega)
    have hl2 : beN ((l.drop 8).take 8) < 256 ^ 8 := beN_lt 8 _ (by rw [List.length_take]; omega)
    by_cases hj : j < 8
    · rw [if_pos hj]
      simp only [digOf]
      rw [UInt64.toNat_ofNat', Nat.mod_eq_of_lt (a := beN (l.take 8)) (by omega)]
      have := bytes_beN 8 (l.take 8) (by rw [List.length_take]; omega) (Nat.le_refl _) j (by rw [List.length_take]; omega)
      rw [List.getElem_take] at this
      rw [← this, show 56 - 8 * (j % 8) = 8 * (8 - 1 - j) by omega, Nat.pow_mul]
    · rw [if_neg hj]
      simp only [digOf]
      rw [UInt64.toNat_ofNat', Nat.mod_eq_of_lt (a := beN ((l.drop 8).take 8)) (by omega)]
      have := bytes_beN 8 ((l.drop 8).take 8) (by rw [List.length_take, List.length_drop]; omega) (Nat.le_refl _) (j - 8) (by rw [List.length_take, List.length_drop]; omega)
      rw [List.getElem_take, List.getElem_drop] at this
      rw [show 56 - 8 * (j % 8) = 8 * (8 - 1 - (j - 8)) by omega, Nat.pow_mul]
      simp only [show 8 + (j - 8) = j by omega] at this
      exact this
end Go.Proofs.YtphjillihapbfaaGreatDoor

namespace Go.Proofs.YtphjillihapbfaaGreatDoor
open Go.RowKit

def rDig (s : Rd) : Dg × Rd := if s.1.length < 16 then ((0, 0), (s.1, true)) else (digOf s.1, (s.1.drop 16, s.2))
def qDig (s : Rd) : Dg × Rd := if s.2 = true ∨ s.1.length < 16 then ((0, 0), (s.1, true)) else (digOf s.1, (s.1.drop 16, false))
def rEnt3 (a : List UInt8) (d : Nat × Rd) : Ent × Rd := ((bstr a, decide (d.1 = 1), (rDig (d.2.1, d.2.2 || decide (1 < d.1))).1), (rDig (d.2.1, d.2.2 || decide (1 < d.1))).2)
def rEnt (s : Rd) : Ent × Rd := rEnt3 (rStr s).1 (rNum (rStr s).2)
def qEnt3 (a : List UInt8) (d : Nat × Rd) : Ent × Rd := ((bstr a, decide (d.1 = 1), (qDig d.2).1), (qDig d.2).2)
def qEnt (s : Rd) : Ent × Rd := qEnt3 (qStr s).1 (qNum (qStr s).2)
def many {α : Type} (f : Rd → α × Rd) : Nat → Rd → List α × Rd
  | 0, s => ([], s)
  | n + 1, s => if s.2 = true then ([], s) else ((f s).1 :: (many f n (f s).2).1, (many f n (f s).2).2)
def rList {α : Type} (f : Rd → α × Rd) (most : Nat) (s : Rd) : List α × Rd := many f (rNum s).1 ((rNum s).2.1, (rNum s).2.2 || decide (most < (rNum s).1))
def qList {α : Type} (f : Rd → α × Rd) (s : Rd) : List α × Rd := many f (qNum s).1 (qNum s).2
def ob0 (k : Int) : Ob := ⟨k, ⟨#[]⟩, [], (0, 0), [], ⟨#[]⟩, 0, ⟨#[]⟩⟩
def obD (k : Int) (d : List UInt8) : Ob := ⟨k, bstr d, [], (0, 0), [], ⟨#[]⟩, 0, ⟨#[]⟩⟩
def obE (l : List Ent) : Ob := ⟨2, ⟨#[]⟩, l, (0, 0), [], ⟨#[]⟩, 0, ⟨#[]⟩⟩
def obC (t : Dg) (p : List Dg) (a : List UInt8) (m : Nat) (g : List UInt8) : Ob := ⟨3, ⟨#[]⟩, [], t, p, bstr a, m, bstr g⟩
/-- What is read behind the kind. -/
def decRk (k : Nat) (s : Rd) : Ob × Rd :=
  if k = 1 ∨ k = 4 then (obD k (rStr s).1, (rStr s).2)
  else if k = 2 then (obE (rList rEnt 200 s).1, (rList rEnt 200 s).2)
  else if k = 3 then
    let p := rList rDig 8 (rDig s).2
    let a := rStr p.2
    let m := rNum a.2
    let g := rStr m.2
    (obC (rDig s).1 p.1 a.1 m.1 g.1, g.2)
  else (ob0 k, s)
def decR (l : List UInt8) : Ob × Rd := decRk (rNum (l, false)).1 (rNum (l, false)).2
def decQk (k : Nat) (s : Rd) : Ob × Rd :=
  if k = 2 then (obE (qList qEnt s).1, (qList qEnt s).2)
  else if k = 3 then
    let p := qList qDig (qDig s).2
    let a := qStr p.2
    let m := qNum a.2
    let g := qStr m.2
    (obC (qDig s).1 p.1 a.1 m.1 g.1, g.2)
  else (obD k (qStr s).1, (qStr s).2)
def decQ (l : List UInt8) : Ob × Rd := decQk (qNum (l, false)).1 (qNum (l, false)).2

def decRC (s : Rd) : Ob × Rd :=
  let p := rList rDig 8 (rDig s).2
  let a := rStr p.2
  let m := rNum a.2
  let g := rStr m.2
  (obC (rDig s).1 p.1 a.1 m.1 g.1, g.2)
def decQC (s : Rd) : Ob × Rd :=
  let p := qList qDig (qDig s).2
  let a := qStr p.2
  let m := qNum a.2
  let g := qStr m.2
  (obC (qDig s).1 p.1 a.1 m.1 g.1, g.2)
theorem decRk_D {k : Nat} (h : k = 1 ∨ k = 4) (s : Rd) : decRk k s = (obD k (rStr s).1, (rStr s).2) := by unfold decRk; rw [if_pos h]
theorem decRk_E (s : Rd) : decRk 2 s = (obE (rList rEnt 200 s).1, (rList rEnt 200 s).2) := rfl
theorem decRk_C (s : Rd) : decRk 3 s = decRC s := rfl
theorem decRk_0 {k : Nat} (h : ¬ (k = 1 ∨ k = 4)) (h2 : ¬ k = 2) (h3 : ¬ k = 3) (s : Rd) : decRk k s = (ob0 k, s) := by unfold decRk; rw [if_neg h, if_neg h2, if_neg h3]
theorem decQk_E (s : Rd) : decQk 2 s = (obE (qList qEnt s).1, (qList qEnt s).2) := rfl
theorem decQk_C (s : Rd) : decQk 3 s = decQC s := rfl
theorem decQk_D {k : Nat} (h2 : ¬ k = 2) (h3 : ¬ k = 3) (s : Rd) : decQk k s = (obD k (qStr s).1, (qStr s).2) := by unfold decQk; rw [if_neg h2, if_neg h3]

section put
variable {t : List UInt8}
theorem rNum_put {n : Nat} (h : n ≤ 1099511627776) : rNum (putN n ++ t, false) = (n, (t, false)) := by
  unfold rNum
  simp only [getI_put h]
  simp
theorem qNum_put {n : Nat} (h : n ≤ 1099511627776) : qNum (putN n ++ t, false) = (n, (t, false)) := by
  unfold qNum
  simp only [getI_put h]
  simp
theorem rStr_put {s : List UInt8} (h : s.length ≤ 65536) : rStr (putT s ++ t, false) = (s, (t, false)) := by
  unfold rStr
  simp only [getX_put h]
  simp
theorem qStr_put {s : List UInt8} (h : s.length ≤ 65536) : qStr (putT s ++ t, false) = (s, (t, false)) := by
  unfold qStr
  simp only [getX_put h]
  simp
theorem rDig_put (d : Dg) : rDig (digL d ++ t, false) = (d, (t, false)) := by
  unfold rDig
  have h := digL_len d
  rw [if_neg (by simp [h])]
  simp only [digOf_digL]
  rw [List.drop_append_of_le_length (by omega), List.drop_of_length_le (by omega)]
  rfl
theorem qDig_put (d : Dg) : qDig (digL d ++ t, false) = (d, (t, false)) := by
  unfold qDig
  have h := digL_len d
  rw [if_neg (by simp [h])]
  simp only [digOf_digL]
  rw [List.drop_append_of_le_length (by omega), List.drop_of_length_le (by omega)]
  rfl
theorem dirI_nat (b : Bool) : ∃ n : Nat, dirI b = n ∧ n ≤ 1 ∧ decide (n = 1) = b := by
  cases b
  · exact ⟨0, rfl, by omega, rfl⟩
  · exact ⟨1, rfl, by omega, rfl⟩
theorem putI_nat {n : Nat} (h : n ≤ 1099511627776) : putI (n : Int) = putN n := by
  unfold putI putB
  rw [if_pos (by simp; omega)]
  simp
theorem putX_lo {l : List UInt8} (h : l.length ≤ 65536) : putX l = putT l := by unfold putX; rw [if_pos h]
theorem rEnt_put {e : Ent} (h : e.1.size ≤ 65536) : rEnt (entL e ++ t, false) = (e, (t, false)) := by
  obtain ⟨a, b, d⟩ := e
  obtain ⟨n, h1, h2, h3⟩ := dirI_nat b
  unfold rEnt entL
  simp only at h ⊢
  have h' : a.data.toList.length ≤ 65536 := h
  rw [putX_lo h', h1, putI_nat (by omega), List.append_assoc, List.append_assoc, rStr_put h']
  simp only
  rw [rNum_put (by omega)]
  unfold rEnt3
  simp only [h3]
  rw [show (false || decide (1 < n)) = false by simp; omega, rDig_put]
  rfl
theorem qEnt_put {e : Ent} (h : e.1.size ≤ 65536) : qEnt (entL e ++ t, false) = (e, (t, false)) := by
  obtain ⟨a, b, d⟩ := e
  obtain ⟨n, h1, h2, h3⟩ := dirI_nat b
  unfold qEnt entL
  simp only at h ⊢
  have h' : a.data.toList.length ≤ 65536 := h
  rw [putX_lo h', h1, putI_nat (by omega), List.append_assoc, List.append_assoc, qStr_put h']
  simp only
  rw [qNum_put (by omega)]
  unfold qEnt3
  simp only [h3]
  rw [qDig_put]
  rfl
theorem many_put {α : Type} {f : Rd → α × Rd} {g : α → List UInt8} : ∀ (l : List α), (∀ x ∈ l, ∀ t, f (g x ++ t, false) = (x, (t, false))) → many f l.length (l.flatMap g ++ t, false) = (l, (t, false))
  | [], _ => rfl
  | x :: l, h => by
    rw [List.length_cons, many, if_neg (by simp), List.flatMap_cons, List.append_assoc, h x (List.mem_cons_self ..) _]
    simp only
    rw [many_put l (fun y hy => h y (List.mem_cons_of_mem _ hy))]
end put

theorem zeroB_eq {d : Dg} (h : zeroB d = true) : d = (0, 0) := of_decide_eq_true h
theorem emptyB_eq {s : ByteArray} (h : emptyB s = true) : s = ⟨#[]⟩ := of_decide_eq_true h
theorem hasD_no {o : Ob} (h : hasD o = false) : o.data = ⟨#[]⟩ := emptyB_eq (by unfold hasD at h; simpa using h)
theorem hasE_no {o : Ob} (h : hasE o = false) : o.ents = [] := List.eq_nil_of_length_eq_zero (by unfold hasE at h; simpa using h)
theorem hasC_no {o : Ob} (h : hasC o = false) : o.tree = (0, 0) ∧ o.pars = [] ∧ o.auth = ⟨#[]⟩ ∧ o.time = 0 ∧ o.msg = ⟨#[]⟩ := by
  unfold hasC at h
  simp only [Bool.or_eq_false_iff, Bool.not_eq_false', decide_eq_true_eq] at h
  obtain ⟨h1, h2, h3, h4, h5⟩ := h
  exact ⟨zeroB_eq h1, List.eq_nil_of_length_eq_zero (by simpa using h2), emptyB_eq h3, h4, emptyB_eq h5⟩
theorem bstr_self (s : ByteArray) : bstr s.data.toList = s := rfl
/-- What a valid object is. -/
theorem valid_form {o : Ob} (h : checkO o = 0) :
    (∃ k : Nat, (k = 1 ∨ k = 4) ∧ o = obD k o.data.data.toList) ∨ (o = obE o.ents ∧ (∀ e ∈ o.ents, e.1.size ≤ 24) ∧ o.ents.length ≤ 200)
    ∨ ∃ m : Nat, o = obC o.tree o.pars o.auth.data.toList m o.msg.data.toList ∧ o.pars.length ≤ 8 ∧ o.auth.size ≤ 24 ∧ m ≤ 1099511627776 ∧ o.msg.size ≤ 200 := by
  rcases checkO_kind h with hk | hk | hk | hk
  · have h' := h
    unfold checkO at h'
    rw [if_pos (.inl hk)] at h'
    split at h'
    · cases h'
    · rename_i h1
      simp only [Bool.or_eq_true, not_or, Bool.not_eq_true] at h1
      obtain ⟨e1, e2, e3, e4, e5⟩ := hasC_no h1.2
      have e0 := hasE_no h1.1
      refine .inl ⟨1, .inl rfl, ?_⟩
      obtain ⟨a1, a2, a3, a4, a5, a6, a7, a8⟩ := o
      simp only at hk e0 e1 e2 e3 e4 e5
      subst hk e0 e1 e2 e3 e4 e5
      rfl
  · obtain ⟨h2, _⟩ := checkO_ents h hk
    have hn := checkO_names h hk
    have h' := h
    unfold checkO at h'
    rw [if_neg (by omega), if_pos hk] at h'
    split at h'
    · cases h'
    · rename_i h1
      simp only [Bool.or_eq_true, not_or, Bool.not_eq_true] at h1
      obtain ⟨e1, e2, e3, e4, e5⟩ := hasC_no h1.2
      have e0 := hasD_no h1.1
      refine .inr (.inl ⟨?_, hn, h2⟩)
      obtain ⟨a1, a2, a3, a4, a5, a6, a7, a8⟩ := o
      simp only at hk e0 e1 e2 e3 e4 e5
      subst hk e0 e1 e2 e3 e4 e5
      rfl
  · obtain ⟨c1, c2, c3, c4, c5⟩ := checkO_comm h hk
    have h' := h
    unfold checkO at h'
    rw [if_neg (by omega), if_neg (by omega), if_pos hk] at h'
    split at h'
    · cases h'
    · rename_i h1
      simp only [Bool.or_eq_true, not_or, Bool.not_eq_true] at h1
      have e0 := hasD_no h1.1
      have e1 := hasE_no h1.2
      refine .inr (.inr ⟨o.time.toNat, ?_, c1, c2, by omega, c5⟩)
      have e2 : (o.time.toNat : Int) = o.time := by omega
      obtain ⟨a1, a2, a3, a4, a5, a6, a7, a8⟩ := o
      simp only at hk e0 e1 e2
      subst hk e0 e1
      unfold obC
      simp only [e2]
      rfl
  · have h' := h
    unfold checkO at h'
    rw [if_pos (.inr hk)] at h'
    split at h'
    · cases h'
    · rename_i h1
      simp only [Bool.or_eq_true, not_or, Bool.not_eq_true] at h1
      obtain ⟨e1, e2, e3, e4, e5⟩ := hasC_no h1.2
      have e0 := hasE_no h1.1
      refine .inl ⟨4, .inr rfl, ?_⟩
      obtain ⟨a1, a2, a3, a4, a5, a6, a7, a8⟩ := o
      simp only at hk e0 e1 e2 e3 e4 e5
      subst hk e0 e1 e2 e3 e4 e5
      rfl

theorem encL_D {k : Nat} (hk : k = 1 ∨ k = 4) {d : List UInt8} (h : d.length ≤ 65536) : encL (obD k d) = putN k ++ (putT d ++ []) := by
  unfold encL
  rw [if_neg (by simp only [obD]; omega), if_neg (by simp only [obD]; omega)]
  simp only [obD]
  rw [putI_nat (by omega), bstr_list, putX_lo h, List.append_nil]
theorem encL_E (l : List Ent) (h : l.length ≤ 200) : encL (obE l) = putN 2 ++ (putN l.length ++ (l.flatMap entL ++ [])) := by
  unfold encL
  rw [if_pos (show (obE l).kind = 2 from rfl)]
  unfold entsL
  simp only [obE]
  rw [show (2 : Int) = ((2 : Nat) : Int) from rfl, putI_nat (by omega), putI_nat (by omega), List.take_of_length_le (Nat.le_refl _), List.append_nil]
theorem encL_C {t : Dg} {p : List Dg} {a g : List UInt8} {m : Nat} (h1 : p.length ≤ 8) (h2 : a.length ≤ 65536) (h3 : m ≤ 1099511627776) (h4 : g.length ≤ 65536) :
    encL (obC t p a m g) = putN 3 ++ (digL t ++ (putN p.length ++ (p.flatMap digL ++ (putT a ++ (putN m ++ (putT g ++ [])))))) := by
  unfold encL
  rw [if_neg (by simp [obC]), if_pos (show (obC t p a m g).kind = 3 from rfl)]
  unfold parsL
  simp only [obC]
  rw [show (3 : Int) = ((3 : Nat) : Int) from rfl, putI_nat (by omega), putI_nat (by omega), putI_nat h3, List.take_of_length_le (Nat.le_refl _), bstr_list, bstr_list, putX_lo h2, putX_lo h4, List.append_nil]
  simp only [List.append_assoc]

/-- Both readers read what is encoded. -/
theorem dec_enc {o : Ob} (h : checkO o = 0) (hd : o.data.size ≤ 65536) : decR (encL o) = (o, ([], false)) ∧ decQ (encL o) = (o, ([], false)) := by
  unfold decR decQ
  rcases valid_form h with ⟨k, hk, ho⟩ | ⟨ho, hn, hl⟩ | ⟨m, ho, h1, h2, h3, h4⟩
  · have hd' : o.data.data.toList.length ≤ 65536 := hd
    obtain ⟨d, hdd⟩ : ∃ d, o.data.data.toList = d := ⟨_, rfl⟩
    rw [hdd] at ho hd'
    subst ho
    rw [encL_D hk hd', rNum_put (by omega), qNum_put (by omega)]
    simp only
    rw [decRk_D hk, decQk_D (by omega) (by omega), rStr_put hd', qStr_put hd']
    exact ⟨rfl, rfl⟩
  · obtain ⟨l, hll⟩ : ∃ l, o.ents = l := ⟨_, rfl⟩
    rw [hll] at ho hn hl
    subst ho
    rw [encL_E l hl, rNum_put (by omega), qNum_put (by omega)]
    simp only
    rw [decRk_E, decQk_E]
    unfold rList qList
    rw [rNum_put (by omega), qNum_put (by omega)]
    simp only
    rw [show (false || decide (200 < l.length)) = false by simp; omega]
    rw [many_put l (fun e he t => rEnt_put (Nat.le_trans (hn e he) (by omega))), many_put l (fun e he t => qEnt_put (Nat.le_trans (hn e he) (by omega)))]
    exact ⟨rfl, rfl⟩
  · have h2' : o.auth.data.toList.length ≤ 65536 := Nat.le_trans h2 (by omega)
    have h4' : o.msg.data.toList.length ≤ 65536 := Nat.le_trans h4 (by omega)
    obtain ⟨a, ha⟩ : ∃ d, o.auth.data.toList = d := ⟨_, rfl⟩
    obtain ⟨g, hg⟩ : ∃ d, o.msg.data.toList = d := ⟨_, rfl⟩
    obtain ⟨p, hp⟩ : ∃ d, o.pars = d := ⟨_, rfl⟩
    obtain ⟨t, ht⟩ : ∃ d, o.tree = d := ⟨_, rfl⟩
    rw [ha, hg, hp, ht] at ho
    rw [ha] at h2'
    rw [hg] at h4'
    rw [hp] at h1
    clear ha hg hp ht h2 h4
    subst ho
    rw [encL_C h1 h2' h3 h4', rNum_put (by omega), qNum_put (by omega)]
    simp only
    rw [decRk_C, decQk_C]
    unfold decRC decQC
    rw [rDig_put, qDig_put]
    unfold rList qList
    simp only
    rw [rNum_put (by omega), qNum_put (by omega)]
    simp only
    rw [show (false || decide (8 < p.length)) = false by simp; omega]
    rw [many_put p (fun e he t => rDig_put e), many_put p (fun e he t => qDig_put e)]
    simp only
    rw [rStr_put h2', qStr_put h2']
    simp only
    rw [rNum_put h3, qNum_put h3]
    simp only
    rw [rStr_put h4', qStr_put h4']
    exact ⟨rfl, rfl⟩
/-- The encodings of valid objects differ. -/
theorem encL_inj {a b : Ob} (ha : checkO a = 0) (hb : checkO b = 0) (da : a.data.size ≤ 65536) (db : b.data.size ≤ 65536) (h : encL a = encL b) : a = b := by
  have h1 := (dec_enc ha da).1
  have h2 := (dec_enc hb db).1
  rw [h, h2] at h1
  exact (congrArg Prod.fst h1).symm
end Go.Proofs.YtphjillihapbfaaGreatDoor

namespace Go.Proofs.YtphjillihapbfaaGreatDoor
open Go.RowKit

theorem rNum_ok {s : Rd} (h : (rNum s).2.2 = false) : s.2 = false ∧ s.1 = putN (rNum s).1 ++ (rNum s).2.1 ∧ (rNum s).1 ≤ 1099511627776 := by
  unfold rNum at h ⊢
  simp only [Bool.or_eq_false_iff, Bool.not_eq_false', decide_eq_true_eq] at h
  obtain ⟨h1, h2⟩ := h
  obtain ⟨e1, e2, e3⟩ := getI_ok (l := s.1) (n := (getI s.1).1) (k := (getI s.1).2.1) (by rw [← h2])
  exact ⟨h1, e1, e3⟩
theorem rStr_ok {s : Rd} (h : (rStr s).2.2 = false) : s.2 = false ∧ s.1 = putT (rStr s).1 ++ (rStr s).2.1 ∧ (rStr s).1.length ≤ 65536 := by
  unfold rStr at h ⊢
  simp only [Bool.or_eq_false_iff, Bool.not_eq_false', decide_eq_true_eq] at h
  obtain ⟨h1, h2⟩ := h
  obtain ⟨e1, e2, e3⟩ := getX_ok (l := s.1) (t := (getX s.1).1) (k := (getX s.1).2.1) (by rw [← h2])
  exact ⟨h1, e1, e2⟩
theorem rDig_ok {s : Rd} (h : (rDig s).2.2 = false) : s.2 = false ∧ s.1 = digL (rDig s).1 ++ (rDig s).2.1 := by
  unfold rDig at h ⊢
  split at h
  · cases h
  · rename_i h1
    rw [if_neg h1]
    refine ⟨h, ?_⟩
    simp only
    rw [digL_digOf (by omega), List.take_append_drop]
theorem rEnt3_ok {a : List UInt8} {d : Nat × Rd} (h : (rEnt3 a d).2.2 = false) (ha : a.length ≤ 65536) : d.2.2 = false ∧ d.1 ≤ 1 ∧ putT a ++ (putN d.1 ++ d.2.1) = entL (rEnt3 a d).1 ++ (rEnt3 a d).2.1 := by
  obtain ⟨n, l, b⟩ := d
  unfold rEnt3 at h ⊢
  simp only at h ⊢
  obtain ⟨h1, h2⟩ := rDig_ok h
  simp only [Bool.or_eq_false_iff, decide_eq_false_iff_not, Nat.not_lt] at h1
  simp only at h2
  obtain ⟨rfl, h4⟩ := h1
  refine ⟨rfl, h4, ?_⟩
  unfold entL
  simp only
  rw [bstr_list, putX_lo ha]
  have hn : putI (dirI (decide (n = 1))) = putN n := by
    rcases (show n = 0 ∨ n = 1 by omega) with rfl | rfl
    · exact putI_nat (n := 0) (by omega)
    · exact putI_nat (n := 1) (by omega)
  rw [hn, List.append_assoc, List.append_assoc]
  congr 2
theorem rEnt_ok {s : Rd} (h : (rEnt s).2.2 = false) : s.2 = false ∧ s.1 = entL (rEnt s).1 ++ (rEnt s).2.1 := by
  have hl : (rStr s).1.length ≤ 65536 := (getX_le s.1).2.2
  unfold rEnt at h ⊢
  obtain ⟨h1, h2, h3⟩ := rEnt3_ok h hl
  obtain ⟨h4, h5, _⟩ := rNum_ok h1
  obtain ⟨h6, h7, _⟩ := rStr_ok h4
  exact ⟨h6, by rw [← h3, ← h5]; exact h7⟩
theorem many_ok {α : Type} {f : Rd → α × Rd} {g : α → List UInt8} (hf : ∀ s, (f s).2.2 = false → s.2 = false ∧ s.1 = g (f s).1 ++ (f s).2.1) :
    ∀ (n : Nat) (s : Rd), (many f n s).2.2 = false → s.2 = false ∧ (many f n s).1.length = n ∧ s.1 = (many f n s).1.flatMap g ++ (many f n s).2.1
  | 0, s, h => ⟨h, rfl, by simp [many]⟩
  | n + 1, s, h => by
    unfold many at h ⊢
    split at h
    · rename_i h1
      simp only at h
      rw [h1] at h
      cases h
    · rename_i h1
      rw [if_neg h1]
      obtain ⟨h2, h3, h4⟩ := many_ok hf n (f s).2 h
      obtain ⟨h5, h6⟩ := hf s h2
      refine ⟨h5, by simp [h3], ?_⟩
      simp only
      rw [List.flatMap_cons, List.append_assoc, ← h4]
      exact h6
theorem rList_ok {α : Type} {f : Rd → α × Rd} {g : α → List UInt8} (hf : ∀ s, (f s).2.2 = false → s.2 = false ∧ s.1 = g (f s).1 ++ (f s).2.1) {most : Nat} {s : Rd} (h : (rList f most s).2.2 = false) :
    s.2 = false ∧ (rList f most s).1.length ≤ most ∧ s.1 = putN (rList f most s).1.length ++ ((rList f most s).1.flatMap g ++ (rList f most s).2.1) := by
  unfold rList at h ⊢
  obtain ⟨h1, h2, h3⟩ := many_ok hf _ _ h
  simp only [Bool.or_eq_false_iff, decide_eq_false_iff_not, Nat.not_lt] at h1
  obtain ⟨h4, h5, _⟩ := rNum_ok h1.1
  refine ⟨h4, by rw [h2]; exact h1.2, ?_⟩
  rw [h2, ← h3]
  exact h5
/-- What is read without a fault is the encoding of what was read. -/
theorem canon {l : List UInt8} (h : (decR l).2 = ([], false)) (hc : checkO (decR l).1 = 0) : encL (decR l).1 = l ∧ (decR l).1.data.size ≤ 65536 := by
  have hb : (decR l).2.2 = false := by rw [h]
  have hr : (decR l).2.1 = [] := by rw [h]
  unfold decR at hb hr hc ⊢
  have HN := rNum_ok (s := (l, false))
  simp only at HN
  generalize rNum (l, false) = q at *
  obtain ⟨k, s⟩ := q
  simp only at hb hr hc HN ⊢
  by_cases hk : k = 1 ∨ k = 4
  · rw [decRk_D hk] at hb hr hc ⊢
    simp only at hb hr hc ⊢
    obtain ⟨h1, h2, h3⟩ := rStr_ok hb
    obtain ⟨_, h4, _⟩ := HN h1
    rw [encL_D hk h3, h4, h2, hr]
    exact ⟨rfl, h3⟩
  by_cases h2 : k = 2
  · subst h2
    rw [decRk_E] at hb hr hc ⊢
    simp only at hb hr hc ⊢
    obtain ⟨h1, h2, h3⟩ := rList_ok (fun s h => rEnt_ok h) hb
    obtain ⟨_, h4, _⟩ := HN h1
    rw [encL_E _ h2, h4, h3, hr]
    exact ⟨rfl, (by decide : ByteArray.size ⟨#[]⟩ ≤ 65536)⟩
  by_cases h3 : k = 3
  · subst h3
    rw [decRk_C] at hb hr hc ⊢
    unfold decRC at hb hr hc ⊢
    simp only at hb hr hc ⊢
    obtain ⟨a1, a2, a3⟩ := rStr_ok hb
    obtain ⟨b1, b2, b3⟩ := rNum_ok a1
    obtain ⟨c1, c2, c3⟩ := rStr_ok b1
    obtain ⟨d1, d2, d3⟩ := rList_ok (fun s h => rDig_ok h) c1
    obtain ⟨e1, e2⟩ := rDig_ok d1
    obtain ⟨_, h4, _⟩ := HN e1
    rw [encL_C d2 c3 b3 a3, ← hr, ← a2, ← b2, ← c2, ← d3, ← e2]
    exact ⟨h4.symm, (by decide : ByteArray.size ⟨#[]⟩ ≤ 65536)⟩
  · rw [decRk_0 hk h2 h3] at hc
    simp only at hc
    rcases checkO_kind hc with h | h | h | h <;> (simp only [ob0] at h; omega)

def okR (l : List UInt8) : Bool := decide ((decR l).2 = ([], false)) && decide (checkO (decR l).1 = 0)
def okQ (l : List UInt8) : Bool := !(decQ l).2.2 && (decide (checkO (decQ l).1 = 0) && decide (encL (decQ l).1 = l))
def oR (l : List UInt8) : Ob := if okR l = true then (decR l).1 else ob0 0
def eR (l : List UInt8) : Int := if okR l = true then 0 else 13
def oQ (l : List UInt8) : Ob := if okQ l = true then (decQ l).1 else ob0 0
def eQ (l : List UInt8) : Int := if okQ l = true then 0 else 13
theorem okR_of {l : List UInt8} (h : okR l = true) : (decR l).2 = ([], false) ∧ checkO (decR l).1 = 0 := by
  unfold okR at h
  simpa using h
theorem decQ_size (l : List UInt8) : (decQ l).1.data.size ≤ 65536 := by
  unfold decQ
  generalize qNum (l, false) = q
  obtain ⟨k, s⟩ := q
  by_cases h2 : k = 2
  · subst h2; exact (by decide : ByteArray.size ⟨#[]⟩ ≤ 65536)
  by_cases h3 : k = 3
  · subst h3; exact (by decide : ByteArray.size ⟨#[]⟩ ≤ 65536)
  · simp only [decQk_D h2 h3, obD, bstr_size]
    unfold qStr
    split
    · simp
    · exact (getX_le s.1).2.2
theorem ok_same (l : List UInt8) : okR l = okQ l ∧ (okR l = true → (decR l).1 = (decQ l).1) := by
  have h1 : okR l = true → okQ l = true ∧ (decR l).1 = (decQ l).1 := by
    intro h
    obtain ⟨a, b⟩ := okR_of h
    obtain ⟨c, d⟩ := canon a b
    have e := (dec_enc b d).2
    rw [c] at e
    refine ⟨?_, by rw [e]⟩
    unfold okQ
    rw [e]
    simp [b, c]
  have h2 : okQ l = true → okR l = true := by
    intro h
    unfold okQ at h
    simp only [Bool.and_eq_true, Bool.not_eq_true', decide_eq_true_eq] at h
    obtain ⟨a, b, c⟩ := h
    have e := (dec_enc b (decQ_size l)).1
    rw [c] at e
    unfold okR
    rw [e]
    simp [b]
  refine ⟨?_, fun h => (h1 h).2⟩
  rw [Bool.eq_iff_iff]
  exact ⟨fun h => (h1 h).1, h2⟩
/-- Both answer alike. -/
theorem dec_same (l : List UInt8) : oR l = oQ l ∧ eR l = eQ l := by
  obtain ⟨h1, h2⟩ := ok_same l
  unfold oR oQ eR eQ
  rw [← h1]
  refine ⟨?_, rfl⟩
  by_cases h : okR l = true
  · rw [if_pos h, if_pos h, h2 h]
  · rw [if_neg h, if_neg h]
theorem oR_enc {o : Ob} (h : checkO o = 0) (hd : o.data.size ≤ 65536) : oR (encL o) = o ∧ eR (encL o) = 0 := by
  have e := (dec_enc h hd).1
  have : okR (encL o) = true := by unfold okR; rw [e]; simp [h]
  unfold oR eR
  rw [if_pos this, if_pos this, e]
  exact ⟨rfl, rfl⟩
theorem eR_canon {l : List UInt8} (h : eR l = 0) : checkO (oR l) = 0 ∧ encL (oR l) = l := by
  unfold eR at h
  split at h
  · rename_i h1
    obtain ⟨a, b⟩ := okR_of h1
    unfold oR
    rw [if_pos h1]
    exact ⟨b, (canon a b).1⟩
  · cases h
theorem eR_not {l : List UInt8} (h : ¬ eR l = 0) : oR l = ob0 0 ∧ eR l = 13 := by
  unfold eR oR at *
  split at h
  · cases h rfl
  · rename_i h1; rw [if_neg h1, if_neg h1]; exact ⟨rfl, rfl⟩
end Go.Proofs.YtphjillihapbfaaGreatDoor
