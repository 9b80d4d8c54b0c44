import Derived.Test.YtgcceepadlmelaaGreatDoorQAB
import Derived.Test.YtgcceepadlmelaaGreatDoorRegion
import Derived.Test.YtgcceepadlmelaaGreatDoorChecked
import Derived.Test.YtgcceepadlmelaaGreatDoorEdEqx
import Derived.Shelf.SortM.Plain
import Derived.Shelf.SortM.SortNone
import Derived.Test.YtgcceepadlmelaaGreatDoorProg
import Derived.Test.YtgcceepadlmelaaGreatDoorQAD
namespace Go.Proofs.YtgcceepadlmelaaGreatDoor
set_option maxRecDepth 100000
set_option maxHeartbeats 4000000
open Go.RowKit
theorem take_eq_succ {α : Type} {a b : List α} {k : Nat} (ha : k < a.length) (hb : k < b.length) (h : a.take k = b.take k) (e : a[k] = b[k]) : a.take (k + 1) = b.take (k + 1) := by
 rw [List.take_succ_eq_append_getElem ha, List.take_succ_eq_append_getElem hb, h, e]
theorem ne_at {α : Type} {a b : List α} {k : Nat} (ha : k < a.length) (hb : k < b.length) (e : ¬ a[k] = b[k]) : ¬ a = b := by
 intro h
 subst h
 exact e rfl
theorem EqualS_any (S T : List ByteArray) (n1 c1 n2 c2 : Nat) (a1 a2 : Option Addr) (w : World) (h1 : SA w a1 n1 c1 S) (h2 : SA w a2 n2 c2 T) :
  Calls Tryz.prog 66 #[.slice a1 n1 c1, .slice a2 n2 c2] w fun e w' => e = .returned (.bool (decide (S = T))) ∧ Below w.heap.size w w' := by
 have hm1 : (n1 : Int) ≤ 9223372036854775807 := by have := h1.le; have := h1.max; simp only [maxLen] at this; omega
 have hm2 : (n2 : Int) ≤ 9223372036854775807 := by have := h2.le; have := h2.max; simp only [maxLen] at this; omega
 by_cases hnn : n1 = n2
 case neg =>
  have HV : Hid (decide (S = T) = false) := lid (decide_eq_false (fun e => hnn (by rw [← h1.len, ← h2.len, e])))
  have d0 : ((n1 : Int) == (n2 : Int)) = false := by simp; omega
  have d1 : ((n1 : Int) != (n2 : Int)) = true := by simp; omega
  clear h1 h2 hnn
  go_enter Tryz.func66, Tryz.ntmps66
  go_wp2_with fail
  go_ret
  exact ⟨ret_bool HV.out.symm, Below.refl _ _⟩
 subst hnn
 have HN1 := lid h1.len
 have HN2 := lid h2.len
 have HS1 := lid h1.sl
 have HS2 := lid h2.sl
 clear h1 h2
 go_enter Tryz.func66, Tryz.ntmps66
 go_wp2_with fail
 go_loopw [5, 13] (fun _ i wr => ∃ k : Nat, k ≤ n1 ∧ i = .int .i64 k ∧ Hid (S.take k = T.take k) ∧ Below w.heap.size w wr) (fun _ i _ => n1 - (intOf i).toNat)
 case atStart => exact ⟨0, Nat.zero_le _, rfl, lid rfl, Below.refl _ _⟩
 case round =>
  obtain ⟨k, hk, rfl, HT, hb⟩ := hrel
  by_cases hlt : k < n1
  ·have hk1 : k < S.length := by rw [HN1.out]; exact hlt
   have hk2 : k < T.length := by rw [HN2.out]; exact hlt
   obtain ⟨b1, o1, rfl, hlb1, hcell⟩ := (HS1.out.below hb).at_ hlt
   have x0 := hcell k _ (svals_at hk1)
   obtain ⟨b2, o2, rfl, hlb2, hcell2⟩ := (HS2.out.below hb).at_ hlt
   have y0 := hcell2 k _ (svals_at hk2)
   have HNE : Hid (¬ S[k] = T[k] → decide (S = T) = false) := lid (fun e => decide_eq_false (ne_at hk1 hk2 e))
   have HEQ : Hid (S[k] = T[k] → S.take (k + 1) = T.take (k + 1)) := lid (fun e => take_eq_succ hk1 hk2 HT.out e)
   obtain ⟨x, hx⟩ : ∃ x, S[k] = x := ⟨_, rfl⟩
   obtain ⟨y, hy⟩ : ∃ y, T[k] = y := ⟨_, rfl⟩
   rw [hx] at x0 HNE HEQ
   rw [hy] at y0 HNE HEQ
   have dk : decide ((k : Int) < (n1 : Int)) = true := by simp; omega
   clear hcell hcell2 hx hy
   by_cases he : x = y
   ·have HV := lid (HEQ.out he)
    have d := str_eq he
    clear he HEQ HNE
    go_wp2_with fail
    refine qd (fun w' => ∃ s : Since wr.heap.size wr, w' = s.world) [(0, true), (1, true), (2, true), (3, true), (4, true), (5, true), (6, true), (7, true), (8, true)] ?_
    repeat (first | (refine qk ?_; simp only [Act.put, q1, q2, q3]) | (refine qf ?_; intro K hK; go_big_quiet_op; go_big_quiet_on))
    refine seq_nil ?_
    go_wp2_with fail
    go_roundw
    case rel => exact ⟨k + 1, by omega, by go_num, HV, hb.drew⟩
    case measure => simp [intOf]; omega
   ·have HV := lid (HNE.out he)
    have d := str_ne he
    clear he HEQ HNE
    go_wp2_with fail
    refine qd (fun w' => ∃ s : Since wr.heap.size wr, w' = s.world) [(0, true), (1, true), (2, true), (3, true), (4, true), (5, true), (6, true), (7, true), (8, true)] ?_
    repeat (first | (refine qk ?_; simp only [Act.put, q1, q2, q3]) | (refine qf ?_; intro K hK; go_big_quiet_op; go_big_quiet_on))
    refine seq_nil ?_
    go_wp2_with fail
    go_ret
    exact ⟨ret_bool HV.out.symm, hb.drew⟩
  ·obtain rfl : k = n1 := by omega
   have HV : Hid (decide (S = T) = true) := lid (decide_eq_true (by have := HT.out; rwa [List.take_of_length_le (Nat.le_of_eq HN1.out), List.take_of_length_le (Nat.le_of_eq HN2.out)] at this))
   have dk : decide ((k : Int) < (k : Int)) = false := by simp
   go_wp2_with fail
   go_ret
   exact ⟨ret_bool HV.out.symm, hb⟩
end Go.Proofs.YtgcceepadlmelaaGreatDoor
namespace Go.Proofs.YtgcceepadlmelaaGreatDoor
set_option maxRecDepth 100000
set_option maxHeartbeats 8000000
open Go.RowKit
def headB (a b : Dw) : Bool := (a.kind == b.kind) && ((a.pub == b.pub) && (a.doubt == b.doubt))
theorem equalHead_any (a b : Dw) (w : World) : Calls Tryz.prog 65 #[.agg (dca a), .agg (dca b)] w fun r w' => r = .returned (.bool (headB a b)) ∧ Below w.heap.size w w' := by
 have HB := lid ((ba w (.cells (dca a) 65)).trans ((ba (w.alloc (.cells (dca a) 65)) (.cells (dca b) 65)).mono (by simp)))
 cases u1 : (a.kind == b.kind) with
 | false =>
  have HV : Hid (headB a b = false) := lid (by unfold headB; rw [u1]; rfl)
  go_enter Tryz.func65, Tryz.ntmps65
  go_wp2_with fail
  go_ret
  exact ⟨retb HV.out.symm, HB.out⟩
 | true =>
  cases u2 : (a.pub == b.pub) with
  | false =>
   have HV : Hid (headB a b = false) := lid (by unfold headB; rw [u1, u2]; rfl)
   go_enter Tryz.func65, Tryz.ntmps65
   go_wp2_with fail
   go_ret
   exact ⟨retb HV.out.symm, HB.out⟩
  | true =>
   obtain ⟨c, hc⟩ : ∃ c, (a.doubt == b.doubt) = c := ⟨_, rfl⟩
   have HV : Hid (headB a b = c) := lid (by unfold headB; rw [u1, u2, hc]; rfl)
   go_enter Tryz.func65, Tryz.ntmps65
   go_wp2_with fail
   go_ret
   exact ⟨retb HV.out.symm, HB.out⟩
theorem dx_iff (a b : Dw) : a.x = b.x ↔ a.id = b.id ∧ headB a b = true ∧ a.names = b.names ∧ a.body.x = b.body.x := by
 unfold Dw.x headB
 simp only [Dx.mk.injEq, Bool.and_eq_true, beq_iff_eq]
 constructor
 ·rintro ⟨h1, h2, h3, h4, h5, h6⟩
  exact ⟨h1, ⟨h2, h3, h5⟩, h4, h6⟩
 ·rintro ⟨h1, ⟨h2, h3, h5⟩, h4, h6⟩
  exact ⟨h1, h2, h3, h4, h5, h6⟩
theorem equalDecl_any (a b : Dw) (w : World) (ha : DwA w a) (hb : DwA w b) (hc : cntE a.body ≤ 1000) : Calls Tryz.prog 39 #[.agg (dca a), .agg (dca b)] w fun r w' => r = .returned (.bool (pB (a.x = b.x))) ∧ Below w.heap.size w w' := by
 obtain ⟨W1, hW1⟩ : ∃ y, (w.alloc (.cells (dca a) 65)).alloc (.cells (dca b) 65) = y := ⟨_, rfl⟩
 have hb1 : Below w.heap.size w W1 := by rw [← hW1]; exact (ba _ _).alloc (by simp) _
 have hA1 : W1.heap[w.heap.size]? = some (.cells (dca a) 65 (0, 0)) := by rw [← hW1]; exact (h_old (by simp) _).trans (h_new rfl _)
 have hR1 : W1.heap[w.heap.size + 1]? = some (.cells (dca b) 65 (0, 0)) := by rw [← hW1]; exact h_new (by simp) _
 have HDA1 := lid (ha.below hb1)
 have HDB1 := lid (hb.below hb1)
 have HW1 := lid hW1
 have HB1 := lid hb1
 have HA1 := lid hA1
 have HR1 := lid hR1
 have CH := lid (equalHead_any a b W1)
 clear ha hb hW1 hb1 hA1 hR1
 by_cases hi : a.id = b.id
 case neg =>
  have d : (a.id == b.id) = false := beq_false_of_ne hi
  have HV : Hid (pB (a.x = b.x) = false) := lid (pB_f (fun h => hi ((dx_iff a b).1 h).1))
  clear hi
  go_enter Tryz.func39, Tryz.ntmps39
  go_wp2_with fail
  rw [HW1.out]
  go_ret
  exact ⟨retb HV.out.symm, HB1.out⟩
 have d : (a.id == b.id) = true := by simp [hi]
 have HI := lid hi
 clear hi
 go_enter Tryz.func39, Tryz.ntmps39
 go_wp2_with fail
 rw [HW1.out]
 (with_reducible refine (CH.out).mono ?_); rintro e w2 ⟨rfl, hb2⟩
 have HB2 := lid (HB1.out.trans (hb2.mono HB1.out.size))
 have HA2 := lid ((hb2.block _ (row_lt HA1.out)).trans HA1.out)
 have HR2 := lid ((hb2.block _ (row_lt HR1.out)).trans HR1.out)
 have HDA2 := lid (HDA1.out.below hb2)
 have HDB2 := lid (HDB1.out.below hb2)
 clear hb2 CH
 cases uh : headB a b with
 | false =>
  have HV : Hid (pB (a.x = b.x) = false) := lid (pB_f (fun h => by have := ((dx_iff a b).1 h).2.1; rw [uh] at this; cases this))
  go_wp2_with fail
  go_ret
  exact ⟨retb HV.out.symm, HB2.out⟩
 | true =>
  have HUH := lid uh
  have a3 : w2.cell? ⟨w.heap.size, 3, none⟩ = some (.slice a.na a.names.length a.ncap) := row_cell HA2.out 3
  have b3 : w2.cell? ⟨w.heap.size + 1, 3, none⟩ = some (.slice b.na b.names.length b.ncap) := row_cell HR2.out 3
  have la := row_lt HA2.out
  have lb := row_lt HR2.out
  have CE := lid (EqualS_any a.names b.names a.names.length a.ncap b.names.length b.ncap a.na b.na w2 HDA2.out.names HDB2.out.names)
  clear uh
  go_wp2_with fail
  (with_reducible refine (CE.out).mono ?_); rintro e w3 ⟨rfl, hb3⟩
  have HB3 := lid (HB2.out.trans (hb3.mono HB2.out.size))
  have HA3 := lid ((hb3.block _ la).trans HA2.out)
  have HR3 := lid ((hb3.block _ lb).trans HR2.out)
  have HDA3 := lid (HDA2.out.below hb3)
  have HDB3 := lid (HDB2.out.below hb3)
  clear hb3 CE a3 b3 la lb
  by_cases hn : a.names = b.names
  case neg =>
   have HV : Hid (pB (a.x = b.x) = false) := lid (pB_f (fun h => hn ((dx_iff a b).1 h).2.2.1))
   rw [decide_eq_false hn]
   clear hn
   go_wp2_with fail
   go_ret
   exact ⟨retb HV.out.symm, HB3.out⟩
  rw [decide_eq_true hn]
  have HN := lid hn
  clear hn
  have a5 : w3.cell? ⟨w.heap.size, 5, none⟩ = some (.int .i64 a.body.kind) := row_cell HA3.out 5
  have a6 : w3.cell? ⟨w.heap.size, 6, none⟩ = some (.string a.body.name) := row_cell HA3.out 6
  have a7 : w3.cell? ⟨w.heap.size, 7, none⟩ = some (.string a.body.more) := row_cell HA3.out 7
  have a8 : w3.cell? ⟨w.heap.size, 8, none⟩ = some (.int .i64 a.body.int) := row_cell HA3.out 8
  have a9 : w3.cell? ⟨w.heap.size, 9, none⟩ = some (.int .i64 a.body.den) := row_cell HA3.out 9
  have a10 : w3.cell? ⟨w.heap.size, 10, none⟩ = some (.slice a.body.ao a.body.sub.length a.body.cap) := row_cell HA3.out 10
  have b5 : w3.cell? ⟨w.heap.size + 1, 5, none⟩ = some (.int .i64 b.body.kind) := row_cell HR3.out 5
  have b6 : w3.cell? ⟨w.heap.size + 1, 6, none⟩ = some (.string b.body.name) := row_cell HR3.out 6
  have b7 : w3.cell? ⟨w.heap.size + 1, 7, none⟩ = some (.string b.body.more) := row_cell HR3.out 7
  have b8 : w3.cell? ⟨w.heap.size + 1, 8, none⟩ = some (.int .i64 b.body.int) := row_cell HR3.out 8
  have b9 : w3.cell? ⟨w.heap.size + 1, 9, none⟩ = some (.int .i64 b.body.den) := row_cell HR3.out 9
  have b10 : w3.cell? ⟨w.heap.size + 1, 10, none⟩ = some (.slice b.body.ao b.body.sub.length b.body.cap) := row_cell HR3.out 10
  have la := row_lt HA3.out
  have lb := row_lt HR3.out
  have CX := lid (equalExpr_any a.body b.body w3 HDA3.out.body HDB3.out.body hc)
  go_wp2_with fail
  (with_reducible refine (CX.out).mono ?_); rintro e w4 ⟨rfl, hb4⟩
  have HB4 := lid (HB3.out.trans (hb4.mono HB3.out.size))
  have HV : Hid (pB (a.x = b.x) = pB (a.body.x = b.body.x)) := lid (by
   rw [Bool.eq_iff_iff, pB_iff, pB_iff, dx_iff]
   exact ⟨fun h => h.2.2.2, fun h => ⟨HI.out, HUH.out, HN.out, h⟩⟩)
  obtain ⟨q, hq⟩ : ∃ q, pB (a.body.x = b.body.x) = q := ⟨_, rfl⟩
  rw [hq] at HV ⊢
  clear hb4 hq
  go_wp2_with fail
  go_ret
  exact ⟨retb HV.out.symm, HB4.out⟩
def zEw : Ew := .mk 0 ⟨#[]⟩ ⟨#[]⟩ 0 0 none 0 []
theorem zEw_EA {w : World} : EA w zEw := .mk Sl.nil (Nat.le_refl _) (Nat.zero_le _) (Nat.zero_le _) (Nat.zero_le _) (show I64 0 from ⟨by decide, by decide⟩) (show I64 0 from ⟨by decide, by decide⟩) (show I64 0 from ⟨by decide, by decide⟩) (fun _ h => by cases h) (fun _ => rfl)
theorem SA.empty {w : World} : SA w none 0 0 [] := ⟨rfl, Sl.nil, Nat.le_refl _, Nat.zero_le _, fun _ h => (by cases h), fun _ => rfl⟩
def menW (k : Int) (d : Dw) : Dw := if k = 7 then ⟨d.id, 0, false, d.na, d.names, d.ncap, false, zEw⟩ else if k = 8 then ⟨d.id, 0, false, none, [], 0, false, d.body⟩ else if k = 9 then ⟨d.id, d.kind, d.pub, none, [], 0, d.doubt, zEw⟩ else d
theorem menW_A {w : World} {k : Int} {d : Dw} (h : DwA w d) : DwA w (menW k d) := by
 unfold menW
 split
 ·exact ⟨h.id, show I64 0 from ⟨by decide, by decide⟩, h.names, zEw_EA⟩
 ·split
  ·exact ⟨h.id, show I64 0 from ⟨by decide, by decide⟩, SA.empty, h.body⟩
  ·split
   ·exact ⟨h.id, h.kind, SA.empty, zEw_EA⟩
   ·exact h
theorem menW_cnt {k : Int} {d : Dw} (h : cntE d.body ≤ 1000) : cntE (menW k d).body ≤ 1000 := by
 have hz : cntE zEw ≤ 1000 := by simp [zEw, cntE, cntL]
 unfold menW
 split
 ·exact hz
 ·split
  ·exact h
  ·split
   ·exact hz
   ·exact h
theorem res_decl {fn : Func} (hf : fn.results = #[.cell 4 65]) (t : Array Value) (w : World) (k : Nat) (m : Dw) (h : t.getD 4 undef = .pointer (some ⟨k, 0, none⟩)) (e : w.heap[k]? = some (.cells (dca m) 65 (0, 0))) : (results fn t).run Tryz.prog w = .ok (.agg (dca m)) w := by
 have e0 : w.cell? ⟨k, 0, none⟩ = some (.int .i64 m.id) := row_cell e 0
 have e1 : w.cell? ⟨k, 1, none⟩ = some (.int .i64 m.kind) := row_cell e 1
 have e2 : w.cell? ⟨k, 2, none⟩ = some (.bool m.pub) := row_cell e 2
 have e3 : w.cell? ⟨k, 3, none⟩ = some (.slice m.na m.names.length m.ncap) := row_cell e 3
 have e4 : w.cell? ⟨k, 4, none⟩ = some (.bool m.doubt) := row_cell e 4
 have e5 : w.cell? ⟨k, 5, none⟩ = some (.int .i64 m.body.kind) := row_cell e 5
 have e6 : w.cell? ⟨k, 6, none⟩ = some (.string m.body.name) := row_cell e 6
 have e7 : w.cell? ⟨k, 7, none⟩ = some (.string m.body.more) := row_cell e 7
 have e8 : w.cell? ⟨k, 8, none⟩ = some (.int .i64 m.body.int) := row_cell e 8
 have e9 : w.cell? ⟨k, 9, none⟩ = some (.int .i64 m.body.den) := row_cell e 9
 have e10 : w.cell? ⟨k, 10, none⟩ = some (.slice m.body.ao m.body.sub.length m.body.cap) := row_cell e 10
 rw [Array.getD_eq_getD_getElem?] at h
 unfold results
 rw [hf]
 simp [go_sem, h, asAddr, e0, e1, e2, e3, e4, e5, e6, e7, e8, e9, e10]
theorem mentioned_any (k : Int) (d : Dw) (w : World) : Calls Tryz.prog 38 #[.int .i64 k, .agg (dca d)] w fun r w' => r = .returned (.agg (dca (menW k d))) ∧ Below w.heap.size w w' := by
 have fin : ∀ m : Dw, Hid (((w.alloc (.cells (dca d) 65)).alloc (.cells (dca m) 65)).heap[w.heap.size + 1]? = some (.cells (dca m) 65 (0, 0)) ∧ Below w.heap.size w ((w.alloc (.cells (dca d) 65)).alloc (.cells (dca m) 65))) := fun m => lid ⟨h_new (by simp) _, (ba _ _).alloc (by simp) _⟩
 by_cases h7 : k = 7
 ·subst h7
  have HM : Hid (menW 7 d = ⟨d.id, 0, false, d.na, d.names, d.ncap, false, zEw⟩) := lid rfl
  go_enter Tryz.func38, Tryz.ntmps38
  go_wp2_with fail
  exact bodyPost_ret (res_decl rfl _ _ (w.heap.size + 1) ⟨d.id, 0, false, d.na, d.names, d.ncap, false, zEw⟩ rfl (fin ⟨d.id, 0, false, d.na, d.names, d.ncap, false, zEw⟩).out.1) rfl ⟨by rw [HM.out], (fin ⟨d.id, 0, false, d.na, d.names, d.ncap, false, zEw⟩).out.2⟩
 by_cases h8 : k = 8
 ·subst h8
  have HM : Hid (menW 8 d = ⟨d.id, 0, false, none, [], 0, false, d.body⟩) := lid rfl
  go_enter Tryz.func38, Tryz.ntmps38
  go_wp2_with fail
  exact bodyPost_ret (res_decl rfl _ _ (w.heap.size + 1) ⟨d.id, 0, false, none, [], 0, false, d.body⟩ rfl (fin ⟨d.id, 0, false, none, [], 0, false, d.body⟩).out.1) rfl ⟨by rw [HM.out], (fin ⟨d.id, 0, false, none, [], 0, false, d.body⟩).out.2⟩
 by_cases h9 : k = 9
 ·subst h9
  have HM : Hid (menW 9 d = ⟨d.id, d.kind, d.pub, none, [], 0, d.doubt, zEw⟩) := lid rfl
  go_enter Tryz.func38, Tryz.ntmps38
  go_wp2_with fail
  exact bodyPost_ret (res_decl rfl _ _ (w.heap.size + 1) ⟨d.id, d.kind, d.pub, none, [], 0, d.doubt, zEw⟩ rfl (fin ⟨d.id, d.kind, d.pub, none, [], 0, d.doubt, zEw⟩).out.1) rfl ⟨by rw [HM.out], (fin ⟨d.id, d.kind, d.pub, none, [], 0, d.doubt, zEw⟩).out.2⟩
 have HM : Hid (menW k d = d) := lid (by unfold menW; rw [if_neg h7, if_neg h8, if_neg h9])
 have d7 : (k == 7) = false := beq_false_of_ne h7
 have d8 : (k == 8) = false := beq_false_of_ne h8
 have d9 : (k == 9) = false := beq_false_of_ne h9
 clear h7 h8 h9
 go_enter Tryz.func38, Tryz.ntmps38
 go_wp2_with fail
 exact bodyPost_ret (res_decl rfl _ _ (w.heap.size + 1) d rfl (fin d).out.1) rfl ⟨by rw [HM.out], (fin d).out.2⟩
end Go.Proofs.YtgcceepadlmelaaGreatDoor
namespace Go.Proofs.YtgcceepadlmelaaGreatDoor
open Go.Shelf
def sortA_ren : Go.Shelf.Ren := ⟨fun | 6 => 122 | 8 => 135 | 9 => 134 | 19 => 147 | 20 => 148 | 21 => 139 | 22 => 140 | 23 => 141 | 24 => 142 | 25 => 143 | 26 => 144 | 27 => 69 | 28 => 145 | 29 => 146 | 36 => 153 | 31 => 154 | 32 => 155 | 37 => 156 | 38 => 157 | 39 => 92 | 41 => 160 | n => n, fun | 27 => 42 | 29 => 9 | 3 => 3 | 32 => 109 | 26 => 42 | 0 => 0 | 44 => 174 | 46 => 176 | 4 => 4 | 36 => 168 | 35 => 167 | 41 => 86 | 5 => 5 | 9 => 9 | 53 => 181 | 57 => 185 | 63 => 189 | 64 => 190 | n => n, fun | n => n⟩
theorem sortA : Go.Proofs.SlLaysM.n6 Tryz.prog sortA_ren := {
 mixed := by kernel_rfl
 f6 := ⟨Tryz.f122.name, by decide, Tryz.func122.trans (congrArg some (by kernel_rfl))⟩
 f8 := Tryz.func135.trans (congrArg some (by kernel_rfl))
 f9 := ⟨Tryz.f134.name, by decide, Tryz.func134.trans (congrArg some (by kernel_rfl))⟩
 f19 := Tryz.func147.trans (congrArg some (by kernel_rfl))
 f20 := Tryz.func148.trans (congrArg some (by kernel_rfl))
 f21 := ⟨Tryz.f139.name, by decide, Tryz.func139.trans (congrArg some (by kernel_rfl))⟩
 f22 := ⟨Tryz.f140.name, by decide, Tryz.func140.trans (congrArg some (by kernel_rfl))⟩
 f23 := ⟨Tryz.f141.name, by decide, Tryz.func141.trans (congrArg some (by kernel_rfl))⟩
 f24 := ⟨Tryz.f142.name, by decide, Tryz.func142.trans (congrArg some (by kernel_rfl))⟩
 f25 := ⟨Tryz.f143.name, by decide, Tryz.func143.trans (congrArg some (by kernel_rfl))⟩
 f26 := ⟨Tryz.f144.name, by decide, Tryz.func144.trans (congrArg some (by kernel_rfl))⟩
 f27 := ⟨Tryz.f69.name, by decide, Tryz.func69.trans (congrArg some (by kernel_rfl))⟩
 f28 := ⟨Tryz.f145.name, by decide, Tryz.func145.trans (congrArg some (by kernel_rfl))⟩
 f29 := ⟨Tryz.f146.name, by decide, Tryz.func146.trans (congrArg some (by kernel_rfl))⟩
 f31 := Tryz.func154.trans (congrArg some (by kernel_rfl))
 f32 := Tryz.func155.trans (congrArg some (by kernel_rfl))
 f36 := ⟨Tryz.f153.name, by decide, Tryz.func153.trans (congrArg some (by kernel_rfl))⟩
 f37 := ⟨Tryz.f156.name, by decide, Tryz.func156.trans (congrArg some (by kernel_rfl))⟩
 f38 := ⟨Tryz.f157.name, by decide, Tryz.func157.trans (congrArg some (by kernel_rfl))⟩
 f39 := ⟨Tryz.f92.name, by decide, Tryz.func92.trans (congrArg some (by kernel_rfl))⟩
 f41 := ⟨Tryz.f160.name, by decide, Tryz.func160.trans (congrArg some (by kernel_rfl))⟩
 t0 := Tryz.underlying0
 a0 := Tryz.isAgg0
 z0 := Tryz.sizeOf0
 v0 := Tryz.zeroValue0
 t3 := Tryz.underlying3
 a3 := Tryz.isAgg3
 z3 := Tryz.sizeOf3
 v3 := Tryz.zeroValue3
 t4 := Tryz.underlying4
 a4 := Tryz.isAgg4
 z4 := Tryz.sizeOf4
 v4 := Tryz.zeroValue4
 t5 := Tryz.underlying5
 a5 := Tryz.isAgg5
 z5 := Tryz.sizeOf5
 v5 := Tryz.zeroValue5
 t9 := Tryz.underlying9
 a9 := Tryz.isAgg9
 z9 := Tryz.sizeOf9
 v9 := Tryz.zeroValue9
 t26 := Tryz.underlying42
 a26 := Tryz.isAgg42
 z26 := Tryz.sizeOf42
 v26 := Tryz.zeroValue42
 t27 := Tryz.underlying42
 a27 := Tryz.isAgg42
 z27 := Tryz.sizeOf42
 v27 := Tryz.zeroValue42
 t29 := Tryz.underlying9
 a29 := Tryz.isAgg9
 z29 := Tryz.sizeOf9
 v29 := Tryz.zeroValue9
 t32 := Tryz.underlying109
 a32 := Tryz.isAgg109
 z32 := Tryz.sizeOf109
 v32 := Tryz.zeroValue109
 t35 := Tryz.underlying167
 a35 := Tryz.isAgg167
 z35 := Tryz.sizeOf167
 v35 := Tryz.zeroValue167
 t36 := Tryz.underlying168
 a36 := Tryz.isAgg168
 z36 := Tryz.sizeOf168
 v36 := Tryz.zeroValue168
 t41 := Tryz.underlying86
 a41 := Tryz.isAgg86
 z41 := Tryz.sizeOf86
 v41 := Tryz.zeroValue86
 t44 := Tryz.underlying174
 a44 := Tryz.isAgg174
 z44 := Tryz.sizeOf174
 v44 := Tryz.zeroValue174
 t46 := Tryz.underlying176
 a46 := Tryz.isAgg176
 z46 := Tryz.sizeOf176
 v46 := Tryz.zeroValue176
 t53 := Tryz.underlying181
 a53 := Tryz.isAgg181
 z53 := Tryz.sizeOf181
 v53 := Tryz.zeroValue181
 t57 := Tryz.underlying185
 a57 := Tryz.isAgg185
 z57 := Tryz.sizeOf185
 v57 := Tryz.zeroValue185
 t63 := Tryz.underlying189
 a63 := Tryz.isAgg189
 z63 := Tryz.sizeOf189
 v63 := Tryz.zeroValue189
 t64 := Tryz.underlying190
 a64 := Tryz.isAgg190
 z64 := Tryz.sizeOf190
 v64 := Tryz.zeroValue190 }
end Go.Proofs.YtgcceepadlmelaaGreatDoor
namespace Go.Proofs.YtgcceepadlmelaaGreatDoor
open Go.RowKit Go.Shelf Go.Sort
theorem below_sort {base g n : Nat} {w : World} {os : Array Obj} (d : Array (List UInt8)) (hb : base ≤ g) (hz : base ≤ w.heap.size) : Below base w (grow (putRow encStr (Sort.ahead w n) g 0 d) os) := by
 refine ⟨rfl, rfl, rfl, by simp, fun k hk => ?_⟩
 rw [heap_grow_old _ _ (by simpa using (show k < w.heap.size by omega))]
 have : g ≠ k := by omega
 simp [putRow, mapBlock, Sort.ahead, Array.getElem?_modify, this]
theorem SortS_any (base n cap : Nat) (ao : Option Addr) (l : List ByteArray) (w : World) (h : w.ownsRow base 9 1 (.slice ao n cap) n (svals l)) (hn : n ≤ 100000) (hb : base ≤ w.heap.size) :
  Calls Tryz.prog 122 #[.slice ao n cap] w fun e w' => e = .returned (.tuple #[]) ∧ Below base w w' := by
 cases n with
 | zero =>
  refine (AnyM.slices_Sort_string_none sortA ao cap w).mono ?_
  rintro e w' ⟨rfl, rfl⟩
  exact ⟨rfl, Below.refl _ _⟩
 | succ n =>
  obtain ⟨g, c, e1⟩ := ownsRow_succ h
  injection e1 with e1 _ e2
  subst e1 e2
  obtain ⟨cur, h1, h2, h3, h4, h5, h6⟩ := own_formK h
  have hl : l.length = n + 1 := by have := h.1; rw [svals_length] at this; omega
  have hH : Holds encStr w g 0 (l.map fun s => s.data.toList).toArray := by
   intro j hj
   have hj' : j < l.length := by simpa using hj
   refine ⟨?_, row_fz h2 _⟩
   have := own_cellK h j (u := .string l[j]) (by rw [svals_at hj'])
   rw [Nat.zero_add, this]
   simp [encStr, hj']
  have := AnyM.slices_Sort_string sortA g 0 cap (l.map fun s => s.data.toList) w hH (row_lt h2) (by rw [List.length_map, hl]; omega)
  rw [List.length_map, hl] at this
  refine this.mono ?_
  rintro e w' ⟨rfl, q, os, rfl⟩
  exact ⟨rfl, below_sort _ h1 hb⟩
end Go.Proofs.YtgcceepadlmelaaGreatDoor
