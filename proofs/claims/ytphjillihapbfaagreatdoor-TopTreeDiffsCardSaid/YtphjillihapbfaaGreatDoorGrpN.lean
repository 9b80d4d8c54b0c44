/-
  RdDig QDig AppSl ObjLinks ObjAwake ObjGreat DgSl ObjSame.
-/
import Derived.Test.YtphjillihapbfaaGreatDoorGrpI
import Derived.Test.YtphjillihapbfaaGreatDoorGrpH
import Derived.Laws.OwnMore
import Derived.Laws.AppendOwnNone
import Derived.Test.YtphjillihapbfaaGreatDoorSl
import Derived.Test.YtphjillihapbfaaGreatDoorGrpA
import Derived.Test.YtphjillihapbfaaGreatDoorGrpD
import Derived.Test.YtphjillihapbfaaGreatDoorGrpB
namespace Go.Proofs.YtphjillihapbfaaGreatDoor
open Go.RowKit

theorem Kp.drew {b : Nat} {w w' : World} (h : Kp b w w') : Kp b w w'.drew := ⟨h.1.drew, h.2⟩
theorem beN_take {l : List UInt8} {k : Nat} (h : k < l.length) : beN (l.take (k + 1)) = beN (l.take k) * 256 + (l[k]).toNat := by
  rw [List.take_succ_eq_append_getElem h, beN_snoc]
abbrev d2cells (x y : Nat) : Array Value := #[.int .u64 x, .int .u64 y]
/-- A digest in block D that is being read. -/
def Db (D x y : Nat) (w : World) : Prop := w.heap[D]? = some (.cells (d2cells x y) 31 (0, 0))

theorem Db.set0 {D x y : Nat} {w : World} (h : Db D x y w) (z : Nat) : Db D z y (w.setCell ⟨D, 0, none⟩ (.int .u64 z)) := heap_setCell_same w D 0 _ _ _ h
theorem Db.set1 {D x y : Nat} {w : World} (h : Db D x y w) (z : Nat) : Db D x z (w.setCell ⟨D, 1, none⟩ (.int .u64 z)) := heap_setCell_same w D 1 _ _ _ h
theorem wraps_u64' (n : Int) (h₀ : 0 ≤ n) (h₁ : n < 2 ^ 64) : IntKind.u64.wrap n = n := by rw [IntKind.wrap_u64]; omega
theorem shl_wrap {x : Nat} (hx : x < 256 ^ 7) : IntKind.u64.wrap ((x : Int) * 256) = (x : Int) * 256 := wraps_u64' _ (by omega) (by omega)
theorem shl_or {x c : Nat} (hx : x < 256 ^ 7) (hc : c < 256) : bits .or .u64 ((x : Int) * 256) (c : Int) = ((x * 256 + c : Nat) : Int) := by
  rw [bits_join .u64 64 (by decide) wraps_u64' 8 _ _ (by omega) (by omega) (by omega) (by omega) (by omega) (by omega)]
  omega
theorem beN_lo {l : List UInt8} {k : Nat} (hk : k < 8) (hl : k < l.length) : beN (l.take (min (k + 1) 8)) = beN (l.take (min k 8)) * 256 + (l[k]).toNat := by
  rw [Nat.min_eq_left (by omega), Nat.min_eq_left (by omega), beN_take hl]
theorem beN_lo' (l : List UInt8) {k : Nat} (hk : k < 8) : beN ((l.drop 8).take (k + 1 - 8)) = beN ((l.drop 8).take (k - 8)) := by
  rw [show k + 1 - 8 = 0 by omega, show k - 8 = 0 by omega]
theorem beN_hi {l : List UInt8} {k : Nat} (hk : ¬ k < 8) (hl : k < l.length) : beN ((l.drop 8).take (k + 1 - 8)) = beN ((l.drop 8).take (k - 8)) * 256 + (l[k]).toNat := by
  rw [show k + 1 - 8 = (k - 8) + 1 by omega, beN_take (by rw [List.length_drop]; omega), List.getElem_drop]
  simp only [show 8 + (k - 8) = k by omega]
theorem beN_hi' (l : List UInt8) {k : Nat} (hk : ¬ k < 8) : beN (l.take (min (k + 1) 8)) = beN (l.take (min k 8)) := by
  rw [Nat.min_eq_right (by omega), Nat.min_eq_right (by omega)]

set_option maxRecDepth 100000 in
set_option maxHeartbeats 4000000 in
theorem rDigest_any (b : Nat) (s : Rd) (w : World) (h : Rb 160 b s w) (hl : s.1.length ≤ maxLen) :
    Calls Tryz.prog 115 #[.pointer (some ⟨b, 0, none⟩)] w fun e w' => e = .returned (dv (rDig s).1) ∧ Rb 160 b (rDig s).2 w' ∧ Kp b w w' := by
  obtain ⟨l, bad⟩ := s
  have hl' : l.length ≤ 9223372036854775807 := hl
  have hS : (bstr l).size = l.length := rfl
  have hlt_b := h.lt
  obtain ⟨w2, hw2⟩ : ∃ w2, (w.alloc (.cells #[.int .u64 0, .int .u64 0] 31)).alloc (.cells #[.int .u64 0, .int .u64 0] 31) = w2 := ⟨_, rfl⟩
  have hb2 : Below w.heap.size w w2 := by rw [← hw2]; exact ((Below.refl _ _).alloc (Nat.le_refl _) _).alloc (by simp) _
  have H2 := lid (h.below hb2)
  have H := lid h
  have z2 : w2.heap.size = w.heap.size + 2 := by rw [← hw2]; simp
  have E2 : w2.heap[w.heap.size]? = some (.cells #[.int .u64 0, .int .u64 0] 31 (0, 0)) := by rw [← hw2]; exact (Below.heap_alloc _ _ _ (by simp)).trans (heap_alloc_new _ _)
  have D2 : Db (w.heap.size + 1) 0 0 w2 := by rw [← hw2]; unfold Db; have := heap_alloc_new (w.alloc (.cells #[.int .u64 0, .int .u64 0] 31)) (.cells #[.int .u64 0, .int .u64 0] 31); rw [World.size_alloc] at this; exact this
  have HW := lid hw2
  clear hw2 h
  have c0 := H2.out.c0
  have c1 := H2.out.c1
  have f1 := H2.out.fz 1
  rw [← HW.out] at c0 c1 f1
  by_cases h16 : l.length < 16
  · have HV : Hid (rDig (l, bad) = ((0, 0), (l, true))) := lid (by unfold rDig; rw [if_pos h16])
    have t1 : decide ((l.length : Int) < 16) = true := by simp; omega
    clear hl'
    go_enter Tryz.func115, Tryz.ntmps115
    go_wp2_with fail
    refine bodyPost_ret (v := dv (0, 0)) (by simp [results, Tryz.results115, go_sem]) rfl ⟨by rw [HV.out], ?_, ?_⟩
    · rw [HV.out]
      exact ((H.out.set1 true).below (((Below.refl _ _).alloc (Nat.le_refl _) _).alloc (by simp) _))
    · exact ((Kp.refl b w).setCell 1 _).trans (Kp.of_below (by simp; omega) (((Below.refl _ _).alloc (Nat.le_refl _) _).alloc (by simp) _))
  · have HV : Hid (rDig (l, bad) = (digOf l, (l.drop 16, bad))) := lid (by unfold rDig; rw [if_neg h16])
    have t1 : decide ((l.length : Int) < 16) = false := by simp; omega
    go_enter Tryz.func115, Tryz.ntmps115
    go_wp2_with fail
    rw [HW.out]
    clear HW c0 c1 f1
    have K2 : Hid (Kp b w w2) := lid (Kp.of_below (by omega) hb2)
    go_loopw [4, 15] (fun _ i wr => ∃ k : Nat, k ≤ 16 ∧ i = .int .i64 k ∧ Hid (Db (w.heap.size + 1) (beN (l.take (min k 8))) (beN ((l.drop 8).take (k - 8))) wr) ∧ Hid (Kp (w.heap.size + 1) w2 wr)) (fun _ i _ => 16 - (intOf i).toNat)
    case atStart => exact ⟨0, by omega, rfl, lid (by simpa [beN] using D2), lid (Kp.refl _ _)⟩
    case round =>
      obtain ⟨k, hk, rfl, HD, HK⟩ := hrel
      have HR : Hid (Rb 160 b (l, bad) wr) := lid ((HK.out.2 b (by omega) (by omega)).trans H2.out)
      have hbl := HR.out.lt
      have c0 := HR.out.c0
      have hDl : w.heap.size + 1 < wr.heap.size := (Array.getElem?_eq_some_iff.1 HD.out).1
      by_cases hlt : k < 16
      · have hkl : k < l.length := by omega
        obtain ⟨c, hc⟩ : ∃ c, l[k] = c := ⟨_, rfl⟩
        obtain ⟨x, hx⟩ : ∃ x, beN (l.take (min k 8)) = x := ⟨_, rfl⟩
        obtain ⟨y, hy⟩ : ∃ x, beN ((l.drop 8).take (k - 8)) = x := ⟨_, rfl⟩
        rw [hx, hy] at HD
        have d0 : wr.cell? ⟨w.heap.size + 1, 0, none⟩ = some (.int .u64 x) := by rw [Lib.cell_of_heap HD.out]; rfl
        have d1 : wr.cell? ⟨w.heap.size + 1, 1, none⟩ = some (.int .u64 y) := by rw [Lib.cell_of_heap HD.out]; rfl
        have e0 : wr.frozen? ⟨w.heap.size + 1, 0, none⟩ = false := Lib.frozen_of_heap HD.out 0
        have e1 : wr.frozen? ⟨w.heap.size + 1, 1, none⟩ = false := Lib.frozen_of_heap HD.out 1
        have hbc : (bstr l)[k]'(by simpa using hkl) = c := by rw [← hc]; rfl
        by_cases h8 : k < 8
        · have k0 : k / 8 = 0 := by omega
          have k0' : (k : Int) / 8 = 0 := by omega
          have HX1 := lid (beN_lo (l := l) h8 hkl)
          have HX2 := lid (beN_lo' l h8)
          have hv : x < 256 ^ 7 := by rw [← hx]; exact beN_lt 7 _ (by rw [List.length_take]; omega)
          have hcw : IntKind.u64.wrap (c.toNat : Int) = (c.toNat : Int) := wraps_u64' _ (by omega) (by have := c.toNat_lt; omega)
          have hxw := shl_wrap hv
          have hob := shl_or hv c.toNat_lt
          rw [hc, hx] at HX1
          rw [hy] at HX2
          clear hv hx hy
          go_wp2_with fail
          refine wp_region_seqL 16 (fun w' => ∃ s : Since wr.heap.size wr, w' = s.world) [(0, true), (1, true), (2, true), (3, true), (4, true), (5, true), (6, true), (7, true), (8, true), (9, true), (10, true), (11, true), (12, true), (13, false), (14, true), (15, true), (16, false)] (by kernel_rfl) (by kernel_rfl) (by intro c d v a w h; first | (cases d <;> exact h) | cases h.1) (since (Below.refl _ _).drew) ?_
          repeat (first | (refine seqL_skip (by rfl) (by rfl) (by rfl) ?_; simp only [Act.put, List.setIfInBounds_toArray, List.set_cons_succ, List.set_cons_zero]) | (refine seqL_float (by rfl) (by rfl) (by rfl) (by rfl) ?_; intro K hK; go_big_quiet_op; go_big_quiet_on))
          refine seqL_chain (by rfl) ?_
          intro K hK
          go_wp2_with fail
          go_wp2_with fail
          refine hK.out _ _ (since (Below.refl _ _).drew) ?_
          clear hK K
          repeat (first | (refine seqL_skip (by rfl) (by rfl) (by rfl) ?_; simp only [Act.put, List.setIfInBounds_toArray, List.set_cons_succ, List.set_cons_zero]) | (refine seqL_float (by rfl) (by rfl) (by rfl) (by rfl) ?_; intro K hK; go_big_quiet_op; go_big_quiet_on))
          refine seqL_last (by rfl) (by rfl) ?_
          intro K hK
          go_wp2_with fail
          refine hK.out _ _ ?_
          clear hK K
          go_wp2_with fail
          go_roundw
          case rel => exact ⟨k + 1, by omega, by go_num, lid (by rw [HX1.out, HX2.out]; exact HD.out.set0 _), lid (HK.out.setCell 0 _).drew⟩
          case measure => simp [intOf]; omega
        · have k0 : k / 8 = 1 := by omega
          have k0' : (k : Int) / 8 = 1 := by omega
          have HX1 := lid (beN_hi (l := l) h8 hkl)
          have HX2 := lid (beN_hi' l h8)
          have hv : y < 256 ^ 7 := by rw [← hy]; exact beN_lt 7 _ (by rw [List.length_take]; omega)
          have hcw : IntKind.u64.wrap (c.toNat : Int) = (c.toNat : Int) := wraps_u64' _ (by omega) (by have := c.toNat_lt; omega)
          have hxw := shl_wrap hv
          have hob := shl_or hv c.toNat_lt
          rw [hc, hy] at HX1
          rw [hx] at HX2
          clear hv hx hy
          go_wp2_with fail
          refine wp_region_seqL 16 (fun w' => ∃ s : Since wr.heap.size wr, w' = s.world) [(0, true), (1, true), (2, true), (3, true), (4, true), (5, true), (6, true), (7, true), (8, true), (9, true), (10, true), (11, true), (12, true), (13, false), (14, true), (15, true), (16, false)] (by kernel_rfl) (by kernel_rfl) (by intro c d v a w h; first | (cases d <;> exact h) | cases h.1) (since (Below.refl _ _).drew) ?_
          repeat (first | (refine seqL_skip (by rfl) (by rfl) (by rfl) ?_; simp only [Act.put, List.setIfInBounds_toArray, List.set_cons_succ, List.set_cons_zero]) | (refine seqL_float (by rfl) (by rfl) (by rfl) (by rfl) ?_; intro K hK; go_big_quiet_op; go_big_quiet_on))
          refine seqL_chain (by rfl) ?_
          intro K hK
          go_wp2_with fail
          go_wp2_with fail
          refine hK.out _ _ (since (Below.refl _ _).drew) ?_
          clear hK K
          repeat (first | (refine seqL_skip (by rfl) (by rfl) (by rfl) ?_; simp only [Act.put, List.setIfInBounds_toArray, List.set_cons_succ, List.set_cons_zero]) | (refine seqL_float (by rfl) (by rfl) (by rfl) (by rfl) ?_; intro K hK; go_big_quiet_op; go_big_quiet_on))
          refine seqL_last (by rfl) (by rfl) ?_
          intro K hK
          go_wp2_with fail
          refine hK.out _ _ ?_
          clear hK K
          go_wp2_with fail
          go_roundw
          case rel => exact ⟨k + 1, by omega, by go_num, lid (by rw [HX1.out, HX2.out]; exact HD.out.set1 _), lid (HK.out.setCell 1 _).drew⟩
          case measure => simp [intOf]; omega
      · obtain rfl : k = 16 := by omega
        have HD' : Hid (Db (w.heap.size + 1) (digOf l).1.toNat (digOf l).2.toNat wr) := lid (by
          have h1 := beN_lt 8 (l.take 8) (by rw [List.length_take]; omega)
          have h2 := beN_lt 8 ((l.drop 8).take 8) (by rw [List.length_take]; omega)
          have e1 : (digOf l).1.toNat = beN (l.take 8) := by simp only [digOf]; rw [UInt64.toNat_ofNat', Nat.mod_eq_of_lt (by omega)]
          have e2 : (digOf l).2.toNat = beN ((l.drop 8).take 8) := by simp only [digOf]; rw [UInt64.toNat_ofNat', Nat.mod_eq_of_lt (by omega)]
          rw [e1, e2]
          exact HD.out)
        clear HD
        obtain ⟨d, hd⟩ : ∃ d, digOf l = d := ⟨_, rfl⟩
        rw [hd] at HD' HV
        have HB := lid (bstr_drop l 16)
        obtain ⟨w3, hw3⟩ : ∃ w3, wr.setCell ⟨b, 0, none⟩ (.string ((bstr l).extract 16 l.length)) = w3 := ⟨_, rfl⟩
        have hbD : w.heap.size + 1 ≠ b := by omega
        have hbE : w.heap.size ≠ b := by omega
        have D3 : w3.heap[w.heap.size + 1]? = some (.cells (d2cells d.1.toNat d.2.toNat) 31 (0, 0)) := by rw [← hw3]; exact (Below.heap_setCell _ _ _ _ hbD).trans HD'.out
        have E3 : w3.heap[w.heap.size]? = some (.cells #[.int .u64 0, .int .u64 0] 31 (0, 0)) := by rw [← hw3]; exact ((Below.heap_setCell _ _ _ _ hbE).trans (HK.out.2 w.heap.size (by omega) (by omega))).trans E2
        have R3 : Hid (Rb 160 b (l.drop 16, bad) w3) := lid (by rw [← hw3, ← HB.out]; exact HR.out.set0 _)
        have g0 := HR.out.fz 0
        have d0 : w3.cell? ⟨w.heap.size + 1, 0, none⟩ = some (.int .u64 d.1.toNat) := by rw [Lib.cell_of_heap D3]; rfl
        have d1 : w3.cell? ⟨w.heap.size + 1, 1, none⟩ = some (.int .u64 d.2.toNat) := by rw [Lib.cell_of_heap D3]; rfl
        have e0 : w3.cell? ⟨w.heap.size, 0, none⟩ = some (.int .u64 0) := by rw [Lib.cell_of_heap E3]; rfl
        have e1 : w3.cell? ⟨w.heap.size, 1, none⟩ = some (.int .u64 0) := by rw [Lib.cell_of_heap E3]; rfl
        have f0 : w3.frozen? ⟨w.heap.size, 0, none⟩ = false := Lib.frozen_of_heap E3 0
        have f1 : w3.frozen? ⟨w.heap.size, 1, none⟩ = false := Lib.frozen_of_heap E3 1
        have z3 : w.heap.size + 1 < w3.heap.size := (Array.getElem?_eq_some_iff.1 D3).1
        have K3 : Hid (Kp b w w3) := lid (by
          rw [← hw3]
          refine Kp.setCell ⟨?_, fun j hj hb => (HK.out.2 j (by omega) (by omega)).trans (K2.out.2 j hj hb)⟩ 0 _
          exact K2.out.1.trans (HK.out.1.mono (by omega)))
        clear D3 E3 HD' HK hd HB
        go_wp2_with fail
        refine bodyPost_ret (v := dv d) (by
          obtain ⟨z0, z1⟩ := two_set (.int .u64 d.1.toNat) (.int .u64 d.2.toNat) e0 e1
          simp [results, Tryz.results115, go_sem, z0, z1]) rfl ⟨by rw [HV.out], ?_, ?_⟩
        · rw [HV.out]
          exact ((Below.heap_setCell _ _ _ _ hbE.symm).trans ((Below.heap_setCell _ _ _ _ hbE.symm).trans R3.out))
        · refine ⟨(K3.out.1.setCell (p := ⟨w.heap.size, 0, none⟩) (Nat.le_of_lt hlt_b) _).setCell (p := ⟨w.heap.size, 1, none⟩) (Nat.le_of_lt hlt_b) _, fun j hj hb => ?_⟩
          exact (Below.heap_setCell _ _ _ _ (by simp; omega)).trans ((Below.heap_setCell _ _ _ _ (by simp; omega)).trans (K3.out.2 j hj hb))
end Go.Proofs.YtphjillihapbfaaGreatDoor

namespace Go.Proofs.YtphjillihapbfaaGreatDoor
open Go.RowKit

theorem mul_wrap {x : Nat} (hx : x < 256 ^ 7) : IntKind.u64.wrap (256 * (x : Int)) = 256 * (x : Int) := wraps_u64' _ (by omega) (by omega)
theorem mul_add_wrap {x c : Nat} (hx : x < 256 ^ 7) (hc : c < 256) : IntKind.u64.wrap ((x : Int) * 256 + (c : Int)) = (x : Int) * 256 + (c : Int) := wraps_u64' _ (by omega) (by omega)
end Go.Proofs.YtphjillihapbfaaGreatDoor

namespace Go.Proofs.YtphjillihapbfaaGreatDoor
open Go.RowKit

/-- 'append(out, xs..)', xs what a slice value reads as. -/
theorem wpList_append_slg {P : Program} {ops : Array Oper} {rest : List Oper} {o : Oper} {a : Act} {Q : Exit → Act → World → Prop} {w : World} (hgd : o.guard = none) (s x : Operand) (t : TypeId)
    (ho : o.op = .call { callee := .builtin .append, args := #[s, x], argTypes := #[t, t] })
    (base : Nat) (e : TypeId) (z : Value) (size bytes : Nat) (hinfo : (P.info? e).map (fun i => (i.zero, i.size, i.bytes)) = some (some z, size, bytes)) (ht : P.underlying t = some (.slice e)) (hzs : z.cells.size = size) (hsz : 0 < size)
    (v : Value) (n : Nat) (xs : List Value) (hown : w.ownsRow base e size v n xs) (hs : a.eval s = v)
    (ao : Option Addr) (m c : Nat) (us : List Value) (hx : a.eval x = .slice ao m c) (hsl : Sl w size ao m us) (hz : ao = none → c = 0) (h1 : ∀ u ∈ us, u.oneCell' = true)
    (h63 : n + m ≤ maxLen) (hbytes : (n + m) * bytes ≤ 140737488355328) (hbase : base ≤ w.heap.size)
    (h : ∀ v' w', w'.ownsRow base e size v' (n + m) (xs ++ us) → Below base w w' → w.grownBy w' v.ownBlock → wpList P ops Q rest (a.put o.dst v') w') : wpList P ops Q (o :: rest) a w := by
  obtain ⟨i, hi, hz0, hz1, hz2⟩ := info_parts hinfo
  cases ao with
  | none =>
    obtain rfl := hz rfl
    obtain rfl : m = 0 := by
      rcases hsl.2 with h0 | ⟨b, o, e', _⟩
      · exact h0
      · cases e'
    obtain rfl : us = [] := List.eq_nil_of_length_eq_zero (by rw [hsl.1]; simp)
    refine wpList_append_own_none hgd s x t ho base e i size ht hi v n xs hs hown hx ?_
    exact h v w (by simpa using hown) (Below.refl _ _) ⟨rfl, rfl, rfl, Nat.le_refl _, fun _ _ _ => rfl⟩
  | some ad =>
    refine wpList_append_own _ hgd s x t ho base e i z size bytes ht hi hz0 hz1 hz2 hzs hsz v n xs hs hown ad m c us hx hsl.1 ?_ h1 h63 hbytes hbase ?_
    · intro j u hu
      rcases hsl.2 with h0 | ⟨b, o', e', hlt, hc⟩
      · have := hsl.1
        rw [h0, Nat.zero_mul] at this
        rw [List.eq_nil_of_length_eq_zero this] at hu
        simp at hu
      · cases e'
        rw [Addr.add_lit]
        exact hc j u hu
    · intro v' w' hown' hg hn
      exact h v' w' hown' ((Below.refl _ _).grown hg hbase (fun k hk => ownsRow_row hown k hk)) hg

theorem wpList_append_sl {P : Program} {ops : Array Oper} {rest : List Oper} {o : Oper} {a : Act} {Q : Exit → Act → World → Prop} {w : World} (hgd : o.guard = none) (s x : Operand) (t : TypeId)
    (ho : o.op = .call { callee := .builtin .append, args := #[s, x], argTypes := #[t, t] })
    (base : Nat) (e : TypeId) (z : Value) (size bytes : Nat) (hinfo : (P.info? e).map (fun i => (i.zero, i.size, i.bytes)) = some (some z, size, bytes)) (ht : P.underlying t = some (.slice e)) (hzs : z.cells.size = size) (hsz : 0 < size)
    (v : Value) (n : Nat) (xs : List Value) (hown : w.ownsRow base e size v n xs) (hs : a.eval s = v)
    (ao : Option Addr) (m c : Nat) (us : List Value) (hx : a.eval x = .slice ao m c) (hsl : Sl w size ao m us) (hz : ao = none → c = 0) (h1 : ∀ u ∈ us, u.oneCell' = true)
    (h63 : n + m ≤ maxLen) (hbytes : (n + m) * bytes ≤ 140737488355328) (hbase : base ≤ w.heap.size)
    (h : ∀ v' w', w'.ownsRow base e size v' (n + m) (xs ++ us) → Below base w w' → wpList P ops Q rest (a.put o.dst v') w') : wpList P ops Q (o :: rest) a w := by
  exact wpList_append_slg hgd s x t ho base e z size bytes hinfo ht hzs hsz v n xs hown hs ao m c us hx hsl hz h1 h63 hbytes hbase fun v' w' p q _ => h v' w' p q
end Go.Proofs.YtphjillihapbfaaGreatDoor

namespace Go.Proofs.YtphjillihapbfaaGreatDoor
open Go.RowKit

theorem info_dgo : (Tryz.prog.info? 31).map (fun i => (i.zero, i.size, i.bytes)) = some (some (.agg #[.int .u64 0, .int .u64 0]), 2, 16) := by kernel_rfl
theorem dcells_one (l : List Dg) : ∀ u ∈ dcells l, u.oneCell' = true := by
  intro u hu
  simp only [dcells, List.mem_flatMap] at hu
  obtain ⟨r, _, hu⟩ := hu
  simp only [List.mem_cons, List.not_mem_nil, or_false] at hu
  rcases hu with rfl | rfl <;> rfl
theorem dsl_sl {w : World} {ao : Option Addr} {l : List Dg} {n : Nat} (h : DSl w ao l) (hn : l.length = n) : Sl w 2 ao n (dcells l) := by
  refine ⟨by rw [dcells_length, hn], ?_⟩
  rcases h with h | ⟨b, off, e, hlt, hc⟩
  · exact .inl (by omega)
  · refine .inr ⟨b, off, e, hlt, fun j u hu => ?_⟩
    have hj : j < l.length * 2 := by
      have := (List.getElem?_eq_some_iff.1 hu).1
      rwa [dcells_length] at this
    have hk : j / 2 < l.length := by omega
    obtain ⟨c0, c1⟩ := hc.at hk
    have e0 : ∀ (l : List Dg) (i : Nat) (h : i < l.length), (dcells l)[i * 2]? = some (.int .u64 (l[i]).1.toNat) ∧ (dcells l)[i * 2 + 1]? = some (.int .u64 (l[i]).2.toNat) := by
      intro l
      induction l with
      | nil => intro i h; simp at h
      | cons d l ih =>
        intro i h
        cases i with
        | zero => simp [dcells]
        | succ i =>
          have := ih i (by simpa using h)
          rw [show (i + 1) * 2 = i * 2 + 2 by omega, show i * 2 + 2 + 1 = i * 2 + 1 + 2 by omega]
          simpa [dcells] using this
    obtain ⟨d0, d1⟩ := e0 l _ hk
    rcases (by omega : j % 2 = 0 ∨ j % 2 = 1) with h | h
    · rw [show j = j / 2 * 2 by omega] at hu ⊢
      rw [d0] at hu
      rw [c0, hu]
    · rw [show j = j / 2 * 2 + 1 by omega] at hu ⊢
      rw [d1] at hu
      rw [← Nat.add_assoc, c1, hu]
/-- The digests that the entries name. -/
def entD (o : Ob) (k : Nat) : List Dg := (o.ents.take k).map (·.2.2)
def linksL (o : Ob) : List Dg := if checkO o = 0 then entD o o.ents.length ++ (if o.kind = 3 then o.tree :: o.pars else []) else []
theorem entD_succ {o : Ob} {k : Nat} (h : k < o.ents.length) : entD o (k + 1) = entD o k ++ [(o.ents[k]).2.2] := by
  unfold entD
  rw [List.take_succ_eq_append_getElem h, List.map_append]
  rfl
theorem entD_zero (o : Ob) : entD o 0 = [] := rfl
theorem dcells_snoc (l : List Dg) (d : Dg) : dcells (l ++ [d]) = dcells l ++ #[Value.int .u64 d.1.toNat, .int .u64 d.2.toNat].toList := by rw [dcells_append]; rfl
/-- A list of digests as result. -/
def RetL (x : List Dg) (w : World) (e : Ending) (w' : World) : Prop :=
  ∃ ao' n' cap', e = .returned (.slice ao' n' cap') ∧ x.length = n' ∧ n' ≤ cap' ∧ Sl w' 2 ao' n' (dcells x) ∧ Below w.heap.size w w'
theorem RetL.own {x y : List Dg} {w w' : World} {base n : Nat} {v : Value} (h : w'.ownsRow base 31 2 v n (dcells y)) (hx : y = x) (hn : x.length = n) (hb : Below w.heap.size w w') : RetL x w (.returned v) w' := by
  subst hx
  obtain ⟨ao, cap, rfl, h1, _, h3⟩ := Sl.of_own h
  exact ⟨ao, n, cap, rfl, hn, h1, h3, hb⟩
theorem RetL.none {x : List Dg} (w : World) {w' : World} (hx : [] = x) (hb : Below w.heap.size w w') : RetL x w (.returned (.slice none 0 0)) w' := by
  subst hx
  exact ⟨_, _, _, rfl, rfl, Nat.le_refl _, Sl.nil, hb⟩
theorem checkO_noents {o : Ob} (h : checkO o = 0) (hk : o.kind ≠ 2) : o.ents = [] := by
  have hk' := checkO_kind h
  unfold checkO at h
  have key : hasE o = false := by
    cases hE : hasE o with
    | false => rfl
    | true =>
      exfalso
      rcases hk' with k | k | k | k
      · rw [if_pos (.inl k)] at h; simp [hE] at h
      · exact hk k
      · rw [if_neg (by omega), if_neg (by omega), if_pos k] at h; simp [hE] at h
      · rw [if_pos (.inr k)] at h; simp [hE] at h
  unfold hasE at key
  have := of_decide_eq_false key
  exact List.eq_nil_of_length_eq_zero (by omega)
theorem checkO_nopars {o : Ob} (h : checkO o = 0) (hk : o.kind ≠ 3) : o.pars = [] := by
  have hk' := checkO_kind h
  unfold checkO at h
  have key : hasC o = false := by
    cases hC : hasC o with
    | false => rfl
    | true =>
      exfalso
      rcases hk' with k | k | k | k
      · rw [if_pos (.inl k)] at h; simp [hC] at h
      · rw [if_neg (by omega), if_pos k] at h; simp [hC] at h
      · exact hk k
      · rw [if_pos (.inr k)] at h; simp [hC] at h
  unfold hasC at key
  simp only [Bool.or_eq_false_iff] at key
  have := of_decide_eq_false key.2.1
  exact List.eq_nil_of_length_eq_zero (by omega)
theorem checkO_ne {o : Ob} (h : checkO o = 0) : o.ents.length ≤ 200 := by
  by_cases hk : o.kind = 2
  · exact (checkO_ents h hk).1
  · rw [checkO_noents h hk]; simp
theorem checkO_np {o : Ob} (h : checkO o = 0) : o.pars.length ≤ 8 := by
  by_cases hk : o.kind = 3
  · exact (checkO_comm h hk).1
  · rw [checkO_nopars h hk]; simp
end Go.Proofs.YtphjillihapbfaaGreatDoor

namespace Go.Proofs.YtphjillihapbfaaGreatDoor
open Go.RowKit

def exBlob : Ob := ⟨1, ⟨#[104, 105]⟩, [], (0, 0), [], ⟨#[]⟩, 0, ⟨#[]⟩⟩
def exTree : Ob := ⟨2, ⟨#[]⟩, [], (0, 0), [], ⟨#[]⟩, 0, ⟨#[]⟩⟩
theorem exBlob_check : checkO exBlob = 0 := by decide
theorem exTree_check : checkO exTree = 0 := by decide
theorem putN_one : putN 1 = [1] := putN_lo (by omega)
theorem putN_two : putN 2 = [2] := putN_lo (by omega)
theorem putN_nought : putN 0 = [0] := putN_lo (by omega)
theorem exBlob_enc : bstr (encT exBlob) = ⟨#[1, 2, 104, 105]⟩ := by
  unfold encT encL
  rw [if_pos exBlob_check, if_neg (by decide), if_neg (by decide)]
  have h1 : putI exBlob.kind = [1] := by show (if putB 1 then putN 1 else []) = _; rw [putN_one]; rfl
  have h2 : putX exBlob.data.data.toList = [2, 104, 105] := by show (if 2 ≤ 65536 then putN 2 ++ [104, 105] else []) = _; rw [putN_two]; rfl
  rw [h1, h2]
  rfl
theorem exTree_enc : bstr (encT exTree) = ⟨#[2, 0]⟩ := by
  unfold encT encL entsL
  rw [if_pos exTree_check, if_pos (by decide)]
  have h1 : putI exTree.kind = [2] := by show (if putB 2 then putN 2 else []) = _; rw [putN_two]; rfl
  have h2 : putI (exTree.ents.length : Nat) = [0] := by show (if putB 0 then putN 0 else []) = _; rw [putN_nought]; rfl
  rw [h1, h2]
  rfl
theorem exObjA {o : Ob} (w : World) (h1 : o.ents = []) (h2 : o.pars = []) (h3 : o.data.size ≤ 2) (h4 : o.auth.size = 0) (h5 : o.msg.size = 0) : ObjA w none 0 none 0 o :=
  ⟨by rw [h1]; rfl, by rw [h1]; exact Sl.nil, by simp [maxLen], (by rw [h1]; intro e he; cases he), by rw [h2]; rfl, by rw [h2]; exact .inl rfl, by simp [maxLen], by simp [maxLen]; omega, by simp [maxLen]; omega, by simp [maxLen]; omega⟩

def smallB (o : Ob) : Bool := decide (o.data.size ≤ 200) && (decide (o.ents.length ≤ 12) && (decide (o.pars.length ≤ 12) && (decide (o.auth.size ≤ 50) && (decide (o.msg.size ≤ 250) && o.ents.all fun e => decide (e.1.size ≤ 50)))))
def Small (o : Ob) : Prop := o.data.size ≤ 200 ∧ o.ents.length ≤ 12 ∧ o.pars.length ≤ 12 ∧ o.auth.size ≤ 50 ∧ o.msg.size ≤ 250 ∧ ∀ e ∈ o.ents, e.1.size ≤ 50
theorem small_of {o : Ob} (h : smallB o = true) : Small o := by
  unfold smallB at h
  simp only [Bool.and_eq_true, decide_eq_true_eq, List.all_eq_true] at h
  exact h
theorem smallB_no {o : Ob} (h : ¬ (o.data.size ≤ 200 ∧ o.ents.length ≤ 12 ∧ o.pars.length ≤ 12 ∧ o.auth.size ≤ 50 ∧ o.msg.size ≤ 250)) : smallB o = false := by
  cases hb : smallB o with
  | false => rfl
  | true => obtain ⟨h1, h2, h3, h4, h5, _⟩ := small_of hb; exact absurd ⟨h1, h2, h3, h4, h5⟩ h
theorem smallB_name {o : Ob} {e : Ent} (he : e ∈ o.ents) (h : ¬ e.1.size ≤ 50) : smallB o = false := by
  cases hb : smallB o with
  | false => rfl
  | true => obtain ⟨_, _, _, _, _, h6⟩ := small_of hb; exact absurd (h6 e he) h
theorem smallB_yes {o : Ob} (h : o.data.size ≤ 200 ∧ o.ents.length ≤ 12 ∧ o.pars.length ≤ 12 ∧ o.auth.size ≤ 50 ∧ o.msg.size ≤ 250) (ha : ∀ e ∈ o.ents, e.1.size ≤ 50) : smallB o = true := by
  obtain ⟨h1, h2, h3, h4, h5⟩ := h
  unfold smallB
  simp only [Bool.and_eq_true, decide_eq_true_eq, List.all_eq_true]
  exact ⟨h1, h2, h3, h4, h5, ha⟩
end Go.Proofs.YtphjillihapbfaaGreatDoor

namespace Go.Proofs.YtphjillihapbfaaGreatDoor
open Go.RowKit

end Go.Proofs.YtphjillihapbfaaGreatDoor

namespace Go.Proofs.YtphjillihapbfaaGreatDoor
open Go.RowKit
theorem dcells_at {l : List Dg} {j : Nat} (h : j < l.length) : (dcells l)[j * 2]? = some (.int .u64 (l[j]).1.toNat) ∧ (dcells l)[j * 2 + 1]? = some (.int .u64 (l[j]).2.toNat) := by
  induction l generalizing j with
  | nil => simp at h
  | cons d l ih =>
    cases j with
    | zero => simp [dcells]
    | succ j =>
      have := ih (j := j) (by simpa using h)
      rw [show (j + 1) * 2 = j * 2 + 2 by omega]
      simpa [dcells] using this
theorem dg_beq (a b : Dg) : (((a.1.toNat : Int) == (b.1.toNat : Int)) && ((a.2.toNat : Int) == (b.2.toNat : Int))) = decide (a = b) := by
  rw [Bool.eq_iff_iff]
  simp only [Bool.and_eq_true, beq_iff_eq, decide_eq_true_eq, Prod.ext_iff]
  rw [← UInt64.toNat_inj, ← UInt64.toNat_inj]
  omega
end Go.Proofs.YtphjillihapbfaaGreatDoor

namespace Go.Proofs.YtphjillihapbfaaGreatDoor
open Go.RowKit

deriving instance DecidableEq for Ob
theorem str_list_eq (a b : ByteArray) : (a.toList = b.toList) = (a = b) := by
  have := str_beq a b
  rw [Bool.eq_iff_iff] at this
  simpa using this
theorem u64_int_eq (a b : UInt64) : ((a.toNat : Int) = (b.toNat : Int)) = (a = b) := by
  apply propext
  rw [← UInt64.toNat_inj]
  omega
abbrev ev (r : Ent) : Value := .agg #[.string r.1, .bool r.2.1, .int .u64 r.2.2.1.toNat, .int .u64 r.2.2.2.toNat]
set_option maxRecDepth 100000 in
theorem quiet_neq_ent {C : World → Prop} {K : Act → Prop} {a : Act} {o : Oper} (r q : Ent) (v : Bool) (x y : Operand) (h : o.op = .binOp .neq 83 x y 83)
    (hx : a.eval x = ev r) (hy : a.eval y = ev q) (hv : (!decide (r = q)) = v) (hk : K (a.put o.dst (.bool v))) : o.quiet Tryz.prog a C K := by
  refine ⟨.bool v, fun w _ => ?_, hk⟩
  subst hv
  unfold Oper.quietAt execOp
  rw [h]
  simp only [hx, hy]
  simp [go_sem]
  obtain ⟨s1, b1, x1, y1⟩ := r
  obtain ⟨s2, b2, x2, y2⟩ := q
  have ex := u64_int_eq x1 x2
  have ey := u64_int_eq y1 y2
  simp only [Prod.mk.injEq, str_list_eq, ex, ey]
  by_cases h1 : s1 = s2
  · by_cases h2 : b1 = b2
    · by_cases h3 : x1 = x2
      · by_cases h4 : y1 = y2
        · subst h1 h2 h3 h4; simp
        · simp [h1, h2, h3, h4]
      · simp [h1, h2, h3]
    · simp [h1, h2]
  · simp [h1]
set_option maxRecDepth 100000 in
theorem quiet_neq_dg {C : World → Prop} {K : Act → Prop} {a : Act} {o : Oper} (r q : Dg) (v : Bool) (x y : Operand) (h : o.op = .binOp .neq 31 x y 31)
    (hx : a.eval x = dv r) (hy : a.eval y = dv q) (hv : (!decide (r = q)) = v) (hk : K (a.put o.dst (.bool v))) : o.quiet Tryz.prog a C K := by
  refine ⟨.bool v, fun w _ => ?_, hk⟩
  subst hv
  unfold Oper.quietAt execOp
  rw [h]
  simp only [hx, hy]
  simp [go_sem]
  obtain ⟨x1, y1⟩ := r
  obtain ⟨x2, y2⟩ := q
  have ex := u64_int_eq x1 x2
  have ey := u64_int_eq y1 y2
  simp only [Prod.mk.injEq]
  by_cases h3 : x1 = x2
  · by_cases h4 : y1 = y2
    · subst h3 h4; simp
    · have ny : ¬ (y1.toNat : Int) = (y2.toNat : Int) := by rw [ey]; exact h4
      simp [h3, h4, ny]
  · have nx : ¬ (x1.toNat : Int) = (x2.toNat : Int) := by rw [ex]; exact h3
    simp [h3, nx]

end Go.Proofs.YtphjillihapbfaaGreatDoor
