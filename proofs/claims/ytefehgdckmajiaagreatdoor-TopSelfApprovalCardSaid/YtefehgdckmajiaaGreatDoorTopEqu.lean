/-
  slices.EqualFunc of equal groups; slices.IndexFunc of files by a path.
-/
import Derived.Test.YtefehgdckmajiaaGreatDoorTopPlain
namespace Go.Proofs.YtefehgdckmajiaaGreatDoor
open Go.RowKit

set_option maxRecDepth 100000 in
set_option maxHeartbeats 4000000 in
theorem EqualS_same (g : List ByteArray) (n c1 c2 : Nat) (a1 a2 : Option Addr) (w : World) (hn : g.length = n) (h1 : Sl w 1 a1 n (svals g)) (h2 : Sl w 1 a2 n (svals g)) (k1 : n ≤ c1) (k2 : n ≤ c2) (hm : n ≤ 1000000) :
    Calls Tryz.prog 11 #[.slice a1 n c1, .slice a2 n c2] w fun e w' => e = .returned (.bool true) ∧ Below w.heap.size w w' := by
  have HN := lid hn
  have H1 := lid h1
  have H2 := lid h2
  have hn9 : n ≤ 9223372036854775807 := by omega
  have dn : ((n : Int) != (n : Int)) = false := by simp
  clear hn h1 h2
  go_enter Tryz.func11, Tryz.ntmps11
  go_wp2_with fail
  go_loopw [13] (fun u13 wr => ∃ k : Nat, k ≤ n ∧ u13 = .int .i64 k ∧ Below w.heap.size w wr) (fun u13 _ => n - (intOf u13).toNat)
  case atStart => exact ⟨0, Nat.zero_le _, rfl, Below.refl _ _⟩
  case round =>
    obtain ⟨k, hk, rfl, hb⟩ := hrel
    by_cases hlt : k < n
    · have hkg : k < g.length := by rw [HN.out]; exact hlt
      obtain ⟨b1, o1, rfl, hlb1, hc1⟩ := (H1.out.below hb).at_ hlt
      obtain ⟨b2, o2, rfl, hlb2, hc2⟩ := (H2.out.below hb).at_ hlt
      have x0 := hc1 k _ (svals_at hkg)
      have y0 := hc2 k _ (svals_at hkg)
      have dk : decide ((k : Int) < (n : Int)) = true := by simp; omega
      obtain ⟨s, hs⟩ : ∃ s, g[k] = s := ⟨_, rfl⟩
      rw [hs] at x0 y0
      have u : (s.toList == s.toList) = true := by simp
      have hbd := hb.drew
      clear hc1 hc2 hs
      go_wp2_with fail
      refine wp_region_seq (fun w' => ∃ s : Since wr.heap.size wr, w' = s.world) [(0, true), (1, true), (2, true), (3, true), (4, true), (5, true), (6, true), (7, true), (8, true)] (by kernel_rfl) (by kernel_rfl) (by intro c d v a w h; first | (cases d <;> exact h) | cases h.1) (since (Below.refl _ _).drew) ?_
      repeat (first | (refine seq_skip (by rfl) (by rfl) ?_; simp only [Act.put, List.setIfInBounds_toArray, List.set_cons_succ, List.set_cons_zero]) | (refine seq_float (by rfl) (by rfl) (by rfl) ?_; intro K hK; go_big_quiet_op; go_big_quiet_on))
      refine seq_nil ?_
      go_wp2_with fail
      go_roundw
      case rel => exact ⟨k + 1, by omega, by go_num, hbd⟩
      case measure => simp [intOf]; omega
    · obtain rfl : k = n := by omega
      have dk : decide ((k : Int) < (k : Int)) = false := by simp
      go_wp2_with fail
      go_ret
      exact ⟨rfl, hb⟩
set_option maxRecDepth 100000 in
set_option maxHeartbeats 4000000 in
theorem EqualF_same (c d : Nat → Prop) (gs : List (List ByteArray)) (v1 v2 : SV) (w : World) (h1 : GS c w v1 gs) (h2 : GS d w v2 gs) (hm : gs.length ≤ 10000000) (hs : ∀ g ∈ gs, g.length ≤ 1000000) :
    Calls Tryz.prog 10 #[slv v1, slv v2, .func (.func 11) #[] #[]] w fun e w' => e = .returned (.bool true) ∧ Below w.heap.size w w' := by
  obtain ⟨a1, n1, c1⟩ := v1
  obtain ⟨a2, n2, c2⟩ := v2
  obtain ⟨⟨vs1, hsl1, hgl1⟩, hn1⟩ := h1
  obtain ⟨⟨vs2, hsl2, hgl2⟩, hn2⟩ := h2
  have hn1 : gs.length = n1 := hn1
  have hn2 : gs.length = n2 := hn2
  obtain rfl : n1 = n2 := by rw [← hn1, hn2]
  have HN := lid hn1
  have H1 : Hid (Sl w 1 a1 n1 (vs1.map slv)) := lid hsl1.sl
  have H2 : Hid (Sl w 1 a2 n1 (vs2.map slv)) := lid hsl2.sl
  have G1 := lid hgl1
  have G2 := lid hgl2
  have k1 : n1 ≤ c1 := hsl1.le
  have k2 : n1 ≤ c2 := hsl2.le
  have HS := lid hs
  have hn9 : n1 ≤ 9223372036854775807 := by omega
  have dn : ((n1 : Int) != (n1 : Int)) = false := by simp
  clear hsl1 hgl1 hn1 hsl2 hgl2 hn2 hs
  show Calls Tryz.prog 10 #[.slice a1 n1 c1, .slice a2 n1 c2, .func (.func 11) #[] #[]] w _
  go_enter Tryz.func10, Tryz.ntmps10
  go_wp2_with fail
  go_loopw [17] (fun u17 wr => ∃ k : Nat, k ≤ n1 ∧ u17 = .int .i64 k ∧ Below w.heap.size w wr) (fun u17 _ => n1 - (intOf u17).toNat)
  case atStart => exact ⟨0, Nat.zero_le _, rfl, Below.refl _ _⟩
  case round =>
    obtain ⟨k, hk, rfl, hb⟩ := hrel
    by_cases hlt : k < n1
    · have hkg : k < gs.length := by rw [HN.out]; exact hlt
      have hk1 : k < vs1.length := by rw [G1.out.1]; exact hkg
      have hk2 : k < vs2.length := by rw [G2.out.1]; exact hkg
      obtain ⟨b1, o1, rfl, hlb1, hc1⟩ := (H1.out.below hb).at_ hlt
      obtain ⟨b2, o2, rfl, hlb2, hc2⟩ := (H2.out.below hb).at_ hlt
      have x0 := hc1 k (slv vs1[k]) (by rw [List.getElem?_map, List.getElem?_eq_getElem hk1]; rfl)
      have y0 := hc2 k (slv vs2[k]) (by rw [List.getElem?_map, List.getElem?_eq_getElem hk2]; rfl)
      have g1 := G1.out.2 k _ _ (List.getElem?_eq_getElem hk1) (List.getElem?_eq_getElem hkg)
      have g2 := G2.out.2 k _ _ (List.getElem?_eq_getElem hk2) (List.getElem?_eq_getElem hkg)
      have hgs := HS.out _ (List.getElem_mem hkg)
      have dk : decide ((k : Int) < (n1 : Int)) = true := by simp; omega
      obtain ⟨g, hg⟩ : ∃ g, gs[k] = g := ⟨_, rfl⟩
      obtain ⟨⟨p1, q1, r1⟩, hv1⟩ : ∃ v, vs1[k] = v := ⟨_, rfl⟩
      obtain ⟨⟨p2, q2, r2⟩, hv2⟩ : ∃ v, vs2[k] = v := ⟨_, rfl⟩
      rw [hg] at g1 g2 hgs
      rw [hv1] at x0 g1
      rw [hv2] at y0 g2
      have e1 : g.length = q1 := g1.len
      have e2 : g.length = q2 := g2.len
      obtain rfl : q1 = q2 := by rw [← e1, e2]
      have CE := lid (EqualS_same g q1 r1 r2 p1 p2 wr e1 (g1.r.sl.below hb) (g2.r.sl.below hb) g1.r.le g2.r.le (by omega))
      replace x0 : wr.cell? ⟨b1, o1 + k, none⟩ = some (Value.slice p1 q1 r1) := x0
      replace y0 : wr.cell? ⟨b2, o2 + k, none⟩ = some (Value.slice p2 q1 r2) := y0
      clear hc1 hc2 g1 g2 hg hv1 hv2 e1 e2 hgs
      go_wp2_with fail
      (with_reducible refine (CE.out).mono ?_); rintro e w2 ⟨rfl, hb2⟩
      have hw2 := hb.trans (hb2.mono hb.size)
      go_wp2_with fail
      go_roundw
      case rel => exact ⟨k + 1, by omega, by go_num, hw2⟩
      case measure => simp [intOf]; omega
    · obtain rfl : k = n1 := by omega
      have dk : decide ((k : Int) < (k : Int)) = false := by simp
      go_wp2_with fail
      go_ret
      exact ⟨rfl, hb⟩
set_option maxRecDepth 100000 in
set_option maxHeartbeats 1000000 in
theorem isAt_any (bp : Nat) (p q d : ByteArray) (w : World) (hb : w.heap[bp]? = some (.cells #[.string p] 9 (0, 0))) :
    Calls Tryz.prog 7 #[.agg #[.string q, .string d], .pointer (some ⟨bp, 0, none⟩)] w fun e w' => e = .returned (.bool (decide (q = p))) ∧ Below w.heap.size w w' := by
  have y0 := row_cell hb 0
  have l0 := row_lt hb
  have u := str_beq q p
  have HB := lid (ba w (Obj.cells #[.string q, .string d] 27))
  clear hb
  go_enter Tryz.func7, Tryz.ntmps7
  go_wp2_with fail
  go_ret
  exact ⟨by first | rfl | (rw [← u]; rfl), HB.out⟩
set_option maxRecDepth 100000 in
set_option maxHeartbeats 4000000 in
theorem IndexFl_any (bp : Nat) (p : ByteArray) (l : List Fl) (n cap : Nat) (ao : Option Addr) (w : World) (hb0 : w.heap[bp]? = some (.cells #[.string p] 9 (0, 0))) (h : Sl w 2 ao n (fcells l)) (hn : l.length = n) (hc : n ≤ cap) (hm : n ≤ 1000000) :
    Calls Tryz.prog 6 #[.slice ao n cap, .func (.func 7) #[] #[.pointer (some ⟨bp, 0, none⟩)]] w fun e w' => Below w.heap.size w w' ∧ ((e = .returned (.int .i64 (-1)) ∧ ∀ f ∈ l, ¬ f.1 = p) ∨ ∃ k, ∃ hk : k < l.length, e = .returned (.int .i64 k) ∧ l[k].1 = p) := by
  have HN := lid hn
  have HS := lid h
  have HB := lid hb0
  have hn9 : n ≤ 9223372036854775807 := by omega
  clear h hn hb0
  go_enter Tryz.func6, Tryz.ntmps6
  go_wp2_with fail
  go_loopw [8] (fun u8 wr => ∃ k : Nat, k ≤ n ∧ u8 = .int .i64 k ∧ Hid (∀ f ∈ l.take k, ¬ f.1 = p) ∧ Below w.heap.size w wr) (fun u8 _ => n - (intOf u8).toNat)
  case atStart => exact ⟨0, Nat.zero_le _, rfl, lid (fun f hf => by cases hf), Below.refl _ _⟩
  case round =>
    obtain ⟨k, hk, rfl, HT, hb⟩ := hrel
    by_cases hlt : k < n
    · have hkl : k < l.length := by rw [HN.out]; exact hlt
      obtain ⟨b1, o1, rfl, hlb, hcell⟩ := (HS.out.below hb).at_ hlt
      have x0 := hcell (k * 2 + 0) _ (fcells_at hkl).1
      have x1 := hcell (k * 2 + 1) _ (fcells_at hkl).2
      rw [← Nat.add_assoc] at x1
      rw [Nat.add_zero] at x0
      have HTK : Hid (l.take (k + 1) = l.take k ++ [l[k]]) := lid (List.take_succ_eq_append_getElem hkl)
      have dk : decide ((k : Int) < (n : Int)) = true := by simp; omega
      obtain ⟨⟨q, d⟩, hx⟩ : ∃ x, l[k] = x := ⟨_, rfl⟩
      have HX := lid hx
      rw [hx] at x0 x1 HTK
      replace x0 : wr.cell? ⟨b1, o1 + k * 2, none⟩ = some (Value.string q) := x0
      replace x1 : wr.cell? ⟨b1, o1 + k * 2 + 1, none⟩ = some (Value.string d) := x1
      have CI := lid (isAt_any bp p q d wr ((hb.block _ (row_lt HB.out)).trans HB.out))
      clear hcell hx
      go_wp2_with fail
      (with_reducible refine (CI.out).mono ?_); rintro e w2 ⟨rfl, hb2⟩
      have hw2 := hb.trans (hb2.mono hb.size)
      by_cases hq : q = p
      · have HF : Hid (∃ hk : k < l.length, l[k].1 = p) := lid ⟨hkl, by rw [HX.out]; exact hq⟩
        rw [decide_eq_true hq]
        clear hq
        go_wp2_with fail
        go_ret
        obtain ⟨q1, q2⟩ := HF.out
        exact ⟨hw2, .inr ⟨k, q1, rfl, q2⟩⟩
      · have HT2 : Hid (∀ f ∈ l.take (k + 1), ¬ f.1 = p) := lid (fun f hf => by
          rw [HTK.out] at hf
          rcases List.mem_append.1 hf with hf | hf
          · exact HT.out f hf
          · simp only [List.mem_singleton] at hf
            subst hf
            exact hq)
        rw [decide_eq_false hq]
        clear hq
        go_wp2_with fail
        go_roundw
        case rel => exact ⟨k + 1, by omega, by go_num, HT2, hw2⟩
        case measure => simp [intOf]; omega
    · obtain rfl : k = n := by omega
      have dk : decide ((k : Int) < (k : Int)) = false := by simp
      have HE : Hid (∀ f ∈ l, ¬ f.1 = p) := lid (by have := HT.out; rwa [List.take_of_length_le (Nat.le_of_eq HN.out)] at this)
      go_wp2_with fail
      go_ret
      exact ⟨hb, .inl ⟨rfl, HE.out⟩⟩
end Go.Proofs.YtefehgdckmajiaaGreatDoor
