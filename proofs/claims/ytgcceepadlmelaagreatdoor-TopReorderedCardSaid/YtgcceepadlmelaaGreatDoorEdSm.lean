import Derived.Test.YtgcceepadlmelaaGreatDoorEdGr2
import Derived.Test.YtgcceepadlmelaaGreatDoorQAP
namespace Go.Proofs.YtgcceepadlmelaaGreatDoor
set_option maxRecDepth 100000
set_option maxHeartbeats 16000000
open Go.RowKit
def TrueB (w : World) (r : Ending) (w' : World) : Prop := r = .returned (.bool true) ∧ Below w.heap.size w w'
theorem TrueB.of {w w1 w2 : World} {r : Ending} (h : TrueB w1 r w2) (hb : Below w.heap.size w w1) : TrueB w r w2 := ⟨h.1, hb.trans (h.2.mono hb.size)⟩
theorem map_at {α β : Type} {f : α → β} {l m : List α} (h : l.map f = m.map f) {k : Nat} (hk : k < l.length) (hk2 : k < m.length) : f l[k] = f m[k] := by
 have h1 := congrArg (fun z => z[k]?) h
 simp only [List.getElem?_map, List.getElem?_eq_getElem hk, List.getElem?_eq_getElem hk2, Option.map_some, Option.some.injEq] at h1
 exact h1
theorem SameE_upto : ∀ (N : Nat) (a b : Ew), cntE a ≤ N → a.x = b.x → ∀ w, EA w a → EA w b → Calls Tryz.prog 91 #[.agg (eca a), .agg (eca b)] w (TrueB w)
 | 0, a, _, hN, _, _, _, _ => by rw [cntE_eq] at hN; omega
 | N + 1, a, b, hN, hx, w, ha, hb => by
  have ih := SameE_upto N
  rw [Ew.x_eq, Ew.x_eq] at hx
  injection hx with e1 e2 e3 e4 e5 e6
  have el := congrArg List.length e6
  rw [List.length_map, List.length_map] at el
  obtain ⟨n, hn⟩ : ∃ n, a.sub.length = n := ⟨_, rfl⟩
  have hn2 : b.sub.length = n := by rw [← el, hn]
  have eb : eca b = #[.int .i64 a.kind, .string a.name, .string a.more, .int .i64 a.int, .int .i64 a.den, .slice b.ao n b.cap] := by rw [e1, e2, e3, e4, e5, ← hn2]
  have ea : eca a = #[.int .i64 a.kind, .string a.name, .string a.more, .int .i64 a.int, .int .i64 a.den, .slice a.ao n a.cap] := by rw [← hn]
  obtain ⟨W0, hW0⟩ : ∃ y, (w.alloc (.cells #[.int .i64 a.kind, .string a.name, .string a.more, .int .i64 a.int, .int .i64 a.den, .slice a.ao n a.cap] 63)).alloc (.cells #[.int .i64 a.kind, .string a.name, .string a.more, .int .i64 a.int, .int .i64 a.den, .slice b.ao n b.cap] 63) = y := ⟨_, rfl⟩
  have hb0 : Below w.heap.size w W0 := by rw [← hW0]; exact (ba _ _).alloc (by simp) _
  have hR : W0.heap[w.heap.size]? = some (.cells #[.int .i64 a.kind, .string a.name, .string a.more, .int .i64 a.int, .int .i64 a.den, .slice a.ao n a.cap] 63 (0, 0)) := by rw [← hW0]; exact (h_old (by simp) _).trans (h_new rfl _)
  have hR2 : W0.heap[w.heap.size + 1]? = some (.cells #[.int .i64 a.kind, .string a.name, .string a.more, .int .i64 a.int, .int .i64 a.den, .slice b.ao n b.cap] 63 (0, 0)) := by rw [← hW0]; exact h_new (by simp) _
  have HRR : Hid (∀ W, Below W0.heap.size W0 W → (W.cell? ⟨w.heap.size, 0, none⟩ = some (.int .i64 a.kind) ∧ W.cell? ⟨w.heap.size, 1, none⟩ = some (.string a.name) ∧ W.cell? ⟨w.heap.size, 2, none⟩ = some (.string a.more) ∧ W.cell? ⟨w.heap.size, 3, none⟩ = some (.int .i64 a.int) ∧ W.cell? ⟨w.heap.size, 4, none⟩ = some (.int .i64 a.den) ∧ W.cell? ⟨w.heap.size, 5, none⟩ = some (.slice a.ao n a.cap)) ∧ (W.cell? ⟨w.heap.size + 1, 0, none⟩ = some (.int .i64 a.kind) ∧ W.cell? ⟨w.heap.size + 1, 1, none⟩ = some (.string a.name) ∧ W.cell? ⟨w.heap.size + 1, 2, none⟩ = some (.string a.more) ∧ W.cell? ⟨w.heap.size + 1, 3, none⟩ = some (.int .i64 a.int) ∧ W.cell? ⟨w.heap.size + 1, 4, none⟩ = some (.int .i64 a.den) ∧ W.cell? ⟨w.heap.size + 1, 5, none⟩ = some (.slice b.ao n b.cap)) ∧ w.heap.size < W.heap.size ∧ w.heap.size + 1 < W.heap.size) := lid (fun W hb => by
   have h1 := (hb.block _ (row_lt hR)).trans hR
   have h2 := (hb.block _ (row_lt hR2)).trans hR2
   exact ⟨⟨row_cell h1 0, row_cell h1 1, row_cell h1 2, row_cell h1 3, row_cell h1 4, row_cell h1 5⟩, ⟨row_cell h2 0, row_cell h2 1, row_cell h2 2, row_cell h2 3, row_cell h2 4, row_cell h2 5⟩, row_lt h1, row_lt h2⟩)
  have HA := lid (ha.lift hb0).subs
  have HB' := lid (hb.lift hb0).subs
  rw [hn] at HA
  rw [hn2] at HB'
  have ca : n ≤ a.cap := by rw [← hn]; exact ha.le
  have cb : n ≤ b.cap := by rw [← hn2]; exact hb.le
  have ma : a.cap ≤ 9223372036854775807 := ha.max
  have mb : b.cap ≤ 9223372036854775807 := hb.max
  have IH : Hid (∀ (k : Nat) (h1 : k < a.sub.length) (h2 : k < b.sub.length) W, EA W a.sub[k] → EA W b.sub[k] → Calls Tryz.prog 91 #[.agg (eca a.sub[k]), .agg (eca b.sub[k])] W (TrueB W)) := lid (fun k h1 h2 W q1 q2 => ih _ _ (by have := cntL_mem (List.getElem_mem h1); rw [cntE_eq] at hN; omega) (map_at e6 h1 h2) W q1 q2)
  have HN := lid (And.intro hn hn2)
  have HW0 := lid hW0
  have HB0 := lid hb0
  obtain ⟨⟨x0, x1, x2, x3, x4, x5⟩, ⟨y0, y1, y2, y3, y4, y5⟩, lx, ly⟩ := HRR.out W0 (Below.refl _ _)
  have dn : (a.name.toList == a.name.toList) = true := by simp
  have dm : (a.more.toList == a.more.toList) = true := by simp
  rw [ea, eb]
  clear hN ha hb e1 e2 e3 e4 e5 e6 el hn hn2 hW0 hb0 hR hR2 ih ea eb
  go_enter Tryz.func91, Tryz.ntmps91
  go_wp2_with fail
  rw [HW0.out]
  go_wp2_with fail
  go_loopw [5] (fun u5 wr => ∃ k : Nat, k ≤ n ∧ u5 = .int .i64 k ∧ Hid (Below W0.heap.size W0 wr)) (fun u5 _ => n - (intOf u5).toNat)
  case atStart => exact ⟨0, Nat.zero_le _, rfl, lid (Below.refl _ _)⟩
  case round =>
   clear x0 x1 x2 x3 x4 x5 y0 y1 y2 y3 y4 y5 lx ly
   obtain ⟨k, hk, rfl, HB⟩ := hrel
   obtain ⟨⟨x0, x1, x2, x3, x4, x5⟩, ⟨y0, y1, y2, y3, y4, y5⟩, lx, ly⟩ := HRR.out wr HB.out
   by_cases hkn : k < n
   ·have hk1 : k < a.sub.length := by rw [HN.out.1]; exact hkn
    have hk2 : k < b.sub.length := by rw [HN.out.2]; exact hkn
    obtain ⟨p, po, hao, hlp, hcp⟩ := el_row HA.out HB.out hkn hk1
    obtain ⟨q, qo, hbo, hlq, hcq⟩ := el_row HB'.out HB.out hkn hk2
    rw [hao] at x5
    rw [hbo] at y5
    have CI := lid (fun W (hW : Below wr.heap.size wr W) => IH.out k hk1 hk2 W ((HA.out.el _ (List.getElem_mem hk1)).lift (HB.out.trans (hW.mono HB.out.size))) ((HB'.out.el _ (List.getElem_mem hk2)).lift (HB.out.trans (hW.mono HB.out.size))))
    obtain ⟨s, hs⟩ : ∃ s, a.sub[k] = s := ⟨_, rfl⟩
    obtain ⟨t, ht⟩ : ∃ t, b.sub[k] = t := ⟨_, rfl⟩
    rw [hs] at hcp CI
    rw [ht] at hcq CI
    have s0 : wr.cell? ⟨p, po + k * 6, none⟩ = some (.int .i64 s.kind) := by have := hcp 0 _ rfl (by omega); exact this
    have s1 : wr.cell? ⟨p, po + k * 6 + 1, none⟩ = some (.string s.name) := by have := hcp 1 _ rfl (by omega); rwa [← Nat.add_assoc] at this
    have s2 : wr.cell? ⟨p, po + k * 6 + 2, none⟩ = some (.string s.more) := by have := hcp 2 _ rfl (by omega); rwa [← Nat.add_assoc] at this
    have s3 : wr.cell? ⟨p, po + k * 6 + 3, none⟩ = some (.int .i64 s.int) := by have := hcp 3 _ rfl (by omega); rwa [← Nat.add_assoc] at this
    have s4 : wr.cell? ⟨p, po + k * 6 + 4, none⟩ = some (.int .i64 s.den) := by have := hcp 4 _ rfl (by omega); rwa [← Nat.add_assoc] at this
    have s5 : wr.cell? ⟨p, po + k * 6 + 5, none⟩ = some (.slice s.ao s.sub.length s.cap) := by have := hcp 5 _ rfl (by omega); rwa [← Nat.add_assoc] at this
    have t0 : wr.cell? ⟨q, qo + k * 6, none⟩ = some (.int .i64 t.kind) := by have := hcq 0 _ rfl (by omega); exact this
    have t1 : wr.cell? ⟨q, qo + k * 6 + 1, none⟩ = some (.string t.name) := by have := hcq 1 _ rfl (by omega); rwa [← Nat.add_assoc] at this
    have t2 : wr.cell? ⟨q, qo + k * 6 + 2, none⟩ = some (.string t.more) := by have := hcq 2 _ rfl (by omega); rwa [← Nat.add_assoc] at this
    have t3 : wr.cell? ⟨q, qo + k * 6 + 3, none⟩ = some (.int .i64 t.int) := by have := hcq 3 _ rfl (by omega); rwa [← Nat.add_assoc] at this
    have t4 : wr.cell? ⟨q, qo + k * 6 + 4, none⟩ = some (.int .i64 t.den) := by have := hcq 4 _ rfl (by omega); rwa [← Nat.add_assoc] at this
    have t5 : wr.cell? ⟨q, qo + k * 6 + 5, none⟩ = some (.slice t.ao t.sub.length t.cap) := by have := hcq 5 _ rfl (by omega); rwa [← Nat.add_assoc] at this
    clear hcp hcq hs ht hk1 hk2 hao hbo
    go_wp2_with fail
    refine qd (fun w' => ∃ s : Since wr.heap.size wr, w' = s.world) [(0, true), (1, true), (2, true), (3, true), (4, true), (5, true), (6, true), (7, true), (8, true), (9, true), (10, false), (11, true)] ?_
    repeat (first | (refine qk ?_; simp only [Act.put, q1, q2, q3]) | (refine qf ?_; intro K hK; go_big_quiet_op; go_big_quiet_on))
    refine qc ?_
    intro K hK
    go_wp2_with fail
    (with_reducible refine (CI.out _ (Below.refl _ _).drew).mono ?_); rintro e w2 ⟨rfl, hb2⟩
    have HB2' := lid ((Below.refl wr.heap.size wr).drew.trans hb2)
    have HB2 := lid (HB.out.trans (HB2'.out.mono HB.out.size))
    clear hb2 CI
    go_wp2_with fail
    refine hK.out _ _ (since HB2'.out) ?_
    clear hK K
    repeat (first | (refine qk ?_; simp only [Act.put, q1, q2, q3]) | (refine qf ?_; intro K hK; go_big_quiet_op; go_big_quiet_on))
    refine seq_nil ?_
    go_wp2_with fail
    go_roundw
    case rel => exact ⟨k + 1, by omega, by go_num, HB2⟩
    case measure => simp [intOf]; omega
   ·obtain rfl : k = n := by omega
    clear hkn
    go_wp2_with fail
    go_ret
    exact ⟨rfl, HB0.out.trans (HB.out.mono HB0.out.size)⟩
theorem SameS_any (ao bo : Option Addr) (n ca cb : Nat) (l m : List ByteArray) (w : World) (ha : SA w ao n ca l) (hb : SA w bo n cb m) (hx : l = m) : Calls Tryz.prog 41 #[.slice ao n ca, .slice bo n cb] w (TrueB w) := by
 have HA := lid ha
 have HBB := lid hb
 have HX := lid hx
 have c1 : n ≤ ca := ha.le
 have c2 : n ≤ cb := hb.le
 have m1 : ca ≤ 9223372036854775807 := ha.max
 have m2 : cb ≤ 9223372036854775807 := hb.max
 clear ha hb hx
 go_enter Tryz.func41, Tryz.ntmps41
 go_wp2_with fail
 go_loopw [5] (fun u5 wr => ∃ k : Nat, k ≤ n ∧ u5 = .int .i64 k ∧ Hid (Below w.heap.size w wr)) (fun u5 _ => n - (intOf u5).toNat)
 case atStart => exact ⟨0, Nat.zero_le _, rfl, lid (Below.refl _ _)⟩
 case round =>
  obtain ⟨k, hk, rfl, HB⟩ := hrel
  by_cases hkn : k < n
  ·have hk1 : k < l.length := by rw [HA.out.len]; exact hkn
   have hk2 : k < m.length := by rw [HBB.out.len]; exact hkn
   obtain rfl := HX.out
   obtain ⟨p, po, rfl, hlp, hcp⟩ := HA.out.sl.at_ (k := k) hkn
   obtain ⟨q, qo, rfl, hlq, hcq⟩ := HBB.out.sl.at_ (k := k) hkn
   obtain ⟨x, hx⟩ : ∃ x, l[k] = x := ⟨_, rfl⟩
   have y0 : wr.cell? ⟨p, po + k, none⟩ = some (.string x) := by
    rw [bc HB.out hlp _]
    exact hcp k _ (by rw [← hx]; simp [svals, hk1])
   have z0 : wr.cell? ⟨q, qo + k, none⟩ = some (.string x) := by
    rw [bc HB.out hlq _]
    exact hcq k _ (by rw [← hx]; simp [svals, hk1])
   have l1 : p < wr.heap.size := Nat.lt_of_lt_of_le hlp HB.out.size
   have l2 : q < wr.heap.size := Nat.lt_of_lt_of_le hlq HB.out.size
   have dx : (x.toList == x.toList) = true := by simp
   clear hcp hcq hx hk1 hk2
   go_wp2_with fail
   refine qd (fun w' => ∃ s : Since wr.heap.size wr, w' = s.world) [(0, true), (1, true), (2, true), (3, true), (4, true), (5, true), (6, true), (7, true), (8, true)] ?_
   repeat (first | (refine qk ?_; simp only [Act.put, q1, q2, q3]) | (refine qf ?_; intro K hK; go_big_quiet_op; go_big_quiet_on))
   refine seq_nil ?_
   have HB2 : Hid (Below w.heap.size w wr.drew) := lid HB.out.drew
   go_wp2_with fail
   go_roundw
   case rel => exact ⟨k + 1, by omega, by go_num, HB2⟩
   case measure => simp [intOf]; omega
  ·obtain rfl : k = n := by omega
   clear hkn
   go_wp2_with fail
   go_ret
   exact ⟨rfl, HB.out⟩
theorem SameD_any (a b : Dw) (w : World) (ha : DwA w a) (hb : DwA w b) (hx : a.x = b.x) : Calls Tryz.prog 68 #[.agg (dca a), .agg (dca b)] w (TrueB w) := by
 have hbx : a.body.x = b.body.x := congrArg Dx.body hx
 have hnx : a.names = b.names := congrArg Dx.names hx
 have hi1 : a.id = b.id := congrArg Dx.id hx
 have hi2 : a.kind = b.kind := congrArg Dx.kind hx
 have hi3 : a.pub = b.pub := congrArg Dx.pub hx
 have hi4 : a.doubt = b.doubt := congrArg Dx.doubt hx
 obtain ⟨nn, hnn⟩ : ∃ nn, a.names.length = nn := ⟨_, rfl⟩
 have hnb : b.names.length = nn := by rw [← hnx, hnn]
 have ea : dca a = #[.int .i64 a.id, .int .i64 a.kind, .bool a.pub, .slice a.na nn a.ncap, .bool a.doubt, .int .i64 a.body.kind, .string a.body.name, .string a.body.more, .int .i64 a.body.int, .int .i64 a.body.den, .slice a.body.ao a.body.sub.length a.body.cap] := by rw [← hnn]
 have eb : dca b = #[.int .i64 a.id, .int .i64 a.kind, .bool a.pub, .slice b.na nn b.ncap, .bool a.doubt, .int .i64 b.body.kind, .string b.body.name, .string b.body.more, .int .i64 b.body.int, .int .i64 b.body.den, .slice b.body.ao b.body.sub.length b.body.cap] := by rw [hi1, hi2, hi3, hi4, ← hnb]
 obtain ⟨W0, hW0⟩ : ∃ y, (w.alloc (.cells #[.int .i64 a.id, .int .i64 a.kind, .bool a.pub, .slice a.na nn a.ncap, .bool a.doubt, .int .i64 a.body.kind, .string a.body.name, .string a.body.more, .int .i64 a.body.int, .int .i64 a.body.den, .slice a.body.ao a.body.sub.length a.body.cap] 65)).alloc (.cells #[.int .i64 a.id, .int .i64 a.kind, .bool a.pub, .slice b.na nn b.ncap, .bool a.doubt, .int .i64 b.body.kind, .string b.body.name, .string b.body.more, .int .i64 b.body.int, .int .i64 b.body.den, .slice b.body.ao b.body.sub.length b.body.cap] 65) = y := ⟨_, rfl⟩
 have hb0 : Below w.heap.size w W0 := by rw [← hW0]; exact (ba _ _).alloc (by simp) _
 have hR : W0.heap[w.heap.size]? = some (.cells #[.int .i64 a.id, .int .i64 a.kind, .bool a.pub, .slice a.na nn a.ncap, .bool a.doubt, .int .i64 a.body.kind, .string a.body.name, .string a.body.more, .int .i64 a.body.int, .int .i64 a.body.den, .slice a.body.ao a.body.sub.length a.body.cap] 65 (0, 0)) := by rw [← hW0]; exact (h_old (by simp) _).trans (h_new rfl _)
 have hR2 : W0.heap[w.heap.size + 1]? = some (.cells #[.int .i64 a.id, .int .i64 a.kind, .bool a.pub, .slice b.na nn b.ncap, .bool a.doubt, .int .i64 b.body.kind, .string b.body.name, .string b.body.more, .int .i64 b.body.int, .int .i64 b.body.den, .slice b.body.ao b.body.sub.length b.body.cap] 65 (0, 0)) := by rw [← hW0]; exact h_new (by simp) _
 have HRR : Hid (∀ W, Below W0.heap.size W0 W → (W.cell? ⟨w.heap.size, 0, none⟩ = some (.int .i64 a.id) ∧ W.cell? ⟨w.heap.size, 1, none⟩ = some (.int .i64 a.kind) ∧ W.cell? ⟨w.heap.size, 2, none⟩ = some (.bool a.pub) ∧ W.cell? ⟨w.heap.size, 3, none⟩ = some (.slice a.na nn a.ncap) ∧ W.cell? ⟨w.heap.size, 4, none⟩ = some (.bool a.doubt) ∧ W.cell? ⟨w.heap.size, 5, none⟩ = some (.int .i64 a.body.kind) ∧ W.cell? ⟨w.heap.size, 6, none⟩ = some (.string a.body.name) ∧ W.cell? ⟨w.heap.size, 7, none⟩ = some (.string a.body.more) ∧ W.cell? ⟨w.heap.size, 8, none⟩ = some (.int .i64 a.body.int) ∧ W.cell? ⟨w.heap.size, 9, none⟩ = some (.int .i64 a.body.den) ∧ W.cell? ⟨w.heap.size, 10, none⟩ = some (.slice a.body.ao a.body.sub.length a.body.cap)) ∧ (W.cell? ⟨w.heap.size + 1, 0, none⟩ = some (.int .i64 a.id) ∧ W.cell? ⟨w.heap.size + 1, 1, none⟩ = some (.int .i64 a.kind) ∧ W.cell? ⟨w.heap.size + 1, 2, none⟩ = some (.bool a.pub) ∧ W.cell? ⟨w.heap.size + 1, 3, none⟩ = some (.slice b.na nn b.ncap) ∧ W.cell? ⟨w.heap.size + 1, 4, none⟩ = some (.bool a.doubt) ∧ W.cell? ⟨w.heap.size + 1, 5, none⟩ = some (.int .i64 b.body.kind) ∧ W.cell? ⟨w.heap.size + 1, 6, none⟩ = some (.string b.body.name) ∧ W.cell? ⟨w.heap.size + 1, 7, none⟩ = some (.string b.body.more) ∧ W.cell? ⟨w.heap.size + 1, 8, none⟩ = some (.int .i64 b.body.int) ∧ W.cell? ⟨w.heap.size + 1, 9, none⟩ = some (.int .i64 b.body.den) ∧ W.cell? ⟨w.heap.size + 1, 10, none⟩ = some (.slice b.body.ao b.body.sub.length b.body.cap)) ∧ w.heap.size < W.heap.size ∧ w.heap.size + 1 < W.heap.size) := lid (fun W hb => by
  have h1 := (hb.block _ (row_lt hR)).trans hR
  have h2 := (hb.block _ (row_lt hR2)).trans hR2
  refine ⟨⟨row_cell h1 0, row_cell h1 1, row_cell h1 2, row_cell h1 3, row_cell h1 4, row_cell h1 5, row_cell h1 6, row_cell h1 7, row_cell h1 8, row_cell h1 9, row_cell h1 10⟩, ⟨row_cell h2 0, row_cell h2 1, row_cell h2 2, row_cell h2 3, row_cell h2 4, row_cell h2 5, row_cell h2 6, row_cell h2 7, row_cell h2 8, row_cell h2 9, row_cell h2 10⟩, row_lt h1, row_lt h2⟩)
 have CS : Hid (Calls Tryz.prog 41 #[.slice a.na nn a.ncap, .slice b.na nn b.ncap] W0 (TrueB W0)) := lid (by
  exact SameS_any a.na b.na nn a.ncap b.ncap a.names b.names W0 (by have := (ha.below hb0).names; rw [hnn] at this; exact this) (by have := (hb.below hb0).names; rw [hnb] at this; exact this) hnx)
 have CE := lid (fun W (hW : Below W0.heap.size W0 W) => SameE_upto (cntE a.body) a.body b.body (Nat.le_refl _) hbx W ((ha.below hb0).body.lift hW) ((hb.below hb0).body.lift hW))
 have HW0 := lid hW0
 have HB0 := lid hb0
 obtain ⟨⟨x0, x1, x2, x3, x4, x5, x6, x7, x8, x9, x10⟩, ⟨y0, y1, y2, y3, y4, y5, y6, y7, y8, y9, y10⟩, lx, ly⟩ := HRR.out W0 (Below.refl _ _)
 have d2 : (a.pub == a.pub) = true := by simp
 have d4 : (a.doubt == a.doubt) = true := by simp
 rw [ea, eb]
 clear ea eb ha hb hx hbx hnx hi1 hi2 hi3 hi4 hW0 hb0 hR hR2 hnn hnb
 go_enter Tryz.func68, Tryz.ntmps68
 go_wp2_with fail
 rw [HW0.out]
 go_wp2_with fail
 (with_reducible refine (CS.out).mono ?_); rintro e w1 ⟨rfl, hb1⟩
 have HB1 := lid hb1
 clear hb1 CS x0 x1 x2 x3 x4 x5 x6 x7 x8 x9 x10 y0 y1 y2 y3 y4 y5 y6 y7 y8 y9 y10 lx ly
 obtain ⟨⟨x0, x1, x2, x3, x4, x5, x6, x7, x8, x9, x10⟩, ⟨y0, y1, y2, y3, y4, y5, y6, y7, y8, y9, y10⟩, lx, ly⟩ := HRR.out w1 HB1.out
 go_wp2_with fail
 (with_reducible refine (CE.out _ HB1.out).mono ?_); rintro e w2 ⟨rfl, hb2⟩
 have HB2 := lid (HB1.out.trans (hb2.mono HB1.out.size))
 clear hb2
 go_wp2_with fail
 go_ret
 exact ⟨rfl, HB0.out.trans (HB2.out.mono HB0.out.size)⟩
theorem SameDs_any (ao bo : Option Addr) (n ca cb : Nat) (l m : List Dw) (w : World) (ha : DLA w ao n ca l) (hb : DLA w bo n cb m) (hx : l.map Dw.x = m.map Dw.x) : Calls Tryz.prog 42 #[.slice ao n ca, .slice bo n cb] w (TrueB w) := by
 have HA := lid ha
 have HBB := lid hb
 have HX := lid hx
 have c1 : n ≤ ca := ha.le
 have c2 : n ≤ cb := hb.le
 have m1 : ca ≤ 9223372036854775807 := ha.max
 have m2 : cb ≤ 9223372036854775807 := hb.max
 clear ha hb hx
 go_enter Tryz.func42, Tryz.ntmps42
 go_wp2_with fail
 go_loopw [5] (fun u5 wr => ∃ k : Nat, k ≤ n ∧ u5 = .int .i64 k ∧ Hid (Below w.heap.size w wr)) (fun u5 _ => n - (intOf u5).toNat)
 case atStart => exact ⟨0, Nat.zero_le _, rfl, lid (Below.refl _ _)⟩
 case round =>
  obtain ⟨k, hk, rfl, HB⟩ := hrel
  by_cases hkn : k < n
  ·have hk1 : k < l.length := by rw [HA.out.len]; exact hkn
   have hk2 : k < m.length := by rw [HBB.out.len]; exact hkn
   obtain ⟨p, po, rfl, hlp, hcp⟩ := HA.out.sl.at_ (k := k) hkn
   obtain ⟨q, qo, rfl, hlq, hcq⟩ := HBB.out.sl.at_ (k := k) hkn
   have CI := lid (fun W (hW : Below w.heap.size w W) => SameD_any l[k] m[k] W ((HA.out.el _ (List.getElem_mem hk1)).below hW) ((HBB.out.el _ (List.getElem_mem hk2)).below hW) (map_at HX.out hk1 hk2))
   obtain ⟨s, hs⟩ : ∃ s, l[k] = s := ⟨_, rfl⟩
   obtain ⟨t, ht⟩ : ∃ t, m[k] = t := ⟨_, rfl⟩
   rw [hs, ht] at CI
   have hc1 : ∀ i u, (dce s)[i]? = some u → i < 11 → wr.cell? ⟨p, po + (k * 11 + i), none⟩ = some u := fun i u hu hi => by rw [bc HB.out hlp _]; exact hcp _ u (by rw [show (dcs l)[k * 11 + i]? = (dce l[k])[i]? from flat_at dce_length hk1 hi, hs]; exact hu)
   have hc2 : ∀ i u, (dce t)[i]? = some u → i < 11 → wr.cell? ⟨q, qo + (k * 11 + i), none⟩ = some u := fun i u hu hi => by rw [bc HB.out hlq _]; exact hcq _ u (by rw [show (dcs m)[k * 11 + i]? = (dce m[k])[i]? from flat_at dce_length hk2 hi, ht]; exact hu)
   have s0 : wr.cell? ⟨p, po + k * 11, none⟩ = some (.int .i64 s.id) := by have := hc1 0 _ rfl (by omega); exact this
   have s1 : wr.cell? ⟨p, po + k * 11 + 1, none⟩ = some (.int .i64 s.kind) := by have := hc1 1 _ rfl (by omega); rwa [← Nat.add_assoc] at this
   have s2 : wr.cell? ⟨p, po + k * 11 + 2, none⟩ = some (.bool s.pub) := by have := hc1 2 _ rfl (by omega); rwa [← Nat.add_assoc] at this
   have s3 : wr.cell? ⟨p, po + k * 11 + 3, none⟩ = some (.slice s.na s.names.length s.ncap) := by have := hc1 3 _ rfl (by omega); rwa [← Nat.add_assoc] at this
   have s4 : wr.cell? ⟨p, po + k * 11 + 4, none⟩ = some (.bool s.doubt) := by have := hc1 4 _ rfl (by omega); rwa [← Nat.add_assoc] at this
   have s5 : wr.cell? ⟨p, po + k * 11 + 5, none⟩ = some (.int .i64 s.body.kind) := by have := hc1 5 _ rfl (by omega); rwa [← Nat.add_assoc] at this
   have s6 : wr.cell? ⟨p, po + k * 11 + 6, none⟩ = some (.string s.body.name) := by have := hc1 6 _ rfl (by omega); rwa [← Nat.add_assoc] at this
   have s7 : wr.cell? ⟨p, po + k * 11 + 7, none⟩ = some (.string s.body.more) := by have := hc1 7 _ rfl (by omega); rwa [← Nat.add_assoc] at this
   have s8 : wr.cell? ⟨p, po + k * 11 + 8, none⟩ = some (.int .i64 s.body.int) := by have := hc1 8 _ rfl (by omega); rwa [← Nat.add_assoc] at this
   have s9 : wr.cell? ⟨p, po + k * 11 + 9, none⟩ = some (.int .i64 s.body.den) := by have := hc1 9 _ rfl (by omega); rwa [← Nat.add_assoc] at this
   have s10 : wr.cell? ⟨p, po + k * 11 + 10, none⟩ = some (.slice s.body.ao s.body.sub.length s.body.cap) := by have := hc1 10 _ rfl (by omega); rwa [← Nat.add_assoc] at this
   have t0 : wr.cell? ⟨q, qo + k * 11, none⟩ = some (.int .i64 t.id) := by have := hc2 0 _ rfl (by omega); exact this
   have t1 : wr.cell? ⟨q, qo + k * 11 + 1, none⟩ = some (.int .i64 t.kind) := by have := hc2 1 _ rfl (by omega); rwa [← Nat.add_assoc] at this
   have t2 : wr.cell? ⟨q, qo + k * 11 + 2, none⟩ = some (.bool t.pub) := by have := hc2 2 _ rfl (by omega); rwa [← Nat.add_assoc] at this
   have t3 : wr.cell? ⟨q, qo + k * 11 + 3, none⟩ = some (.slice t.na t.names.length t.ncap) := by have := hc2 3 _ rfl (by omega); rwa [← Nat.add_assoc] at this
   have t4 : wr.cell? ⟨q, qo + k * 11 + 4, none⟩ = some (.bool t.doubt) := by have := hc2 4 _ rfl (by omega); rwa [← Nat.add_assoc] at this
   have t5 : wr.cell? ⟨q, qo + k * 11 + 5, none⟩ = some (.int .i64 t.body.kind) := by have := hc2 5 _ rfl (by omega); rwa [← Nat.add_assoc] at this
   have t6 : wr.cell? ⟨q, qo + k * 11 + 6, none⟩ = some (.string t.body.name) := by have := hc2 6 _ rfl (by omega); rwa [← Nat.add_assoc] at this
   have t7 : wr.cell? ⟨q, qo + k * 11 + 7, none⟩ = some (.string t.body.more) := by have := hc2 7 _ rfl (by omega); rwa [← Nat.add_assoc] at this
   have t8 : wr.cell? ⟨q, qo + k * 11 + 8, none⟩ = some (.int .i64 t.body.int) := by have := hc2 8 _ rfl (by omega); rwa [← Nat.add_assoc] at this
   have t9 : wr.cell? ⟨q, qo + k * 11 + 9, none⟩ = some (.int .i64 t.body.den) := by have := hc2 9 _ rfl (by omega); rwa [← Nat.add_assoc] at this
   have t10 : wr.cell? ⟨q, qo + k * 11 + 10, none⟩ = some (.slice t.body.ao t.body.sub.length t.body.cap) := by have := hc2 10 _ rfl (by omega); rwa [← Nat.add_assoc] at this
   have l1 : p < wr.heap.size := Nat.lt_of_lt_of_le hlp HB.out.size
   have l2 : q < wr.heap.size := Nat.lt_of_lt_of_le hlq HB.out.size
   clear hcp hcq hc1 hc2 hs ht hk1 hk2
   go_wp2_with fail
   refine qd (fun w' => ∃ s : Since wr.heap.size wr, w' = s.world) [(0, true), (1, true), (2, true), (3, true), (4, true), (5, true), (6, true), (7, true), (8, false), (9, true)] ?_
   repeat (first | (refine qk ?_; simp only [Act.put, q1, q2, q3]) | (refine qf ?_; intro K hK; go_big_quiet_op; go_big_quiet_on))
   refine qc ?_
   intro K hK
   go_wp2_with fail
   (with_reducible refine (CI.out _ HB.out.drew).mono ?_); rintro e w2 ⟨rfl, hb2⟩
   have HB2' := lid ((Below.refl wr.heap.size wr).drew.trans hb2)
   have HB2 := lid (HB.out.trans (HB2'.out.mono HB.out.size))
   clear hb2 CI
   go_wp2_with fail
   refine hK.out _ _ (since HB2'.out) ?_
   clear hK K
   repeat (first | (refine qk ?_; simp only [Act.put, q1, q2, q3]) | (refine qf ?_; intro K hK; go_big_quiet_op; go_big_quiet_on))
   refine seq_nil ?_
   go_wp2_with fail
   go_roundw
   case rel => exact ⟨k + 1, by omega, by go_num, HB2⟩
   case measure => simp [intOf]; omega
  ·obtain rfl : k = n := by omega
   clear hkn
   go_wp2_with fail
   go_ret
   exact ⟨rfl, HB.out⟩
theorem SameM_any (a b : Mw) (w : World) (ha : MwA w a) (hb : MwA w b) (hx : a.x = b.x) : Calls Tryz.prog 21 #[.agg (mca a), .agg (mca b)] w (TrueB w) := by
 have h1 : a.label = b.label := congrArg Mx.label hx
 have h2 : a.uses = b.uses := congrArg Mx.uses hx
 have h3 : a.decls.map Dw.x = b.decls.map Dw.x := congrArg Mx.decls hx
 have h4 := congrArg List.length h3
 rw [List.length_map, List.length_map] at h4
 obtain ⟨nu, hnu⟩ : ∃ n, a.uses.length = n := ⟨_, rfl⟩
 obtain ⟨nd, hnd⟩ : ∃ n, a.decls.length = n := ⟨_, rfl⟩
 have hnu2 : b.uses.length = nu := by rw [← h2, hnu]
 have hnd2 : b.decls.length = nd := by rw [← h4, hnd]
 have ea : mca a = #[.string a.label, .slice a.ua nu a.ucap, .slice a.da nd a.dcap] := by rw [← hnu, ← hnd]
 have eb : mca b = #[.string a.label, .slice b.ua nu b.ucap, .slice b.da nd b.dcap] := by rw [h1, ← hnu2, ← hnd2]
 obtain ⟨W0, hW0⟩ : ∃ y, (w.alloc (.cells #[.string a.label, .slice a.ua nu a.ucap, .slice a.da nd a.dcap] 45)).alloc (.cells #[.string a.label, .slice b.ua nu b.ucap, .slice b.da nd b.dcap] 45) = y := ⟨_, rfl⟩
 have hb0 : Below w.heap.size w W0 := by rw [← hW0]; exact (ba _ _).alloc (by simp) _
 have hR : W0.heap[w.heap.size]? = some (.cells #[.string a.label, .slice a.ua nu a.ucap, .slice a.da nd a.dcap] 45 (0, 0)) := by rw [← hW0]; exact (h_old (by simp) _).trans (h_new rfl _)
 have hR2 : W0.heap[w.heap.size + 1]? = some (.cells #[.string a.label, .slice b.ua nu b.ucap, .slice b.da nd b.dcap] 45 (0, 0)) := by rw [← hW0]; exact h_new (by simp) _
 have HRR : Hid (∀ W, Below W0.heap.size W0 W → (W.cell? ⟨w.heap.size, 0, none⟩ = some (.string a.label) ∧ W.cell? ⟨w.heap.size, 1, none⟩ = some (.slice a.ua nu a.ucap) ∧ W.cell? ⟨w.heap.size, 2, none⟩ = some (.slice a.da nd a.dcap)) ∧ (W.cell? ⟨w.heap.size + 1, 0, none⟩ = some (.string a.label) ∧ W.cell? ⟨w.heap.size + 1, 1, none⟩ = some (.slice b.ua nu b.ucap) ∧ W.cell? ⟨w.heap.size + 1, 2, none⟩ = some (.slice b.da nd b.dcap)) ∧ w.heap.size < W.heap.size ∧ w.heap.size + 1 < W.heap.size) := lid (fun W hb => by
  have q1 := (hb.block _ (row_lt hR)).trans hR
  have q2 := (hb.block _ (row_lt hR2)).trans hR2
  exact ⟨⟨row_cell q1 0, row_cell q1 1, row_cell q1 2⟩, ⟨row_cell q2 0, row_cell q2 1, row_cell q2 2⟩, row_lt q1, row_lt q2⟩)
 have CS : Hid (Calls Tryz.prog 41 #[.slice a.ua nu a.ucap, .slice b.ua nu b.ucap] W0 (TrueB W0)) := lid (by
  exact SameS_any a.ua b.ua nu a.ucap b.ucap a.uses b.uses W0 (by have := (ha.below hb0).uses; rw [hnu] at this; exact this) (by have := (hb.below hb0).uses; rw [hnu2] at this; exact this) h2)
 have CE := lid (fun W (hW : Below W0.heap.size W0 W) => SameDs_any a.da b.da nd a.dcap b.dcap a.decls b.decls W (by have := ((ha.below hb0).below hW).decls; rw [hnd] at this; exact this) (by have := ((hb.below hb0).below hW).decls; rw [hnd2] at this; exact this) h3)
 have HW0 := lid hW0
 have HB0 := lid hb0
 obtain ⟨⟨x0, x1, x2⟩, ⟨y0, y1, y2⟩, lx, ly⟩ := HRR.out W0 (Below.refl _ _)
 have dl : (a.label.toList == a.label.toList) = true := by simp
 rw [ea, eb]
 clear ea eb ha hb hx h1 h2 h3 h4 hnu hnd hnu2 hnd2 hW0 hb0 hR hR2
 go_enter Tryz.func21, Tryz.ntmps21
 go_wp2_with fail
 rw [HW0.out]
 go_wp2_with fail
 (with_reducible refine (CS.out).mono ?_); rintro e w1 ⟨rfl, hb1⟩
 have HB1 := lid hb1
 clear hb1 CS x0 x1 x2 y0 y1 y2 lx ly
 obtain ⟨⟨x0, x1, x2⟩, ⟨y0, y1, y2⟩, lx, ly⟩ := HRR.out w1 HB1.out
 go_wp2_with fail
 (with_reducible refine (CE.out _ HB1.out).mono ?_); rintro e w2 ⟨rfl, hb2⟩
 have HB2 := lid (HB1.out.trans (hb2.mono HB1.out.size))
 clear hb2
 go_wp2_with fail
 go_ret
 exact ⟨rfl, HB0.out.trans (HB2.out.mono HB0.out.size)⟩
theorem SameMs_any (ao bo : Option Addr) (n ca cb : Nat) (l m : List Mw) (w : World) (ha : MLA w ao n ca l) (hb : MLA w bo n cb m) (hx : l.map Mw.x = m.map Mw.x) : Calls Tryz.prog 8 #[.slice ao n ca, .slice bo n cb] w (TrueB w) := by
 have HA := lid ha
 have HBB := lid hb
 have HX := lid hx
 have c1 : n ≤ ca := ha.le
 have c2 : n ≤ cb := hb.le
 have m1 : ca ≤ 9223372036854775807 := ha.max
 have m2 : cb ≤ 9223372036854775807 := hb.max
 clear ha hb hx
 go_enter Tryz.func8, Tryz.ntmps8
 go_wp2_with fail
 go_loopw [5] (fun u5 wr => ∃ k : Nat, k ≤ n ∧ u5 = .int .i64 k ∧ Hid (Below w.heap.size w wr)) (fun u5 _ => n - (intOf u5).toNat)
 case atStart => exact ⟨0, Nat.zero_le _, rfl, lid (Below.refl _ _)⟩
 case round =>
  obtain ⟨k, hk, rfl, HB⟩ := hrel
  by_cases hkn : k < n
  ·have hk1 : k < l.length := by rw [HA.out.len]; exact hkn
   have hk2 : k < m.length := by rw [HBB.out.len]; exact hkn
   obtain ⟨p, po, rfl, hlp, hcp⟩ := HA.out.sl.at_ (k := k) hkn
   obtain ⟨q, qo, rfl, hlq, hcq⟩ := HBB.out.sl.at_ (k := k) hkn
   have CI := lid (fun W (hW : Below w.heap.size w W) => SameM_any l[k] m[k] W ((HA.out.el _ (List.getElem_mem hk1)).below hW) ((HBB.out.el _ (List.getElem_mem hk2)).below hW) (map_at HX.out hk1 hk2))
   obtain ⟨s, hs⟩ : ∃ s, l[k] = s := ⟨_, rfl⟩
   obtain ⟨t, ht⟩ : ∃ t, m[k] = t := ⟨_, rfl⟩
   rw [hs, ht] at CI
   have hc1 : ∀ i u, (mce s)[i]? = some u → i < 3 → wr.cell? ⟨p, po + (k * 3 + i), none⟩ = some u := fun i u hu hi => by rw [bc HB.out hlp _]; exact hcp _ u (by rw [show (mcs l)[k * 3 + i]? = (mce l[k])[i]? from flat_at mce_length hk1 hi, hs]; exact hu)
   have hc2 : ∀ i u, (mce t)[i]? = some u → i < 3 → wr.cell? ⟨q, qo + (k * 3 + i), none⟩ = some u := fun i u hu hi => by rw [bc HB.out hlq _]; exact hcq _ u (by rw [show (mcs m)[k * 3 + i]? = (mce m[k])[i]? from flat_at mce_length hk2 hi, ht]; exact hu)
   have s0 : wr.cell? ⟨p, po + k * 3, none⟩ = some (.string s.label) := by have := hc1 0 _ rfl (by omega); exact this
   have s1 : wr.cell? ⟨p, po + k * 3 + 1, none⟩ = some (.slice s.ua s.uses.length s.ucap) := by have := hc1 1 _ rfl (by omega); rwa [← Nat.add_assoc] at this
   have s2 : wr.cell? ⟨p, po + k * 3 + 2, none⟩ = some (.slice s.da s.decls.length s.dcap) := by have := hc1 2 _ rfl (by omega); rwa [← Nat.add_assoc] at this
   have t0 : wr.cell? ⟨q, qo + k * 3, none⟩ = some (.string t.label) := by have := hc2 0 _ rfl (by omega); exact this
   have t1 : wr.cell? ⟨q, qo + k * 3 + 1, none⟩ = some (.slice t.ua t.uses.length t.ucap) := by have := hc2 1 _ rfl (by omega); rwa [← Nat.add_assoc] at this
   have t2 : wr.cell? ⟨q, qo + k * 3 + 2, none⟩ = some (.slice t.da t.decls.length t.dcap) := by have := hc2 2 _ rfl (by omega); rwa [← Nat.add_assoc] at this
   have l1 : p < wr.heap.size := Nat.lt_of_lt_of_le hlp HB.out.size
   have l2 : q < wr.heap.size := Nat.lt_of_lt_of_le hlq HB.out.size
   clear hcp hcq hc1 hc2 hs ht hk1 hk2
   go_wp2_with fail
   refine qd (fun w' => ∃ s : Since wr.heap.size wr, w' = s.world) [(0, true), (1, true), (2, true), (3, true), (4, true), (5, true), (6, true), (7, true), (8, false), (9, true)] ?_
   repeat (first | (refine qk ?_; simp only [Act.put, q1, q2, q3]) | (refine qf ?_; intro K hK; go_big_quiet_op; go_big_quiet_on))
   refine qc ?_
   intro K hK
   go_wp2_with fail
   (with_reducible refine (CI.out _ HB.out.drew).mono ?_); rintro e w2 ⟨rfl, hb2⟩
   have HB2' := lid ((Below.refl wr.heap.size wr).drew.trans hb2)
   have HB2 := lid (HB.out.trans (HB2'.out.mono HB.out.size))
   clear hb2 CI
   go_wp2_with fail
   refine hK.out _ _ (since HB2'.out) ?_
   clear hK K
   repeat (first | (refine qk ?_; simp only [Act.put, q1, q2, q3]) | (refine qf ?_; intro K hK; go_big_quiet_op; go_big_quiet_on))
   refine seq_nil ?_
   go_wp2_with fail
   go_roundw
   case rel => exact ⟨k + 1, by omega, by go_num, HB2⟩
   case measure => simp [intOf]; omega
  ·obtain rfl : k = n := by omega
   clear hkn
   go_wp2_with fail
   go_ret
   exact ⟨rfl, HB.out⟩
end Go.Proofs.YtgcceepadlmelaaGreatDoor
