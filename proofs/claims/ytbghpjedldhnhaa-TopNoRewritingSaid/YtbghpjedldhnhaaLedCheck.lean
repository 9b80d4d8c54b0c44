/-
  ledger.Check and its reference.
-/
import Derived.Test.YtbghpjedldhnhaaLedRec
import Derived.Test.YtbghpjedldhnhaaSl
import Derived.Test.YtbghpjedldhnhaaCells
namespace Go.Proofs.Ytbghpjedldhnhaa
open Go.RowKit

theorem ret_int' {a b : Int} (h : a = b) : Ending.returned (.int .i64 a) = .returned (.int .i64 b) := by rw [h]
theorem chk_bad {p : Option Int} {r : Rec} {l : List Rec} (h : recB r = false) : chkGo p (r :: l) = 1 := by
  cases p <;> simp [chkGo, h]
theorem chk_first {r : Rec} {l : List Rec} (h : recB r = true) : chkGo none (r :: l) = chkGo (some r.1) l := by simp [chkGo, h]
theorem chk_less {p : Int} {r : Rec} {l : List Rec} (h : recB r = true) (hp : r.1 < p) : chkGo (some p) (r :: l) = 10 := by simp [chkGo, h, hp]
theorem chk_next {p : Int} {r : Rec} {l : List Rec} (h : recB r = true) (hp : ¬ r.1 < p) : chkGo (some p) (r :: l) = chkGo (some r.1) l := by simp [chkGo, h, hp]

set_option maxRecDepth 100000 in
set_option maxHeartbeats 8000000 in
theorem Check_any (l : List Rec) (n cap : Nat) (ao : Option Addr) (w : World) (hn : l.length = n) (hs : Sl w 4 ao n (rcells l)) (hr : ∀ r ∈ l, RecS r) (hm : n ≤ maxLen) :
    Calls Try.prog 21 #[.agg #[.slice ao n cap]] w fun e w' => e = .returned (.int .i64 (checkL l)) ∧ Below w.heap.size w w' := by
  have HN := lid hn
  have HR := lid hr
  have hm' : n ≤ 9223372036854775807 := hm
  have hb0 := ba w (Obj.cells #[.slice ao n cap] 26)
  have HS := lid (hs.below hb0)
  have q0 := cell_new_at (w := w) rfl #[.slice ao n cap] 26 0
  have hlt0 : w.heap.size < (w.alloc (Obj.cells #[.slice ao n cap] 26)).heap.size := by simp
  clear hn hs hr hm
  by_cases h4 : n ≤ 10000
  · have HC : Hid (checkL l = chkGo none l) := lid (by unfold checkL; rw [if_pos (by rw [HN.out]; exact h4)])
    go_enter Try.func21, Try.ntmps21
    go_wp2_with fail
    obtain ⟨W0, hW0⟩ : ∃ W0, w.alloc (Obj.cells #[.slice ao n cap] 26) = W0 := ⟨_, rfl⟩
    rw [hW0] at hb0 HS q0 hlt0 ⊢
    have q0' : W0.cell? ⟨w.heap.size, 0, none⟩ = some (.slice ao n cap) := q0
    have Q0 := lid q0'
    clear hW0 q0 q0'
    go_loopw [3, 4, 12] (fun _ _ i wr => ∃ (k : Nat) (p : Option Int), k ≤ n ∧ i = .int .i64 k ∧ Hid (chkGo none l = chkGo p (l.drop k)) ∧ Hid (k = 0 ∧ p = none ∨ ∃ (j : Nat) (hj : j < l.length), k = j + 1 ∧ p = some (l[j]).1) ∧ Below W0.heap.size W0 wr) (fun _ _ i _ => n - (intOf i).toNat)
    case atStart => exact ⟨0, none, Nat.zero_le _, rfl, lid rfl, lid (.inl ⟨rfl, rfl⟩), Below.refl _ _⟩
    case round =>
      obtain ⟨k, p, hk, rfl, HG, HP, hb⟩ := hrel
      by_cases hlt : k < n
      · have hkl : k < l.length := by rw [HN.out]; exact hlt
        obtain ⟨b1, o1, rfl, hlb, hcell⟩ := (HS.out.below hb).at_ hlt
        have x0 := hcell (k * 4 + 0) _ (rcells_at hkl).1
        have x1 := hcell (k * 4 + 1) _ (rcells_at hkl).2.1
        have x2 := hcell (k * 4 + 2) _ (rcells_at hkl).2.2.1
        have x3 := hcell (k * 4 + 3) _ (rcells_at hkl).2.2.2
        rw [← Nat.add_assoc] at x1 x2 x3
        rw [Nat.add_zero] at x0
        have HD := lid (List.drop_eq_getElem_cons hkl)
        have HRS := lid (HR.out _ (List.getElem_mem hkl))
        have hq := (bc hb hlt0 0).trans Q0.out
        have hltr : w.heap.size < wr.heap.size := by have := hb.size; omega
        have HK0 : Hid (∀ j (hj : j < l.length), wr.cell? ⟨b1, o1 + j * 4, none⟩ = some (.int .i64 (l[j]).1)) := lid (fun j hj => by have := hcell (j * 4 + 0) _ (rcells_at hj).1; rwa [Nat.add_zero] at this)
        clear hcell
        obtain ⟨r, hrk⟩ : ∃ r, l[k] = r := ⟨_, rfl⟩
        rw [hrk] at x0 x1 x2 x3 HD HRS
        obtain ⟨t, a, b, d⟩ := r
        simp only at x0 x1 x2 x3
        have HRK := lid hrk
        clear hrk
        go_wp2_with fail
        obtain ⟨W1, hW1⟩ : ∃ W1, wr.alloc (Obj.cells #[.int .i64 t, .string a, .string b, .string d] 36) = W1 := ⟨_, rfl⟩
        have hb1 : Below wr.heap.size wr W1 := by rw [← hW1]; exact ba _ _
        have y0 : W1.cell? ⟨wr.heap.size, 0, none⟩ = some (.int .i64 t) := by rw [← hW1]; exact cell_new_at rfl _ _ _
        have hlt1 : wr.heap.size < W1.heap.size := by rw [← hW1]; simp
        rw [hW1]
        clear hW1 x0 x1 x2 x3
        (with_reducible refine (validRecord_any (t, a, b, d) _ HRS.out).mono ?_); rintro e w2 ⟨rfl, hb2⟩
        have hw2 : Below W0.heap.size W0 w2 := hb.trans ((hb1.trans (hb2.mono (by omega))).mono hb.size)
        have hr2 : Below wr.heap.size wr w2 := hb1.trans (hb2.mono (by omega))
        have y2 := (bc hb2 hlt1 0).trans y0
        have hq2 := (bc hr2 hltr 0).trans hq
        have l1 : w.heap.size < w2.heap.size := by have := hr2.size; omega
        have l2 : wr.heap.size < w2.heap.size := by have := hb2.size; omega
        have l3 : b1 < w2.heap.size := by have := hr2.size; omega
        clear y0 hq
        cases hB : recB (t, a, b, d) with
        | false =>
          have HV := lid (chk_bad (p := p) (l := l.drop (k + 1)) hB)
          clear hB
          go_wp2_with fail
          go_ret
          exact ⟨ret_int' (by rw [HC.out, HG.out, HD.out, HV.out]), hb0.trans (hw2.mono hb0.size)⟩
        | true =>
          have HB := lid hB
          clear hB
          rcases HP.out with ⟨rfl, rfl⟩ | ⟨j, hj, rfl, rfl⟩
          · go_wp2_with fail
            refine wp_region_seq (fun w' => ∃ s : Since w2.heap.size w2, w' = s.world) [(0, true), (1, true), (2, true), (3, true), (4, true), (5, true), (6, true), (7, true), (8, true), (9, true), (10, true), (11, true), (12, true), (13, true)] (by kernel_rfl) (by kernel_rfl) (by intro c d v a w h; cases d <;> exact h) (since (Below.refl _ _).drew) ?_
            repeat (first | (refine seq_skip (by rfl) (by rfl) ?_; simp only [Act.put, List.setIfInBounds_toArray, List.set_cons_succ, List.set_cons_zero]) | (refine seq_float (by rfl) (by rfl) (by rfl) ?_; intro K hK; go_big_quiet_op; go_big_quiet_on))
            refine seq_nil ?_
            go_wp2_with fail
            go_roundw
            case rel => exact ⟨1, some t, by omega, rfl, lid (by rw [HG.out, HD.out, chk_first HB.out]), lid (.inr ⟨0, hkl, rfl, by rw [HRK.out]⟩), hw2.drew⟩
            case measure => simp [intOf]; omega
          · have z := (bc hr2 hlb _).trans (HK0.out j hj)
            obtain ⟨pt, hpt⟩ : ∃ pt, (l[j]).1 = pt := ⟨_, rfl⟩
            rw [hpt] at z HG
            have hj9 : j ≤ 10000 := by omega
            have hjn : (j : Int) < n := by omega
            have hjn1 : (j : Int) + 1 < n := by omega
            have e0 : ((j + 1 : Nat) : Int) = (j : Int) + 1 := by omega
            have hpos : decide ((0 : Int) < (j : Int) + 1) = true := decide_eq_true (by omega)
            have wj : IntKind.i64.wrap (j : Int) = j := IntWalk.i64_in _ (by omega)
            have hjl : decide (j < n) = true := by simp; omega
            clear hpt
            by_cases hlp : t < pt
            · have HV := lid (chk_less (l := l.drop (j + 1 + 1)) HB.out hlp)
              have hd : decide (t < pt) = true := by simpa using hlp
              go_wp2_with fail
              refine wp_region_seq (fun w' => ∃ s : Since w2.heap.size w2, w' = s.world) [(0, true), (1, true), (2, true), (3, true), (4, true), (5, true), (6, true), (7, true), (8, true), (9, true), (10, true), (11, true), (12, true), (13, true)] (by kernel_rfl) (by kernel_rfl) (by intro c d v a w h; cases d <;> exact h) (since (Below.refl _ _).drew) ?_
              repeat (first | (refine seq_skip (by rfl) (by rfl) ?_; simp only [Act.put, List.setIfInBounds_toArray, List.set_cons_succ, List.set_cons_zero]) | (refine seq_float (by rfl) (by rfl) (by rfl) ?_; intro K hK; go_big_quiet_op; go_big_quiet_on))
              refine seq_nil ?_
              go_wp2_with fail
              go_ret
              exact ⟨ret_int' (by rw [HC.out, HG.out, HD.out, HV.out]), hb0.trans ((hw2.mono hb0.size).drew)⟩
            · have HV := lid (chk_next (l := l.drop (j + 1 + 1)) HB.out hlp)
              have hd : decide (t < pt) = false := by simpa using hlp
              go_wp2_with fail
              refine wp_region_seq (fun w' => ∃ s : Since w2.heap.size w2, w' = s.world) [(0, true), (1, true), (2, true), (3, true), (4, true), (5, true), (6, true), (7, true), (8, true), (9, true), (10, true), (11, true), (12, true), (13, true)] (by kernel_rfl) (by kernel_rfl) (by intro c d v a w h; cases d <;> exact h) (since (Below.refl _ _).drew) ?_
              repeat (first | (refine seq_skip (by rfl) (by rfl) ?_; simp only [Act.put, List.setIfInBounds_toArray, List.set_cons_succ, List.set_cons_zero]) | (refine seq_float (by rfl) (by rfl) (by rfl) ?_; intro K hK; go_big_quiet_op; go_big_quiet_on))
              refine seq_nil ?_
              go_wp2_with fail
              go_roundw
              case rel => exact ⟨j + 1 + 1, some t, by omega, by go_num, lid (by rw [HG.out, HD.out, HV.out]), lid (.inr ⟨j + 1, hkl, rfl, by rw [HRK.out]⟩), hw2.drew⟩
              case measure => simp [intOf]; omega
      · obtain rfl : k = n := by omega
        have HV : Hid (chkGo none l = 0) := lid (by rw [HG.out, List.drop_eq_nil_of_le (by rw [HN.out]; exact Nat.le_refl _)]; cases p <;> rfl)
        go_wp2_with fail
        go_ret
        exact ⟨ret_int' (by rw [HC.out, HV.out]), hb0.trans (hb.mono hb0.size)⟩
  · have HC : Hid (checkL l = 19) := lid (by unfold checkL; rw [if_neg (by rw [HN.out]; exact h4)])
    have h4' : (10000 : Int) < n := by omega
    go_enter Try.func21, Try.ntmps21
    go_wp2_with fail
    go_ret
    exact ⟨ret_int' HC.out.symm, hb0⟩

end Go.Proofs.Ytbghpjedldhnhaa
