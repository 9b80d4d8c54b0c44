/-
  sprt.Ends.
-/
import Derived.Test.YtmlkegopbdfiaaaSprEndsSpec
import Derived.Test.YtmlkegopbdfiaaaAppG
import Derived.Test.YtmlkegopbdfiaaaRegionC
namespace Go.Proofs.Ytmlkegopbdfiaaa
open Go.RowKit

set_option maxRecDepth 100000 in
theorem zero_counts (w : World) : (zeroValue 53).run Try.prog w = .ok (.agg (Array.replicate 1024 (.int .i64 0))) w := by kernel_rfl
/-- The table in a box. -/
def Tab (w : World) (X : Nat) (v : Nat → Nat → Nat) : Prop :=
  X < w.heap.size ∧ ∀ j q, j < 32 → q < 32 → w.cell? ⟨X, j * 32 + q, none⟩ = some (.int .i64 (v j q : Nat)) ∧ w.frozen? ⟨X, j * 32 + q, none⟩ = false
theorem Tab.new (w : World) (t : TypeId) : Tab (w.alloc (.cells (Array.replicate 1024 (.int .i64 0)) t)) w.heap.size (fun _ _ => 0) := by
  refine ⟨by simp, fun j q hj hq => ⟨?_, ?_⟩⟩
  · rw [cell_new_at rfl, Array.getElem?_replicate, if_pos (by omega)]
    rfl
  · rw [frozen?_alloc_cells]
    simp [World.frozen?]
theorem Tab.below {w w' : World} {B X : Nat} {v : Nat → Nat → Nat} (h : Tab w X v) (hb : Below B w w') (hX : X < B) : Tab w' X v :=
  ⟨by have := hb.size; have := h.1; omega, fun j q hj hq => ⟨(bc hb hX _).trans (h.2 j q hj hq).1, (bf hb hX _).trans (h.2 j q hj hq).2⟩⟩
theorem Tab.set {w : World} {X : Nat} {v v' : Nat → Nat → Nat} (h : Tab w X v) {j q : Nat} (hj : j < 32) (hq : q < 32) (x : Int) (hx : x = (v' j q : Nat)) (ho : ∀ j' q', ¬ (j' = j ∧ q' = q) → v' j' q' = v j' q') :
    Tab (w.setCell ⟨X, j * 32 + q, none⟩ (.int .i64 x)) X v' := by
  refine ⟨by rw [World.size_setCell]; exact h.1, fun j' q' hj' hq' => ⟨?_, ?_⟩⟩
  · by_cases e : j' = j ∧ q' = q
    · obtain ⟨rfl, rfl⟩ := e
      rw [World.cell?_setCell_same' _ _ _ (by rw [(h.2 j' q' hj' hq').1]; rfl), hx]
    · rw [(World.cell?_setCell_other (w := w) (a := ⟨X, j * 32 + q, none⟩) (b := ⟨X, j' * 32 + q', none⟩) _ (by intro hh; have := congrArg Addr.off hh; simp only at this; omega)), (h.2 j' q' hj' hq').1, ho j' q' e]
  · rw [World.frozen?_setCell]
    exact (h.2 j' q' hj' hq').2

/-- The cells of ends. -/
def evals (l : List EndN) : List Value := l.flatMap fun e => [.int .i64 (e.1 : Nat), .int .i64 (e.2.1 : Nat), .int .i64 e.2.2.1, .int .i64 (e.2.2.2 : Nat)]
theorem evals_append (a b : List EndN) : evals (a ++ b) = evals a ++ evals b := by simp [evals]
theorem Tab.start (dec : Nat → Nat → Int) (w : World) (t : TypeId) : Tab (w.alloc (.cells ((Array.replicate 1024 (Value.int .i64 0)).setIfInBounds 0 (.int .i64 1)) t)) w.heap.size (cellv dec 0 0) := by
  refine ⟨by simp, fun j q hj hq => ⟨?_, ?_⟩⟩
  · rw [cell_new_at rfl, Array.getElem?_setIfInBounds, Array.size_replicate, Array.getElem?_replicate]
    by_cases h : 0 = j * 32 + q
    · obtain ⟨rfl, rfl⟩ : j = 0 ∧ q = 0 := by omega
      rfl
    · rw [if_neg h, if_pos (by omega)]
      have : cellv dec 0 0 j q = 0 := by
        unfold cellv
        split
        · obtain rfl : j = 0 := by omega
          rw [cnt, if_neg (by omega)]
        · split
          · rw [part_zero]
          · rfl
      rw [this]
      rfl
  · rw [frozen?_alloc_cells]
    simp [World.frozen?]
theorem Tab.congr {w : World} {X : Nat} {v v' : Nat → Nat → Nat} (h : Tab w X v) (he : ∀ j q, v' j q = v j q) : Tab w X v' :=
  ⟨h.1, fun j q hj hq => by rw [he]; exact h.2 j q hj hq⟩
theorem cellv_next (dec : Nat → Nat → Int) (K j q : Nat) : cellv dec (K + 1) 0 j q = cellv dec K (K + 1) j q := by
  unfold cellv
  rcases Nat.lt_trichotomy j (K + 1) with h | h | h
  · rw [if_pos (by omega), if_pos (by omega)]
  · subst h
    rw [if_pos (by omega), if_neg (by omega), if_pos rfl, part_full]
  · rw [if_neg (show ¬ j ≤ K + 1 by omega), if_neg (show ¬ j ≤ K by omega), if_neg (show ¬ j = K + 1 by omega), part_zero]
    split <;> rfl

theorem cellv_same (dec : Nat → Nat → Int) (K P j q : Nat) (hg : gon dec K P = 0) : cellv dec K (P + 1) j q = cellv dec K P j q := by
  unfold cellv
  congr 1
  have : part dec K (P + 1) q = part dec K P q := by
    by_cases h1 : q = P
    · subst h1
      rw [part_step_same, hg, Nat.add_zero]
    · by_cases h2 : q = P + 1
      · subst h2
        rw [part_step_next, hg, Nat.add_zero]
      · exact part_step_other dec K P q h1 h2
  rw [this]
theorem cellv_put (dec : Nat → Nat → Int) (K P C : Nat) (hg : gon dec K P = C) (j q : Nat) (h : ¬ (j = K + 1 ∧ q = P + 1)) : cellv dec K (P + 1) j q = if j = K + 1 ∧ q = P then part dec K P P + C else cellv dec K P j q := by
  unfold cellv
  by_cases h1 : j ≤ K
  · rw [if_pos h1, if_neg (by omega), if_pos h1]
  · rw [if_neg h1, if_neg h1]
    by_cases h2 : j = K + 1
    · rw [if_pos h2, if_pos h2]
      by_cases h3 : q = P
      · rw [if_pos ⟨h2, h3⟩, h3, part_step_same, hg]
      · rw [if_neg (fun hh => h3 hh.2)]
        exact part_step_other dec K P q h3 (fun hh => h ⟨h2, hh⟩)
    · rw [if_neg h2, if_neg h2, if_neg (fun hh => h2 hh.1)]
theorem cellv_put2 (dec : Nat → Nat → Int) (K P C : Nat) (hg : gon dec K P = C) : cellv dec K (P + 1) (K + 1) (P + 1) = C := by
  unfold cellv
  rw [if_neg (by omega), if_pos rfl, part_step_next, part_next_zero, hg, Nat.zero_add]
theorem gon_some {dec : Nat → Nat → Int} {k p : Nat} (h : dec p (k - p) = 0) : gon dec k p = cnt dec k p := by unfold gon; rw [if_pos h]
theorem endAt_none {dec : Nat → Nat → Int} {n k p : Nat} (h : cnt dec k p = 0) : endAt dec n k p = [] := by unfold endAt; rw [if_pos h]
theorem endAt_open {dec : Nat → Nat → Int} {n k p : Nat} (h : dec p (k - p) = 0) (hk : k ≠ n) : endAt dec n k p = [] := by
  unfold endAt
  split
  · rfl
  · rw [if_pos ⟨h, hk⟩]
theorem endAt_some {dec : Nat → Nat → Int} {n k p : Nat} (h : ¬ cnt dec k p = 0) (hd : ¬ (dec p (k - p) = 0 ∧ k ≠ n)) : endAt dec n k p = [(p, k - p, dec p (k - p), cnt dec k p)] := by
  unfold endAt
  rw [if_neg h, if_neg hd]
theorem gon_none {dec : Nat → Nat → Int} {k p : Nat} (h : cnt dec k p = 0 ∨ ¬ dec p (k - p) = 0) : gon dec k p = 0 := by
  unfold gon
  rcases h with h | h
  · split <;> first | exact h | rfl
  · rw [if_neg h]
theorem info_end : (Try.prog.info? 45).map (fun i => (i.zero, i.size, i.bytes)) = some (some (.agg #[.int .i64 0, .int .i64 0, .int .i64 0, .int .i64 0]), 4, 32) := by kernel_rfl

set_option maxRecDepth 100000 in
set_option maxHeartbeats 8000000 in
theorem Ends_ok (Gn Gd Bn Bd An Ad En Ed : Nat) (n : Nat) (w : World) (hn : n ≤ 30) (hE : trialE (Gn : Int) Gd Bn Bd An Ad En Ed = 0) (r1 : RatioN Gn Gd) (r2 : RatioN Bn Bd) (r3 : RatioN An Ad) (r4 : RatioN En Ed) :
    Calls Try.prog 20 #[.agg (tv Gn Gd Bn Bd An Ad En Ed), .int .i64 n] w fun e w' => ∃ v', e = .returned (.tuple #[v', .int .i64 0]) ∧ (∃ B, w'.ownsRow B 45 4 v' (endsTo (decS Gn Gd Bn Bd An Ad En Ed) n (n + 1)).length (evals (endsTo (decS Gn Gd Bn Bd An Ad En Ed) n (n + 1)))) ∧ Below w.heap.size w w' := by
  have hb0 : Below w.heap.size w (w.alloc (Obj.cells (tv Gn Gd Bn Bd An Ad En Ed) 25)) := ba _ _
  have hT0 := TC.new w Gn Gd Bn Bd An Ad En Ed 25
  have HE := lid hE
  have R1 := lid r1
  have R2 := lid r2
  have R3 := lid r3
  have R4 := lid r4
  have hn1 : (n : Int) ≤ 30 := by omega
  have hn2 : decide ((n : Int) < 0) = false := by simp
  have hn3 : decide ((30 : Int) < (n : Int)) = false := by simp; omega
  clear hE r1 r2 r3 r4
  go_enter Try.func20, Try.ntmps20
  go_wp2_with fail
  (with_reducible refine (Check_any (Gn : Int) Gd Bn Bd An Ad En Ed _).mono ?_); rintro e w1 ⟨rfl, hb1⟩
  rw [HE.out]
  have hw1 := hb0.trans (hb1.mono (by simp))
  have HT1 := lid (hT0.below hb1 (by simp))
  have hq1 : w.heap.size < w1.heap.size := by have := hb1.size; rw [World.size_alloc] at this; omega
  clear hb1 hT0
  go_wp2_with fail
  rw [zero_counts]
  have HTab := lid (Tab.start (decS Gn Gd Bn Bd An Ad En Ed) w1 53)
  have hz0 : (Array.replicate 1024 (Value.int .i64 0))[0]? = some (Value.int .i64 0) := by simp
  generalize Array.replicate 1024 (Value.int .i64 0) = ZZ at *
  go_wp2_with fail
  obtain ⟨W2, hW2⟩ : ∃ W2, w1.alloc (Obj.cells (ZZ.setIfInBounds 0 (Value.int .i64 1)) 53) = W2 := ⟨_, rfl⟩
  have hb2 : Below w1.heap.size w1 W2 := by rw [← hW2]; exact ba _ _
  have hq2 : w1.heap.size < W2.heap.size := by rw [← hW2]; simp
  rw [hW2] at HTab ⊢
  clear hW2 hz0
  go_loopw [8, 9, 10, 11, 12] (fun ends k _ _ _ wr => ∃ K : Nat, K ≤ n + 1 ∧ k = .int .i64 K ∧ wr.ownsRow (w1.heap.size + 1) 45 4 ends (endsTo (decS Gn Gd Bn Bd An Ad En Ed) n K).length (evals (endsTo (decS Gn Gd Bn Bd An Ad En Ed) n K)) ∧ Hid (K ≤ n → Tab wr w1.heap.size (cellv (decS Gn Gd Bn Bd An Ad En Ed) K 0)) ∧ w1.heap.size < wr.heap.size ∧ Below w1.heap.size w1 wr) (fun _ k _ _ _ _ => n + 1 - (intOf k).toNat)
  case atStart => exact ⟨0, Nat.zero_le _, rfl, World.ownsRow_nil _ _ _ _, lid (fun _ => HTab.out), hq2, hb2⟩
  case round =>
    obtain ⟨K, hK, rfl, hown, HK, hqr, hbr⟩ := hrel
    by_cases hKn : K ≤ n
    · have hKi : (K : Int) ≤ n := by omega
      have hK32 : (K : Int) < 32 := by omega
      have HKT := lid (HK.out hKn)
      clear HK
      go_wp2_with fail
      go_loopw [8, 10, 11, 12] (fun ends p _ _ wi => ∃ P : Nat, P ≤ K + 1 ∧ p = .int .i64 P ∧ wi.ownsRow (w1.heap.size + 1) 45 4 ends (endsTo (decS Gn Gd Bn Bd An Ad En Ed) n K ++ endsRow (decS Gn Gd Bn Bd An Ad En Ed) n K P).length (evals (endsTo (decS Gn Gd Bn Bd An Ad En Ed) n K ++ endsRow (decS Gn Gd Bn Bd An Ad En Ed) n K P)) ∧ Hid (Tab wi w1.heap.size (cellv (decS Gn Gd Bn Bd An Ad En Ed) K (if K = n then 0 else P))) ∧ w1.heap.size < wi.heap.size ∧ Below w1.heap.size w1 wi) (fun _ p _ _ _ => K + 1 - (intOf p).toNat)
      case atStart => exact ⟨0, Nat.zero_le _, rfl, by rw [show endsRow (decS Gn Gd Bn Bd An Ad En Ed) n K 0 = [] from rfl, List.append_nil]; exact hown, lid (by split <;> exact HKT.out), hqr, hbr⟩
      case round =>
        obtain ⟨P, hP, rfl, hown2, HT, hqi, hbi⟩ := hrel
        by_cases hPK : P ≤ K
        · have hPi : (P : Int) ≤ K := by omega
          have hP32 : (P : Int) < 32 := by omega
          obtain ⟨y0, z0⟩ := HT.out.2 K P (by omega) (by omega)
          rw [show cellv (decS Gn Gd Bn Bd An Ad En Ed) K (if K = n then 0 else P) K P = cnt (decS Gn Gd Bn Bd An Ad En Ed) K P from if_pos (Nat.le_refl _)] at y0
          generalize hC : cnt (decS Gn Gd Bn Bd An Ad En Ed) K P = C at *
          by_cases hC0 : C = 0
          · subst hC0
            have HEA := lid (endAt_none (n := n) hC)
            have HG := lid (gon_none (.inl hC))
            clear hC
            go_wp2_with fail
            go_roundw
            case rel =>
              refine ⟨P + 1, by omega, by go_num, ?_, lid ?_, hqi, hbi⟩
              · rw [endsRow_succ, HEA.out, List.append_nil]
                exact hown2
              · by_cases e : K = n
                · simpa [e] using HT.out
                · rw [if_neg e]
                  have := HT.out
                  rw [if_neg e] at this
                  exact this.congr (fun j q => cellv_same _ K P j q HG.out)
            case measure => simp [intOf]; omega
          · obtain ⟨F, hF⟩ : ∃ F, K - P = F := ⟨_, rfl⟩
            have hFi : (K : Int) - P = F := by omega
            have hCi : (C : Int) ≠ 0 := by omega
            have e0 : ((C : Int) == 0) = false := by simp; omega
            have HCC := lid hC
            obtain ⟨t0, t1, t2, t3, t4, t5, t6, t7⟩ := HT1.out.below hbi hq1
            clear hC
            go_wp2_with fail
            (with_reducible refine (decide_any Gn Gd Bn Bd An Ad En Ed P F _ R1.out R2.out R3.out R4.out (by omega) (by omega)).mono ?_); rintro e w3 ⟨rfl, hb3⟩
            have hown3 := ownsRow_below hown2 hb3
            have hT3 := lid (HT.out.below hb3 hqi)
            have hbi3 := hbi.trans (hb3.mono hbi.size)
            have hqi3 : w1.heap.size < w3.heap.size := by have := hb3.size; omega
            obtain ⟨d, hd⟩ : ∃ d, decS Gn Gd Bn Bd An Ad En Ed P F = d := ⟨_, rfl⟩
            have HDD := lid hd
            rw [hd]
            clear hd t0 t1 t2 t3 t4 t5 t6 t7 hb3
            by_cases hdk : d = 0 ∧ K ≠ n
            · obtain ⟨rfl, hKn'⟩ := hdk
              have hKlt : (K : Int) < n := by omega
              have e1 : ((K : Int) == (n : Int)) = false := by simp; omega
              have e1n : (K == n) = false := by simp; omega
              have hT3' := hT3.out
              rw [if_neg hKn'] at hT3'
              clear hT3
              obtain ⟨y1, z1⟩ := hT3'.2 (K + 1) P (by omega) (by omega)
              rw [show cellv (decS Gn Gd Bn Bd An Ad En Ed) K P (K + 1) P = part (decS Gn Gd Bn Bd An Ad En Ed) K P P from by unfold cellv; rw [if_neg (by omega), if_pos rfl]] at y1
              have hA := part_le (decS Gn Gd Bn Bd An Ad En Ed) K P P
              have hC2 := cnt_le (decS Gn Gd Bn Bd An Ad En Ed) K P
              have hp1 : 2 ^ (K + 1) ≤ 2 ^ 31 := Nat.pow_le_pow_right (by omega) (by omega)
              have hp2 : 2 ^ K ≤ 2 ^ 31 := Nat.pow_le_pow_right (by omega) (by omega)
              rw [HCC.out] at hC2
              obtain ⟨A, hAA⟩ : ∃ A, part (decS Gn Gd Bn Bd An Ad En Ed) K P P = A := ⟨_, rfl⟩
              have HAA := lid hAA
              rw [hAA] at y1 hA
              have hA' : A ≤ 2147483648 := by omega
              have hC' : C ≤ 2147483648 := by omega
              clear hp1 hp2 hA hC2 hAA
              have wA : IntKind.i64.wrap ((A : Int) + C) = (A : Int) + C := IntWalk.i64_in _ (by omega)
              go_wp2_with fail
              refine wp_region_seqC 10 (fun w' => ∃ s : Since w3.heap.size w3, w' = s.world) [(0, true), (1, true), (2, true), (3, true), (4, true), (5, true), (6, true), (7, true), (8, true), (9, true), (10, false)] (by kernel_rfl) (by kernel_rfl) (by intro c d v a w h; cases d <;> exact h) (since (Below.refl _ _).drew) ?_
              repeat (first | (refine seqL_skip (by rfl) (by rfl) (by rfl) ?_; simp only [Act.put, List.setIfInBounds_toArray, List.set_cons_succ, List.set_cons_zero]) | (refine seqL_float (by rfl) (by rfl) (by rfl) (by rfl) ?_; intro K hK; go_big_quiet_op; go_big_quiet_on))
              refine seqL_last (by rfl) (by rfl) ?_
              intro K hK
              go_wp2_with fail
              refine hK.out _ _ ?_
              clear hK K
              go_wp2_with fail
              obtain ⟨W4, hW4⟩ : ∃ W4, (w3.setCell ⟨w1.heap.size, (K + 1) * 32 + P, none⟩ (.int .i64 ((A : Int) + C))).drew = W4 := ⟨_, rfl⟩
              have hT4 : Tab W4 w1.heap.size (fun j q => if j = K + 1 ∧ q = P then part (decS Gn Gd Bn Bd An Ad En Ed) K P P + C else cellv (decS Gn Gd Bn Bd An Ad En Ed) K P j q) := by
                rw [← hW4]
                exact hT3'.set (by omega) (by omega) _ (by rw [if_pos ⟨rfl, rfl⟩, HAA.out]; omega) (fun j q h => if_neg h)
              have hown4 : W4.ownsRow (w1.heap.size + 1) 45 4 u8 (endsTo (decS Gn Gd Bn Bd An Ad En Ed) n K ++ endsRow (decS Gn Gd Bn Bd An Ad En Ed) n K P).length (evals (endsTo (decS Gn Gd Bn Bd An Ad En Ed) n K ++ endsRow (decS Gn Gd Bn Bd An Ad En Ed) n K P)) := by
                rw [← hW4]
                have hx := ownsRow_setCell_below hown3 (a := ⟨w1.heap.size, (K + 1) * 32 + P, none⟩) (by show w1.heap.size < w1.heap.size + 1; omega) (.int .i64 ((A : Int) + C))
                exact ownsRow_below hx (Below.refl _ _).drew
              have hbi4 : Below w1.heap.size w1 W4 := by rw [← hW4]; exact (hbi3.setCell (Nat.le_refl _) _).drew
              have hqi4 : w1.heap.size < W4.heap.size := by rw [← hW4, World.size_drew, World.size_setCell]; exact hqi3
              rw [hW4]
              clear hW4 y1 z1 wA hown3 hbi3 hqi3 hT3'
              obtain ⟨y2, z2⟩ := hT4.2 (K + 1) (P + 1) (by omega) (by omega)
              change W4.cell? ⟨w1.heap.size, (K + 1) * 32 + (P + 1), none⟩ = some (.int .i64 ((if K + 1 = K + 1 ∧ P + 1 = P then part (decS Gn Gd Bn Bd An Ad En Ed) K P P + C else cellv (decS Gn Gd Bn Bd An Ad En Ed) K P (K + 1) (P + 1) : Nat) : Int)) at y2
              rw [if_neg (by omega), show cellv (decS Gn Gd Bn Bd An Ad En Ed) K P (K + 1) (P + 1) = 0 from by unfold cellv; rw [if_neg (by omega), if_pos rfl, part_next_zero]] at y2
              have y2' : W4.cell? ⟨w1.heap.size, (K + 1) * 32 + (P + 1), none⟩ = some (.int .i64 0) := y2
              clear y2
              have wC : IntKind.i64.wrap (C : Int) = C := IntWalk.i64_in _ (by omega)
              have HT4 := lid hT4
              clear hT4
              go_wp2_with fail
              refine wp_region_seqC 11 (fun w' => ∃ s : Since W4.heap.size W4, w' = s.world) [(0, true), (1, true), (2, true), (3, true), (4, true), (5, true), (6, true), (7, true), (8, true), (9, true), (10, true), (11, false)] (by kernel_rfl) (by kernel_rfl) (by intro c d v a w h; cases d <;> exact h) (since (Below.refl _ _).drew) ?_
              repeat (first | (refine seqL_skip (by rfl) (by rfl) (by rfl) ?_; simp only [Act.put, List.setIfInBounds_toArray, List.set_cons_succ, List.set_cons_zero]) | (refine seqL_float (by rfl) (by rfl) (by rfl) (by rfl) ?_; intro K hK; go_big_quiet_op; go_big_quiet_on))
              refine seqL_last (by rfl) (by rfl) ?_
              intro K hK
              go_wp2_with fail
              refine hK.out _ _ ?_
              clear hK K
              go_wp2_with fail
              go_roundw
              case rel =>
                have hG : gon (decS Gn Gd Bn Bd An Ad En Ed) K P = C := by rw [gon_some (by rw [hF]; exact HDD.out), HCC.out]
                refine ⟨P + 1, by omega, by go_num, ?_, lid ?_, ?_, ?_⟩
                · rw [endsRow_succ, endAt_open (by rw [hF]; exact HDD.out) hKn', List.append_nil]
                  exact ownsRow_setCell_below hown4 (by show w1.heap.size < w1.heap.size + 1; omega) _
                · rw [if_neg hKn']
                  exact HT4.out.set (by omega) (by omega) _ (by rw [cellv_put2 _ K P C hG]) (fun j q h => cellv_put _ K P C hG j q h)
                · rw [World.size_drew, World.size_setCell]; exact hqi4
                · exact (hbi4.setCell (p := ⟨w1.heap.size, (K + 1) * 32 + (P + 1), none⟩) (Nat.le_refl _) _).drew
              case measure => simp [intOf]; omega
            · have HEA : Hid (endAt (decS Gn Gd Bn Bd An Ad En Ed) n K P = [(P, F, d, C)]) := lid (by rw [endAt_some (by rw [HCC.out]; exact hC0) (by rw [hF, HDD.out]; exact hdk), hF, HDD.out, HCC.out])
              have HLE : Hid (K = n ∨ gon (decS Gn Gd Bn Bd An Ad En Ed) K P = 0) := lid (by
                by_cases e : K = n
                · exact .inl e
                · exact .inr (gon_none (.inr (by rw [hF, HDD.out]; exact fun h => hdk ⟨h, e⟩))))
              have hl1 := endsTo_length (decS Gn Gd Bn Bd An Ad En Ed) n K (by omega)
              have hl2 := endsRow_length (decS Gn Gd Bn Bd An Ad En Ed) n K P
              obtain ⟨L, hL⟩ : ∃ L, endsTo (decS Gn Gd Bn Bd An Ad En Ed) n K ++ endsRow (decS Gn Gd Bn Bd An Ad En Ed) n K P = L := ⟨_, rfl⟩
              have hLl : L.length ≤ 2000 := by rw [← hL, List.length_append]; omega
              have HL := lid hL
              rw [hL] at hown3
              clear hl1 hl2 hL
              obtain ⟨m, hm⟩ : ∃ m, L.length = m := ⟨_, rfl⟩
              have HM := lid hm
              rw [hm] at hown3 hLl
              clear hm
              have key : Hid ((d != 0) = true ∨ (d = 0 ∧ K = n)) := lid (by
                by_cases e : d = 0
                · exact .inr ⟨e, by by_cases e2 : K = n; exact e2; exact absurd ⟨e, e2⟩ hdk⟩
                · exact .inl (by simpa using e))
              clear hdk
              rcases key.out with hd1 | ⟨rfl, rfl⟩
              all_goals
                go_wp2_with (at_builtin; go_must (refine wpList_append_new #[.int .i64 P, .int .i64 F, .int .i64 _, .int .i64 C] rfl _ _ 39 rfl (w1.heap.size + 1) 45 (.agg #[.int .i64 0, .int .i64 0, .int .i64 0, .int .i64 0]) 4 32 info_end Try.underlying39 rfl (by decide) _ m _ hown3 rfl rfl rfl (by simp [Value.oneCell']) (by simp [maxLen]; omega) (by omega) (by omega) ?_))
                intro v' w5 hown5 hb5 _
                go_wp2_with fail
                go_roundw
                case rel =>
                  refine ⟨P + 1, by omega, by go_num, ?_, lid ?_, by have := hb5.size; omega, hbi3.trans (hb5.mono (by omega))⟩
                  · rw [endsRow_succ, HEA.out, ← List.append_assoc, HL.out, List.length_append, HM.out, evals_append]
                    exact hown5
                  · have hT5 := hT3.out.below hb5 (by omega)
                    first
                      | (simpa using hT5; done)
                      | (split
                         · rename_i e
                           rw [if_pos e] at hT5
                           exact hT5
                         · rename_i e
                           rw [if_neg e] at hT5
                           exact hT5.congr (fun j q => cellv_same _ K P j q (HLE.out.resolve_left e)))
                case measure => simp [intOf]; omega
        · obtain rfl : P = K + 1 := by omega
          go_wp2_with fail
          go_roundw
          case rel =>
            refine ⟨K + 1, by omega, by go_num, by rw [endsTo_succ]; exact hown2, lid (fun h => ?_), hqi, hbi⟩
            have hT' := HT.out
            rw [if_neg (by omega)] at hT'
            exact hT'.congr (fun j q => cellv_next _ K j q)
          case measure => simp [intOf]; omega
    · obtain rfl : K = n + 1 := by omega
      go_wp2_with fail
      go_ret2
      exact ⟨_, rfl, ⟨_, hown⟩, hw1.trans (hbr.mono hw1.size)⟩
end Go.Proofs.Ytmlkegopbdfiaaa
