/-
  weight of chapter 52's statements.
-/
import Derived.Test.YtmlkegopbdfiaaaSprEndsAny
import Derived.Test.YtmlkegopbdfiaaaSprSame
import Derived.Test.YtmlkegopbdfiaaaSprSums
namespace Go.Proofs.Ytmlkegopbdfiaaa
open Go.RowKit

theorem dsum_append (d : Int) (x y n : Nat) (a b : List EndN) : dsum d x y n (a ++ b) = dsum d x y n a + dsum d x y n b := by simp [dsum, wsum_append]
theorem dsum_take_succ (d : Int) (x y n : Nat) {l : List EndN} {k : Nat} (h : k < l.length) : dsum d x y n (l.take (k + 1)) = dsum d x y n (l.take k) + if l[k].2.2.1 = d then wgt x y n l[k] else 0 := by
  rw [List.take_succ_eq_append_getElem h, dsum_append]
  congr 1
  unfold dsum
  rw [List.filter_cons]
  split
  · rename_i hd
    rw [if_pos (by simpa using hd)]
    simp [wsum]
  · rename_i hd
    rw [if_neg (by simpa using hd)]
    simp [wsum]
theorem dsum_take_le (d : Int) (x y n : Nat) (l : List EndN) (k : Nat) : dsum d x y n (l.take k) ≤ dsum d x y n l := by
  conv => rhs; rw [← List.take_append_drop k l, dsum_append]
  omega
theorem wgt_le_wsum {x y n : Nat} {l : List EndN} {e : EndN} (h : e ∈ l) : wgt x y n e ≤ wsum x y n l := by
  induction l with
  | nil => cases h
  | cons a l ih =>
    simp only [wsum, List.map_cons, List.sum_cons]
    rcases List.mem_cons.1 h with rfl | h
    · omega
    · have := ih h
      unfold wsum at this
      omega
theorem wgt_parts {x y n P F C : Nat} {D : Int} (hx : 1 ≤ x) (hy : 1 ≤ y) :
    (∀ q, q ≤ P → C * x ^ q ≤ wgt x y n (P, F, D, C)) ∧ (∀ q, q ≤ F → C * x ^ P * y ^ q ≤ wgt x y n (P, F, D, C)) ∧ (∀ q, q ≤ n - P - F → C * x ^ P * y ^ F * (x + y) ^ q ≤ wgt x y n (P, F, D, C)) := by
  have h3 : ∀ q, q ≤ n - P - F → C * x ^ P * y ^ F * (x + y) ^ q ≤ wgt x y n (P, F, D, C) := fun q hq => Nat.mul_le_mul_left _ (Nat.pow_le_pow_right (by omega) hq)
  have h2 : ∀ q, q ≤ F → C * x ^ P * y ^ q ≤ wgt x y n (P, F, D, C) := fun q hq => Nat.le_trans (Nat.mul_le_mul_left _ (Nat.pow_le_pow_right hy hq)) (by simpa using h3 0 (Nat.zero_le _))
  exact ⟨fun q hq => Nat.le_trans (Nat.mul_le_mul_left _ (Nat.pow_le_pow_right hx hq)) (by simpa using h2 0 (Nat.zero_le _)), h2, h3⟩

set_option maxRecDepth 100000 in
set_option maxHeartbeats 8000000 in
theorem weight_any (L : List EndN) (n1 c1 : Nat) (a1 : Option Addr) (d : Int) (x y D N : Nat) (w : World) (hl1 : L.length = n1) (hs1 : Sl w 4 a1 n1 (evals L)) (hlen : n1 ≤ 1000) (hx : 1 ≤ x) (hy : 1 ≤ y) (hD : x + y = D) (hD20 : D ≤ 20) (hN : N ≤ 11)
    (hM : ∀ e ∈ L, e.1 + e.2.1 ≤ N ∧ 1 ≤ e.2.2.2 ∧ e.2.2.2 ≤ 4096) (hB : wsum x y N L ≤ 204800000000000) :
    Calls Try.prog 23 #[.slice a1 n1 c1, .int .i64 d, .agg #[.int .i64 x, .int .i64 D], .int .i64 N] w fun e w' => e = .returned (.tuple #[.int .i64 (dsum d x y N L : Nat), .bool true]) ∧ Below w.heap.size w w' := by
  have HL1 := lid hl1
  have HS1 := lid hs1
  have HM := lid hM
  have HB := lid hB
  have HDD := lid hD
  have hDi : (D : Int) - x = y := by omega
  have hb0 : Below w.heap.size w (w.alloc (Obj.cells #[.int .i64 x, .int .i64 D] 23)) := ba _ _
  have hq0 : (w.alloc (Obj.cells #[.int .i64 x, .int .i64 D] 23)).cell? ⟨w.heap.size, 0, none⟩ = some (.int .i64 x) := by rw [cell_new_at rfl]; rfl
  have hq1 : (w.alloc (Obj.cells #[.int .i64 x, .int .i64 D] 23)).cell? ⟨w.heap.size, 1, none⟩ = some (.int .i64 D) := by rw [cell_new_at rfl]; rfl
  clear hl1 hs1 hM hB hD
  go_enter Try.func23, Try.ntmps23
  go_wp2_with fail
  obtain ⟨W0, hW0⟩ : ∃ W0, w.alloc (Obj.cells #[.int .i64 x, .int .i64 D] 23) = W0 := ⟨_, rfl⟩
  have hlt0 : w.heap.size < W0.heap.size := by rw [← hW0]; simp
  have HS0 := lid (HS1.out.below hb0)
  rw [hW0] at hb0 hq0 hq1 HS0 ⊢
  have HQ0 := lid hq0
  have HQ1 := lid hq1
  clear hW0 HS1 hq0 hq1
  go_loopw [10, 12, 13, 16, 55, 64, 81] (fun sum _ _ i _ _ _ wr => ∃ j : Nat, j ≤ n1 ∧ sum = .int .i64 (dsum d x y N (L.take j) : Nat) ∧ i = .int .i64 j ∧ Below W0.heap.size W0 wr) (fun _ _ _ i _ _ _ _ => n1 - (intOf i).toNat)
  case atStart => exact ⟨0, Nat.zero_le _, rfl, rfl, Below.refl _ _⟩
  case round =>
    obtain ⟨j, hj, rfl, rfl, hb⟩ := hrel
    by_cases hlt : j < n1
    · have hjl : j < L.length := by rw [HL1.out]; exact hlt
      obtain ⟨b1, o1, rfl, hlb, hcell⟩ := (HS0.out.below hb).at_ (k := j) hlt
      have x0 := hcell (j * 4 + 0) _ (evals_at hjl).1
      have x1 := hcell (j * 4 + 1) _ (evals_at hjl).2.1
      have x2 := hcell (j * 4 + 2) _ (evals_at hjl).2.2.1
      have x3 := hcell (j * 4 + 3) _ (evals_at hjl).2.2.2
      rw [← Nat.add_assoc] at x1 x2 x3
      rw [Nat.add_zero] at x0
      have HW := lid (dsum_take_succ d x y N hjl)
      have hWB := Nat.le_trans (dsum_take_le d x y N L (j + 1)) (Nat.le_trans (dsum_le _ _ _ _ _) HB.out)
      have hMem := HM.out _ (List.getElem_mem hjl)
      have hWG := Nat.le_trans (wgt_le_wsum (x := x) (y := y) (n := N) (List.getElem_mem hjl)) HB.out
      rw [HW.out] at hWB
      clear hcell
      obtain ⟨⟨P, F, E, C⟩, hLe⟩ : ∃ e, L[j] = e := ⟨_, rfl⟩
      rw [hLe] at x0 x1 x2 x3 hWB hMem hWG HW
      obtain ⟨m1, m2, m3⟩ := hMem
      simp only at x0 x1 x2 x3 hWB m1 m2 m3
      have hj1000 : j ≤ 1000 := by omega
      have HPT := lid (wgt_parts (x := x) (y := y) (n := N) (P := P) (F := F) (C := C) (D := E) hx hy)
      obtain ⟨T, hT⟩ : ∃ T, dsum d x y N (L.take j) = T := ⟨_, rfl⟩
      rw [hT] at hWB HW
      rw [hT]
      have hT1 : T ≤ 204800000000000 := by omega
      have hp0 := (cell_old_at (w := wr) (b := w.heap.size) (by have := hb.size; omega) (Obj.cells #[.int .i64 P, .int .i64 F, .int .i64 E, .int .i64 C] 45) 0).trans ((bc hb hlt0 0).trans HQ0.out)
      have hp1 := (cell_old_at (w := wr) (b := w.heap.size) (by have := hb.size; omega) (Obj.cells #[.int .i64 P, .int .i64 F, .int .i64 E, .int .i64 C] 45) 1).trans ((bc hb hlt0 1).trans HQ1.out)
      clear hT hLe
      by_cases hE : E = d
      · subst hE
        have HWW : Hid (dsum E x y N (L.take (j + 1)) = T + wgt x y N (P, F, E, C)) := lid (by rw [HW.out, if_pos rfl])
        rw [if_pos rfl] at hWB
        obtain ⟨G, hG⟩ : ∃ G, wgt x y N (P, F, E, C) = G := ⟨_, rfl⟩
        rw [hG] at hWB hWG HWW HPT
        have HG := lid hG
        clear hG HW
        obtain ⟨R, hR⟩ : ∃ R, N - P - F = R := ⟨_, rfl⟩
        have hRi : (N : Int) - P - F = (R : Int) := by omega
        have HR := lid hR
        have hG1 : G ≤ 204800000000000 := by omega
        have hTG : T + G ≤ 204800000000000 := hWB
        have hR11 : R ≤ 11 := by omega
        clear hWB hWG hR
        go_wp2_with fail
        go_loop [13, 55] (fun v i => ∃ q V : Nat, q ≤ P ∧ i = .int .i64 q ∧ v = .int .i64 V ∧ Hid (C * x ^ q = V)) (fun _ i => P - (intOf i).toNat)
        case atStart => exact ⟨0, C, Nat.zero_le _, rfl, rfl, lid (by simp)⟩
        case round =>
          obtain ⟨q, V, hq, rfl, rfl, HV⟩ := hrel
          by_cases hqP : q < P
          · obtain ⟨V', hV'⟩ : ∃ V', C * x ^ (q + 1) = V' := ⟨_, rfl⟩
            have hm : (V : Int) * (x : Int) = (V' : Int) := by rw [← HV.out, ← hV', Nat.pow_succ, ← Nat.mul_assoc]; simp
            have hVb : V' ≤ 204800000000000 := by rw [← hV']; exact Nat.le_trans (HPT.out.1 (q + 1) hqP) hG1
            have HV' := lid hV'
            have hq11 : q ≤ 11 := by omega
            clear hV'
            go_wp2_with fail
            go_round
            case rel => exact ⟨q + 1, V', by omega, by go_num, by go_num, HV'⟩
            case measure => simp [intOf]; omega
          · obtain rfl : q = P := by omega
            go_wp2_with fail
            go_loop [13, 64] (fun v i => ∃ q2 V2 : Nat, q2 ≤ F ∧ i = .int .i64 q2 ∧ v = .int .i64 V2 ∧ Hid (C * x ^ q * y ^ q2 = V2)) (fun _ i => F - (intOf i).toNat)
            case atStart => exact ⟨0, V, Nat.zero_le _, rfl, rfl, lid (by rw [← HV.out]; simp)⟩
            case round =>
              obtain ⟨q2, V2, hq2, rfl, rfl, HV2⟩ := hrel
              by_cases hqF : q2 < F
              · obtain ⟨V', hV'⟩ : ∃ V', C * x ^ q * y ^ (q2 + 1) = V' := ⟨_, rfl⟩
                have hm : (V2 : Int) * (y : Int) = (V' : Int) := by rw [← HV2.out, ← hV', Nat.pow_succ y, ← Nat.mul_assoc]; simp
                have hVb : V' ≤ 204800000000000 := by rw [← hV']; exact Nat.le_trans (HPT.out.2.1 (q2 + 1) hqF) hG1
                have HV' := lid hV'
                have hq11 : q2 ≤ 11 := by omega
                clear hV'
                go_wp2_with fail
                go_round
                case rel => exact ⟨q2 + 1, V', by omega, by go_num, by go_num, HV'⟩
                case measure => simp [intOf]; omega
              · obtain rfl : q2 = F := by omega
                go_wp2_with fail
                go_loop [13, 81] (fun v i => ∃ q3 V3 : Nat, q3 ≤ R ∧ i = .int .i64 q3 ∧ v = .int .i64 V3 ∧ Hid (C * x ^ q * y ^ q2 * (x + y) ^ q3 = V3)) (fun _ i => R - (intOf i).toNat)
                case atStart => exact ⟨0, V2, Nat.zero_le _, rfl, rfl, lid (by rw [← HV2.out]; simp)⟩
                case round =>
                  obtain ⟨q3, V3, hq3, rfl, rfl, HV3⟩ := hrel
                  by_cases hqR : q3 < R
                  · obtain ⟨V', hV'⟩ : ∃ V', C * x ^ q * y ^ q2 * (x + y) ^ (q3 + 1) = V' := ⟨_, rfl⟩
                    have hm : (V3 : Int) * (D : Int) = (V' : Int) := by rw [← HV3.out, ← hV', ← HDD.out, Nat.pow_succ (x + y), ← Nat.mul_assoc]; simp
                    have hVb : V' ≤ 204800000000000 := by rw [← hV']; exact Nat.le_trans (HPT.out.2.2 (q3 + 1) (by rw [HR.out]; exact hqR)) hG1
                    have HV' := lid hV'
                    have hq11 : q3 ≤ 11 := by omega
                    clear hV'
                    go_wp2_with fail
                    go_round
                    case rel => exact ⟨q3 + 1, V', by omega, by go_num, by go_num, HV'⟩
                    case measure => simp [intOf]; omega
                  · obtain rfl : q3 = R := by omega
                    have hV3 : V3 = G := by rw [← HV3.out, ← HG.out]; unfold wgt; rw [← HR.out]
                    subst hV3
                    have hTV : (T : Int) + V3 ≤ 204800000000000 := by omega
                    go_wp2_with fail
                    go_roundw
                    case rel => exact ⟨j + 1, by omega, by rw [HWW.out]; go_num, by go_num, hb.alloc hb.size _⟩
                    case measure => simp [intOf]; omega
      · have HWW : Hid (dsum d x y N (L.take (j + 1)) = T) := lid (by rw [HW.out, if_neg hE, Nat.add_zero])
        have hE1 : (E != d) = true := by simpa using hE
        clear hE hWB hWG
        go_wp2_with fail
        go_roundw
        case rel => exact ⟨j + 1, by omega, by rw [HWW.out], by go_num, hb.alloc hb.size _⟩
        case measure => simp [intOf]; omega
    · obtain rfl : j = n1 := by omega
      have HTT : Hid (L.take j = L) := lid (List.take_of_length_le (by rw [HL1.out]; exact Nat.le_refl _))
      rw [HTT.out]
      go_wp2_with fail
      go_ret2
      exact ⟨rfl, hb0.trans (hb.mono hb0.size)⟩
end Go.Proofs.Ytmlkegopbdfiaaa
