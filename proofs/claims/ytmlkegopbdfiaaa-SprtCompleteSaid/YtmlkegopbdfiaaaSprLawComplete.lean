/-
  The law SprtComplete returns true and makes new memory alone.
-/
import Derived.Test.YtmlkegopbdfiaaaSprEndsAny
import Derived.Test.YtmlkegopbdfiaaaSprSame
import Derived.Test.YtmlkegopbdfiaaaSprSums
namespace Go.Proofs.Ytmlkegopbdfiaaa
open Go.RowKit

theorem wsum_take_succ (x y n : Nat) {l : List EndN} {k : Nat} (h : k < l.length) : wsum x y n (l.take (k + 1)) = wsum x y n (l.take k) + wgt x y n l[k] := by
  rw [List.take_succ_eq_append_getElem h, wsum_append]
  simp [wsum]
theorem wsum_take_le (x y n : Nat) (l : List EndN) (k : Nat) : wsum x y n (l.take k) ≤ wsum x y n l := by
  conv => rhs; rw [← List.take_append_drop k l, wsum_append]
  omega
theorem wgt_one (n : Nat) (e : EndN) : wgt 1 1 n e = e.2.2.2 * 2 ^ (n - e.1 - e.2.1) := by simp [wgt]

set_option maxRecDepth 100000 in
set_option maxHeartbeats 8000000 in
theorem LawComplete_any (gn gd bn bd an ad en ed x : Int) (w : World) (hx0 : 0 ≤ x) (hx1 : x ≤ 255) :
    Calls Try.prog 10 #[.agg (tv gn gd bn bd an ad en ed), .int .u8 x] w fun e w' => e = .returned (.bool true) ∧ Below w.heap.size w w' := by
  have hb0 : Below w.heap.size w (w.alloc (Obj.cells (tv gn gd bn bd an ad en ed) 25)) := ba _ _
  have hT0 := TC.new w gn gd bn bd an ad en ed 25
  obtain ⟨k, hk, hk1⟩ := u8_rem x 17 (by omega)
  rcases trial_01 gn gd bn bd an ad en ed with hE | hE
  · have HE := lid hE
    have HX : Hid (endsE gn gd bn bd an ad en ed k = 0) := lid (by unfold endsE; rw [if_pos hE, if_pos (by omega)])
    have HI : Hid (endsI gn gd bn bd an ad en ed k = endsTo (decN gn gd bn bd an ad en ed) k (k + 1)) := lid (by unfold endsI; rw [if_pos hE, if_pos (by omega)]; rfl)
    obtain ⟨L, hL⟩ : ∃ L, endsTo (decN gn gd bn bd an ad en ed) k (k + 1) = L := ⟨_, rfl⟩
    have HM : Hid (∀ e ∈ L, e.1 + e.2.1 ≤ k ∧ 1 ≤ e.2.2.2 ∧ e.2.2.2 ≤ 2 ^ k ∧ (e.2.2.1 = 0 → e.1 + e.2.1 = k)) := lid (by
      subst hL
      intro e he
      obtain ⟨h1, h2, h3, -, h5⟩ := mem_ends _ he
      exact ⟨h1, h2, h3, h5⟩)
    have HS : Hid (wsum 1 1 k L = 2 ^ k) := lid (by rw [← hL]; exact ends_sum _ 1 1 k)
    have HLEN : Hid (L.length ≤ 1000) := lid (by
      have := endsTo_length (decN gn gd bn bd an ad en ed) k (k + 1) (by omega)
      rw [hL] at this
      omega)
    rw [hL] at HI
    clear hE hL
    go_enter Try.func10, Try.ntmps10
    go_wp2_with fail
    (with_reducible refine (Ends_any gn gd bn bd an ad en ed k _).mono ?_); rintro e w1 ⟨a1, n1, c1, rfl, hl1, hs1, hb1⟩
    rw [HX.out]
    rw [HI.out] at hl1 hs1
    have HL1 := lid hl1
    have HS1 := lid hs1
    have hw1 := hb0.trans (hb1.mono (by simp))
    clear hb1 hT0 hl1 hs1
    go_wp2_with fail
    go_loopw [8, 10, 31] (fun sum _ i wr => ∃ j : Nat, j ≤ n1 ∧ sum = .int .i64 (wsum 1 1 k (L.take j) : Nat) ∧ i = .int .i64 j ∧ Below w1.heap.size w1 wr) (fun _ _ i _ => n1 - (intOf i).toNat)
    case atStart => exact ⟨0, Nat.zero_le _, rfl, rfl, Below.refl _ _⟩
    case round =>
      obtain ⟨j, hj, rfl, rfl, hb⟩ := hrel
      by_cases hlt : j < n1
      · have hjl : j < L.length := by rw [HL1.out]; exact hlt
        obtain ⟨b1, o1, rfl, hlb, hcell⟩ := (HS1.out.below hb).at_ (k := j) hlt
        have x0 := hcell (j * 4 + 0) _ (evals_at hjl).1
        have x1 := hcell (j * 4 + 1) _ (evals_at hjl).2.1
        have x2 := hcell (j * 4 + 2) _ (evals_at hjl).2.2.1
        have x3 := hcell (j * 4 + 3) _ (evals_at hjl).2.2.2
        rw [← Nat.add_assoc] at x1 x2 x3
        rw [Nat.add_zero] at x0
        have HW := lid (wsum_take_succ 1 1 k hjl)
        have hWB := wsum_take_le 1 1 k L (j + 1)
        rw [HW.out, HS.out, wgt_one] at hWB
        have hMem := HM.out _ (List.getElem_mem hjl)
        clear hcell
        obtain ⟨⟨P, F, D, C⟩, hLe⟩ : ∃ e, L[j] = e := ⟨_, rfl⟩
        rw [hLe] at x0 x1 x2 x3 hWB hMem
        have HLE := lid hLe
        have hj1000 : j ≤ 1000 := by have := HLEN.out; omega
        obtain ⟨m1, m2, m3, m4⟩ := hMem
        simp only at x0 x1 x2 x3 hWB m1 m2 m3 m4
        have hp16 : 2 ^ k ≤ 2 ^ 16 := Nat.pow_le_pow_right (by omega) (by omega)
        have m3' : C ≤ 65536 := by omega
        obtain ⟨r, hr⟩ : ∃ r, k - P - F = r := ⟨_, rfl⟩
        rw [hr] at hWB
        have hr16 : r ≤ 16 := by omega
        obtain ⟨T, hT⟩ : ∃ T, wsum 1 1 k (L.take j) = T := ⟨_, rfl⟩
        rw [hT] at hWB
        have HT := lid hT
        rw [hT]
        have hri : (k : Int) - P - F = (r : Int) := by omega
        obtain ⟨X, hX⟩ : ∃ X, C * 2 ^ r = X := ⟨_, rfl⟩
        rw [hX] at hWB
        have hXi : (C : Int) * 2 ^ r = (X : Int) := by rw [← hX]; simp
        have HXX := lid hX
        have hT16 : T ≤ 65536 := by omega
        have hX16 : X ≤ 65536 := by omega
        have HWW : Hid (wsum 1 1 k (L.take (j + 1)) = T + X) := lid (by
          rw [HW.out, HT.out, wgt_one, HLE.out, ← HXX.out, ← hr])
        have HR := lid hr
        clear hr hT hLe hX hWB hp16 m3
        by_cases hD : D = 0
        · have hk2 := m4 hD
          have hk2i : (P : Int) + F = k := by omega
          have hDb : (D == 0) = true := by simpa using hD
          clear m4
          subst hD
          go_wp2_with fail
          go_roundw
          case rel => exact ⟨j + 1, by omega, by rw [HWW.out]; go_num, by go_num, hb.alloc hb.size _⟩
          case measure => simp [intOf]; omega
        · clear m4
          have hDb : (D == 0) = false := by simpa using hD
          go_wp2_with fail
          go_roundw
          case rel => exact ⟨j + 1, by omega, by rw [HWW.out]; go_num, by go_num, hb.alloc hb.size _⟩
          case measure => simp [intOf]; omega
      · obtain rfl : j = n1 := by omega
        have HTT : Hid (wsum 1 1 k (L.take j) = 2 ^ k) := lid (by rw [List.take_of_length_le (by rw [HL1.out]; exact Nat.le_refl _), HS.out])
        rw [HTT.out]
        have hp16 : 2 ^ k ≤ 2 ^ 16 := Nat.pow_le_pow_right (by omega) (by omega)
        obtain ⟨X, hX⟩ : ∃ X, 2 ^ k = X := ⟨_, rfl⟩
        have hXi : (2 : Int) ^ k = (X : Int) := by rw [← hX]; simp
        rw [hX] at hp16 ⊢
        have hX16 : X ≤ 65536 := by omega
        clear hp16 hX
        go_wp2_with fail
        (with_reducible refine (awake_any _).mono ?_); rintro e w3 ⟨rfl, hb3⟩
        go_wp2_with fail
        go_ret
        exact ⟨rfl, hw1.trans ((hb.trans (hb3.mono hb.size)).mono hw1.size)⟩
  · have HX : Hid (endsE gn gd bn bd an ad en ed k = 1) := lid (by unfold endsE; rw [hE]; rfl)
    have HE := lid hE
    clear hE
    go_enter Try.func10, Try.ntmps10
    go_wp2_with fail
    (with_reducible refine (Ends_any gn gd bn bd an ad en ed k _).mono ?_); rintro e w1 ⟨a1, n1, c1, rfl, hl1, hs1, hb1⟩
    rw [HX.out]
    have hw1 := hb0.trans (hb1.mono (by simp))
    obtain ⟨t0, t1, t2, t3, t4, t5, t6, t7⟩ := hT0.below hb1 (by simp)
    clear hb1 hT0 hl1 hs1
    go_wp2_with fail
    (with_reducible refine (Check_any gn gd bn bd an ad en ed _).mono ?_); rintro e w2 ⟨rfl, hb2⟩
    rw [HE.out]
    have hw2 := hw1.trans (hb2.mono hw1.size)
    clear hb2
    go_wp2_with fail
    (with_reducible refine (awake_any _).mono ?_); rintro e w3 ⟨rfl, hb3⟩
    go_wp2_with fail
    go_ret
    exact ⟨rfl, hw2.trans (hb3.mono hw2.size)⟩
end Go.Proofs.Ytmlkegopbdfiaaa
