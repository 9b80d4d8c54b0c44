/-
  The law DigestTree returns true and makes new memory alone.
-/
import Derived.Test.YtchjmkmcgpbndaaDigAwake
import Derived.Test.YtchjmkmcgpbndaaDigSame
namespace Go.Proofs.Ytchjmkmcgpbndaa
open Go.RowKit

theorem Root_sl (l : List Dg) (n : Nat) (ao : Option Addr) (cap : Nat) (w : World) (hn : l.length = n) (hcap : n ≤ cap) (hl : n ≤ 1099511627776) (hs : DSl w ao l) :
    Calls Try.prog 19 #[.slice ao n cap] w fun e w' => e = .returned (dv (rootD l)) ∧ Below w.heap.size w w' := by
  rcases Nat.eq_zero_or_pos n with rfl | hpos
  · obtain rfl := List.eq_nil_of_length_eq_zero hn
    exact root_nil_any ao cap w
  · obtain ⟨b, off, rfl, hb, hc⟩ := hs.resolve_left (by omega)
    exact root_any n l n b off cap w hn (Nat.le_refl _) hpos hcap hl hb hc
theorem refRoot_sl (l : List Dg) (n : Nat) (ao : Option Addr) (cap : Nat) (w : World) (hn : l.length = n) (hcap : n ≤ cap) (hl : n ≤ 1099511627776) (hs : DSl w ao l) :
    Calls Try.prog 20 #[.slice ao n cap] w fun e w' => e = .returned (dv (rootD l)) ∧ Below w.heap.size w w' := by
  rcases Nat.eq_zero_or_pos n with rfl | hpos
  · obtain rfl := List.eq_nil_of_length_eq_zero hn
    exact refRoot_nil_any ao cap w
  · obtain ⟨b, off, rfl, hb, hc⟩ := hs.resolve_left (by omega)
    exact refRoot_any n l n b off cap w hn (Nat.le_refl _) hpos hcap hl hb hc

set_option maxHeartbeats 2000000 in
theorem LawTree_any (l : List Dg) (n : Nat) (ao : Option Addr) (cap : Nat) (i : Int) (w : World) (hn : l.length = n) (hcap : n ≤ cap) (hs : DSl w ao l) :
    Calls Try.prog 6 #[.slice ao n cap, .int .i64 i] w fun e w' => e = .returned (.bool true) ∧ Below w.heap.size w w' := by
  have HN := lid hn
  have HS := lid hs
  clear hn hs
  by_cases h20 : n ≤ 20
  · go_enter Try.func6, Try.ntmps6
    go_wp2_with fail
    (with_reducible refine (Proof_sl l n ao cap i _ HN.out hcap (by omega) HS.out).mono ?_); rintro e w1 ⟨a1, n1, c1, rfl, hn1, hc1, hs1, hb1⟩
    have HE := lid (rfl : proofE l i = proofE l i)
    go_wp2_with fail
    (with_reducible refine (refProof_sl l n ao cap i _ HN.out hcap (by omega) (HS.out.below hb1)).mono ?_); rintro e w2 ⟨a2, n2, c2, rfl, hn2, hc2, hs2, hb2⟩
    have hw2 : Below w.heap.size w w2 := hb1.trans (hb2.mono hb1.size)
    have hs12 := hs1.below hb2
    have h1le : n1 ≤ 1099511627776 := by
      rw [← hn1]
      unfold proofE
      split
      · simp
      · have := proofD_length l.length l i.toNat (Nat.le_refl _)
        show (proofD l i.toNat).length ≤ _
        have := HN.out
        omega
    generalize proofE l i = pe at *
    clear HE hb1 hb2
    go_wp2_with fail
    (with_reducible refine (Root_sl l n ao cap _ HN.out hcap (by omega) (HS.out.below hw2)).mono ?_); rintro e w3 ⟨rfl, hb3⟩
    have hw3 : Below w.heap.size w w3 := hw2.trans (hb3.mono hw2.size)
    go_wp2_with fail
    (with_reducible refine (refRoot_sl l n ao cap _ HN.out hcap (by omega) (HS.out.below hw3)).mono ?_); rintro e w4 ⟨rfl, hb4⟩
    have hw4 : Below w.heap.size w w4 := hw3.trans (hb4.mono hw3.size)
    go_wp2_with fail
    (with_reducible refine (Same_any pe.1 pe.1 n1 n2 a1 a2 c1 c2 _ hn1 hn2 hc1 hc2 h1le ((hs12.below hb3).below hb4) ((hs2.below hb3).below hb4)).mono ?_); rintro e w5 ⟨rfl, hb5⟩
    have hw5 : Below w.heap.size w w5 := hw4.trans (hb5.mono hw4.size)
    have hd : decide (pe.1 = pe.1) = true := by simp
    go_wp2_with fail
    (with_reducible refine (awake_any _).mono ?_); rintro e w6 ⟨rfl, hb6⟩
    go_wp2_with fail
    go_ret
    exact ⟨rfl, hw5.trans (hb6.mono hw5.size)⟩
  · go_enter Try.func6, Try.ntmps6
    go_wp2_with fail
    (with_reducible refine (awake_any _).mono ?_); rintro e w1 ⟨rfl, hb1⟩
    go_wp2_with fail
    go_ret
    exact ⟨rfl, hb1⟩
end Go.Proofs.Ytchjmkmcgpbndaa
