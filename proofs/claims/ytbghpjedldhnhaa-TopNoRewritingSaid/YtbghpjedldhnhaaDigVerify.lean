/-
  digest.Verify and the reference's Verify: whether a proof shows a place.
-/
import Derived.Test.YtbghpjedldhnhaaDigRootOf
import Derived.Test.YtbghpjedldhnhaaDigRefResult
namespace Go.Proofs.Ytbghpjedldhnhaa
open Go.RowKit

theorem ret_bool {a b : Bool} (h : a = b) : Ending.returned (.bool a) = .returned (.bool b) := by rw [h]
/-- Does the proof show that d has the place i of n? -/
def verifyD (root : Dg) (n i : Int) (d : Dg) (p : List Dg) : Bool :=
  if n < 1 ∨ 1099511627776 < n ∨ i < 0 ∨ n ≤ i then false else (resultD n.toNat i.toNat d p).2 && decide ((resultD n.toNat i.toNat d p).1 = root)
theorem verifyD_out (root d : Dg) (p : List Dg) {n i : Int} (h : n < 1 ∨ 1099511627776 < n ∨ i < 0 ∨ n ≤ i) : verifyD root n i d p = false := by unfold verifyD; rw [if_pos h]
theorem verifyD_in (root d : Dg) (p : List Dg) {n i : Int} (h : ¬ (n < 1 ∨ 1099511627776 < n ∨ i < 0 ∨ n ≤ i)) : verifyD root n i d p = ((resultD n.toNat i.toNat d p).2 && decide ((resultD n.toNat i.toNat d p).1 = root)) := by unfold verifyD; rw [if_neg h]
theorem beq_u64 (a b : UInt64) : ((a.toNat : Int) == (b.toNat : Int)) = decide (a = b) := by
  rw [Bool.eq_iff_iff]
  simp only [beq_iff_eq, decide_eq_true_eq]
  exact ⟨fun h => UInt64.toNat_inj.1 (Int.ofNat_inj.1 h), fun h => by rw [h]⟩
theorem beq_dg (a b : Dg) : (((a.1.toNat : Int) == (b.1.toNat : Int)) && ((a.2.toNat : Int) == (b.2.toNat : Int))) = decide (a = b) := by
  rw [beq_u64, beq_u64, Bool.eq_iff_iff]
  simp [Prod.ext_iff]

set_option maxHeartbeats 1000000 in
theorem Verify_any (root : Dg) (n i : Int) (d : Dg) (p : List Dg) (ao : Option Addr) (len cap : Nat) (w : World) (hp : p.length = len) (hcap : len ≤ cap) (hl : len ≤ 1000000) (hs : DSl w ao p) :
    Calls Try.prog 34 #[dv root, .int .i64 n, .int .i64 i, dv d, .slice ao len cap] w fun e w' => e = .returned (.bool (verifyD root n i d p)) ∧ Below w.heap.size w w' := by
  have HP := lid hp
  have HS := lid hs
  clear hp hs
  by_cases h1 : n < 1
  · have HV := lid (verifyD_out root d p (n := n) (i := i) (by omega))
    go_enter Try.func34, Try.ntmps34
    go_wp2_with fail
    go_ret
    exact ⟨ret_bool HV.out.symm, ((Below.refl _ _).alloc (Nat.le_refl _) _).alloc (by simp) _⟩
  by_cases h2 : 1099511627776 < n
  · have HV := lid (verifyD_out root d p (n := n) (i := i) (by omega))
    go_enter Try.func34, Try.ntmps34
    go_wp2_with fail
    go_ret
    exact ⟨ret_bool HV.out.symm, ((Below.refl _ _).alloc (Nat.le_refl _) _).alloc (by simp) _⟩
  by_cases h3 : i < 0
  · have HV := lid (verifyD_out root d p (n := n) (i := i) (by omega))
    go_enter Try.func34, Try.ntmps34
    go_wp2_with fail
    go_ret
    exact ⟨ret_bool HV.out.symm, ((Below.refl _ _).alloc (Nat.le_refl _) _).alloc (by simp) _⟩
  by_cases h4 : n ≤ i
  · have HV := lid (verifyD_out root d p (n := n) (i := i) (by omega))
    go_enter Try.func34, Try.ntmps34
    go_wp2_with fail
    go_ret
    exact ⟨ret_bool HV.out.symm, ((Below.refl _ _).alloc (Nat.le_refl _) _).alloc (by simp) _⟩
  have h1' : 1 ≤ n := by omega
  have h2' : n ≤ 1099511627776 := by omega
  have h3' : 0 ≤ i := by omega
  have h4' : i < n := by omega
  have HV := lid (verifyD_in root d p (n := n) (i := i) (by omega))
  have hwd0 : Below w.heap.size w ((w.alloc (Obj.cells #[Value.int .u64 root.1.toNat, Value.int .u64 root.2.toNat] 32)).alloc (Obj.cells #[Value.int .u64 d.1.toNat, Value.int .u64 d.2.toNat] 32)) := ((Below.refl _ _).alloc (Nat.le_refl _) _).alloc (by simp) _
  have hz0 : w.heap.size + 2 ≤ ((w.alloc (Obj.cells #[Value.int .u64 root.1.toNat, Value.int .u64 root.2.toNat] 32)).alloc (Obj.cells #[Value.int .u64 d.1.toNat, Value.int .u64 d.2.toNat] 32)).heap.size := by rw [World.size_alloc, World.size_alloc]; omega
  generalize hR : resultD n.toNat i.toNat d p = R at HV
  have HR := lid hR
  clear hR h1 h2 h3 h4
  obtain ⟨x, ok⟩ := R
  cases ok
  · go_enter Try.func34, Try.ntmps34
    go_wp2_with fail
    (with_reducible refine (rootOf_any len p n.toNat n i d ao len cap _ (by omega) HP.out (by omega) hcap (by omega) (by omega) (by omega) (by omega) (by omega) (HS.out.below hwd0)).mono ?_); rintro e w1 ⟨rfl, hb1⟩
    rw [HR.out]
    obtain ⟨hc1, hf1⟩ := bcell hb1
    go_wp2_with fail
    go_ret
    exact ⟨ret_bool HV.out.symm, ((hwd0.trans (hb1.mono (by omega))).alloc (by have := hb1.size; omega) _)⟩
  · go_enter Try.func34, Try.ntmps34
    go_wp2_with fail
    (with_reducible refine (rootOf_any len p n.toNat n i d ao len cap _ (by omega) HP.out (by omega) hcap (by omega) (by omega) (by omega) (by omega) (by omega) (HS.out.below hwd0)).mono ?_); rintro e w1 ⟨rfl, hb1⟩
    rw [HR.out]
    have hzz := Nat.le_trans hz0 hb1.size
    have hc0 := bc ((Below.refl w1.heap.size w1).alloc (Nat.le_refl _) (Obj.cells #[Value.int .u64 x.1.toNat, Value.int .u64 x.2.toNat] 32)) (b := w.heap.size) (by omega)
    obtain ⟨hc1, hf1⟩ := bcell hb1
    go_wp2_with fail
    go_ret
    exact ⟨ret_bool (by rw [HV.out, beq_dg, Bool.true_and]), ((hwd0.trans (hb1.mono (by omega))).alloc (by have := hb1.size; omega) _)⟩

end Go.Proofs.Ytbghpjedldhnhaa
