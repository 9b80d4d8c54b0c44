/-
  The reference's Great.
-/
import Derived.Test.YtbghpjedldhnhaaLedCheck
namespace Go.Proofs.Ytbghpjedldhnhaa
open Go.RowKit

def bigB (r : Rec) : Bool := decide (100 < r.2.2.2.size) || (decide (100 < r.2.1.size) || decide (100 < r.2.2.1.size))
def greatB (l : List Rec) : Bool := decide (20 < l.length) || l.any bigB
theorem big_cons (r : Rec) (l : List Rec) : (r :: l).any bigB = (bigB r || l.any bigB) := rfl

set_option maxRecDepth 100000 in
set_option maxHeartbeats 8000000 in
theorem Great_any (l : List Rec) (n cap : Nat) (ao : Option Addr) (w : World) (hn : l.length = n) (hs : Sl w 4 ao n (rcells l)) (hm : n ≤ maxLen) (hr : ∀ r ∈ l, RecS r) :
    Calls Try.prog 5 #[.agg #[.slice ao n cap]] w fun e w' => e = .returned (.bool (greatB l)) ∧ Below w.heap.size w w' := by
  have HN := lid hn
  have HR := lid hr
  have hm' : n ≤ 9223372036854775807 := hm
  have hb0 := ba w (Obj.cells #[.slice ao n cap] 26)
  have HS := lid (hs.below hb0)
  have q0 := cell_new_at (w := w) rfl #[.slice ao n cap] 26 0
  have hlt0 : w.heap.size < (w.alloc (Obj.cells #[.slice ao n cap] 26)).heap.size := by simp
  clear hn hs hr hm
  by_cases h4 : 20 < n
  · have HC : Hid (greatB l = true) := lid (by unfold greatB; rw [HN.out, decide_eq_true h4]; rfl)
    have h4' : (20 : Int) < n := by omega
    go_enter Try.func5, Try.ntmps5
    go_wp2_with fail
    go_ret
    exact ⟨ret_bool' HC.out.symm, hb0⟩
  · have HC : Hid (greatB l = l.any bigB) := lid (by unfold greatB; rw [HN.out, decide_eq_false h4]; rfl)
    have h4' : decide ((20 : Int) < n) = false := by simp; omega
    go_enter Try.func5, Try.ntmps5
    go_wp2_with fail
    obtain ⟨W0, hW0⟩ : ∃ W0, w.alloc (Obj.cells #[.slice ao n cap] 26) = W0 := ⟨_, rfl⟩
    rw [hW0] at hb0 HS q0 hlt0 ⊢
    have q0' : W0.cell? ⟨w.heap.size, 0, none⟩ = some (.slice ao n cap) := q0
    have Q0 := lid q0'
    clear hW0 q0 q0'
    go_loopw [3] (fun i wr => ∃ (k : Nat), k ≤ n ∧ i = .int .i64 k ∧ Hid (l.any bigB = (l.drop k).any bigB) ∧ wr = W0) (fun i _ => n - (intOf i).toNat)
    case atStart => exact ⟨0, Nat.zero_le _, rfl, lid rfl, rfl⟩
    case round =>
      obtain ⟨k, hk, rfl, HG, rfl⟩ := hrel
      have hq := Q0.out
      by_cases hlt : k < n
      · have hkl : k < l.length := by rw [HN.out]; exact hlt
        obtain ⟨b1, o1, rfl, hlb, hcell⟩ := HS.out.at_ hlt
        have x0 := hcell (k * 4 + 0) _ (rcells_at hkl).1
        have x1 := hcell (k * 4 + 1) _ (rcells_at hkl).2.1
        have x2 := hcell (k * 4 + 2) _ (rcells_at hkl).2.2.1
        have x3 := hcell (k * 4 + 3) _ (rcells_at hkl).2.2.2
        rw [← Nat.add_assoc] at x1 x2 x3
        rw [Nat.add_zero] at x0
        have HD := lid (List.drop_eq_getElem_cons hkl)
        have HRS := lid (HR.out _ (List.getElem_mem hkl))
        clear hcell
        obtain ⟨r, hrk⟩ : ∃ r, l[k] = r := ⟨_, rfl⟩
        rw [hrk] at x0 x1 x2 x3 HD HRS
        obtain ⟨t, a, b, d⟩ := r
        simp only at x0 x1 x2 x3
        have HB : Hid (bigB (t, a, b, d) = (decide (100 < d.size) || (decide (100 < a.size) || decide (100 < b.size)))) := lid rfl
        have ha : a.size ≤ 9223372036854775807 := HRS.out.1
        have hbb : b.size ≤ 9223372036854775807 := HRS.out.2.1
        have hd : d.size ≤ 9223372036854775807 := HRS.out.2.2
        have hln : l.length ≤ 20 := by rw [HN.out]; omega
        clear hrk
        by_cases g1 : 100 < d.size
        · have G1 := lid (decide_eq_true g1)
          have g1' : decide ((100 : Int) < d.size) = true := by simp; omega
          go_wp2_with fail
          go_ret
          exact ⟨ret_bool' (by rw [HC.out, HG.out, HD.out, big_cons, HB.out, G1.out]; rfl), hb0⟩
        have G1 := lid (decide_eq_false g1)
        have g1' : decide ((100 : Int) < d.size) = false := by simp; omega
        clear g1
        by_cases g2 : 100 < a.size
        · have G2 := lid (decide_eq_true g2)
          have g2' : decide ((100 : Int) < a.size) = true := by simp; omega
          go_wp2_with fail
          go_ret
          exact ⟨ret_bool' (by rw [HC.out, HG.out, HD.out, big_cons, HB.out, G1.out, G2.out]; rfl), hb0⟩
        have G2 := lid (decide_eq_false g2)
        have g2' : decide ((100 : Int) < a.size) = false := by simp; omega
        clear g2
        by_cases g3 : 100 < b.size
        · have G3 := lid (decide_eq_true g3)
          have g3' : decide ((100 : Int) < b.size) = true := by simp; omega
          go_wp2_with fail
          go_ret
          exact ⟨ret_bool' (by rw [HC.out, HG.out, HD.out, big_cons, HB.out, G1.out, G2.out, G3.out]; rfl), hb0⟩
        have G3 := lid (decide_eq_false g3)
        have g3' : decide ((100 : Int) < b.size) = false := by simp; omega
        clear g3
        go_wp2_with fail
        go_roundw
        case rel => exact ⟨k + 1, by omega, by go_num, lid (by rw [HG.out, HD.out, big_cons, HB.out, G1.out, G2.out, G3.out]; rfl), trivial⟩
        case measure => simp [intOf]; omega
      · obtain rfl : k = n := by omega
        have HV : Hid (l.any bigB = false) := lid (by rw [HG.out, List.drop_eq_nil_of_le (by rw [HN.out]; exact Nat.le_refl _)]; rfl)
        go_wp2_with fail
        go_ret
        exact ⟨ret_bool' (by rw [HC.out, HV.out]), hb0⟩
end Go.Proofs.Ytbghpjedldhnhaa
