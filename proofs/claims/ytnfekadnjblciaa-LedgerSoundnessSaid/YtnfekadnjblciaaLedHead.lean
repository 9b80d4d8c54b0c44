/-
  ledger.Head and ledger.Prove; the reference's Digests, Head and Prove.
-/
import Derived.Test.YtnfekadnjblciaaLedColl
import Derived.Test.YtnfekadnjblciaaLedCheck
import Derived.Test.YtnfekadnjblciaaDgProof
namespace Go.Proofs.Ytnfekadnjblciaa
open Go.RowKit

def headD (l : List Rec) : Dg := if checkL l = 0 then rootD (l.map recD) else (0, 0)
def proveE (l : List Rec) (i : Int) : List Dg × Int := if checkL l = 0 then proofE (l.map recD) i else ([], checkL l)
theorem check_len {l : List Rec} (h : checkL l = 0) : l.length ≤ 10000 := by
  unfold checkL at h
  split at h
  · assumption
  · cases h

theorem root_sl {ds : List Dg} {n cap : Nat} {ao : Option Addr} (w : World) (hn : ds.length = n) (hc : n ≤ cap) (hn' : n ≤ 1099511627776) (hs : DSl w ao ds) :
    Calls Try.prog 37 #[.slice ao n cap] w fun e w' => e = .returned (dv (rootD ds)) ∧ Below w.heap.size w w' := by
  rcases hs with h0 | ⟨b, off, rfl, hb, hd⟩
  · obtain rfl := List.eq_nil_of_length_eq_zero h0
    obtain rfl : n = 0 := hn.symm
    exact root_nil_any ao cap w
  · by_cases h0 : n = 0
    · subst h0
      obtain rfl := List.eq_nil_of_length_eq_zero hn
      exact root_nil_any _ cap w
    · exact root_any n ds n b off cap w hn (Nat.le_refl _) (by omega) hc hn' hb hd
theorem refRoot_sl {ds : List Dg} {n cap : Nat} {ao : Option Addr} (w : World) (hn : ds.length = n) (hc : n ≤ cap) (hn' : n ≤ 1099511627776) (hs : DSl w ao ds) :
    Calls Try.prog 48 #[.slice ao n cap] w fun e w' => e = .returned (dv (rootD ds)) ∧ Below w.heap.size w w' := by
  rcases hs with h0 | ⟨b, off, rfl, hb, hd⟩
  · obtain rfl := List.eq_nil_of_length_eq_zero h0
    obtain rfl : n = 0 := hn.symm
    exact refRoot_nil_any ao cap w
  · by_cases h0 : n = 0
    · subst h0
      obtain rfl := List.eq_nil_of_length_eq_zero hn
      exact refRoot_nil_any _ cap w
    · exact refRoot_any n ds n b off cap w hn (Nat.le_refl _) (by omega) hc hn' hb hd

/-- A ledger that came in or was made. -/
structure LedA (w : World) (ao : Option Addr) (n cap : Nat) (l : List Rec) : Prop where
  len : l.length = n
  sl : Sl w 4 ao n (rcells l)
  sizes : ∀ r ∈ l, RecS r
  max : n ≤ maxLen
theorem LedA.below {w w' : World} {ao : Option Addr} {n cap : Nat} {l : List Rec} (h : LedA w ao n cap l) (hb : Below w.heap.size w w') : LedA w' ao n cap l := ⟨h.len, h.sl.below hb, h.sizes, h.max⟩

set_option maxRecDepth 100000 in
set_option maxHeartbeats 4000000 in
theorem refDigests_any (l : List Rec) (n cap : Nat) (ao : Option Addr) (w : World) (h : LedA w ao n cap l) (hm : n ≤ 10000) :
    Calls Try.prog 44 #[.agg #[.slice ao n cap]] w fun e w' => ∃ v', e = .returned v' ∧ (∃ base, w'.ownsRow base 37 2 v' n (dcells (l.map recD))) ∧ Below w.heap.size w w' := by
  have HN := lid h.len
  have HR := lid h.sizes
  have hb0 := ba w (Obj.cells #[.slice ao n cap] 24)
  have HS := lid (h.sl.below hb0)
  have q0 := cell_new_at (w := w) rfl #[.slice ao n cap] 24 0
  have hlt0 : w.heap.size < (w.alloc (Obj.cells #[.slice ao n cap] 24)).heap.size := by simp
  clear h
  go_enter Try.func44, Try.ntmps44
  go_wp2_with fail
  obtain ⟨W0, hW0⟩ : ∃ W0, w.alloc (Obj.cells #[.slice ao n cap] 24) = W0 := ⟨_, rfl⟩
  rw [hW0] at hb0 HS q0 hlt0 ⊢
  have q0' : W0.cell? ⟨w.heap.size, 0, none⟩ = some (.slice ao n cap) := q0
  have Q0 := lid q0'
  clear hW0 q0 q0'
  go_loopw [3, 4] (fun out i wr => ∃ k : Nat, k ≤ n ∧ i = .int .i64 k ∧ wr.ownsRow W0.heap.size 37 2 out k (dcells ((l.map recD).take k)) ∧ Below W0.heap.size W0 wr) (fun _ i _ => n - (intOf i).toNat)
  case atStart => exact ⟨0, Nat.zero_le _, rfl, World.ownsRow_nil _ _ _ _, Below.refl _ _⟩
  case round =>
    obtain ⟨k, hk, rfl, hown, hb⟩ := hrel
    have hq := (bc hb hlt0 0).trans Q0.out
    by_cases hlt : k < n
    · have hkl : k < l.length := by rw [HN.out]; exact hlt
      obtain ⟨b1, o1, rfl, hlb, hcell⟩ := (HS.out.below hb).at_ hlt
      have x0 := hcell (k * 4 + 0) _ (rcells_at hkl).1
      have x1 := hcell (k * 4 + 1) _ (rcells_at hkl).2.1
      have x2 := hcell (k * 4 + 2) _ (rcells_at hkl).2.2.1
      have x3 := hcell (k * 4 + 3) _ (rcells_at hkl).2.2.2
      rw [← Nat.add_assoc] at x1 x2 x3
      rw [Nat.add_zero] at x0
      have HT := lid (take_map_succ hkl)
      have HRS := lid (HR.out _ (List.getElem_mem hkl))
      obtain ⟨r, hrk⟩ : ∃ r, l[k] = r := ⟨_, rfl⟩
      rw [hrk] at x0 x1 x2 x3 HT HRS
      have CT := lid (fun w => refText_any r w HRS.out)
      have CO := lid (fun w => refOf_any (bstr (recL r)) w (recL_len r))
      rw [show ofU (bstr (recL r)).data.toList = recD r from rfl] at CO
      generalize recD r = D at *
      generalize bstr (recL r) = V at *
      obtain ⟨t, a, b, d⟩ := r
      simp only at x0 x1 x2 x3
      clear hrk hcell
      go_wp2_with fail
      (with_reducible refine (CT.out _).mono ?_); rintro e w2 ⟨rfl, hb2⟩
      have hown2 := ownsRow_below hown hb2
      go_wp2_with fail
      (with_reducible refine (CO.out _).mono ?_); rintro e w3 ⟨rfl, hb3⟩
      have hown3 := ownsRow_below hown2 hb3
      have hb23 := hb2.trans (hb3.mono hb2.size)
      have hw3 := hb.trans (hb23.mono hb.size)
      have hz3 := hw3.size
      clear hown hown2 x0 x1 x2 x3
      go_wp2_with (at_builtin; go_must (refine wpList_append_new #[.int .u64 D.1.toNat, .int .u64 D.2.toNat] rfl _ _ 31 rfl W0.heap.size 37 (.agg #[.int .u64 0, .int .u64 0]) 2 16 info_dgc Try.underlying31 rfl (by decide) _ k _ hown3 rfl rfl rfl (by simp [Value.oneCell']) (by simp [maxLen]; omega) (by omega) (by omega) ?_))
      intro v' w5 hown5 hb5 _
      go_wp2_with fail
      go_roundw
      case rel => exact ⟨k + 1, by omega, by go_num, by rw [HT.out, dcells_append]; exact hown5, hw3.trans hb5⟩
      case measure => simp [intOf]; omega
    · obtain rfl : k = n := by omega
      rw [List.take_of_length_le (by rw [List.length_map, HN.out]; exact Nat.le_refl _)] at hown
      go_wp2_with fail
      go_ret
      exact ⟨_, rfl, ⟨_, hown⟩, hb0.trans (hb.mono hb0.size)⟩
end Go.Proofs.Ytnfekadnjblciaa
