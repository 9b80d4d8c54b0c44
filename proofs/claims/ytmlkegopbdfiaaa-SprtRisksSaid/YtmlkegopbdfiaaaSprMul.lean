/-
  product's closure: one factor more.
-/
import Derived.Test.YtmlkegopbdfiaaaRows
import Derived.Test.YtmlkegopbdfiaaaSprLong
import Derived.Deep.AppendLies
import Derived.Test.YtmlkegopbdfiaaaBox
import Derived.Test.YtmlkegopbdfiaaaAppG
import Derived.Test.YtmlkegopbdfiaaaRegionL
namespace Go.Proofs.Ytmlkegopbdfiaaa
open Go.RowKit

theorem info_u32 : (Try.prog.info? 66).map (fun i => (i.zero, i.size, i.bytes)) = some (some (.int .u32 0), 1, 4) := by kernel_rfl
abbrev B32 : Nat := 4294967296
def dvals (l : List Nat) : List Value := l.map fun (d : Nat) => Value.int .u32 (d : Int)
theorem dvals_length (l : List Nat) : (dvals l).length = l.length := by simp [dvals]
theorem dvals_append (a b : List Nat) : dvals (a ++ b) = dvals a ++ dvals b := by simp [dvals]

set_option maxRecDepth 100000 in
set_option maxHeartbeats 4000000 in
theorem mul_any (f X base : Nat) (v : Value) (l : List Nat) (n : Nat) (w : World) (hf : f ≤ 1000) (hn0 : 1 ≤ n) (hn : n ≤ 1000) (hbx : Boxed w X 59 v) (hown : w.ownsRow base 66 1 v n (dvals l)) (hX : base ≤ X) (hbase : base ≤ w.heap.size) (hl : ∀ d ∈ l, d < B32) :
    Calls Try.prog 35 #[.int .u64 f, .pointer (some ⟨X, 0, none⟩)] w fun e w' => (∃ x, e = .returned x) ∧ ∃ v', Boxed w' X 59 v' ∧ w'.ownsRow base 66 1 v' (mulL B32 l f).length (dvals (mulL B32 l f)) ∧ Below base w w' ∧ (∀ k, k < w.heap.size → k ≠ X → some k ≠ v.ownBlock → w'.heap[k]? = w.heap[k]?) ∧ w.heap.size ≤ w'.heap.size := by
  have hln : l.length = n := by have := hown.1; rw [dvals_length] at this; omega
  obtain ⟨g, cap, rfl⟩ : ∃ g cap, v = .slice (some ⟨g, 0, none⟩) n cap := by
    obtain ⟨g, cap, hv, _⟩ := hown.form (by omega)
    exact ⟨g, cap, hv⟩
  have hbc := hbx.cell
  have hgb := (hown.lt g rfl).1
  have hgX : X ≠ g := fun e => (hbx.not_row (by decide) hown) (by rw [e]; rfl)
  have HL := lid hl
  have HLN := lid hln
  clear hl hln
  go_enter Try.func35, Try.ntmps35
  go_wp2_with fail
  go_loopw [3, 4, 5, 8] (fun c _ _ i wr => ∃ k : Nat, k ≤ n ∧ i = .int .i64 k ∧ c = .int .u64 (mulGo B32 f (l.take k) 0).2 ∧ wr.ownsRow base 66 1 (.slice (some ⟨g, 0, none⟩) n cap) n (dvals ((mulGo B32 f (l.take k) 0).1 ++ l.drop k)) ∧
    Boxed wr X 59 (.slice (some ⟨g, 0, none⟩) n cap) ∧ Below base w wr ∧ (∀ k, k < w.heap.size → k ≠ X → k ≠ g → wr.heap[k]? = w.heap[k]?) ∧ w.heap.size ≤ wr.heap.size) (fun _ _ _ i _ => n - (intOf i).toNat)
  case atStart => exact ⟨0, Nat.zero_le _, rfl, rfl, by simpa [mulGo] using hown, hbx, Below.refl _ _, fun _ _ _ _ => rfl, Nat.le_refl _⟩
  case round =>
    clear hown hbx hbc
    obtain ⟨k, hk, rfl, rfl, hown, hbx, hb, hx, hz⟩ := hrel
    have hbc := hbx.cell
    have hcc := mulGo_carry (B := B32) (by decide) f (l.take k) (fun d hd => HL.out d (List.mem_of_mem_take hd)) 0 (by omega)
    have hml := mulGo_length (B := B32) f (l.take k) 0
    rw [List.length_take, HLN.out] at hml
    by_cases hlt : k < n
    · have hkl : k < l.length := by rw [HLN.out]; exact hlt
      have hdk : l[k] < 4294967296 := HL.out l[k] (List.getElem_mem hkl)
      have HT : Hid (mulGo B32 f (l.take (k + 1)) 0 = ((mulGo B32 f (l.take k) 0).1 ++ [((mulGo B32 f (l.take k) 0).2 + l[k] * f) % B32], ((mulGo B32 f (l.take k) 0).2 + l[k] * f) / B32)) := lid (by rw [List.take_succ_eq_append_getElem hkl, mulGo_snoc])
      have HD : Hid (l.drop k = l[k] :: l.drop (k + 1)) := lid (List.drop_eq_getElem_cons hkl)
      have hx0 : wr.cell? ⟨g, k, none⟩ = some (.int .u32 (l[k] : Nat)) := by
        refine (hown.cellAt k (by omega)).trans ?_
        rw [HD.out, dvals_append, List.getElem?_append_right (by rw [dvals_length]; omega), dvals_length, hml, show min k n = k by omega, Nat.sub_self]
        rfl
      have hfz := hown.frozenAt k
      have hst := hown.stored k (.int .u32 (((mulGo B32 f (l.take k) 0).2 + l[k] * f) % B32 : Nat))
      generalize l[k] = d at *
      generalize (mulGo B32 f (l.take k) 0).2 = c at *
      generalize (mulGo B32 f (l.take k) 0).1 = p at *
      have hpl : p.length = k := by rw [hml]; omega
      have hdf : d * f ≤ 4294967295 * 1000 := Nat.mul_le_mul (by omega) hf
      have hdi : (d : Int) * (f : Int) ≤ 4294967295000 := by have : ((d * f : Nat) : Int) ≤ 4294967295000 := by omega
                                                             rwa [Int.natCast_mul] at this
      have hd0 : (0 : Int) ≤ (d : Int) * (f : Int) := by have : (0 : Int) ≤ ((d * f : Nat) : Int) := by omega
                                                         rwa [Int.natCast_mul] at this
      have hci : (c : Int) ≤ 1000 := by omega
      have hdd : (d : Int) ≤ 4294967295 := by omega
      have HST := lid hst
      have HPL := lid hpl
      clear hst hpl hml hdk
      have E1 : Hid (((c : Int) + (d : Int) * (f : Int)) % 4294967296 = (((c + d * f) % B32 : Nat) : Int)) := lid (by rw [Int.natCast_emod, Int.natCast_add, Int.natCast_mul]; rfl)
      have E2 : Hid (((c : Int) + (d : Int) * (f : Int)) / 4294967296 = (((c + d * f) / B32 : Nat) : Int)) := lid (by rw [Int.natCast_ediv, Int.natCast_add, Int.natCast_mul]; rfl)
      go_wp2_with fail
      go_roundw
      case rel =>
        rw [E1.out, E2.out]
        refine ⟨k + 1, by omega, by go_num, by rw [HT.out], ?_, (Below.heap_setCell wr ⟨g, k, none⟩ _ X hgX).trans hbx, hb.setCell (p := ⟨g, k, none⟩) hgb _, fun j h1 h2 h3 => (Below.heap_setCell wr ⟨g, k, none⟩ _ j h3).trans (hx j h1 h2 h3), by simpa [World.setCell] using hz⟩
        have := HST.out.1
        rw [HT.out]
        have e : (dvals (p ++ l.drop k)).set k (Value.int .u32 ((c + d * f) % B32 : Nat)) = dvals ((p ++ [(c + d * f) % B32]) ++ l.drop (k + 1)) := by
          rw [HD.out, dvals_append, List.set_append_right _ _ (by rw [dvals_length, HPL.out]; exact Nat.le_refl _), dvals_length, HPL.out, Nat.sub_self]
          simp [dvals]
        rw [← e]
        exact this
      case measure => simp [intOf]; omega
    · obtain rfl : k = n := by omega
      have hlk : l.take k = l := List.take_of_length_le (by rw [HLN.out]; exact Nat.le_refl _)
      have hld : l.drop k = [] := List.drop_eq_nil_of_le (by rw [HLN.out]; exact Nat.le_refl _)
      rw [hld, List.append_nil] at hown
      have hml' : (mulGo B32 f l 0).1.length = k := by rw [mulGo_length, HLN.out]
      rw [hlk] at hown hcc ⊢
      have HM := lid (show mulL B32 l f = if (mulGo B32 f l 0).2 = 0 then (mulGo B32 f l 0).1 else (mulGo B32 f l 0).1 ++ [(mulGo B32 f l 0).2] from rfl)
      generalize (mulGo B32 f l 0).2 = c at *
      generalize (mulGo B32 f l 0).1 = p at *
      have HML := lid hml'
      clear hml hlk hld hml'
      by_cases hc0 : c = 0
      · subst hc0
        have HM2 : Hid (mulL B32 l f = p) := lid (by rw [HM.out]; rfl)
        go_wp2_with fail
        go_end0
        refine ⟨⟨_, rfl⟩, _, hbx, ?_, hb, fun j h1 h2 h3 => hx j h1 h2 (fun e => h3 (by rw [e]; rfl)), hz⟩
        rw [HM2.out, HML.out]
        exact hown
      · have HM2 : Hid (mulL B32 l f = p ++ [c]) := lid (by rw [HM.out, if_neg hc0])
        have hcp : (0 : Int) < c := by omega
        have hcn : 0 < c := by omega
        have hci : (c : Int) ≤ 1000 := by omega
        clear hc0
        go_wp2_with (at_builtin; go_must (refine wpList_append_newG #[.int .u32 (c : Nat)] rfl _ _ 59 rfl base 66 (.int .u32 0) 1 4 info_u32 Try.underlying59 rfl (by decide) _ k _ hown rfl rfl rfl (by simp [Value.oneCell']) (by simp [maxLen]; omega) (by omega) (by omega) ?_))
        intro v' w2 hown' hgrow
        obtain ⟨g', cap', rfl⟩ := ownsRow_succ hown'
        obtain ⟨hv1, hv2, hr2, hk2, hb2⟩ := hbx.appended (by decide) hown (by omega) hX hown' hgrow
        have hz2 : wr.heap.size ≤ w2.heap.size := Nat.le_trans (by simp) hgrow.size
        have hx2 : ∀ j, j < wr.heap.size → j ≠ g → w2.heap[j]? = wr.heap[j]? := fun j h1 h2 => (hgrow.block j (by simp; omega) (fun e => h2 (Option.some.inj e))).trans (Below.heap_alloc wr _ j h1)
        have hc1 := hv1.cell
        have hf1 := hv1.frozen
        go_wp2_with fail
        go_end0
        refine ⟨⟨_, rfl⟩, _, hv2, ?_, hb.trans hb2, fun j h1 h2 h3 => (Below.heap_setCell w2 ⟨X, 0, none⟩ _ j h2).trans ((hx2 j (by omega) (fun e => h3 (by rw [e]; rfl))).trans (hx j h1 h2 (fun e => h3 (by rw [e]; rfl)))), by simp [World.setCell]; omega⟩
        rw [HM2.out, List.length_append, HML.out]
        simpa [dvals] using hr2
end Go.Proofs.Ytmlkegopbdfiaaa
