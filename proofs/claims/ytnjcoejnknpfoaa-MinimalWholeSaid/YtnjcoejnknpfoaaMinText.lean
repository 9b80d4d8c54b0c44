/-
  Sets of numbers: whole, text.
-/
import Derived.Test.YtnjcoejnknpfoaaMinSets
namespace Go.Proofs.Ytnjcoejnknpfoaa
open Go.RowKit
def byteI (x : Int) : UInt8 := UInt8.ofNat (x % 256).toNat
def bytesI (l : List Int) : List UInt8 := l.map byteI
theorem byteI_val (x : Int) : ((byteI x).toNat : Int) = x % 256 := by
  have h1 := Int.emod_nonneg x (show (256 : Int) ≠ 0 by decide)
  have h2 := Int.emod_lt_of_pos x (show (0 : Int) < 256 by decide)
  unfold byteI
  rw [UInt8.toNat_ofNat']
  omega
theorem wrap_u8 (x : Int) : IntKind.u8.wrap x = x % 256 := by
  simp [IntKind.wrap, IntKind.bits, IntKind.signed]
theorem info_u8 : (Try.prog.info? 5).map (fun i => (i.zero, i.size, i.bytes)) = some (some (.int .u8 0), 1, 1) := by kernel_rfl

set_option maxRecDepth 100000 in
set_option maxHeartbeats 4000000 in
theorem whole_any (n : Nat) (w : World) (hn : n ≤ 1000000) :
    Calls Try.prog 47 #[.int .i64 n] w fun e w' => ∃ v', e = .returned v' ∧ w'.ownsRow w.heap.size 3 1 v' n (ivals (upto n)) ∧ Below w.heap.size w w' := by
  go_enter Try.func47, Try.ntmps47
  go_wp2_with (at_make; go_must (refine wpList_make_new rfl _ _ 30 rfl w.heap.size 3 (.int .i64 0) 1 8 info_int Try.underlying30 n rfl rfl (by omega) (by simp only [maxLen]; omega) (Nat.le_refl _) ?_))
  intro w1 hown1 hb1 hlt1
  have HO1 := lid hown1
  clear hown1
  go_wp2_with fail
  go_loopw [3, 4, 8] (fun vo _ i wr => ∃ j : Nat, j ≤ n ∧ i = .int .i64 j ∧ Hid (wr.ownsRow w.heap.size 3 1 vo j (ivals (upto j))) ∧ Below w.heap.size w wr) (fun _ _ i _ => n - (intOf i).toNat)
  case atStart => exact ⟨0, Nat.zero_le _, rfl, HO1, hb1⟩
  case round =>
    obtain ⟨j, hj, rfl, HO, hb⟩ := hrel
    obtain ⟨aoO, capO, rfl⟩ := own_slice HO.out
    by_cases hlt : j < n
    · have dk : decide ((j : Int) < (n : Int)) = true := by simp; omega
      go_wp2_with (at_builtin; go_must (refine wpList_append_new (w := wr) #[.int .i64 j] rfl _ _ 30 rfl w.heap.size 3 (.int .i64 0) 1 8 info_int Try.underlying30 rfl (by decide) _ j _ HO.out rfl rfl rfl (by intro u hu; simp only [List.mem_cons, List.not_mem_nil, or_false] at hu; rw [hu]; rfl) (by simp only [maxLen]; omega) (by omega) hb.size ?_))
      intro v9 w9 hown9 hb9 _
      have HO9 : Hid (w9.ownsRow w.heap.size 3 1 v9 (j + 1) (ivals (upto (j + 1)))) := lid (by rw [upto_succ, ivals_snoc]; exact hown9)
      have hb19 := hb.trans hb9
      clear hown9 hb9
      go_wp2_with fail
      go_roundw
      case rel => exact ⟨j + 1, by omega, by go_num, HO9, hb19⟩
      case measure => simp [intOf]; omega
    · obtain rfl : j = n := by omega
      have dk : decide ((j : Int) < (j : Int)) = false := by simp
      go_wp2_with fail
      go_ret
      exact ⟨_, rfl, HO.out, hb⟩

set_option maxRecDepth 100000 in
set_option maxHeartbeats 4000000 in
theorem text_any (l : List Int) (n cap : Nat) (ao : Option Addr) (w : World) (hn : n ≤ 1000000) (h : IA w ao n cap l) :
    Calls Try.prog 38 #[.slice ao n cap] w fun e w' => e = .returned (.string (bstr (bytesI l))) ∧ Below w.heap.size w w' := by
  have HN := lid h.len
  have HS := lid h.sl
  clear h
  go_enter Try.func38, Try.ntmps38
  go_wp2_with (at_make; go_must (refine wpList_make_new rfl _ _ 75 rfl w.heap.size 5 (.int .u8 0) 1 1 info_u8 Try.underlying75 n rfl rfl (by omega) (by simp only [maxLen]; omega) (Nat.le_refl _) ?_))
  intro w1 hown1 hb1 hlt1
  have HO1 := lid hown1
  clear hown1
  go_wp2_with fail
  go_loopw [3, 5, 11] (fun vo _ i wr => ∃ j : Nat, j ≤ n ∧ i = .int .i64 j ∧ Hid (wr.ownsRow w.heap.size 5 1 vo j (bvals (bytesI (l.take j)))) ∧ Below w.heap.size w wr) (fun _ _ i _ => n - (intOf i).toNat)
  case atStart => exact ⟨0, Nat.zero_le _, rfl, HO1, hb1⟩
  case round =>
    obtain ⟨j, hj, rfl, HO, hb⟩ := hrel
    obtain ⟨aoO, capO, rfl⟩ := own_slice HO.out
    by_cases hlt : j < n
    · have hkl : j < l.length := by rw [HN.out]; exact hlt
      obtain ⟨b1, o1, rfl, hlb, hcell⟩ := (HS.out.below hb).at_ hlt
      have x0 := hcell j _ (ivals_at hkl)
      have HT : Hid (bvals (bytesI (l.take (j + 1))) = bvals (bytesI (l.take j)) ++ [.int .u8 (IntKind.u8.wrap l[j])]) := lid (by
        rw [List.take_succ_eq_append_getElem hkl, wrap_u8, ← byteI_val]
        unfold bytesI bvals
        rw [List.map_append, List.map_append]
        rfl)
      have dk : decide ((j : Int) < (n : Int)) = true := by simp; omega
      obtain ⟨y, hy⟩ : ∃ y, l[j] = y := ⟨_, rfl⟩
      rw [hy] at x0 HT
      obtain ⟨z, hz⟩ : ∃ z, IntKind.u8.wrap y = z := ⟨_, rfl⟩
      rw [hz] at HT
      clear hcell hy
      go_wp2_with (at_builtin; go_must (refine wpList_append_new (w := wr) #[.int .u8 z] rfl _ _ 75 rfl w.heap.size 5 (.int .u8 0) 1 1 info_u8 Try.underlying75 rfl (by decide) _ j _ HO.out rfl rfl rfl (by intro u hu; simp only [List.mem_cons, List.not_mem_nil, or_false] at hu; rw [hu]; rfl) (by simp only [maxLen]; omega) (by omega) hb.size ?_))
      intro v9 w9 hown9 hb9 _
      have HO9 : Hid (w9.ownsRow w.heap.size 5 1 v9 (j + 1) (bvals (bytesI (l.take (j + 1))))) := lid (by rw [HT.out]; exact hown9)
      have hb19 := hb.trans hb9
      clear hown9 hb9 hz
      go_wp2_with fail
      go_roundw
      case rel => exact ⟨j + 1, by omega, by go_num, HO9, hb19⟩
      case measure => simp [intOf]; omega
    · obtain rfl : j = n := by omega
      have HTK : Hid (l.take j = l) := lid (List.take_of_length_le (Nat.le_of_eq HN.out))
      rw [HTK.out] at HO
      have dk : decide ((j : Int) < (j : Int)) = false := by simp
      have hcv := run_string_of_row HO.out Try.underlying75 Try.underlying5 Try.underlying9
      go_wp2_with fail
      go_ret
      exact ⟨rfl, hb⟩
end Go.Proofs.Ytnjcoejnknpfoaa
