/-
  The writer of an object's encoding: digest.
-/
import Derived.Test.YtefehgdckmajiaaGreatDoorGrpF
import Derived.Test.YtefehgdckmajiaaGreatDoorGrpB
import Derived.Test.YtefehgdckmajiaaGreatDoorGrpG
namespace Go.Proofs.YtefehgdckmajiaaGreatDoor
open Go.RowKit

set_option maxRecDepth 100000 in
set_option maxHeartbeats 4000000 in
theorem wDigest_any (B b : Nat) (L : List UInt8) (x y : UInt64) (w : World) (h : Wr B b L w) (hB : B ≤ w.heap.size) (hl : L.length ≤ 1000000) :
    Calls Tryz.prog 76 #[.pointer (some ⟨b, 0, none⟩), .agg #[.int .u64 x.toNat, .int .u64 y.toNat]] w fun e w' => e = .returned (.tuple #[]) ∧ Wr B b (L ++ bytesU x y) w' ∧ Below B w w' ∧ Lib.OthersKept 5 (some b) w w' := by
  have HW := lid h
  have HL := lid hl
  clear h hl
  go_enter Tryz.func76, Tryz.ntmps76
  go_wp2
  go_loopw [5, 6, 8] (fun _ _ i wr => ∃ k : Nat, (k = 0 ∧ i = .int .i64 0 ∨ k = 1 ∧ i = .int .i64 1 ∨ k = 2 ∧ i = .int .i64 2) ∧ Hid (Wr B b (L ++ (bytesU x y).take (8 * k)) wr) ∧ Below B w wr ∧ Hid (Lib.OthersKept 5 (some b) w wr) ∧ B ≤ wr.heap.size) (fun _ _ i _ => (2 - intOf i).toNat)
  case atStart => exact ⟨0, .inl ⟨rfl, rfl⟩, lid (by simpa using HW.out.below (ba w _)), (ba w _).mono hB, lid (others_of_below (ba w _)), by rw [World.size_alloc]; omega⟩
  case round =>
    clear HW
    obtain ⟨k, hk, HW, hb, HO, hz⟩ := hrel
    rcases hk with ⟨rfl, rfl⟩ | ⟨rfl, rfl⟩ | ⟨rfl, rfl⟩
    · have i0 : ∀ w, (Instr.index 86 (.agg #[.int .u64 x.toNat, .int .u64 y.toNat]) (.int .i64 0)).run Tryz.prog w = .ok (.int .u64 x.toNat) w := fun _ => by kernel_rfl
      go_wp2
      obtain ⟨wo, rfl⟩ : ∃ wo : World, wo = wr := ⟨_, rfl⟩
      go_loopw [6] (fun i wr => ∃ j : Nat, j ≤ 8 ∧ i = .int .i64 (56 - 8 * (j : Int)) ∧ Hid (Wr B b (L ++ (bytesU x y).take (8 * 0 + j)) wr) ∧ Below B w wr ∧ Hid (Lib.OthersKept 5 (some b) w wr) ∧ B ≤ wr.heap.size) (fun i _ => ((intOf i) + 8).toNat)
      case atStart => exact ⟨0, by omega, rfl, lid (by simpa using HW.out), hb, HO, hz⟩
      case round =>
        clear HW hb HO hz
        obtain ⟨j, hj, rfl, HW, hb, HO, hz⟩ := hrel
        by_cases hlt : j < 8
        · have HT : Hid ((bytesU x y).take (8 * 0 + (j + 1)) = (bytesU x y).take (8 * 0 + j) ++ [byteAt x y (8 * 0 + j)]) := lid (bytesU_take x y (8 * 0 + j) (by omega))
          have HV := lid (byteAt_lo x y hlt)
          obtain ⟨h0, u, h1, h2, h3⟩ := HW.out
          have hlb : b < wr.heap.size := HW.out.lt
          have c0 : wr.cell? ⟨b, 0, none⟩ = some u := by rw [Lib.cell_of_heap h1]; rfl
          have C0 := SinceK.cell (k := b) (W := wr) c0
          have H1 := lid h1
          obtain ⟨N, hN⟩ : ∃ N, (L ++ (bytesU x y).take (8 * 0 + j)).length = N := ⟨_, rfl⟩
          have hLn : N ≤ 1000016 := by have := HL.out; rw [← hN, List.length_append, List.length_take, bytesU_length]; omega
          rw [hN] at h2
          have HN := lid hN
          have H2 := lid h2
          clear h1 h2 hN
          go_wp2_with fail
          refine wp_region_seqC 13 (fun w' => ∃ s : SinceK b wr, w' = s.world) [(0, true), (1, true), (2, true), (3, true), (4, true), (5, true), (6, true), (7, true), (8, false), (9, false), (10, false), (11, true), (12, true), (13, false)] (by kernel_rfl) (by kernel_rfl) (by intro c d v a w h; first | (cases d <;> exact h) | cases h.1) (sincek (KeepK.refl _ _).drew) ?_
          repeat (first | (refine seqL_skip (by rfl) (by rfl) (by rfl) ?_; simp only [Act.put, List.setIfInBounds_toArray, List.set_cons_succ, List.set_cons_zero]) | (refine seqL_float (by rfl) (by rfl) (by rfl) (by rfl) ?_; intro K hK; go_big_quiet_op; go_big_quiet_on))
          refine seqL_chain (by rfl) ?_
          intro K hK
          go_wp2_with fail
          go_wp2_with fail
          refine hK.out _ _ (sincek (KeepK.refl _ _).drew) ?_
          clear hK K
          repeat (first | (refine seqL_skip (by rfl) (by rfl) (by rfl) ?_; simp only [Act.put, List.setIfInBounds_toArray, List.set_cons_succ, List.set_cons_zero]) | (refine seqL_float (by rfl) (by rfl) (by rfl) (by rfl) ?_; intro K hK; go_big_quiet_op; go_big_quiet_on))
          refine seqL_chain (by rfl) ?_
          intro K hK
          go_wp2_with fail
          go_wp2_with fail
          refine hK.out _ _ (sincek ((KeepK.refl _ _).drew.below (ba _ _) (by simpa using hlb))) ?_
          clear hK K
          repeat (first | (refine seqL_skip (by rfl) (by rfl) (by rfl) ?_; simp only [Act.put, List.setIfInBounds_toArray, List.set_cons_succ, List.set_cons_zero]) | (refine seqL_float (by rfl) (by rfl) (by rfl) (by rfl) ?_; intro K hK; go_big_quiet_op; go_big_quiet_on))
          refine seqL_chain (by rfl) ?_
          intro K hK
          rw [alloc_drew]
          refine wpList_append_newG #[.int .u8 (((x.toNat : Int)) / 2 ^ (56 - 8 * j) % 256)] rfl _ _ 76 rfl B 5 (.int .u8 0) 1 1 info_u8 Tryz.underlying76 rfl (by decide) u _ _ H2.out.drew rfl rfl rfl (by simp [Value.oneCell']) (by unfold maxLen; omega) (by omega) hz ?_
          intro v' w2 hown' hgrow
          have hbk : w2.heap[b]? = wr.heap[b]? := by
            rw [hgrow.block b (by rw [World.size_alloc]; exact Nat.lt_succ_of_lt hlb) (fun e => h3 e.symm)]
            exact Below.heap_alloc wr.drew _ _ hlb
          have hb2 : w2.heap[b]? = some (.cells #[u, .bool false] 138 (0, 0)) := hbk.trans H1.out
          have d0 : w2.cell? ⟨b, 0, none⟩ = some u := by rw [Lib.cell_of_heap hb2]; rfl
          have d1 : w2.frozen? ⟨b, 0, none⟩ = false := Lib.frozen_of_heap hb2 0
          have HO' := lid hown'
          have HB2 := lid hb2
          obtain ⟨ao, cap, rfl⟩ := own_slice hown'
          clear hb2 hown' C0 c0 hLn
          go_wp2_with fail
          refine hK.out _ _ (sincek hbk) ?_
          clear hK K
          repeat (first | (refine seqL_skip (by rfl) (by rfl) (by rfl) ?_; simp only [Act.put, List.setIfInBounds_toArray, List.set_cons_succ, List.set_cons_zero]) | (refine seqL_float (by rfl) (by rfl) (by rfl) (by rfl) ?_; intro K hK; go_big_quiet_op; go_big_quiet_on))
          refine seqL_last (by rfl) (by rfl) ?_
          intro K hK
          go_wp2_with fail
          refine hK.out _ _ ?_
          clear hK K
          go_wp2_with fail
          go_roundw
          case rel => exact ⟨j + 1, by omega, by go_num, lid (by
              rw [HT.out, ← List.append_assoc]
              refine Wr.put h0 ((show (wr.drew.alloc (.cells #[.int .u8 (((x.toNat : Int)) / 2 ^ (56 - 8 * j) % 256)] 5)).heap[b]? = _ from (Below.heap_alloc _ _ _ hlb).trans H1.out)) h3 ?_ hgrow
              rw [bvals_snoc, ← HV.out, List.length_append, HN.out]
              exact HO'.out), ((((hb.drew.alloc hz _).grown hgrow (by rw [World.size_alloc]; exact Nat.le_succ_of_le hz) (fun k hk => ownsRow_row H2.out k hk)).setCell (p := ⟨b, 0, none⟩) h0 _)), lid (others_bad ((HO.out.drew.alloc _).grown hgrow (own_kind (H2.out.drew.alloc _))) 0 _), by rw [World.size_setCell]; have := hgrow.size; rw [World.size_alloc] at this; exact Nat.le_trans (Nat.le_succ_of_le hz) this⟩
          case measure => simp [intOf]; omega
        · obtain rfl : j = 8 := by omega
          go_wp2
          go_roundw
          case rel => exact ⟨1, .inr (.inl ⟨rfl, rfl⟩), HW, hb, HO, hz⟩
          case measure => simp [intOf]
    · have i0 : ∀ w, (Instr.index 86 (.agg #[.int .u64 x.toNat, .int .u64 y.toNat]) (.int .i64 1)).run Tryz.prog w = .ok (.int .u64 y.toNat) w := fun _ => by kernel_rfl
      go_wp2
      obtain ⟨wo, rfl⟩ : ∃ wo : World, wo = wr := ⟨_, rfl⟩
      go_loopw [6] (fun i wr => ∃ j : Nat, j ≤ 8 ∧ i = .int .i64 (56 - 8 * (j : Int)) ∧ Hid (Wr B b (L ++ (bytesU x y).take (8 * 1 + j)) wr) ∧ Below B w wr ∧ Hid (Lib.OthersKept 5 (some b) w wr) ∧ B ≤ wr.heap.size) (fun i _ => ((intOf i) + 8).toNat)
      case atStart => exact ⟨0, by omega, rfl, lid (by simpa using HW.out), hb, HO, hz⟩
      case round =>
        clear HW hb HO hz
        obtain ⟨j, hj, rfl, HW, hb, HO, hz⟩ := hrel
        by_cases hlt : j < 8
        · have HT : Hid ((bytesU x y).take (8 * 1 + (j + 1)) = (bytesU x y).take (8 * 1 + j) ++ [byteAt x y (8 * 1 + j)]) := lid (bytesU_take x y (8 * 1 + j) (by omega))
          have HV := lid (byteAt_hi x y hlt)
          obtain ⟨h0, u, h1, h2, h3⟩ := HW.out
          have hlb : b < wr.heap.size := HW.out.lt
          have c0 : wr.cell? ⟨b, 0, none⟩ = some u := by rw [Lib.cell_of_heap h1]; rfl
          have C0 := SinceK.cell (k := b) (W := wr) c0
          have H1 := lid h1
          obtain ⟨N, hN⟩ : ∃ N, (L ++ (bytesU x y).take (8 * 1 + j)).length = N := ⟨_, rfl⟩
          have hLn : N ≤ 1000016 := by have := HL.out; rw [← hN, List.length_append, List.length_take, bytesU_length]; omega
          rw [hN] at h2
          have HN := lid hN
          have H2 := lid h2
          clear h1 h2 hN
          go_wp2_with fail
          refine wp_region_seqC 13 (fun w' => ∃ s : SinceK b wr, w' = s.world) [(0, true), (1, true), (2, true), (3, true), (4, true), (5, true), (6, true), (7, true), (8, false), (9, false), (10, false), (11, true), (12, true), (13, false)] (by kernel_rfl) (by kernel_rfl) (by intro c d v a w h; first | (cases d <;> exact h) | cases h.1) (sincek (KeepK.refl _ _).drew) ?_
          repeat (first | (refine seqL_skip (by rfl) (by rfl) (by rfl) ?_; simp only [Act.put, List.setIfInBounds_toArray, List.set_cons_succ, List.set_cons_zero]) | (refine seqL_float (by rfl) (by rfl) (by rfl) (by rfl) ?_; intro K hK; go_big_quiet_op; go_big_quiet_on))
          refine seqL_chain (by rfl) ?_
          intro K hK
          go_wp2_with fail
          go_wp2_with fail
          refine hK.out _ _ (sincek (KeepK.refl _ _).drew) ?_
          clear hK K
          repeat (first | (refine seqL_skip (by rfl) (by rfl) (by rfl) ?_; simp only [Act.put, List.setIfInBounds_toArray, List.set_cons_succ, List.set_cons_zero]) | (refine seqL_float (by rfl) (by rfl) (by rfl) (by rfl) ?_; intro K hK; go_big_quiet_op; go_big_quiet_on))
          refine seqL_chain (by rfl) ?_
          intro K hK
          go_wp2_with fail
          go_wp2_with fail
          refine hK.out _ _ (sincek ((KeepK.refl _ _).drew.below (ba _ _) (by simpa using hlb))) ?_
          clear hK K
          repeat (first | (refine seqL_skip (by rfl) (by rfl) (by rfl) ?_; simp only [Act.put, List.setIfInBounds_toArray, List.set_cons_succ, List.set_cons_zero]) | (refine seqL_float (by rfl) (by rfl) (by rfl) (by rfl) ?_; intro K hK; go_big_quiet_op; go_big_quiet_on))
          refine seqL_chain (by rfl) ?_
          intro K hK
          rw [alloc_drew]
          refine wpList_append_newG #[.int .u8 (((y.toNat : Int)) / 2 ^ (56 - 8 * j) % 256)] rfl _ _ 76 rfl B 5 (.int .u8 0) 1 1 info_u8 Tryz.underlying76 rfl (by decide) u _ _ H2.out.drew rfl rfl rfl (by simp [Value.oneCell']) (by unfold maxLen; omega) (by omega) hz ?_
          intro v' w2 hown' hgrow
          have hbk : w2.heap[b]? = wr.heap[b]? := by
            rw [hgrow.block b (by rw [World.size_alloc]; exact Nat.lt_succ_of_lt hlb) (fun e => h3 e.symm)]
            exact Below.heap_alloc wr.drew _ _ hlb
          have hb2 : w2.heap[b]? = some (.cells #[u, .bool false] 138 (0, 0)) := hbk.trans H1.out
          have d0 : w2.cell? ⟨b, 0, none⟩ = some u := by rw [Lib.cell_of_heap hb2]; rfl
          have d1 : w2.frozen? ⟨b, 0, none⟩ = false := Lib.frozen_of_heap hb2 0
          have HO' := lid hown'
          have HB2 := lid hb2
          obtain ⟨ao, cap, rfl⟩ := own_slice hown'
          clear hb2 hown' C0 c0 hLn
          go_wp2_with fail
          refine hK.out _ _ (sincek hbk) ?_
          clear hK K
          repeat (first | (refine seqL_skip (by rfl) (by rfl) (by rfl) ?_; simp only [Act.put, List.setIfInBounds_toArray, List.set_cons_succ, List.set_cons_zero]) | (refine seqL_float (by rfl) (by rfl) (by rfl) (by rfl) ?_; intro K hK; go_big_quiet_op; go_big_quiet_on))
          refine seqL_last (by rfl) (by rfl) ?_
          intro K hK
          go_wp2_with fail
          refine hK.out _ _ ?_
          clear hK K
          go_wp2_with fail
          go_roundw
          case rel => exact ⟨j + 1, by omega, by go_num, lid (by
              rw [HT.out, ← List.append_assoc]
              refine Wr.put h0 ((show (wr.drew.alloc (.cells #[.int .u8 (((y.toNat : Int)) / 2 ^ (56 - 8 * j) % 256)] 5)).heap[b]? = _ from (Below.heap_alloc _ _ _ hlb).trans H1.out)) h3 ?_ hgrow
              rw [bvals_snoc, ← HV.out, List.length_append, HN.out]
              exact HO'.out), ((((hb.drew.alloc hz _).grown hgrow (by rw [World.size_alloc]; exact Nat.le_succ_of_le hz) (fun k hk => ownsRow_row H2.out k hk)).setCell (p := ⟨b, 0, none⟩) h0 _)), lid (others_bad ((HO.out.drew.alloc _).grown hgrow (own_kind (H2.out.drew.alloc _))) 0 _), by rw [World.size_setCell]; have := hgrow.size; rw [World.size_alloc] at this; exact Nat.le_trans (Nat.le_succ_of_le hz) this⟩
          case measure => simp [intOf]; omega
        · obtain rfl : j = 8 := by omega
          go_wp2
          go_roundw
          case rel => exact ⟨2, .inr (.inr ⟨rfl, rfl⟩), HW, hb, HO, hz⟩
          case measure => simp [intOf]
    · go_wp2
      go_end0
      exact ⟨rfl, by have := HW.out; rw [List.take_of_length_le (by rw [bytesU_length]; omega)] at this; exact this, hb, HO.out⟩
end Go.Proofs.YtefehgdckmajiaaGreatDoor
