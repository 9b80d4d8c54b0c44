/-
  Leases: the reference; the example.
-/
import Derived.Test.YtghkldodceamcaaLeaMb
import Derived.Deep.AppendLies
import Derived.Test.YtghkldodceamcaaLeaMa
namespace Go.Proofs.Ytghkldodceamcaa
open Go.RowKit

theorem own_empty5 {B0 k : Nat} {w : World} (h : w.heap[k]? = some (.cells #[] 31 (0, 0))) (hk : B0 ≤ k) : w.ownsRow B0 31 5 (.slice (some ⟨k, 0, none⟩) 0 0) 0 [] :=
  ⟨rfl, .inr ⟨k, 0, #[], rfl, hk, h, Nat.le_refl _, by simp [maxLen], rfl, rfl⟩⟩
theorem sl_one5 {w : World} {k : Nat} {us : Array Value} {t : TypeId} (h : w.heap[k]? = some (.cells us t (0, 0))) (hu : us.size = 5) : Sl w 5 (some ⟨k, 0, none⟩) 1 us.toList := by
  refine ⟨by simpa using hu, .inr ⟨k, 0, rfl, (Array.getElem?_eq_some_iff.1 h).1, fun j u hu => ?_⟩⟩
  rw [Nat.zero_add, cell_of_row _ _ _ _ _ _ h]
  simpa using hu
theorem two_rows {w : World} {a b : Nat} {us : Array Value} {t u : TypeId} (h : w.heap[a]? = some (.cells #[] t (0, 0))) (h2 : w.heap[b]? = some (.cells us u (0, 0))) (e : a = b) (hu : us.size = 5 := by rfl) : False := by
  subst e
  rw [h] at h2
  cases h2
  simp at hu

set_option maxRecDepth 100000 in
set_option maxHeartbeats 16000000 in
theorem refAdd_any (t : Ls) (ao0 : Option Addr) (n0 cap0 : Nat) (l : List Lz) (ao : Option Addr) (n cap : Nat) (job : Dg) (wk : ByteArray) (m : Int) (w : World) (hs : Sl w 5 ao n (lzcells l)) (hz : ao = none → cap = 0) (hn : n ≤ 10000) (hc : 0 ≤ t.clock) (he : 0 ≤ t.epoch) (he2 : t.epoch < 1099511627776) (hm : 1 ≤ m) (hm2 : m ≤ 1099511627776 - t.clock) :
    Calls Try.prog 33 #[.agg (tcells t ao0 n0 cap0), .slice ao n cap, dv job, .string wk, .int .i64 m] w fun e w' => ∃ v', e = .returned (.tuple #[.agg #[.int .i64 t.clock, .int .i64 (t.epoch + 1), v'], .agg (lzc (withX t job wk m))]) ∧ w'.ownsRow w.heap.size 31 5 v' (n + 1) (lzcells (withL t l job wk m).l) ∧ Below w.heap.size w w' := by
  obtain ⟨W, hW⟩ : ∃ y, (((((w.alloc (.cells #[.int .i64 t.clock, .int .i64 t.epoch, .slice ao0 n0 cap0] 24)).alloc (.cells #[.int .u64 job.1.toNat, .int .u64 job.2.toNat] 27)).alloc (.cells tz 24)).alloc (.cells lzz 31)).alloc (.cells (putc t job wk m) 31)) = y := ⟨_, rfl⟩
  have hbW : Below w.heap.size w W := by
    rw [← hW]
    exact (((((Below.refl _ _).alloc (Nat.le_refl _) _).alloc (by simp) _).alloc (by simp; omega) _).alloc (by simp; omega) _).alloc (by simp; omega) _
  have zW : W.heap.size = w.heap.size + 1 + 1 + 1 + 1 + 1 := by rw [← hW]; simp only [World.size_alloc]
  have HT : Hid (W.heap[w.heap.size]? = some (.cells (tcells t ao0 n0 cap0) 24 (0, 0))) := lid (by
    rw [← hW]
    iterate 4 rw [Below.heap_alloc _ _ _ (by simp only [World.size_alloc]; omega)]
    have := heap_alloc_new w (.cells #[.int .i64 t.clock, .int .i64 t.epoch, .slice ao0 n0 cap0] 24)
    exact this)
  have HJ : Hid (W.heap[w.heap.size + 1]? = some (.cells #[.int .u64 job.1.toNat, .int .u64 job.2.toNat] 27 (0, 0))) := lid (by
    rw [← hW]
    iterate 3 rw [Below.heap_alloc _ _ _ (by simp only [World.size_alloc]; omega)]
    have := heap_alloc_new (w.alloc (.cells #[.int .i64 t.clock, .int .i64 t.epoch, .slice ao0 n0 cap0] 24)) (.cells #[.int .u64 job.1.toNat, .int .u64 job.2.toNat] 27)
    simp only [World.size_alloc] at this
    exact this)
  have HP : Hid (W.heap[w.heap.size + 1 + 1]? = some (.cells tz 24 (0, 0))) := lid (by
    rw [← hW]
    iterate 2 rw [Below.heap_alloc _ _ _ (by simp only [World.size_alloc]; omega)]
    have := heap_alloc_new ((w.alloc (.cells #[.int .i64 t.clock, .int .i64 t.epoch, .slice ao0 n0 cap0] 24)).alloc (.cells #[.int .u64 job.1.toNat, .int .u64 job.2.toNat] 27)) (.cells tz 24)
    simp only [World.size_alloc] at this
    exact this)
  have HQ : Hid (W.heap[w.heap.size + 1 + 1 + 1]? = some (.cells lzz 31 (0, 0))) := lid (by
    rw [← hW]
    iterate 1 rw [Below.heap_alloc _ _ _ (by simp only [World.size_alloc]; omega)]
    have := heap_alloc_new (((w.alloc (.cells #[.int .i64 t.clock, .int .i64 t.epoch, .slice ao0 n0 cap0] 24)).alloc (.cells #[.int .u64 job.1.toNat, .int .u64 job.2.toNat] 27)).alloc (.cells tz 24)) (.cells lzz 31)
    simp only [World.size_alloc] at this
    exact this)
  have HX : Hid (W.heap[w.heap.size + 1 + 1 + 1 + 1]? = some (.cells (putc t job wk m) 31 (0, 0))) := lid (by
    rw [← hW]
    have := heap_alloc_new ((((w.alloc (.cells #[.int .i64 t.clock, .int .i64 t.epoch, .slice ao0 n0 cap0] 24)).alloc (.cells #[.int .u64 job.1.toNat, .int .u64 job.2.toNat] 27)).alloc (.cells tz 24)).alloc (.cells lzz 31)) (.cells (putc t job wk m) 31)
    simp only [World.size_alloc] at this
    exact this)
  have HW := lid hW
  have HS := lid (hs.below hbW)
  have Hb := lid hbW
  have HZ := lid hz
  have l0 : w.heap.size < W.heap.size := by omega
  have l4 : w.heap.size + 1 + 1 + 1 + 1 < W.heap.size := by omega
  clear hs hz hW hbW
  go_enter Try.func33, Try.ntmps33
  go_wp2_with fail
  rw [HW.out]
  clear HW
  have a0 := SinceY.cell (B := W.heap.size) (X := w.heap.size + 1 + 1) l0 (by omega) (by omega) (row_cell HT.out 0)
  have a1 := SinceY.cell (B := W.heap.size) (X := w.heap.size + 1 + 1) l0 (by omega) (by omega) (row_cell HT.out 1)
  have b0 := SinceY.cell (B := W.heap.size) (X := w.heap.size + 1 + 1) l4 (by omega) (by omega) (row_cell HX.out 0)
  have b1 := SinceY.cell (B := W.heap.size) (X := w.heap.size + 1 + 1) l4 (by omega) (by omega) (row_cell HX.out 1)
  have b2 := SinceY.cell (B := W.heap.size) (X := w.heap.size + 1 + 1) l4 (by omega) (by omega) (row_cell HX.out 2)
  have b3 := SinceY.cell (B := W.heap.size) (X := w.heap.size + 1 + 1) l4 (by omega) (by omega) (row_cell HX.out 3)
  have b4 := SinceY.cell (B := W.heap.size) (X := w.heap.size + 1 + 1) l4 (by omega) (by omega) (row_cell HX.out 4)
  replace zW := lid zW
  have hbd : Below W.heap.size W W.drew := (Below.refl _ _).drew
  have ky : ∀ {w' : World}, Below W.heap.size W w' → KeptY W.heap.size (w.heap.size + 1 + 1) W w' := fun h => (KeptY.refl _ _ _).below h
  refine wp_region_otl 14 (fun w' => ∃ s : SinceY W.heap.size (w.heap.size + 1 + 1) W, w' = s.world) (.seq [(0, true), (1, true), (2, true), (3, true), (4, true), (6, true), (8, true), (12, true)] (.two 5 9 (.two 7 9 (.leaf [(9, false), (10, false), (11, true), (13, false), (14, false)]) (.leaf [(7, false), (10, false), (11, true), (13, false), (14, false)])) (.leaf [(5, false), (7, false), (10, false), (11, true), (13, false), (14, false)]))) (by kernel_rfl) (by kernel_rfl) (by intro c d v a w h; cases d <;> exact h) (sincey (KeptY.refl _ _ _).drew) (otl_seq ?_)
  iterate 8 (refine seqL_float (by rfl) (by rfl) (by rfl) (by rfl) ?_; intro K hK; go_big_quiet_op; go_big_quiet_on)
  clear a0 a1 b0 b1 b2 b3 b4
  refine seqL_nil (otl_two ?_ ?_)
  · refine seqL_chain (by rfl) ?_
    intro K hK
    go_wp2_with fail
    obtain ⟨w1, hwx⟩ : ∃ y, W.alloc (.cells #[] 31) = y := ⟨_, rfl⟩
    have hbw1 : Below W.heap.size W w1 := by rw [← hwx]; exact (Below.refl W.heap.size W).alloc (Below.refl W.heap.size W).size _
    have HE : Hid (w1.heap[W.heap.size]? = some (.cells #[] 31 (0, 0))) := lid (by rw [← hwx]; exact heap_alloc_new _ _)
    have HWX := lid hwx
    clear hwx
    go_wp2_with fail
    rw [HWX.out]
    refine hK.out _ _ (sincey (ky hbw1).drew) ?_
    clear hK K HWX
    refine seqL_nil (otl_two ?_ ?_)
    · refine seqL_chain (by rfl) ?_
      intro K hK
      go_wp2_with (at_builtin; go_must (refine wpList_append_slg rfl _ _ 22 rfl W.heap.size 31 (.agg #[.int .u64 0, .int .u64 0, .string ⟨#[]⟩, .int .i64 0, .int .i64 0]) 5 48 info_lz Try.underlying22 rfl (by decide) _ 0 [] (own_empty5 HE.out (Nat.le_refl _)) rfl ao n cap (lzcells l) rfl (HS.out.below hbw1.drew) HZ.out (lzcells_one l) (by simp only [maxLen]; omega) (by omega) hbw1.drew.size ?_))
      intro vA wA hownA hbA hgA
      have hbwA : Below W.heap.size W wA := hbw1.drew.trans hbA
      have HOA : Hid (wA.ownsRow W.heap.size 31 5 vA n (lzcells l)) := lid hownA
      obtain ⟨aoA, capA, rfl⟩ := own_slice hownA
      clear hownA hbA hgA HE
      go_wp2_with fail
      refine hK.out _ _ (sincey (ky hbwA)) ?_
      clear hK K
      refine seqL_nil (otl_leaf ?_)
      refine seqL_chain (by rfl) ?_
      intro K hK
      go_wp2_with fail
      obtain ⟨w2, hwx⟩ : ∃ y, wA.alloc (.cells (putc t job wk m) 31) = y := ⟨_, rfl⟩
      have hbw2 : Below W.heap.size W w2 := by rw [← hwx]; exact hbwA.alloc hbwA.size _
      have HLIT : Hid (w2.heap[wA.heap.size]? = some (.cells (putc t job wk m) 31 (0, 0))) := lid (by rw [← hwx]; exact heap_alloc_new _ _)
      replace HOA := lid (ownsRow_below HOA.out (show Below wA.heap.size wA w2 by rw [← hwx]; exact ba _ _))
      have HWX := lid hwx
      clear hwx
      go_wp2_with fail
      rw [HWX.out]
      refine hK.out _ _ (sincey (ky hbw2)) ?_
      clear hK K HWX
      refine seqL_chain (by rfl) ?_
      intro K hK
      go_wp2_with (at_builtin; go_must (refine wpList_append_sl rfl _ _ 22 rfl W.heap.size 31 (.agg #[.int .u64 0, .int .u64 0, .string ⟨#[]⟩, .int .i64 0, .int .i64 0]) 5 48 info_lz Try.underlying22 rfl (by decide) _ _ _ HOA.out rfl _ 1 1 (putc t job wk m).toList rfl (sl_one5 HLIT.out rfl) (by intro h; cases h) (by simp [Value.oneCell']) (by simp only [maxLen]; omega) (by omega) hbw2.size ?_))
      intro v5 w5 hown5 hb5
      have hb5W : Below W.heap.size W w5 := hbw2.trans hb5
      have HO5 : Hid (w5.ownsRow W.heap.size 31 5 v5 (n + 1) (lzcells (withL t l job wk m).l)) := lid (by
        have e : lzcells (withL t l job wk m).l = lzcells l ++ (putc t job wk m).toList := by unfold withL; rw [lzcells_snoc]
        rw [e]; exact hown5)
      obtain ⟨ao5, cap5, rfl⟩ := own_slice hown5
      clear hown5 hb5 HLIT HOA
      go_wp2_with fail
      refine hK.out _ _ (sincey (ky hb5W)) ?_
      clear hK K
      repeat (first | (refine seqL_skip (by rfl) (by rfl) (by rfl) ?_; simp only [Act.put, List.setIfInBounds_toArray, List.set_cons_succ, List.set_cons_zero]) | (refine seqL_float (by rfl) (by rfl) (by rfl) (by rfl) ?_; intro K hK; go_big_quiet_op; go_big_quiet_on))
      have HP5 := (hb5W.block (w.heap.size + 1 + 1) (by have := zW.out; omega)).trans HP.out
      have HQ5 := (hb5W.block (w.heap.size + 1 + 1 + 1) (by have := zW.out; omega)).trans HQ.out
      have p0 := row_cell HP5 0
      have p1 := row_cell HP5 1
      have p2 := row_cell HP5 2
      have y0 := row_fz HP5 0
      have y1 := row_fz HP5 1
      have y2 := row_fz HP5 2
      refine seqL_chain (by rfl) ?_
      intro K hK
      go_wp2_with fail
      clear p0 p1 p2 y0 y1 y2
      have hk5 := ky hb5W
      have hb6 : Below w.heap.size w w5 := Hb.out.trans (hb5W.mono (by have := zW.out; omega))
      obtain ⟨W7, hW7⟩ : ∃ y, ((w5.setCell ⟨w.heap.size + 1 + 1, 0, none⟩ (.int .i64 t.clock)).setCell ⟨w.heap.size + 1 + 1, 1, none⟩ (.int .i64 (t.epoch + 1))).setCell ⟨w.heap.size + 1 + 1, 2, none⟩ (.slice ao5 (n + 1) cap5) = y := ⟨_, rfl⟩
      rw [hW7]
      have HP7 : W7.heap[w.heap.size + 1 + 1]? = some (.cells #[.int .i64 t.clock, .int .i64 (t.epoch + 1), .slice ao5 (n + 1) cap5] 24 (0, 0)) := by rw [← hW7]; exact row_set (row_set (row_set HP5 0 _) 1 _) 2 _
      have HQ7 : W7.heap[w.heap.size + 1 + 1 + 1]? = some (.cells lzz 31 (0, 0)) := by rw [← hW7]; exact row_other (row_other (row_other HQ5 (by omega)) (by omega)) (by omega)
      have HO7 : Hid (W7.ownsRow W.heap.size 31 5 (.slice ao5 (n + 1) cap5) (n + 1) (lzcells (withL t l job wk m).l)) := lid (by
        have hz := zW.out
        rw [← hW7]; exact own_set (own_set (own_set HO5.out (by omega)) (by omega)) (by omega))
      have hb7 : Below w.heap.size w W7 := by
        rw [← hW7]; exact ((hb6.setCell (p := ⟨w.heap.size + 1 + 1, 0, none⟩) (by simp only; omega) _).setCell (p := ⟨w.heap.size + 1 + 1, 1, none⟩) (by simp only; omega) _).setCell (p := ⟨w.heap.size + 1 + 1, 2, none⟩) (by simp only; omega) _
      have hk7 : KeptY W.heap.size (w.heap.size + 1 + 1) W W7 := by
        rw [← hW7]; exact ((hk5.setCell (p := ⟨w.heap.size + 1 + 1, 0, none⟩) (.inl rfl) _).setCell (p := ⟨w.heap.size + 1 + 1, 1, none⟩) (.inl rfl) _).setCell (p := ⟨w.heap.size + 1 + 1, 2, none⟩) (.inl rfl) _
      clear hW7 HO5 HP5 HQ5 hb6 hk5
      refine hK.out _ _ (sincey hk7) ?_
      clear hK K hk7
      have p0 := row_cell HQ7 0
      have p1 := row_cell HQ7 1
      have p2 := row_cell HQ7 2
      have p3 := row_cell HQ7 3
      have p4 := row_cell HQ7 4
      have y0 := row_fz HQ7 0
      have y1 := row_fz HQ7 1
      have y2 := row_fz HQ7 2
      have y3 := row_fz HQ7 3
      have y4 := row_fz HQ7 4
      refine seqL_last (by rfl) (by rfl) ?_
      intro K hK
      go_wp2_with fail
      refine hK.out _ _ ?_
      clear hK K p0 p1 p2 p3 p4 y0 y1 y2 y3 y4
      obtain ⟨W8, hW8⟩ : ∃ y, ((((W7.setCell ⟨w.heap.size + 1 + 1 + 1, 0, none⟩ (.int .u64 job.1.toNat)).setCell ⟨w.heap.size + 1 + 1 + 1, 1, none⟩ (.int .u64 job.2.toNat)).setCell ⟨w.heap.size + 1 + 1 + 1, 2, none⟩ (.string wk)).setCell ⟨w.heap.size + 1 + 1 + 1, 3, none⟩ (.int .i64 (t.clock + m))).setCell ⟨w.heap.size + 1 + 1 + 1, 4, none⟩ (.int .i64 (t.epoch + 1)) = y := ⟨_, rfl⟩
      rw [hW8]
      have HP8 : W8.heap[w.heap.size + 1 + 1]? = some (.cells #[.int .i64 t.clock, .int .i64 (t.epoch + 1), .slice ao5 (n + 1) cap5] 24 (0, 0)) := by
        rw [← hW8]
        iterate 5 refine row_other ?_ (by omega)
        exact HP7
      have HQ8 : W8.heap[w.heap.size + 1 + 1 + 1]? = some (.cells (putc t job wk m) 31 (0, 0)) := by rw [← hW8]; exact row_set (row_set (row_set (row_set (row_set HQ7 0 _) 1 _) 2 _) 3 _) 4 _
      have HO8 : Hid (W8.ownsRow W.heap.size 31 5 (.slice ao5 (n + 1) cap5) (n + 1) (lzcells (withL t l job wk m).l)) := lid (by
        have hz := zW.out
        rw [← hW8]
        iterate 5 refine own_set ?_ (by omega)
        exact HO7.out)
      have hb8 : Below w.heap.size w W8 := by
        rw [← hW8]; exact ((((hb7.setCell (p := ⟨w.heap.size + 1 + 1 + 1, 0, none⟩) (by simp only; omega) _).setCell (p := ⟨w.heap.size + 1 + 1 + 1, 1, none⟩) (by simp only; omega) _).setCell (p := ⟨w.heap.size + 1 + 1 + 1, 2, none⟩) (by simp only; omega) _).setCell (p := ⟨w.heap.size + 1 + 1 + 1, 3, none⟩) (by simp only; omega) _).setCell (p := ⟨w.heap.size + 1 + 1 + 1, 4, none⟩) (by simp only; omega) _
      clear hW8 HO7 HP7 HQ7 hb7
      have p0 := row_cell HP8 0
      have p1 := row_cell HP8 1
      have p2 := row_cell HP8 2
      have q0 := row_cell HQ8 0
      have q1 := row_cell HQ8 1
      have q2 := row_cell HQ8 2
      have q3 := row_cell HQ8 3
      have q4 := row_cell HQ8 4
      go_wp2_with fail
      have hfin := ownsRow_base (base' := w.heap.size) HO8.out (by have := zW.out; omega)
      exact bodyPost_ret (v := .tuple #[.agg #[.int .i64 t.clock, .int .i64 (t.epoch + 1), .slice ao5 (n + 1) cap5], .agg (lzc (withX t job wk m))]) (by simp [results, Try.results33, go_sem, p0, p1, p2, q0, q1, q2, q3, q4, withX]) rfl ⟨_, rfl, hfin, hb8⟩
    · refine seqL_chain (by rfl) ?_
      intro K hK
      go_wp2_with fail
      obtain ⟨w2, hwx⟩ : ∃ y, w1.alloc (.cells (putc t job wk m) 31) = y := ⟨_, rfl⟩
      have hbw2 : Below W.heap.size W w2 := by rw [← hwx]; exact hbw1.alloc hbw1.size _
      have HLIT : Hid (w2.heap[w1.heap.size]? = some (.cells (putc t job wk m) 31 (0, 0))) := lid (by rw [← hwx]; exact heap_alloc_new _ _)
      replace HE := lid (((ba w1 (.cells (putc t job wk m) 31)).block W.heap.size (row_lt HE.out)).trans HE.out)
      rw [hwx] at HE
      have HWX := lid hwx
      clear hwx
      go_wp2_with fail
      rw [HWX.out]
      refine hK.out _ _ (sincey (ky hbw2).drew) ?_
      clear hK K HWX
      refine seqL_nil (otl_leaf ?_)
      refine seqL_chain (by rfl) ?_
      intro K hK
      go_wp2_with (at_builtin; go_must (refine wpList_append_slg rfl _ _ 22 rfl W.heap.size 31 (.agg #[.int .u64 0, .int .u64 0, .string ⟨#[]⟩, .int .i64 0, .int .i64 0]) 5 48 info_lz Try.underlying22 rfl (by decide) _ 0 [] (own_empty5 HE.out (Nat.le_refl _)) rfl ao n cap (lzcells l) rfl (HS.out.below hbw2.drew) HZ.out (lzcells_one l) (by simp only [maxLen]; omega) (by omega) hbw2.drew.size ?_))
      intro vA wA hownA hbA hgA
      have hbwA : Below W.heap.size W wA := hbw2.drew.trans hbA
      have HOA : Hid (wA.ownsRow W.heap.size 31 5 vA n (lzcells l)) := lid hownA
      replace HLIT : Hid (wA.heap[w1.heap.size]? = some (.cells (putc t job wk m) 31 (0, 0))) := lid ((hgA.block w1.heap.size (row_lt HLIT.out) (fun e => two_rows HE.out HLIT.out (Option.some.inj e.symm))).trans HLIT.out)
      obtain ⟨aoA, capA, rfl⟩ := own_slice hownA
      clear hownA hbA hgA HE
      go_wp2_with fail
      refine hK.out _ _ (sincey (ky hbwA)) ?_
      clear hK K
      refine seqL_chain (by rfl) ?_
      intro K hK
      go_wp2_with (at_builtin; go_must (refine wpList_append_sl rfl _ _ 22 rfl W.heap.size 31 (.agg #[.int .u64 0, .int .u64 0, .string ⟨#[]⟩, .int .i64 0, .int .i64 0]) 5 48 info_lz Try.underlying22 rfl (by decide) _ _ _ HOA.out rfl _ 1 1 (putc t job wk m).toList rfl (sl_one5 HLIT.out rfl) (by intro h; cases h) (by simp [Value.oneCell']) (by simp only [maxLen]; omega) (by omega) hbwA.size ?_))
      intro v5 w5 hown5 hb5
      have hb5W : Below W.heap.size W w5 := hbwA.trans hb5
      have HO5 : Hid (w5.ownsRow W.heap.size 31 5 v5 (n + 1) (lzcells (withL t l job wk m).l)) := lid (by
        have e : lzcells (withL t l job wk m).l = lzcells l ++ (putc t job wk m).toList := by unfold withL; rw [lzcells_snoc]
        rw [e]; exact hown5)
      obtain ⟨ao5, cap5, rfl⟩ := own_slice hown5
      clear hown5 hb5 HLIT HOA
      go_wp2_with fail
      refine hK.out _ _ (sincey (ky hb5W)) ?_
      clear hK K
      repeat (first | (refine seqL_skip (by rfl) (by rfl) (by rfl) ?_; simp only [Act.put, List.setIfInBounds_toArray, List.set_cons_succ, List.set_cons_zero]) | (refine seqL_float (by rfl) (by rfl) (by rfl) (by rfl) ?_; intro K hK; go_big_quiet_op; go_big_quiet_on))
      have HP5 := (hb5W.block (w.heap.size + 1 + 1) (by have := zW.out; omega)).trans HP.out
      have HQ5 := (hb5W.block (w.heap.size + 1 + 1 + 1) (by have := zW.out; omega)).trans HQ.out
      have p0 := row_cell HP5 0
      have p1 := row_cell HP5 1
      have p2 := row_cell HP5 2
      have y0 := row_fz HP5 0
      have y1 := row_fz HP5 1
      have y2 := row_fz HP5 2
      refine seqL_chain (by rfl) ?_
      intro K hK
      go_wp2_with fail
      clear p0 p1 p2 y0 y1 y2
      have hk5 := ky hb5W
      have hb6 : Below w.heap.size w w5 := Hb.out.trans (hb5W.mono (by have := zW.out; omega))
      obtain ⟨W7, hW7⟩ : ∃ y, ((w5.setCell ⟨w.heap.size + 1 + 1, 0, none⟩ (.int .i64 t.clock)).setCell ⟨w.heap.size + 1 + 1, 1, none⟩ (.int .i64 (t.epoch + 1))).setCell ⟨w.heap.size + 1 + 1, 2, none⟩ (.slice ao5 (n + 1) cap5) = y := ⟨_, rfl⟩
      rw [hW7]
      have HP7 : W7.heap[w.heap.size + 1 + 1]? = some (.cells #[.int .i64 t.clock, .int .i64 (t.epoch + 1), .slice ao5 (n + 1) cap5] 24 (0, 0)) := by rw [← hW7]; exact row_set (row_set (row_set HP5 0 _) 1 _) 2 _
      have HQ7 : W7.heap[w.heap.size + 1 + 1 + 1]? = some (.cells lzz 31 (0, 0)) := by rw [← hW7]; exact row_other (row_other (row_other HQ5 (by omega)) (by omega)) (by omega)
      have HO7 : Hid (W7.ownsRow W.heap.size 31 5 (.slice ao5 (n + 1) cap5) (n + 1) (lzcells (withL t l job wk m).l)) := lid (by
        have hz := zW.out
        rw [← hW7]; exact own_set (own_set (own_set HO5.out (by omega)) (by omega)) (by omega))
      have hb7 : Below w.heap.size w W7 := by
        rw [← hW7]; exact ((hb6.setCell (p := ⟨w.heap.size + 1 + 1, 0, none⟩) (by simp only; omega) _).setCell (p := ⟨w.heap.size + 1 + 1, 1, none⟩) (by simp only; omega) _).setCell (p := ⟨w.heap.size + 1 + 1, 2, none⟩) (by simp only; omega) _
      have hk7 : KeptY W.heap.size (w.heap.size + 1 + 1) W W7 := by
        rw [← hW7]; exact ((hk5.setCell (p := ⟨w.heap.size + 1 + 1, 0, none⟩) (.inl rfl) _).setCell (p := ⟨w.heap.size + 1 + 1, 1, none⟩) (.inl rfl) _).setCell (p := ⟨w.heap.size + 1 + 1, 2, none⟩) (.inl rfl) _
      clear hW7 HO5 HP5 HQ5 hb6 hk5
      refine hK.out _ _ (sincey hk7) ?_
      clear hK K hk7
      have p0 := row_cell HQ7 0
      have p1 := row_cell HQ7 1
      have p2 := row_cell HQ7 2
      have p3 := row_cell HQ7 3
      have p4 := row_cell HQ7 4
      have y0 := row_fz HQ7 0
      have y1 := row_fz HQ7 1
      have y2 := row_fz HQ7 2
      have y3 := row_fz HQ7 3
      have y4 := row_fz HQ7 4
      refine seqL_last (by rfl) (by rfl) ?_
      intro K hK
      go_wp2_with fail
      refine hK.out _ _ ?_
      clear hK K p0 p1 p2 p3 p4 y0 y1 y2 y3 y4
      obtain ⟨W8, hW8⟩ : ∃ y, ((((W7.setCell ⟨w.heap.size + 1 + 1 + 1, 0, none⟩ (.int .u64 job.1.toNat)).setCell ⟨w.heap.size + 1 + 1 + 1, 1, none⟩ (.int .u64 job.2.toNat)).setCell ⟨w.heap.size + 1 + 1 + 1, 2, none⟩ (.string wk)).setCell ⟨w.heap.size + 1 + 1 + 1, 3, none⟩ (.int .i64 (t.clock + m))).setCell ⟨w.heap.size + 1 + 1 + 1, 4, none⟩ (.int .i64 (t.epoch + 1)) = y := ⟨_, rfl⟩
      rw [hW8]
      have HP8 : W8.heap[w.heap.size + 1 + 1]? = some (.cells #[.int .i64 t.clock, .int .i64 (t.epoch + 1), .slice ao5 (n + 1) cap5] 24 (0, 0)) := by
        rw [← hW8]
        iterate 5 refine row_other ?_ (by omega)
        exact HP7
      have HQ8 : W8.heap[w.heap.size + 1 + 1 + 1]? = some (.cells (putc t job wk m) 31 (0, 0)) := by rw [← hW8]; exact row_set (row_set (row_set (row_set (row_set HQ7 0 _) 1 _) 2 _) 3 _) 4 _
      have HO8 : Hid (W8.ownsRow W.heap.size 31 5 (.slice ao5 (n + 1) cap5) (n + 1) (lzcells (withL t l job wk m).l)) := lid (by
        have hz := zW.out
        rw [← hW8]
        iterate 5 refine own_set ?_ (by omega)
        exact HO7.out)
      have hb8 : Below w.heap.size w W8 := by
        rw [← hW8]; exact ((((hb7.setCell (p := ⟨w.heap.size + 1 + 1 + 1, 0, none⟩) (by simp only; omega) _).setCell (p := ⟨w.heap.size + 1 + 1 + 1, 1, none⟩) (by simp only; omega) _).setCell (p := ⟨w.heap.size + 1 + 1 + 1, 2, none⟩) (by simp only; omega) _).setCell (p := ⟨w.heap.size + 1 + 1 + 1, 3, none⟩) (by simp only; omega) _).setCell (p := ⟨w.heap.size + 1 + 1 + 1, 4, none⟩) (by simp only; omega) _
      clear hW8 HO7 HP7 HQ7 hb7
      have p0 := row_cell HP8 0
      have p1 := row_cell HP8 1
      have p2 := row_cell HP8 2
      have q0 := row_cell HQ8 0
      have q1 := row_cell HQ8 1
      have q2 := row_cell HQ8 2
      have q3 := row_cell HQ8 3
      have q4 := row_cell HQ8 4
      go_wp2_with fail
      have hfin := ownsRow_base (base' := w.heap.size) HO8.out (by have := zW.out; omega)
      exact bodyPost_ret (v := .tuple #[.agg #[.int .i64 t.clock, .int .i64 (t.epoch + 1), .slice ao5 (n + 1) cap5], .agg (lzc (withX t job wk m))]) (by simp [results, Try.results33, go_sem, p0, p1, p2, q0, q1, q2, q3, q4, withX]) rfl ⟨_, rfl, hfin, hb8⟩
  · refine seqL_chain (by rfl) ?_
    intro K hK
    go_wp2_with fail
    obtain ⟨w1, hwx⟩ : ∃ y, W.alloc (.cells (putc t job wk m) 31) = y := ⟨_, rfl⟩
    have hbw1 : Below W.heap.size W w1 := by rw [← hwx]; exact (Below.refl W.heap.size W).alloc (Below.refl W.heap.size W).size _
    have HLIT : Hid (w1.heap[W.heap.size]? = some (.cells (putc t job wk m) 31 (0, 0))) := lid (by rw [← hwx]; exact heap_alloc_new _ _)
    have HWX := lid hwx
    clear hwx
    go_wp2_with fail
    rw [HWX.out]
    refine hK.out _ _ (sincey (ky hbw1).drew) ?_
    clear hK K HWX
    refine seqL_nil (otl_leaf ?_)
    refine seqL_chain (by rfl) ?_
    intro K hK
    go_wp2_with fail
    obtain ⟨w2, hwx⟩ : ∃ y, w1.alloc (.cells #[] 31) = y := ⟨_, rfl⟩
    have hbw2 : Below W.heap.size W w2 := by rw [← hwx]; exact hbw1.alloc hbw1.size _
    have HE : Hid (w2.heap[w1.heap.size]? = some (.cells #[] 31 (0, 0))) := lid (by rw [← hwx]; exact heap_alloc_new _ _)
    replace HLIT := lid (((ba w1 (.cells #[] 31)).block W.heap.size (row_lt HLIT.out)).trans HLIT.out)
    rw [hwx] at HLIT
    have HWX := lid hwx
    clear hwx
    go_wp2_with fail
    rw [HWX.out]
    refine hK.out _ _ (sincey (ky hbw2).drew) ?_
    clear hK K HWX
    refine seqL_chain (by rfl) ?_
    intro K hK
    go_wp2_with (at_builtin; go_must (refine wpList_append_slg rfl _ _ 22 rfl W.heap.size 31 (.agg #[.int .u64 0, .int .u64 0, .string ⟨#[]⟩, .int .i64 0, .int .i64 0]) 5 48 info_lz Try.underlying22 rfl (by decide) _ 0 [] (own_empty5 HE.out hbw1.size) rfl ao n cap (lzcells l) rfl (HS.out.below hbw2.drew) HZ.out (lzcells_one l) (by simp only [maxLen]; omega) (by omega) hbw2.drew.size ?_))
    intro vA wA hownA hbA hgA
    have hbwA : Below W.heap.size W wA := hbw2.drew.trans hbA
    have HOA : Hid (wA.ownsRow W.heap.size 31 5 vA n (lzcells l)) := lid hownA
    replace HLIT : Hid (wA.heap[W.heap.size]? = some (.cells (putc t job wk m) 31 (0, 0))) := lid ((hgA.block W.heap.size (row_lt HLIT.out) (fun e => two_rows HE.out HLIT.out (Option.some.inj e.symm))).trans HLIT.out)
    obtain ⟨aoA, capA, rfl⟩ := own_slice hownA
    clear hownA hbA hgA HE
    go_wp2_with fail
    refine hK.out _ _ (sincey (ky hbwA)) ?_
    clear hK K
    refine seqL_chain (by rfl) ?_
    intro K hK
    go_wp2_with (at_builtin; go_must (refine wpList_append_sl rfl _ _ 22 rfl W.heap.size 31 (.agg #[.int .u64 0, .int .u64 0, .string ⟨#[]⟩, .int .i64 0, .int .i64 0]) 5 48 info_lz Try.underlying22 rfl (by decide) _ _ _ HOA.out rfl _ 1 1 (putc t job wk m).toList rfl (sl_one5 HLIT.out rfl) (by intro h; cases h) (by simp [Value.oneCell']) (by simp only [maxLen]; omega) (by omega) hbwA.size ?_))
    intro v5 w5 hown5 hb5
    have hb5W : Below W.heap.size W w5 := hbwA.trans hb5
    have HO5 : Hid (w5.ownsRow W.heap.size 31 5 v5 (n + 1) (lzcells (withL t l job wk m).l)) := lid (by
      have e : lzcells (withL t l job wk m).l = lzcells l ++ (putc t job wk m).toList := by unfold withL; rw [lzcells_snoc]
      rw [e]; exact hown5)
    obtain ⟨ao5, cap5, rfl⟩ := own_slice hown5
    clear hown5 hb5 HLIT HOA
    go_wp2_with fail
    refine hK.out _ _ (sincey (ky hb5W)) ?_
    clear hK K
    repeat (first | (refine seqL_skip (by rfl) (by rfl) (by rfl) ?_; simp only [Act.put, List.setIfInBounds_toArray, List.set_cons_succ, List.set_cons_zero]) | (refine seqL_float (by rfl) (by rfl) (by rfl) (by rfl) ?_; intro K hK; go_big_quiet_op; go_big_quiet_on))
    have HP5 := (hb5W.block (w.heap.size + 1 + 1) (by have := zW.out; omega)).trans HP.out
    have HQ5 := (hb5W.block (w.heap.size + 1 + 1 + 1) (by have := zW.out; omega)).trans HQ.out
    have p0 := row_cell HP5 0
    have p1 := row_cell HP5 1
    have p2 := row_cell HP5 2
    have y0 := row_fz HP5 0
    have y1 := row_fz HP5 1
    have y2 := row_fz HP5 2
    refine seqL_chain (by rfl) ?_
    intro K hK
    go_wp2_with fail
    clear p0 p1 p2 y0 y1 y2
    have hk5 := ky hb5W
    have hb6 : Below w.heap.size w w5 := Hb.out.trans (hb5W.mono (by have := zW.out; omega))
    obtain ⟨W7, hW7⟩ : ∃ y, ((w5.setCell ⟨w.heap.size + 1 + 1, 0, none⟩ (.int .i64 t.clock)).setCell ⟨w.heap.size + 1 + 1, 1, none⟩ (.int .i64 (t.epoch + 1))).setCell ⟨w.heap.size + 1 + 1, 2, none⟩ (.slice ao5 (n + 1) cap5) = y := ⟨_, rfl⟩
    rw [hW7]
    have HP7 : W7.heap[w.heap.size + 1 + 1]? = some (.cells #[.int .i64 t.clock, .int .i64 (t.epoch + 1), .slice ao5 (n + 1) cap5] 24 (0, 0)) := by rw [← hW7]; exact row_set (row_set (row_set HP5 0 _) 1 _) 2 _
    have HQ7 : W7.heap[w.heap.size + 1 + 1 + 1]? = some (.cells lzz 31 (0, 0)) := by rw [← hW7]; exact row_other (row_other (row_other HQ5 (by omega)) (by omega)) (by omega)
    have HO7 : Hid (W7.ownsRow W.heap.size 31 5 (.slice ao5 (n + 1) cap5) (n + 1) (lzcells (withL t l job wk m).l)) := lid (by
      have hz := zW.out
      rw [← hW7]; exact own_set (own_set (own_set HO5.out (by omega)) (by omega)) (by omega))
    have hb7 : Below w.heap.size w W7 := by
      rw [← hW7]; exact ((hb6.setCell (p := ⟨w.heap.size + 1 + 1, 0, none⟩) (by simp only; omega) _).setCell (p := ⟨w.heap.size + 1 + 1, 1, none⟩) (by simp only; omega) _).setCell (p := ⟨w.heap.size + 1 + 1, 2, none⟩) (by simp only; omega) _
    have hk7 : KeptY W.heap.size (w.heap.size + 1 + 1) W W7 := by
      rw [← hW7]; exact ((hk5.setCell (p := ⟨w.heap.size + 1 + 1, 0, none⟩) (.inl rfl) _).setCell (p := ⟨w.heap.size + 1 + 1, 1, none⟩) (.inl rfl) _).setCell (p := ⟨w.heap.size + 1 + 1, 2, none⟩) (.inl rfl) _
    clear hW7 HO5 HP5 HQ5 hb6 hk5
    refine hK.out _ _ (sincey hk7) ?_
    clear hK K hk7
    have p0 := row_cell HQ7 0
    have p1 := row_cell HQ7 1
    have p2 := row_cell HQ7 2
    have p3 := row_cell HQ7 3
    have p4 := row_cell HQ7 4
    have y0 := row_fz HQ7 0
    have y1 := row_fz HQ7 1
    have y2 := row_fz HQ7 2
    have y3 := row_fz HQ7 3
    have y4 := row_fz HQ7 4
    refine seqL_last (by rfl) (by rfl) ?_
    intro K hK
    go_wp2_with fail
    refine hK.out _ _ ?_
    clear hK K p0 p1 p2 p3 p4 y0 y1 y2 y3 y4
    obtain ⟨W8, hW8⟩ : ∃ y, ((((W7.setCell ⟨w.heap.size + 1 + 1 + 1, 0, none⟩ (.int .u64 job.1.toNat)).setCell ⟨w.heap.size + 1 + 1 + 1, 1, none⟩ (.int .u64 job.2.toNat)).setCell ⟨w.heap.size + 1 + 1 + 1, 2, none⟩ (.string wk)).setCell ⟨w.heap.size + 1 + 1 + 1, 3, none⟩ (.int .i64 (t.clock + m))).setCell ⟨w.heap.size + 1 + 1 + 1, 4, none⟩ (.int .i64 (t.epoch + 1)) = y := ⟨_, rfl⟩
    rw [hW8]
    have HP8 : W8.heap[w.heap.size + 1 + 1]? = some (.cells #[.int .i64 t.clock, .int .i64 (t.epoch + 1), .slice ao5 (n + 1) cap5] 24 (0, 0)) := by
      rw [← hW8]
      iterate 5 refine row_other ?_ (by omega)
      exact HP7
    have HQ8 : W8.heap[w.heap.size + 1 + 1 + 1]? = some (.cells (putc t job wk m) 31 (0, 0)) := by rw [← hW8]; exact row_set (row_set (row_set (row_set (row_set HQ7 0 _) 1 _) 2 _) 3 _) 4 _
    have HO8 : Hid (W8.ownsRow W.heap.size 31 5 (.slice ao5 (n + 1) cap5) (n + 1) (lzcells (withL t l job wk m).l)) := lid (by
      have hz := zW.out
      rw [← hW8]
      iterate 5 refine own_set ?_ (by omega)
      exact HO7.out)
    have hb8 : Below w.heap.size w W8 := by
      rw [← hW8]; exact ((((hb7.setCell (p := ⟨w.heap.size + 1 + 1 + 1, 0, none⟩) (by simp only; omega) _).setCell (p := ⟨w.heap.size + 1 + 1 + 1, 1, none⟩) (by simp only; omega) _).setCell (p := ⟨w.heap.size + 1 + 1 + 1, 2, none⟩) (by simp only; omega) _).setCell (p := ⟨w.heap.size + 1 + 1 + 1, 3, none⟩) (by simp only; omega) _).setCell (p := ⟨w.heap.size + 1 + 1 + 1, 4, none⟩) (by simp only; omega) _
    clear hW8 HO7 HP7 HQ7 hb7
    have p0 := row_cell HP8 0
    have p1 := row_cell HP8 1
    have p2 := row_cell HP8 2
    have q0 := row_cell HQ8 0
    have q1 := row_cell HQ8 1
    have q2 := row_cell HQ8 2
    have q3 := row_cell HQ8 3
    have q4 := row_cell HQ8 4
    go_wp2_with fail
    have hfin := ownsRow_base (base' := w.heap.size) HO8.out (by have := zW.out; omega)
    exact bodyPost_ret (v := .tuple #[.agg #[.int .i64 t.clock, .int .i64 (t.epoch + 1), .slice ao5 (n + 1) cap5], .agg (lzc (withX t job wk m))]) (by simp [results, Try.results33, go_sem, p0, p1, p2, q0, q1, q2, q3, q4, withX]) rfl ⟨_, rfl, hfin, hb8⟩
end Go.Proofs.Ytghkldodceamcaa

namespace Go.Proofs.Ytghkldodceamcaa
open Go.RowKit

set_option maxRecDepth 100000 in
set_option maxHeartbeats 16000000 in
theorem refGrant_any (t : Ls) (ao : Option Addr) (n cap : Nat) (job : Dg) (wk : ByteArray) (m : Int) (w : World) (h : LsA w ao n t) (hz : ao = none → cap = 0) (hwk : wk.size ≤ maxLen) :
    Calls Try.prog 13 #[.agg (tcells t ao n cap), dv job, .string wk, .int .i64 m] w fun e w' => GrR (grantL t job wk m) (grantX t job wk m) (grantE t job wk m) w e w' := by
  obtain ⟨W, hW⟩ : ∃ y, (((w.alloc (.cells #[.int .i64 t.clock, .int .i64 t.epoch, .slice ao n cap] 24)).alloc (.cells #[.int .u64 job.1.toNat, .int .u64 job.2.toNat] 27)).alloc (.cells tz 24)).alloc (.cells lzz 31) = y := ⟨_, rfl⟩
  have hb : Below w.heap.size w W := by
    rw [← hW]
    exact ((((Below.refl _ _).alloc (Nat.le_refl _) _).alloc (by simp) _).alloc (by simp; omega) _).alloc (by simp; omega) _
  have HT : Hid (W.heap[w.heap.size]? = some (.cells (tcells t ao n cap) 24 (0, 0))) := lid (by
    rw [← hW]
    iterate 3 rw [Below.heap_alloc _ _ _ (by simp only [World.size_alloc]; omega)]
    exact heap_alloc_new _ _)
  have HJ : Hid (W.heap[w.heap.size + 1]? = some (.cells #[.int .u64 job.1.toNat, .int .u64 job.2.toNat] 27 (0, 0))) := lid (by
    rw [← hW]
    iterate 2 rw [Below.heap_alloc _ _ _ (by simp only [World.size_alloc]; omega)]
    have := heap_alloc_new (w.alloc (.cells #[.int .i64 t.clock, .int .i64 t.epoch, .slice ao n cap] 24)) (.cells #[.int .u64 job.1.toNat, .int .u64 job.2.toNat] 27)
    simp only [World.size_alloc] at this
    exact this)
  have HP : Hid (tzRow (w.heap.size + 1 + 1) W) := lid (by
    rw [← hW]; unfold tzRow
    iterate 1 rw [Below.heap_alloc _ _ _ (by simp only [World.size_alloc]; omega)]
    have := heap_alloc_new ((w.alloc (.cells #[.int .i64 t.clock, .int .i64 t.epoch, .slice ao n cap] 24)).alloc (.cells #[.int .u64 job.1.toNat, .int .u64 job.2.toNat] 27)) (.cells tz 24)
    simp only [World.size_alloc] at this
    exact this)
  have HQ : Hid (lzRow (w.heap.size + 1 + 1 + 1) W) := lid (by
    rw [← hW]; unfold lzRow
    have := heap_alloc_new (((w.alloc (.cells #[.int .i64 t.clock, .int .i64 t.epoch, .slice ao n cap] 24)).alloc (.cells #[.int .u64 job.1.toNat, .int .u64 job.2.toNat] 27)).alloc (.cells tz 24)) (.cells lzz 31)
    simp only [World.size_alloc] at this
    exact this)
  have HW := lid hW
  have HA := lid (h.below hb)
  have HZ := lid hz
  have HL := lid h.len
  clear h hz hW
  go_enter Try.func13, Try.ntmps13
  have c0 := row_cell HT.out 0
  have c1 := row_cell HT.out 1
  have c2 := row_cell HT.out 2
  rw [← HW.out] at c0 c1 c2
  go_wp2_with fail
  rw [HW.out]
  clear HW c0 c1 c2
  have CK := lid (refLeaCheck_any t ao n cap W HA.out)
  obtain ⟨c, hc⟩ : ∃ c, checkLs t = c := ⟨_, rfl⟩
  rw [hc] at CK
  have HC := lid hc
  clear hc
  (with_reducible refine (CK.out).mono ?_); rintro e w1 ⟨rfl, hb1⟩
  have hb' := hb
  replace hb : Below w.heap.size w w1 := hb.trans (hb1.mono hb.size)
  replace HP := lid ((hb1.block _ (row_lt HP.out)).trans HP.out)
  replace HQ := lid ((hb1.block _ (row_lt HQ.out)).trans HQ.out)
  replace HT := lid ((hb1.block _ (row_lt HT.out)).trans HT.out)
  replace HJ := lid ((hb1.block _ (row_lt HJ.out)).trans HJ.out)
  replace HA := lid (HA.out.below hb1)
  clear hb1 hb'
  clear CK
  by_cases hc0 : c = 0
  case neg =>
    have d0 : (c == 0) = false := by simpa using hc0
    have p0 := row_cell HP.out 0
    have p1 := row_cell HP.out 1
    have p2 := row_cell HP.out 2
    have y0 := row_fz HP.out 0
    have y1 := row_fz HP.out 1
    have y2 := row_fz HP.out 2
    have q0 := row_cell HQ.out 0
    have q1 := row_cell HQ.out 1
    have q2 := row_cell HQ.out 2
    have q3 := row_cell HQ.out 3
    have q4 := row_cell HQ.out 4
    have r0 := row_fz HQ.out 0
    have r1 := row_fz HQ.out 1
    have r2 := row_fz HQ.out 2
    have r3 := row_fz HQ.out 3
    have r4 := row_fz HQ.out 4
    have HV := lid (grant_1 (by rw [HC.out]; exact hc0) job wk m)
    go_wp2_with fail
    clear p0 p1 p2 y0 y1 y2 q0 q1 q2 q3 q4 r0 r1 r2 r3 r4
    obtain ⟨wf, hwf⟩ : ∃ y, wipe w.heap.size w1 = y := ⟨_, rfl⟩
    have hwr := wipe_rows HP.out HQ.out hb
    rw [hwf] at hwr
    unfold wipe at hwf
    rw [hwf]
    have p0 := row_cell hwr.1 0
    have p1 := row_cell hwr.1 1
    have p2 := row_cell hwr.1 2
    have q0 := row_cell hwr.2.1 0
    have q1 := row_cell hwr.2.1 1
    have q2 := row_cell hwr.2.1 2
    have q3 := row_cell hwr.2.1 3
    have q4 := row_cell hwr.2.1 4
    exact bodyPost_ret (v := .tuple #[.agg tz, .agg lzz, .int .i64 1]) (by simp [results, Try.results13, go_sem, p0, p1, p2, q0, q1, q2, q3, q4]) rfl ⟨.agg tz, by rw [(grant_bad HV.out (by decide)).2, HV.out]; rfl, by rw [(grant_bad HV.out (by decide)).1]; exact LsV.zero _ _, hwr.2.2⟩
  subst hc0
  have HOK := lid (checkLs_ok HC.out)
  go_wp2_with fail
  (with_reducible refine (refValidName_any wk w1 hwk).mono ?_); rintro e w2 ⟨rfl, hw2⟩
  have hb2 : Below w1.heap.size w1 w2 := by rw [hw2]; exact Below.refl _ _
  clear hw2
  have hb' := hb
  replace hb : Below w.heap.size w w2 := hb.trans (hb2.mono hb.size)
  replace HP := lid ((hb2.block _ (row_lt HP.out)).trans HP.out)
  replace HQ := lid ((hb2.block _ (row_lt HQ.out)).trans HQ.out)
  replace HT := lid ((hb2.block _ (row_lt HT.out)).trans HT.out)
  replace HJ := lid ((hb2.block _ (row_lt HJ.out)).trans HJ.out)
  replace HA := lid (HA.out.below hb2)
  clear hb2 hb'
  cases hnm : nameB wk with
  | false =>
    have HNM := lid hnm
    clear hnm
    have p0 := row_cell HP.out 0
    have p1 := row_cell HP.out 1
    have p2 := row_cell HP.out 2
    have y0 := row_fz HP.out 0
    have y1 := row_fz HP.out 1
    have y2 := row_fz HP.out 2
    have q0 := row_cell HQ.out 0
    have q1 := row_cell HQ.out 1
    have q2 := row_cell HQ.out 2
    have q3 := row_cell HQ.out 3
    have q4 := row_cell HQ.out 4
    have r0 := row_fz HQ.out 0
    have r1 := row_fz HQ.out 1
    have r2 := row_fz HQ.out 2
    have r3 := row_fz HQ.out 3
    have r4 := row_fz HQ.out 4
    have HV := lid (grant_2 HC.out HNM.out job m)
    go_wp2_with fail
    clear p0 p1 p2 y0 y1 y2 q0 q1 q2 q3 q4 r0 r1 r2 r3 r4
    obtain ⟨wf, hwf⟩ : ∃ y, wipe w.heap.size w2 = y := ⟨_, rfl⟩
    have hwr := wipe_rows HP.out HQ.out hb
    rw [hwf] at hwr
    unfold wipe at hwf
    rw [hwf]
    have p0 := row_cell hwr.1 0
    have p1 := row_cell hwr.1 1
    have p2 := row_cell hwr.1 2
    have q0 := row_cell hwr.2.1 0
    have q1 := row_cell hwr.2.1 1
    have q2 := row_cell hwr.2.1 2
    have q3 := row_cell hwr.2.1 3
    have q4 := row_cell hwr.2.1 4
    exact bodyPost_ret (v := .tuple #[.agg tz, .agg lzz, .int .i64 6]) (by simp [results, Try.results13, go_sem, p0, p1, p2, q0, q1, q2, q3, q4]) rfl ⟨.agg tz, by rw [(grant_bad HV.out (by decide)).2, HV.out]; rfl, by rw [(grant_bad HV.out (by decide)).1]; exact LsV.zero _ _, hwr.2.2⟩
  | true =>
  have HNM := lid hnm
  clear hnm
  have c0 := row_cell HT.out 0
  have c1 := row_cell HT.out 1
  have c2 := row_cell HT.out 2
  have j0 := row_cell HJ.out 0
  have j1 := row_cell HJ.out 1
  go_wp2_with fail
  clear c0 c1 c2 j0 j1
  (with_reducible refine (fits_any t ao n cap m w2 HOK.out.1 HOK.out.2.1).mono ?_); rintro e w3 ⟨rfl, hb3⟩
  have hb' := hb
  replace hb : Below w.heap.size w w3 := hb.trans (hb3.mono hb.size)
  replace HP := lid ((hb3.block _ (row_lt HP.out)).trans HP.out)
  replace HQ := lid ((hb3.block _ (row_lt HQ.out)).trans HQ.out)
  replace HT := lid ((hb3.block _ (row_lt HT.out)).trans HT.out)
  replace HJ := lid ((hb3.block _ (row_lt HJ.out)).trans HJ.out)
  replace HA := lid (HA.out.below hb3)
  clear hb3 hb'
  cases hft : fitB t.clock m with
  | false =>
    have HFT := lid hft
    clear hft
    have p0 := row_cell HP.out 0
    have p1 := row_cell HP.out 1
    have p2 := row_cell HP.out 2
    have y0 := row_fz HP.out 0
    have y1 := row_fz HP.out 1
    have y2 := row_fz HP.out 2
    have q0 := row_cell HQ.out 0
    have q1 := row_cell HQ.out 1
    have q2 := row_cell HQ.out 2
    have q3 := row_cell HQ.out 3
    have q4 := row_cell HQ.out 4
    have r0 := row_fz HQ.out 0
    have r1 := row_fz HQ.out 1
    have r2 := row_fz HQ.out 2
    have r3 := row_fz HQ.out 3
    have r4 := row_fz HQ.out 4
    have HV := lid (grant_3 HC.out HNM.out HFT.out job)
    go_wp2_with fail
    clear p0 p1 p2 y0 y1 y2 q0 q1 q2 q3 q4 r0 r1 r2 r3 r4
    obtain ⟨wf, hwf⟩ : ∃ y, wipe w.heap.size w3 = y := ⟨_, rfl⟩
    have hwr := wipe_rows HP.out HQ.out hb
    rw [hwf] at hwr
    unfold wipe at hwf
    rw [hwf]
    have p0 := row_cell hwr.1 0
    have p1 := row_cell hwr.1 1
    have p2 := row_cell hwr.1 2
    have q0 := row_cell hwr.2.1 0
    have q1 := row_cell hwr.2.1 1
    have q2 := row_cell hwr.2.1 2
    have q3 := row_cell hwr.2.1 3
    have q4 := row_cell hwr.2.1 4
    exact bodyPost_ret (v := .tuple #[.agg tz, .agg lzz, .int .i64 2]) (by simp [results, Try.results13, go_sem, p0, p1, p2, q0, q1, q2, q3, q4]) rfl ⟨.agg tz, by rw [(grant_bad HV.out (by decide)).2, HV.out]; rfl, by rw [(grant_bad HV.out (by decide)).1]; exact LsV.zero _ _, hwr.2.2⟩
  | true =>
  have HFT := lid hft
  clear hft
  have hn : n ≤ 256 := by have := HOK.out.2.2.2.2; rw [HL.out] at this; exact this
  go_wp2_with fail
  go_loopw [11] (fun i wr => ∃ j : Nat, j ≤ n ∧ i = .int .i64 j ∧ Hid (hasB (t.l.take j) job wk = false) ∧ Below w3.heap.size w3 wr) (fun i _ => n - (intOf i).toNat)
  case atStart => exact ⟨0, Nat.zero_le _, rfl, lid rfl, Below.refl _ _⟩
  case round =>
    obtain ⟨j, hj, rfl, HF, hb3⟩ := hrel
    have h33 := hb3
    have hb' := hb
    replace hb : Below w.heap.size w wr := hb.trans (hb3.mono hb.size)
    replace HP := lid ((hb3.block _ (row_lt HP.out)).trans HP.out)
    replace HQ := lid ((hb3.block _ (row_lt HQ.out)).trans HQ.out)
    replace HT := lid ((hb3.block _ (row_lt HT.out)).trans HT.out)
    replace HJ := lid ((hb3.block _ (row_lt HJ.out)).trans HJ.out)
    replace HA := lid (HA.out.below hb3)
    clear hb3 hb'
    have c0 := row_cell HT.out 0
    have c1 := row_cell HT.out 1
    have c2 := row_cell HT.out 2
    have j0 := row_cell HJ.out 0
    have j1 := row_cell HJ.out 1
    have lT := row_lt HT.out
    have lJ := row_lt HJ.out
    by_cases hlt : j < n
    · have hjl : j < t.l.length := by rw [HL.out]; exact hlt
      obtain ⟨b1, o1, rfl, hlb, hcell⟩ := HA.out.sl.at_ hlt
      have x0 := hcell (j * 5 + 0) _ (lzcells_at hjl).1
      have x1 := hcell (j * 5 + 1) _ (lzcells_at hjl).2.1
      have x2 := hcell (j * 5 + 2) _ (lzcells_at hjl).2.2.1
      rw [← Nat.add_assoc] at x1 x2
      rw [Nat.add_zero] at x0
      have dj : decide ((j : Int) < (n : Int)) = true := by simp; omega
      have HTK := lid (hasB_take hjl job wk)
      have HMO := lid (fun h => hasB_more (l := t.l) (j := j + 1) (k := t.l.length) hjl (job := job) (wk := wk) h)
      obtain ⟨r, hr⟩ : ∃ y, t.l[j] = y := ⟨_, rfl⟩
      rw [hr] at x0 x1 x2 HTK
      clear hr hcell
      have hj3 : (j : Int) < n := by omega
      by_cases hd : r.1 = job
      · have HQQ : Hid (decide (r.1 = job) = true) := lid (decide_eq_true hd)
        by_cases ha : r.2.1 = wk
        · have u1 := str_eq ha
          have HHS : Hid (hasB t.l job wk = true) := lid (by have := HMO.out (by rw [HTK.out]; simp [hd, ha]); rwa [List.take_of_length_le (Nat.le_refl _)] at this)
          clear hd ha
          go_wp2_with fail
          refine wp_region_seq (fun w' => ∃ s : Since wr.heap.size wr, w' = s.world) [(0, true), (1, true), (2, true), (3, true), (4, true), (5, true), (6, true), (7, true), (8, true), (9, true), (10, true), (11, true), (12, true), (13, true), (14, true), (15, true), (16, true), (17, true)] (by kernel_rfl) (by kernel_rfl) (by intro c d v a w h; cases d <;> exact h) (since (Below.refl _ _).drew) ?_
          iterate 7 (first | (refine seq_skip (by rfl) (by rfl) ?_; simp only [Act.put, List.setIfInBounds_toArray, List.set_cons_succ, List.set_cons_zero]) | (refine seq_float (by rfl) (by rfl) (by rfl) ?_; intro K hK; go_big_quiet_op; go_big_quiet_on))
          refine seq_float (by rfl) (by rfl) (by rfl) ?_; intro K hK
          refine quiet_eq_dg3 r.1 job true _ _ rfl rfl rfl HQQ.out ?_
          simp only [Act.put, List.setIfInBounds_toArray, List.set_cons_succ, List.set_cons_zero]
          go_big_quiet_on
          repeat (first | (refine seq_skip (by rfl) (by rfl) ?_; simp only [Act.put, List.setIfInBounds_toArray, List.set_cons_succ, List.set_cons_zero]) | (refine seq_float (by rfl) (by rfl) (by rfl) ?_; intro K hK; go_big_quiet_op; go_big_quiet_on))
          refine seq_nil ?_
          replace HP := lid (show tzRow (w.heap.size + 1 + 1) wr.drew from HP.out)
          replace HQ := lid (show lzRow (w.heap.size + 1 + 1 + 1) wr.drew from HQ.out)
          replace hb : Below w.heap.size w wr.drew := hb.drew
          obtain ⟨v, hv⟩ : ∃ y, wr.drew = y := ⟨_, rfl⟩
          rw [hv] at HP HQ hb ⊢
          clear hv
          have p0 := row_cell HP.out 0
          have p1 := row_cell HP.out 1
          have p2 := row_cell HP.out 2
          have y0 := row_fz HP.out 0
          have y1 := row_fz HP.out 1
          have y2 := row_fz HP.out 2
          have q0 := row_cell HQ.out 0
          have q1 := row_cell HQ.out 1
          have q2 := row_cell HQ.out 2
          have q3 := row_cell HQ.out 3
          have q4 := row_cell HQ.out 4
          have r0 := row_fz HQ.out 0
          have r1 := row_fz HQ.out 1
          have r2 := row_fz HQ.out 2
          have r3 := row_fz HQ.out 3
          have r4 := row_fz HQ.out 4
          have HV := lid (grant_4 HC.out HNM.out HFT.out HHS.out)
          go_wp2_with fail
          clear p0 p1 p2 y0 y1 y2 q0 q1 q2 q3 q4 r0 r1 r2 r3 r4
          obtain ⟨wf, hwf⟩ : ∃ y, wipe w.heap.size v = y := ⟨_, rfl⟩
          have hwr := wipe_rows HP.out HQ.out hb
          rw [hwf] at hwr
          unfold wipe at hwf
          rw [hwf]
          have p0 := row_cell hwr.1 0
          have p1 := row_cell hwr.1 1
          have p2 := row_cell hwr.1 2
          have q0 := row_cell hwr.2.1 0
          have q1 := row_cell hwr.2.1 1
          have q2 := row_cell hwr.2.1 2
          have q3 := row_cell hwr.2.1 3
          have q4 := row_cell hwr.2.1 4
          exact bodyPost_ret (v := .tuple #[.agg tz, .agg lzz, .int .i64 7]) (by simp [results, Try.results13, go_sem, p0, p1, p2, q0, q1, q2, q3, q4]) rfl ⟨.agg tz, by rw [(grant_bad HV.out (by decide)).2, HV.out]; rfl, by rw [(grant_bad HV.out (by decide)).1]; exact LsV.zero _ _, hwr.2.2⟩
        · have u1 := str_ne ha
          have HNX : Hid (hasB (t.l.take (j + 1)) job wk = false) := lid (by rw [HTK.out, HF.out]; simp [ha])
          clear hd ha
          go_wp2_with fail
          refine wp_region_seq (fun w' => ∃ s : Since wr.heap.size wr, w' = s.world) [(0, true), (1, true), (2, true), (3, true), (4, true), (5, true), (6, true), (7, true), (8, true), (9, true), (10, true), (11, true), (12, true), (13, true), (14, true), (15, true), (16, true), (17, true)] (by kernel_rfl) (by kernel_rfl) (by intro c d v a w h; cases d <;> exact h) (since (Below.refl _ _).drew) ?_
          iterate 7 (first | (refine seq_skip (by rfl) (by rfl) ?_; simp only [Act.put, List.setIfInBounds_toArray, List.set_cons_succ, List.set_cons_zero]) | (refine seq_float (by rfl) (by rfl) (by rfl) ?_; intro K hK; go_big_quiet_op; go_big_quiet_on))
          refine seq_float (by rfl) (by rfl) (by rfl) ?_; intro K hK
          refine quiet_eq_dg3 r.1 job true _ _ rfl rfl rfl HQQ.out ?_
          simp only [Act.put, List.setIfInBounds_toArray, List.set_cons_succ, List.set_cons_zero]
          go_big_quiet_on
          repeat (first | (refine seq_skip (by rfl) (by rfl) ?_; simp only [Act.put, List.setIfInBounds_toArray, List.set_cons_succ, List.set_cons_zero]) | (refine seq_float (by rfl) (by rfl) (by rfl) ?_; intro K hK; go_big_quiet_op; go_big_quiet_on))
          refine seq_nil ?_
          go_wp2_with fail
          go_roundw
          case rel => exact ⟨j + 1, by omega, by go_num, HNX, h33.drew⟩
          case measure => simp [intOf]; omega
      · have HQQ : Hid (decide (r.1 = job) = false) := lid (decide_eq_false hd)
        have HNX : Hid (hasB (t.l.take (j + 1)) job wk = false) := lid (by rw [HTK.out, HF.out]; simp [hd])
        clear hd
        go_wp2_with fail
        refine wp_region_seq (fun w' => ∃ s : Since wr.heap.size wr, w' = s.world) [(0, true), (1, true), (2, true), (3, true), (4, true), (5, true), (6, true), (7, true), (8, true), (9, true), (10, true), (11, true), (12, true), (13, true), (14, true), (15, true), (16, true), (17, true)] (by kernel_rfl) (by kernel_rfl) (by intro c d v a w h; cases d <;> exact h) (since (Below.refl _ _).drew) ?_
        iterate 7 (first | (refine seq_skip (by rfl) (by rfl) ?_; simp only [Act.put, List.setIfInBounds_toArray, List.set_cons_succ, List.set_cons_zero]) | (refine seq_float (by rfl) (by rfl) (by rfl) ?_; intro K hK; go_big_quiet_op; go_big_quiet_on))
        refine seq_float (by rfl) (by rfl) (by rfl) ?_; intro K hK
        refine quiet_eq_dg3 r.1 job false _ _ rfl rfl rfl HQQ.out ?_
        simp only [Act.put, List.setIfInBounds_toArray, List.set_cons_succ, List.set_cons_zero]
        go_big_quiet_on
        repeat (first | (refine seq_skip (by rfl) (by rfl) ?_; simp only [Act.put, List.setIfInBounds_toArray, List.set_cons_succ, List.set_cons_zero]) | (refine seq_float (by rfl) (by rfl) (by rfl) ?_; intro K hK; go_big_quiet_op; go_big_quiet_on))
        refine seq_nil ?_
        go_wp2_with fail
        go_roundw
        case rel => exact ⟨j + 1, by omega, by go_num, HNX, h33.drew⟩
        case measure => simp [intOf]; omega
    · obtain rfl : j = n := by omega
      have HHS : Hid (hasB t.l job wk = false) := lid (by have := HF.out; rwa [List.take_of_length_le (by rw [HL.out]; exact Nat.le_refl _)] at this)
      clear h33
      have dj : decide ((j : Int) < (j : Int)) = false := by simp
      by_cases h256 : j = 256
      case pos =>
        have d1 : ((j : Int) == 256) = true := by simp; omega
        have p0 := row_cell HP.out 0
        have p1 := row_cell HP.out 1
        have p2 := row_cell HP.out 2
        have y0 := row_fz HP.out 0
        have y1 := row_fz HP.out 1
        have y2 := row_fz HP.out 2
        have q0 := row_cell HQ.out 0
        have q1 := row_cell HQ.out 1
        have q2 := row_cell HQ.out 2
        have q3 := row_cell HQ.out 3
        have q4 := row_cell HQ.out 4
        have r0 := row_fz HQ.out 0
        have r1 := row_fz HQ.out 1
        have r2 := row_fz HQ.out 2
        have r3 := row_fz HQ.out 3
        have r4 := row_fz HQ.out 4
        have HV := lid (grant_5 HC.out HNM.out HFT.out HHS.out (by rw [HL.out]; omega))
        go_wp2_with fail
        clear p0 p1 p2 y0 y1 y2 q0 q1 q2 q3 q4 r0 r1 r2 r3 r4
        obtain ⟨wf, hwf⟩ : ∃ y, wipe w.heap.size wr = y := ⟨_, rfl⟩
        have hwr := wipe_rows HP.out HQ.out hb
        rw [hwf] at hwr
        unfold wipe at hwf
        rw [hwf]
        have p0 := row_cell hwr.1 0
        have p1 := row_cell hwr.1 1
        have p2 := row_cell hwr.1 2
        have q0 := row_cell hwr.2.1 0
        have q1 := row_cell hwr.2.1 1
        have q2 := row_cell hwr.2.1 2
        have q3 := row_cell hwr.2.1 3
        have q4 := row_cell hwr.2.1 4
        exact bodyPost_ret (v := .tuple #[.agg tz, .agg lzz, .int .i64 19]) (by simp [results, Try.results13, go_sem, p0, p1, p2, q0, q1, q2, q3, q4]) rfl ⟨.agg tz, by rw [(grant_bad HV.out (by decide)).2, HV.out]; rfl, by rw [(grant_bad HV.out (by decide)).1]; exact LsV.zero _ _, hwr.2.2⟩
      have d1 : ((j : Int) == 256) = false := by simp; omega
      by_cases hep : t.epoch = 1099511627776
      case pos =>
        have d2 : (t.epoch == 1099511627776) = true := by simpa using hep
        have HEP := lid hep
        clear hep
        have p0 := row_cell HP.out 0
        have p1 := row_cell HP.out 1
        have p2 := row_cell HP.out 2
        have y0 := row_fz HP.out 0
        have y1 := row_fz HP.out 1
        have y2 := row_fz HP.out 2
        have q0 := row_cell HQ.out 0
        have q1 := row_cell HQ.out 1
        have q2 := row_cell HQ.out 2
        have q3 := row_cell HQ.out 3
        have q4 := row_cell HQ.out 4
        have r0 := row_fz HQ.out 0
        have r1 := row_fz HQ.out 1
        have r2 := row_fz HQ.out 2
        have r3 := row_fz HQ.out 3
        have r4 := row_fz HQ.out 4
        have HV := lid (grant_6 HC.out HNM.out HFT.out HHS.out (by rw [HL.out]; omega) HEP.out)
        go_wp2_with fail
        clear p0 p1 p2 y0 y1 y2 q0 q1 q2 q3 q4 r0 r1 r2 r3 r4
        obtain ⟨wf, hwf⟩ : ∃ y, wipe w.heap.size wr = y := ⟨_, rfl⟩
        have hwr := wipe_rows HP.out HQ.out hb
        rw [hwf] at hwr
        unfold wipe at hwf
        rw [hwf]
        have p0 := row_cell hwr.1 0
        have p1 := row_cell hwr.1 1
        have p2 := row_cell hwr.1 2
        have q0 := row_cell hwr.2.1 0
        have q1 := row_cell hwr.2.1 1
        have q2 := row_cell hwr.2.1 2
        have q3 := row_cell hwr.2.1 3
        have q4 := row_cell hwr.2.1 4
        exact bodyPost_ret (v := .tuple #[.agg tz, .agg lzz, .int .i64 4]) (by simp [results, Try.results13, go_sem, p0, p1, p2, q0, q1, q2, q3, q4]) rfl ⟨.agg tz, by rw [(grant_bad HV.out (by decide)).2, HV.out]; rfl, by rw [(grant_bad HV.out (by decide)).1]; exact LsV.zero _ _, hwr.2.2⟩
      have d2 : (t.epoch == 1099511627776) = false := by simpa using hep
      have HV := lid (grant_good (grant_7 HC.out HNM.out HFT.out HHS.out (by rw [HL.out]; omega) hep))
      have hE : t.epoch < 1099511627776 := by have := HOK.out.2.2.2.1; omega
      go_wp2_with fail
      clear c0 c1 c2 j0 j1 d1 d2 hep
      have h4 : w.heap.size + 4 ≤ wr.heap.size := by have := row_lt HQ.out; omega
      have CW := lid (refAdd_any t ao j cap t.l ao j cap job wk m wr HA.out.sl HZ.out (by omega) HOK.out.1 HOK.out.2.2.1 hE (fitB_ok HFT.out).1 (fitB_ok HFT.out).2)
      obtain ⟨X, hX⟩ : ∃ X, withX t job wk m = X := ⟨_, rfl⟩
      rw [hX] at CW HV
      clear hX
      (with_reducible refine (CW.out).mono ?_); rintro e w5 ⟨v5, rfl, hown, hb5⟩
      have hb' := hb
      replace hb : Below w.heap.size w w5 := hb.trans (hb5.mono hb.size)
      replace HP := lid ((hb5.block _ (row_lt HP.out)).trans HP.out)
      replace HQ := lid ((hb5.block _ (row_lt HQ.out)).trans HQ.out)
      replace HT := lid ((hb5.block _ (row_lt HT.out)).trans HT.out)
      replace HJ := lid ((hb5.block _ (row_lt HJ.out)).trans HJ.out)
      replace HA := lid (HA.out.below hb5)
      clear hb5 hb'
      have HO5 := lid (ownsRow_base (base' := w.heap.size + 4) hown h4)
      obtain ⟨ao5, cap5, rfl⟩ := own_slice hown
      clear hown
      have HLT : Hid ((withL t t.l job wk m).l.length = j + 1 ∧ ∀ x ∈ (withL t t.l job wk m).l, x.2.1.size ≤ maxLen) := lid (with_fits HL.out HA.out.sz hwk)
      have lT := row_lt HT.out
      go_wp2_with fail
      have hX5 : w5.heap.size ≠ w.heap.size := by omega
      have l3 := row_lt HQ.out
      obtain ⟨W6, hW6⟩ : ∃ y, (w5.alloc (.cells #[.int .i64 t.clock, .int .i64 (t.epoch + 1), .slice ao5 (j + 1) cap5] 24)).alloc (.cells (lzc X) 31) = y := ⟨_, rfl⟩
      rw [hW6]
      have HT6 : W6.heap[w5.heap.size]? = some (.cells #[.int .i64 t.clock, .int .i64 (t.epoch + 1), .slice ao5 (j + 1) cap5] 24 (0, 0)) := by
        rw [← hW6, Below.heap_alloc _ _ _ (by simp only [World.size_alloc]; omega)]
        exact heap_alloc_new _ _
      have HX6 : W6.heap[w5.heap.size + 1]? = some (.cells (lzc X) 31 (0, 0)) := by
        rw [← hW6]
        have := heap_alloc_new (w5.alloc (.cells #[.int .i64 t.clock, .int .i64 (t.epoch + 1), .slice ao5 (j + 1) cap5] 24)) (.cells (lzc X) 31)
        simp only [World.size_alloc] at this
        exact this
      have hb56 : Below w5.heap.size w5 W6 := by rw [← hW6]; exact ((Below.refl _ _).alloc (Nat.le_refl _) _).alloc (by simp) _
      have HP6 : W6.heap[w.heap.size + 1 + 1]? = some (.cells tz 24 (0, 0)) := (hb56.block _ (row_lt HP.out)).trans HP.out
      have HQ6 : W6.heap[w.heap.size + 1 + 1 + 1]? = some (.cells lzz 31 (0, 0)) := (hb56.block _ (row_lt HQ.out)).trans HQ.out
      have HO6 : Hid (W6.ownsRow (w.heap.size + 4) 31 5 (.slice ao5 (j + 1) cap5) (j + 1) (lzcells (withL t t.l job wk m).l)) := lid (ownsRow_below HO5.out hb56)
      have hb6 : Below w.heap.size w W6 := hb.trans (hb56.mono hb.size)
      have lW6 := row_lt HX6
      have lT6 := row_lt HT6
      clear hW6 HO5 hb hb56 HT HP HQ HJ
      have a0 := SinceY.cell (B := W6.heap.size) (X := w.heap.size + 1 + 1) lT6 (by omega) (by omega) (row_cell HT6 0)
      have a1 := SinceY.cell (B := W6.heap.size) (X := w.heap.size + 1 + 1) lT6 (by omega) (by omega) (row_cell HT6 1)
      have a2 := SinceY.cell (B := W6.heap.size) (X := w.heap.size + 1 + 1) lT6 (by omega) (by omega) (row_cell HT6 2)
      have b0 := SinceY.cell (B := W6.heap.size) (X := w.heap.size + 1 + 1) lW6 (by omega) (by omega) (row_cell HX6 0)
      have b1 := SinceY.cell (B := W6.heap.size) (X := w.heap.size + 1 + 1) lW6 (by omega) (by omega) (row_cell HX6 1)
      have b2 := SinceY.cell (B := W6.heap.size) (X := w.heap.size + 1 + 1) lW6 (by omega) (by omega) (row_cell HX6 2)
      have b3 := SinceY.cell (B := W6.heap.size) (X := w.heap.size + 1 + 1) lW6 (by omega) (by omega) (row_cell HX6 3)
      have b4 := SinceY.cell (B := W6.heap.size) (X := w.heap.size + 1 + 1) lW6 (by omega) (by omega) (row_cell HX6 4)
      refine wp_region_seq (fun w' => ∃ s : SinceY W6.heap.size (w.heap.size + 1 + 1) W6, w' = s.world) [(0, true), (1, true), (2, false), (3, false), (4, false)] (by kernel_rfl) (by kernel_rfl) (by intro c d v a w h; cases d <;> exact h) (sincey (KeptY.refl _ _ _).drew) ?_
      repeat (first | (refine seq_skip (by rfl) (by rfl) ?_; simp only [Act.put, List.setIfInBounds_toArray, List.set_cons_succ, List.set_cons_zero]) | (refine seq_float (by rfl) (by rfl) (by rfl) ?_; intro K hK; go_big_quiet_op; go_big_quiet_on))
      clear a0 a1 a2 b0 b1 b2 b3 b4
      have p0 := row_cell HP6 0
      have p1 := row_cell HP6 1
      have p2 := row_cell HP6 2
      have y0 := row_fz HP6 0
      have y1 := row_fz HP6 1
      have y2 := row_fz HP6 2
      refine seq_chain (by rfl) ?_
      intro K hK
      go_wp2_with fail
      clear p0 p1 p2 y0 y1 y2
      obtain ⟨W7, hW7⟩ : ∃ y, ((W6.setCell ⟨w.heap.size + 1 + 1, 0, none⟩ (.int .i64 t.clock)).setCell ⟨w.heap.size + 1 + 1, 1, none⟩ (.int .i64 (t.epoch + 1))).setCell ⟨w.heap.size + 1 + 1, 2, none⟩ (.slice ao5 (j + 1) cap5) = y := ⟨_, rfl⟩
      rw [hW7]
      have HP7 : W7.heap[w.heap.size + 1 + 1]? = some (.cells #[.int .i64 t.clock, .int .i64 (t.epoch + 1), .slice ao5 (j + 1) cap5] 24 (0, 0)) := by rw [← hW7]; exact row_set (row_set (row_set HP6 0 _) 1 _) 2 _
      have HQ7 : W7.heap[w.heap.size + 1 + 1 + 1]? = some (.cells lzz 31 (0, 0)) := by rw [← hW7]; exact row_other (row_other (row_other HQ6 (by omega)) (by omega)) (by omega)
      have HO7 : Hid (W7.ownsRow (w.heap.size + 4) 31 5 (.slice ao5 (j + 1) cap5) (j + 1) (lzcells (withL t t.l job wk m).l)) := lid (by
        rw [← hW7]; exact own_set (own_set (own_set HO6.out (by omega)) (by omega)) (by omega))
      have hb7 : Below w.heap.size w W7 := by
        rw [← hW7]; exact ((hb6.setCell (p := ⟨w.heap.size + 1 + 1, 0, none⟩) (by simp only; omega) _).setCell (p := ⟨w.heap.size + 1 + 1, 1, none⟩) (by simp only; omega) _).setCell (p := ⟨w.heap.size + 1 + 1, 2, none⟩) (by simp only; omega) _
      have hk7 : KeptY W6.heap.size (w.heap.size + 1 + 1) W6 W7.drew := by
        rw [← hW7]; exact ((((KeptY.refl W6.heap.size (w.heap.size + 1 + 1) W6).setCell (p := ⟨w.heap.size + 1 + 1, 0, none⟩) (.inl rfl) _).setCell (p := ⟨w.heap.size + 1 + 1, 1, none⟩) (.inl rfl) _).setCell (p := ⟨w.heap.size + 1 + 1, 2, none⟩) (.inl rfl) _).drew
      clear hW7 HO6 HP6 HQ6 hb6 HT6 HX6
      refine hK.out _ _ (sincey hk7) ?_
      clear hK K
      repeat (first | (refine seq_skip (by rfl) (by rfl) ?_; simp only [Act.put, List.setIfInBounds_toArray, List.set_cons_succ, List.set_cons_zero]) | (refine seq_float (by rfl) (by rfl) (by rfl) ?_; intro K hK; go_big_quiet_op; go_big_quiet_on))
      have p0 := row_cell HQ7 0
      have p1 := row_cell HQ7 1
      have p2 := row_cell HQ7 2
      have p3 := row_cell HQ7 3
      have p4 := row_cell HQ7 4
      have y0 := row_fz HQ7 0
      have y1 := row_fz HQ7 1
      have y2 := row_fz HQ7 2
      have y3 := row_fz HQ7 3
      have y4 := row_fz HQ7 4
      refine seq_chain (by rfl) ?_
      intro K hK
      go_wp2_with fail
      clear p0 p1 p2 p3 p4 y0 y1 y2 y3 y4
      obtain ⟨W8, hW8⟩ : ∃ y, ((((W7.setCell ⟨w.heap.size + 1 + 1 + 1, 0, none⟩ (.int .u64 X.1.1.toNat)).setCell ⟨w.heap.size + 1 + 1 + 1, 1, none⟩ (.int .u64 X.1.2.toNat)).setCell ⟨w.heap.size + 1 + 1 + 1, 2, none⟩ (.string X.2.1)).setCell ⟨w.heap.size + 1 + 1 + 1, 3, none⟩ (.int .i64 X.2.2.1)).setCell ⟨w.heap.size + 1 + 1 + 1, 4, none⟩ (.int .i64 X.2.2.2) = y := ⟨_, rfl⟩
      rw [hW8]
      have HP8 : W8.heap[w.heap.size + 1 + 1]? = some (.cells #[.int .i64 t.clock, .int .i64 (t.epoch + 1), .slice ao5 (j + 1) cap5] 24 (0, 0)) := by
        rw [← hW8]
        iterate 5 refine row_other ?_ (by omega)
        exact HP7
      have HQ8 : W8.heap[w.heap.size + 1 + 1 + 1]? = some (.cells (lzc X) 31 (0, 0)) := by rw [← hW8]; exact row_set (row_set (row_set (row_set (row_set HQ7 0 _) 1 _) 2 _) 3 _) 4 _
      have HO8 : Hid (W8.ownsRow (w.heap.size + 4) 31 5 (.slice ao5 (j + 1) cap5) (j + 1) (lzcells (withL t t.l job wk m).l)) := lid (by
        rw [← hW8]
        iterate 5 refine own_set ?_ (by omega)
        exact HO7.out)
      have hb8 : Below w.heap.size w W8 := by
        rw [← hW8]; exact ((((hb7.setCell (p := ⟨w.heap.size + 1 + 1 + 1, 0, none⟩) (by simp only; omega) _).setCell (p := ⟨w.heap.size + 1 + 1 + 1, 1, none⟩) (by simp only; omega) _).setCell (p := ⟨w.heap.size + 1 + 1 + 1, 2, none⟩) (by simp only; omega) _).setCell (p := ⟨w.heap.size + 1 + 1 + 1, 3, none⟩) (by simp only; omega) _).setCell (p := ⟨w.heap.size + 1 + 1 + 1, 4, none⟩) (by simp only; omega) _
      have hk8 : KeptY W6.heap.size (w.heap.size + 1 + 1) W6 W8.drew := by
        rw [← hW8]
        exact (((((hk7.setCell (p := ⟨w.heap.size + 1 + 1 + 1, 0, none⟩) (.inr rfl) _).setCell (p := ⟨w.heap.size + 1 + 1 + 1, 1, none⟩) (.inr rfl) _).setCell (p := ⟨w.heap.size + 1 + 1 + 1, 2, none⟩) (.inr rfl) _).setCell (p := ⟨w.heap.size + 1 + 1 + 1, 3, none⟩) (.inr rfl) _).setCell (p := ⟨w.heap.size + 1 + 1 + 1, 4, none⟩) (.inr rfl) _).drew
      clear hW8 HO7 HP7 HQ7 hb7 hk7
      refine hK.out _ _ (sincey hk8) ?_
      clear hK K
      refine seq_chain (by rfl) ?_
      intro K hK
      go_wp2_with fail
      refine hK.out _ _ (sincey hk8) ?_
      clear hK K hk8
      refine seq_nil ?_
      have p0 := row_cell HP8 0
      have p1 := row_cell HP8 1
      have p2 := row_cell HP8 2
      have q0 := row_cell HQ8 0
      have q1 := row_cell HQ8 1
      have q2 := row_cell HQ8 2
      have q3 := row_cell HQ8 3
      have q4 := row_cell HQ8 4
      go_wp2_with fail
      have hLV : LsV (withL t t.l job wk m) w.heap.size W8.drew (.agg #[.int .i64 t.clock, .int .i64 (t.epoch + 1), .slice ao5 (j + 1) cap5]) := LsV.own (T := withL t t.l job wk m) (show W8.drew.ownsRow _ _ _ _ _ _ from HO8.out) (by omega) HLT.out.1 (by simp only [maxLen]; omega) HLT.out.2
      exact bodyPost_ret (v := .tuple #[.agg #[.int .i64 t.clock, .int .i64 (t.epoch + 1), .slice ao5 (j + 1) cap5], .agg (lzc X), .int .i64 0]) (by simp [results, Try.results13, go_sem, p0, p1, p2, q0, q1, q2, q3, q4]) rfl ⟨_, by rw [HV.out.2.1, HV.out.2.2], by rw [HV.out.1]; exact hLV, hb8.drew⟩
end Go.Proofs.Ytghkldodceamcaa

namespace Go.Proofs.Ytghkldodceamcaa
open Go.RowKit

set_option maxRecDepth 100000 in
set_option maxHeartbeats 16000000 in
theorem refRenew_any (t : Ls) (ao : Option Addr) (n cap : Nat) (x : Lz) (m : Int) (w : World) (h : LsA w ao n t) (hz : ao = none → cap = 0) (hwk : x.2.1.size ≤ maxLen) :
    Calls Try.prog 20 #[.agg (tcells t ao n cap), .agg (lzc x), .int .i64 m] w fun e w' => GrR (renewL t x m) (renewX t x m) (renewE t x m) w e w' := by
  obtain ⟨W, hW⟩ : ∃ y, (((w.alloc (.cells #[.int .i64 t.clock, .int .i64 t.epoch, .slice ao n cap] 24)).alloc (.cells (lzc x) 31)).alloc (.cells tz 24)).alloc (.cells lzz 31) = y := ⟨_, rfl⟩
  have hb : Below w.heap.size w W := by
    rw [← hW]
    exact ((((Below.refl _ _).alloc (Nat.le_refl _) _).alloc (by simp) _).alloc (by simp; omega) _).alloc (by simp; omega) _
  have HT : Hid (W.heap[w.heap.size]? = some (.cells (tcells t ao n cap) 24 (0, 0))) := lid (by
    rw [← hW]
    iterate 3 rw [Below.heap_alloc _ _ _ (by simp only [World.size_alloc]; omega)]
    exact heap_alloc_new _ _)
  have HJ : Hid (W.heap[w.heap.size + 1]? = some (.cells (lzc x) 31 (0, 0))) := lid (by
    rw [← hW]
    iterate 2 rw [Below.heap_alloc _ _ _ (by simp only [World.size_alloc]; omega)]
    have := heap_alloc_new (w.alloc (.cells #[.int .i64 t.clock, .int .i64 t.epoch, .slice ao n cap] 24)) (.cells (lzc x) 31)
    simp only [World.size_alloc] at this
    exact this)
  have HP : Hid (tzRow (w.heap.size + 1 + 1) W) := lid (by
    rw [← hW]; unfold tzRow
    iterate 1 rw [Below.heap_alloc _ _ _ (by simp only [World.size_alloc]; omega)]
    have := heap_alloc_new ((w.alloc (.cells #[.int .i64 t.clock, .int .i64 t.epoch, .slice ao n cap] 24)).alloc (.cells (lzc x) 31)) (.cells tz 24)
    simp only [World.size_alloc] at this
    exact this)
  have HQ : Hid (lzRow (w.heap.size + 1 + 1 + 1) W) := lid (by
    rw [← hW]; unfold lzRow
    have := heap_alloc_new (((w.alloc (.cells #[.int .i64 t.clock, .int .i64 t.epoch, .slice ao n cap] 24)).alloc (.cells (lzc x) 31)).alloc (.cells tz 24)) (.cells lzz 31)
    simp only [World.size_alloc] at this
    exact this)
  have HW := lid hW
  have HA := lid (h.below hb)
  have HZ := lid hz
  have HL := lid h.len
  clear h hz hW
  go_enter Try.func20, Try.ntmps20
  have c0 := row_cell HT.out 0
  have c1 := row_cell HT.out 1
  have c2 := row_cell HT.out 2
  rw [← HW.out] at c0 c1 c2
  go_wp2_with fail
  rw [HW.out]
  clear HW c0 c1 c2
  have CK := lid (refLeaCheck_any t ao n cap W HA.out)
  obtain ⟨c, hc⟩ : ∃ c, checkLs t = c := ⟨_, rfl⟩
  rw [hc] at CK
  have HC := lid hc
  clear hc
  (with_reducible refine (CK.out).mono ?_); rintro e w1 ⟨rfl, hb1⟩
  have hb' := hb
  replace hb : Below w.heap.size w w1 := hb.trans (hb1.mono hb.size)
  replace HP := lid ((hb1.block _ (row_lt HP.out)).trans HP.out)
  replace HQ := lid ((hb1.block _ (row_lt HQ.out)).trans HQ.out)
  replace HT := lid ((hb1.block _ (row_lt HT.out)).trans HT.out)
  replace HJ := lid ((hb1.block _ (row_lt HJ.out)).trans HJ.out)
  replace HA := lid (HA.out.below hb1)
  clear hb1 hb'
  clear CK
  by_cases hc0 : c = 0
  case neg =>
    have d0 : (c == 0) = false := by simpa using hc0
    have p0 := row_cell HP.out 0
    have p1 := row_cell HP.out 1
    have p2 := row_cell HP.out 2
    have y0 := row_fz HP.out 0
    have y1 := row_fz HP.out 1
    have y2 := row_fz HP.out 2
    have q0 := row_cell HQ.out 0
    have q1 := row_cell HQ.out 1
    have q2 := row_cell HQ.out 2
    have q3 := row_cell HQ.out 3
    have q4 := row_cell HQ.out 4
    have r0 := row_fz HQ.out 0
    have r1 := row_fz HQ.out 1
    have r2 := row_fz HQ.out 2
    have r3 := row_fz HQ.out 3
    have r4 := row_fz HQ.out 4
    have HV := lid (renew_1 (by rw [HC.out]; exact hc0) x m)
    go_wp2_with fail
    clear p0 p1 p2 y0 y1 y2 q0 q1 q2 q3 q4 r0 r1 r2 r3 r4
    obtain ⟨wf, hwf⟩ : ∃ y, wipe w.heap.size w1 = y := ⟨_, rfl⟩
    have hwr := wipe_rows HP.out HQ.out hb
    rw [hwf] at hwr
    unfold wipe at hwf
    rw [hwf]
    have p0 := row_cell hwr.1 0
    have p1 := row_cell hwr.1 1
    have p2 := row_cell hwr.1 2
    have q0 := row_cell hwr.2.1 0
    have q1 := row_cell hwr.2.1 1
    have q2 := row_cell hwr.2.1 2
    have q3 := row_cell hwr.2.1 3
    have q4 := row_cell hwr.2.1 4
    exact bodyPost_ret (v := .tuple #[.agg tz, .agg lzz, .int .i64 1]) (by simp [results, Try.results20, go_sem, p0, p1, p2, q0, q1, q2, q3, q4]) rfl ⟨.agg tz, by rw [(renew_bad HV.out (by decide)).2, HV.out]; rfl, by rw [(renew_bad HV.out (by decide)).1]; exact LsV.zero _ _, hwr.2.2⟩
  subst hc0
  have HOK := lid (checkLs_ok HC.out)
  have hn : n ≤ 256 := by have := HOK.out.2.2.2.2; rw [HL.out] at this; exact this
  have c0 := row_cell HT.out 0
  have c1 := row_cell HT.out 1
  have c2 := row_cell HT.out 2
  have j0 := row_cell HJ.out 0
  have j1 := row_cell HJ.out 1
  have j2 := row_cell HJ.out 2
  have j3 := row_cell HJ.out 3
  have j4 := row_cell HJ.out 4
  go_wp2_with fail
  clear c0 c1 c2 j0 j1 j2 j3 j4
  have h41 : w.heap.size + 4 ≤ w1.heap.size := by have := row_lt HQ.out; omega
  have CWO := lid (Without_any t.l n cap ao x w1 HL.out (by omega) HA.out.sl)
  (with_reducible refine (CWO.out).mono ?_); rintro e w2 ⟨v4, rfl, hown, hb2⟩
  clear CWO
  have hb' := hb
  replace hb : Below w.heap.size w w2 := hb.trans (hb2.mono hb.size)
  replace HP := lid ((hb2.block _ (row_lt HP.out)).trans HP.out)
  replace HQ := lid ((hb2.block _ (row_lt HQ.out)).trans HQ.out)
  replace HT := lid ((hb2.block _ (row_lt HT.out)).trans HT.out)
  replace HJ := lid ((hb2.block _ (row_lt HJ.out)).trans HJ.out)
  replace HA := lid (HA.out.below hb2)
  clear hb2 hb'
  have HLE := lid (lessL_le t.l x)
  have HSZ : Hid (∀ y ∈ lessL t.l x, y.2.1.size ≤ maxLen) := lid (fun y hy => HA.out.sz y (List.mem_filter.1 hy).1)
  obtain ⟨l', hl'⟩ : ∃ l', lessL t.l x = l' := ⟨_, rfl⟩
  rw [hl'] at hown HLE HSZ
  have HLL := lid hl'
  clear hl'
  obtain ⟨q, hq⟩ : ∃ q, l'.length = q := ⟨_, rfl⟩
  rw [hq] at hown HLE
  have HQL := lid hq
  have hqn : q ≤ n := by have := HLE.out; rw [HL.out] at this; exact this
  have HO4 := lid (ownsRow_base (base' := w.heap.size + 4) hown h41)
  obtain ⟨ao4, cap4, rfl⟩ := own_slice hown
  have HZ4 : Hid (ao4 = none → cap4 = 0) := lid (own_zero hown)
  clear hown hq HLE
  cases hmm : memB t.l x with
  | false =>
    have HMM := lid hmm
    clear hmm
    have p0 := row_cell HP.out 0
    have p1 := row_cell HP.out 1
    have p2 := row_cell HP.out 2
    have y0 := row_fz HP.out 0
    have y1 := row_fz HP.out 1
    have y2 := row_fz HP.out 2
    have q0 := row_cell HQ.out 0
    have q1 := row_cell HQ.out 1
    have q2 := row_cell HQ.out 2
    have q3 := row_cell HQ.out 3
    have q4 := row_cell HQ.out 4
    have r0 := row_fz HQ.out 0
    have r1 := row_fz HQ.out 1
    have r2 := row_fz HQ.out 2
    have r3 := row_fz HQ.out 3
    have r4 := row_fz HQ.out 4
    have HV := lid (renew_2 HC.out HMM.out m)
    go_wp2_with fail
    clear p0 p1 p2 y0 y1 y2 q0 q1 q2 q3 q4 r0 r1 r2 r3 r4
    obtain ⟨wf, hwf⟩ : ∃ y, wipe w.heap.size w2 = y := ⟨_, rfl⟩
    have hwr := wipe_rows HP.out HQ.out hb
    rw [hwf] at hwr
    unfold wipe at hwf
    rw [hwf]
    have p0 := row_cell hwr.1 0
    have p1 := row_cell hwr.1 1
    have p2 := row_cell hwr.1 2
    have q0 := row_cell hwr.2.1 0
    have q1 := row_cell hwr.2.1 1
    have q2 := row_cell hwr.2.1 2
    have q3 := row_cell hwr.2.1 3
    have q4 := row_cell hwr.2.1 4
    exact bodyPost_ret (v := .tuple #[.agg tz, .agg lzz, .int .i64 28]) (by simp [results, Try.results20, go_sem, p0, p1, p2, q0, q1, q2, q3, q4]) rfl ⟨.agg tz, by rw [(renew_bad HV.out (by decide)).2, HV.out]; rfl, by rw [(renew_bad HV.out (by decide)).1]; exact LsV.zero _ _, hwr.2.2⟩
  | true =>
  have HMM := lid hmm
  clear hmm
  have c0 := row_cell HT.out 0
  have c1 := row_cell HT.out 1
  have c2 := row_cell HT.out 2
  have j0 := row_cell HJ.out 0
  have j1 := row_cell HJ.out 1
  have j2 := row_cell HJ.out 2
  have j3 := row_cell HJ.out 3
  have j4 := row_cell HJ.out 4
  go_wp2_with fail
  clear c0 c1 c2 j0 j1 j2 j3 j4
  (with_reducible refine (fits_any t ao n cap m w2 HOK.out.1 HOK.out.2.1).mono ?_); rintro e w3 ⟨rfl, hb3⟩
  replace HO4 := lid (ownsRow_below HO4.out hb3)
  have hb' := hb
  replace hb : Below w.heap.size w w3 := hb.trans (hb3.mono hb.size)
  replace HP := lid ((hb3.block _ (row_lt HP.out)).trans HP.out)
  replace HQ := lid ((hb3.block _ (row_lt HQ.out)).trans HQ.out)
  replace HT := lid ((hb3.block _ (row_lt HT.out)).trans HT.out)
  replace HJ := lid ((hb3.block _ (row_lt HJ.out)).trans HJ.out)
  replace HA := lid (HA.out.below hb3)
  clear hb3 hb'
  cases hft : fitB t.clock m with
  | false =>
    have HFT := lid hft
    clear hft
    have p0 := row_cell HP.out 0
    have p1 := row_cell HP.out 1
    have p2 := row_cell HP.out 2
    have y0 := row_fz HP.out 0
    have y1 := row_fz HP.out 1
    have y2 := row_fz HP.out 2
    have q0 := row_cell HQ.out 0
    have q1 := row_cell HQ.out 1
    have q2 := row_cell HQ.out 2
    have q3 := row_cell HQ.out 3
    have q4 := row_cell HQ.out 4
    have r0 := row_fz HQ.out 0
    have r1 := row_fz HQ.out 1
    have r2 := row_fz HQ.out 2
    have r3 := row_fz HQ.out 3
    have r4 := row_fz HQ.out 4
    have HV := lid (renew_3 HC.out HMM.out HFT.out)
    go_wp2_with fail
    clear p0 p1 p2 y0 y1 y2 q0 q1 q2 q3 q4 r0 r1 r2 r3 r4
    obtain ⟨wf, hwf⟩ : ∃ y, wipe w.heap.size w3 = y := ⟨_, rfl⟩
    have hwr := wipe_rows HP.out HQ.out hb
    rw [hwf] at hwr
    unfold wipe at hwf
    rw [hwf]
    have p0 := row_cell hwr.1 0
    have p1 := row_cell hwr.1 1
    have p2 := row_cell hwr.1 2
    have q0 := row_cell hwr.2.1 0
    have q1 := row_cell hwr.2.1 1
    have q2 := row_cell hwr.2.1 2
    have q3 := row_cell hwr.2.1 3
    have q4 := row_cell hwr.2.1 4
    exact bodyPost_ret (v := .tuple #[.agg tz, .agg lzz, .int .i64 2]) (by simp [results, Try.results20, go_sem, p0, p1, p2, q0, q1, q2, q3, q4]) rfl ⟨.agg tz, by rw [(renew_bad HV.out (by decide)).2, HV.out]; rfl, by rw [(renew_bad HV.out (by decide)).1]; exact LsV.zero _ _, hwr.2.2⟩
  | true =>
  have HFT := lid hft
  clear hft
  have c0 := row_cell HT.out 0
  have c1 := row_cell HT.out 1
  have c2 := row_cell HT.out 2
  have j0 := row_cell HJ.out 0
  have j1 := row_cell HJ.out 1
  have j2 := row_cell HJ.out 2
  have j3 := row_cell HJ.out 3
  have j4 := row_cell HJ.out 4
  by_cases hep : t.epoch = 1099511627776
  case pos =>
    have d2 : (t.epoch == 1099511627776) = true := by simpa using hep
    have HEP := lid hep
    clear hep
    have p0 := row_cell HP.out 0
    have p1 := row_cell HP.out 1
    have p2 := row_cell HP.out 2
    have y0 := row_fz HP.out 0
    have y1 := row_fz HP.out 1
    have y2 := row_fz HP.out 2
    have q0 := row_cell HQ.out 0
    have q1 := row_cell HQ.out 1
    have q2 := row_cell HQ.out 2
    have q3 := row_cell HQ.out 3
    have q4 := row_cell HQ.out 4
    have r0 := row_fz HQ.out 0
    have r1 := row_fz HQ.out 1
    have r2 := row_fz HQ.out 2
    have r3 := row_fz HQ.out 3
    have r4 := row_fz HQ.out 4
    have HV := lid (renew_4 HC.out HMM.out HFT.out HEP.out)
    go_wp2_with fail
    clear p0 p1 p2 y0 y1 y2 q0 q1 q2 q3 q4 r0 r1 r2 r3 r4
    obtain ⟨wf, hwf⟩ : ∃ y, wipe w.heap.size w3 = y := ⟨_, rfl⟩
    have hwr := wipe_rows HP.out HQ.out hb
    rw [hwf] at hwr
    unfold wipe at hwf
    rw [hwf]
    have p0 := row_cell hwr.1 0
    have p1 := row_cell hwr.1 1
    have p2 := row_cell hwr.1 2
    have q0 := row_cell hwr.2.1 0
    have q1 := row_cell hwr.2.1 1
    have q2 := row_cell hwr.2.1 2
    have q3 := row_cell hwr.2.1 3
    have q4 := row_cell hwr.2.1 4
    exact bodyPost_ret (v := .tuple #[.agg tz, .agg lzz, .int .i64 4]) (by simp [results, Try.results20, go_sem, p0, p1, p2, q0, q1, q2, q3, q4]) rfl ⟨.agg tz, by rw [(renew_bad HV.out (by decide)).2, HV.out]; rfl, by rw [(renew_bad HV.out (by decide)).1]; exact LsV.zero _ _, hwr.2.2⟩
  have d2 : (t.epoch == 1099511627776) = false := by simpa using hep
  have HV := lid (renew_good (renew_5 HC.out HMM.out HFT.out hep))
  rw [HLL.out] at HV
  have hE : t.epoch < 1099511627776 := by have := HOK.out.2.2.2.1; omega
  have h4 : w.heap.size + 4 ≤ w3.heap.size := by have := row_lt HQ.out; omega
  have CW := lid (refAdd_any t ao n cap l' ao4 q cap4 x.1 x.2.1 m w3 (own_sl HO4.out) HZ4.out (by omega) HOK.out.1 HOK.out.2.2.1 hE (fitB_ok HFT.out).1 (fitB_ok HFT.out).2)
  obtain ⟨X, hX⟩ : ∃ X, withX t x.1 x.2.1 m = X := ⟨_, rfl⟩
  rw [hX] at CW HV
  clear hX
  go_wp2_with fail
  clear c0 c1 c2 j0 j1 j2 j3 j4 d2 hep
  (with_reducible refine (CW.out).mono ?_); rintro e w5 ⟨v5, rfl, hown, hb5⟩
  have hb' := hb
  replace hb : Below w.heap.size w w5 := hb.trans (hb5.mono hb.size)
  replace HP := lid ((hb5.block _ (row_lt HP.out)).trans HP.out)
  replace HQ := lid ((hb5.block _ (row_lt HQ.out)).trans HQ.out)
  replace HT := lid ((hb5.block _ (row_lt HT.out)).trans HT.out)
  replace HJ := lid ((hb5.block _ (row_lt HJ.out)).trans HJ.out)
  replace HA := lid (HA.out.below hb5)
  clear hb5 hb'
  have HO5 := lid (ownsRow_base (base' := w.heap.size + 4) hown h4)
  obtain ⟨ao5, cap5, rfl⟩ := own_slice hown
  clear hown CW HO4
  have HLT : Hid ((withL t l' x.1 x.2.1 m).l.length = q + 1 ∧ ∀ y ∈ (withL t l' x.1 x.2.1 m).l, y.2.1.size ≤ maxLen) := lid (with_fits HQL.out HSZ.out hwk)
  have lT := row_lt HT.out
  go_wp2_with fail
  have hX5 : w5.heap.size ≠ w.heap.size := by omega
  have l3 := row_lt HQ.out
  obtain ⟨W6, hW6⟩ : ∃ y, (w5.alloc (.cells #[.int .i64 t.clock, .int .i64 (t.epoch + 1), .slice ao5 (q + 1) cap5] 24)).alloc (.cells (lzc X) 31) = y := ⟨_, rfl⟩
  rw [hW6]
  have HT6 : W6.heap[w5.heap.size]? = some (.cells #[.int .i64 t.clock, .int .i64 (t.epoch + 1), .slice ao5 (q + 1) cap5] 24 (0, 0)) := by
    rw [← hW6, Below.heap_alloc _ _ _ (by simp only [World.size_alloc]; omega)]
    exact heap_alloc_new _ _
  have HX6 : W6.heap[w5.heap.size + 1]? = some (.cells (lzc X) 31 (0, 0)) := by
    rw [← hW6]
    have := heap_alloc_new (w5.alloc (.cells #[.int .i64 t.clock, .int .i64 (t.epoch + 1), .slice ao5 (q + 1) cap5] 24)) (.cells (lzc X) 31)
    simp only [World.size_alloc] at this
    exact this
  have hb56 : Below w5.heap.size w5 W6 := by rw [← hW6]; exact ((Below.refl _ _).alloc (Nat.le_refl _) _).alloc (by simp) _
  have HP6 : W6.heap[w.heap.size + 1 + 1]? = some (.cells tz 24 (0, 0)) := (hb56.block _ (row_lt HP.out)).trans HP.out
  have HQ6 : W6.heap[w.heap.size + 1 + 1 + 1]? = some (.cells lzz 31 (0, 0)) := (hb56.block _ (row_lt HQ.out)).trans HQ.out
  have HO6 : Hid (W6.ownsRow (w.heap.size + 4) 31 5 (.slice ao5 (q + 1) cap5) (q + 1) (lzcells (withL t l' x.1 x.2.1 m).l)) := lid (ownsRow_below HO5.out hb56)
  have hb6 : Below w.heap.size w W6 := hb.trans (hb56.mono hb.size)
  have lW6 := row_lt HX6
  have lT6 := row_lt HT6
  clear hW6 HO5 hb hb56 HT HP HQ HJ
  have a0 := SinceY.cell (B := W6.heap.size) (X := w.heap.size + 1 + 1) lT6 (by omega) (by omega) (row_cell HT6 0)
  have a1 := SinceY.cell (B := W6.heap.size) (X := w.heap.size + 1 + 1) lT6 (by omega) (by omega) (row_cell HT6 1)
  have a2 := SinceY.cell (B := W6.heap.size) (X := w.heap.size + 1 + 1) lT6 (by omega) (by omega) (row_cell HT6 2)
  have b0 := SinceY.cell (B := W6.heap.size) (X := w.heap.size + 1 + 1) lW6 (by omega) (by omega) (row_cell HX6 0)
  have b1 := SinceY.cell (B := W6.heap.size) (X := w.heap.size + 1 + 1) lW6 (by omega) (by omega) (row_cell HX6 1)
  have b2 := SinceY.cell (B := W6.heap.size) (X := w.heap.size + 1 + 1) lW6 (by omega) (by omega) (row_cell HX6 2)
  have b3 := SinceY.cell (B := W6.heap.size) (X := w.heap.size + 1 + 1) lW6 (by omega) (by omega) (row_cell HX6 3)
  have b4 := SinceY.cell (B := W6.heap.size) (X := w.heap.size + 1 + 1) lW6 (by omega) (by omega) (row_cell HX6 4)
  refine wp_region_seq (fun w' => ∃ s : SinceY W6.heap.size (w.heap.size + 1 + 1) W6, w' = s.world) [(0, true), (1, true), (2, false), (3, false), (4, false)] (by kernel_rfl) (by kernel_rfl) (by intro c d v a w h; cases d <;> exact h) (sincey (KeptY.refl _ _ _).drew) ?_
  repeat (first | (refine seq_skip (by rfl) (by rfl) ?_; simp only [Act.put, List.setIfInBounds_toArray, List.set_cons_succ, List.set_cons_zero]) | (refine seq_float (by rfl) (by rfl) (by rfl) ?_; intro K hK; go_big_quiet_op; go_big_quiet_on))
  clear a0 a1 a2 b0 b1 b2 b3 b4
  have p0 := row_cell HP6 0
  have p1 := row_cell HP6 1
  have p2 := row_cell HP6 2
  have y0 := row_fz HP6 0
  have y1 := row_fz HP6 1
  have y2 := row_fz HP6 2
  refine seq_chain (by rfl) ?_
  intro K hK
  go_wp2_with fail
  clear p0 p1 p2 y0 y1 y2
  obtain ⟨W7, hW7⟩ : ∃ y, ((W6.setCell ⟨w.heap.size + 1 + 1, 0, none⟩ (.int .i64 t.clock)).setCell ⟨w.heap.size + 1 + 1, 1, none⟩ (.int .i64 (t.epoch + 1))).setCell ⟨w.heap.size + 1 + 1, 2, none⟩ (.slice ao5 (q + 1) cap5) = y := ⟨_, rfl⟩
  rw [hW7]
  have HP7 : W7.heap[w.heap.size + 1 + 1]? = some (.cells #[.int .i64 t.clock, .int .i64 (t.epoch + 1), .slice ao5 (q + 1) cap5] 24 (0, 0)) := by rw [← hW7]; exact row_set (row_set (row_set HP6 0 _) 1 _) 2 _
  have HQ7 : W7.heap[w.heap.size + 1 + 1 + 1]? = some (.cells lzz 31 (0, 0)) := by rw [← hW7]; exact row_other (row_other (row_other HQ6 (by omega)) (by omega)) (by omega)
  have HO7 : Hid (W7.ownsRow (w.heap.size + 4) 31 5 (.slice ao5 (q + 1) cap5) (q + 1) (lzcells (withL t l' x.1 x.2.1 m).l)) := lid (by
    rw [← hW7]; exact own_set (own_set (own_set HO6.out (by omega)) (by omega)) (by omega))
  have hb7 : Below w.heap.size w W7 := by
    rw [← hW7]; exact ((hb6.setCell (p := ⟨w.heap.size + 1 + 1, 0, none⟩) (by simp only; omega) _).setCell (p := ⟨w.heap.size + 1 + 1, 1, none⟩) (by simp only; omega) _).setCell (p := ⟨w.heap.size + 1 + 1, 2, none⟩) (by simp only; omega) _
  have hk7 : KeptY W6.heap.size (w.heap.size + 1 + 1) W6 W7.drew := by
    rw [← hW7]; exact ((((KeptY.refl W6.heap.size (w.heap.size + 1 + 1) W6).setCell (p := ⟨w.heap.size + 1 + 1, 0, none⟩) (.inl rfl) _).setCell (p := ⟨w.heap.size + 1 + 1, 1, none⟩) (.inl rfl) _).setCell (p := ⟨w.heap.size + 1 + 1, 2, none⟩) (.inl rfl) _).drew
  clear hW7 HO6 HP6 HQ6 hb6 HT6 HX6
  refine hK.out _ _ (sincey hk7) ?_
  clear hK K
  repeat (first | (refine seq_skip (by rfl) (by rfl) ?_; simp only [Act.put, List.setIfInBounds_toArray, List.set_cons_succ, List.set_cons_zero]) | (refine seq_float (by rfl) (by rfl) (by rfl) ?_; intro K hK; go_big_quiet_op; go_big_quiet_on))
  have p0 := row_cell HQ7 0
  have p1 := row_cell HQ7 1
  have p2 := row_cell HQ7 2
  have p3 := row_cell HQ7 3
  have p4 := row_cell HQ7 4
  have y0 := row_fz HQ7 0
  have y1 := row_fz HQ7 1
  have y2 := row_fz HQ7 2
  have y3 := row_fz HQ7 3
  have y4 := row_fz HQ7 4
  refine seq_chain (by rfl) ?_
  intro K hK
  go_wp2_with fail
  clear p0 p1 p2 p3 p4 y0 y1 y2 y3 y4
  obtain ⟨W8, hW8⟩ : ∃ y, ((((W7.setCell ⟨w.heap.size + 1 + 1 + 1, 0, none⟩ (.int .u64 X.1.1.toNat)).setCell ⟨w.heap.size + 1 + 1 + 1, 1, none⟩ (.int .u64 X.1.2.toNat)).setCell ⟨w.heap.size + 1 + 1 + 1, 2, none⟩ (.string X.2.1)).setCell ⟨w.heap.size + 1 + 1 + 1, 3, none⟩ (.int .i64 X.2.2.1)).setCell ⟨w.heap.size + 1 + 1 + 1, 4, none⟩ (.int .i64 X.2.2.2) = y := ⟨_, rfl⟩
  rw [hW8]
  have HP8 : W8.heap[w.heap.size + 1 + 1]? = some (.cells #[.int .i64 t.clock, .int .i64 (t.epoch + 1), .slice ao5 (q + 1) cap5] 24 (0, 0)) := by
    rw [← hW8]
    iterate 5 refine row_other ?_ (by omega)
    exact HP7
  have HQ8 : W8.heap[w.heap.size + 1 + 1 + 1]? = some (.cells (lzc X) 31 (0, 0)) := by rw [← hW8]; exact row_set (row_set (row_set (row_set (row_set HQ7 0 _) 1 _) 2 _) 3 _) 4 _
  have HO8 : Hid (W8.ownsRow (w.heap.size + 4) 31 5 (.slice ao5 (q + 1) cap5) (q + 1) (lzcells (withL t l' x.1 x.2.1 m).l)) := lid (by
    rw [← hW8]
    iterate 5 refine own_set ?_ (by omega)
    exact HO7.out)
  have hb8 : Below w.heap.size w W8 := by
    rw [← hW8]; exact ((((hb7.setCell (p := ⟨w.heap.size + 1 + 1 + 1, 0, none⟩) (by simp only; omega) _).setCell (p := ⟨w.heap.size + 1 + 1 + 1, 1, none⟩) (by simp only; omega) _).setCell (p := ⟨w.heap.size + 1 + 1 + 1, 2, none⟩) (by simp only; omega) _).setCell (p := ⟨w.heap.size + 1 + 1 + 1, 3, none⟩) (by simp only; omega) _).setCell (p := ⟨w.heap.size + 1 + 1 + 1, 4, none⟩) (by simp only; omega) _
  have hk8 : KeptY W6.heap.size (w.heap.size + 1 + 1) W6 W8.drew := by
    rw [← hW8]
    exact (((((hk7.setCell (p := ⟨w.heap.size + 1 + 1 + 1, 0, none⟩) (.inr rfl) _).setCell (p := ⟨w.heap.size + 1 + 1 + 1, 1, none⟩) (.inr rfl) _).setCell (p := ⟨w.heap.size + 1 + 1 + 1, 2, none⟩) (.inr rfl) _).setCell (p := ⟨w.heap.size + 1 + 1 + 1, 3, none⟩) (.inr rfl) _).setCell (p := ⟨w.heap.size + 1 + 1 + 1, 4, none⟩) (.inr rfl) _).drew
  clear hW8 HO7 HP7 HQ7 hb7 hk7
  refine hK.out _ _ (sincey hk8) ?_
  clear hK K
  refine seq_chain (by rfl) ?_
  intro K hK
  go_wp2_with fail
  refine hK.out _ _ (sincey hk8) ?_
  clear hK K hk8
  refine seq_nil ?_
  have p0 := row_cell HP8 0
  have p1 := row_cell HP8 1
  have p2 := row_cell HP8 2
  have q0 := row_cell HQ8 0
  have q1 := row_cell HQ8 1
  have q2 := row_cell HQ8 2
  have q3 := row_cell HQ8 3
  have q4 := row_cell HQ8 4
  go_wp2_with fail
  have hLV : LsV (withL t l' x.1 x.2.1 m) w.heap.size W8.drew (.agg #[.int .i64 t.clock, .int .i64 (t.epoch + 1), .slice ao5 (q + 1) cap5]) := LsV.own (T := withL t l' x.1 x.2.1 m) (show W8.drew.ownsRow _ _ _ _ _ _ from HO8.out) (by omega) HLT.out.1 (by simp only [maxLen]; omega) HLT.out.2
  exact bodyPost_ret (v := .tuple #[.agg #[.int .i64 t.clock, .int .i64 (t.epoch + 1), .slice ao5 (q + 1) cap5], .agg (lzc X), .int .i64 0]) (by simp [results, Try.results20, go_sem, p0, p1, p2, q0, q1, q2, q3, q4]) rfl ⟨_, by rw [HV.out.2.1, HV.out.2.2], by rw [HV.out.1]; exact hLV, hb8.drew⟩
set_option maxRecDepth 100000 in
set_option maxHeartbeats 16000000 in
theorem refRelease_any (t : Ls) (ao : Option Addr) (n cap : Nat) (x : Lz) (w : World) (h : LsA w ao n t) (hz : ao = none → cap = 0) :
    Calls Try.prog 22 #[.agg (tcells t ao n cap), .agg (lzc x)] w fun e w' => RelR (releaseL t x) (releaseE t x) w e w' := by
  obtain ⟨W, hW⟩ : ∃ y, ((w.alloc (.cells #[.int .i64 t.clock, .int .i64 t.epoch, .slice ao n cap] 24)).alloc (.cells (lzc x) 31)).alloc (.cells tz 24) = y := ⟨_, rfl⟩
  have hb : Below w.heap.size w W := by
    rw [← hW]
    exact (((Below.refl _ _).alloc (Nat.le_refl _) _).alloc (by simp) _).alloc (by simp; omega) _
  have HT : Hid (W.heap[w.heap.size]? = some (.cells (tcells t ao n cap) 24 (0, 0))) := lid (by
    rw [← hW]
    iterate 2 rw [Below.heap_alloc _ _ _ (by simp only [World.size_alloc]; omega)]
    exact heap_alloc_new _ _)
  have HJ : Hid (W.heap[w.heap.size + 1]? = some (.cells (lzc x) 31 (0, 0))) := lid (by
    rw [← hW]
    iterate 1 rw [Below.heap_alloc _ _ _ (by simp only [World.size_alloc]; omega)]
    have := heap_alloc_new (w.alloc (.cells #[.int .i64 t.clock, .int .i64 t.epoch, .slice ao n cap] 24)) (.cells (lzc x) 31)
    simp only [World.size_alloc] at this
    exact this)
  have HP : Hid (tzRow (w.heap.size + 1 + 1) W) := lid (by
    rw [← hW]; unfold tzRow
    have := heap_alloc_new ((w.alloc (.cells #[.int .i64 t.clock, .int .i64 t.epoch, .slice ao n cap] 24)).alloc (.cells (lzc x) 31)) (.cells tz 24)
    simp only [World.size_alloc] at this
    exact this)
  have HW := lid hW
  have HA := lid (h.below hb)
  have HZ := lid hz
  have HL := lid h.len
  clear h hz hW
  go_enter Try.func22, Try.ntmps22
  have c0 := row_cell HT.out 0
  have c1 := row_cell HT.out 1
  have c2 := row_cell HT.out 2
  rw [← HW.out] at c0 c1 c2
  go_wp2_with fail
  rw [HW.out]
  clear HW c0 c1 c2
  have CK := lid (refLeaCheck_any t ao n cap W HA.out)
  obtain ⟨c, hc⟩ : ∃ c, checkLs t = c := ⟨_, rfl⟩
  rw [hc] at CK
  have HC := lid hc
  clear hc
  (with_reducible refine (CK.out).mono ?_); rintro e w1 ⟨rfl, hb1⟩
  have hb' := hb
  replace hb : Below w.heap.size w w1 := hb.trans (hb1.mono hb.size)
  replace HP := lid ((hb1.block _ (row_lt HP.out)).trans HP.out)
  replace HT := lid ((hb1.block _ (row_lt HT.out)).trans HT.out)
  replace HJ := lid ((hb1.block _ (row_lt HJ.out)).trans HJ.out)
  replace HA := lid (HA.out.below hb1)
  clear hb1 hb'
  clear CK
  by_cases hc0 : c = 0
  case neg =>
    have d0 : (c == 0) = false := by simpa using hc0
    have p0 := row_cell HP.out 0
    have p1 := row_cell HP.out 1
    have p2 := row_cell HP.out 2
    have y0 := row_fz HP.out 0
    have y1 := row_fz HP.out 1
    have y2 := row_fz HP.out 2
    have HV := lid (rel_1 (by rw [HC.out]; exact hc0) x)
    go_wp2_with fail
    clear p0 p1 p2 y0 y1 y2
    obtain ⟨wf, hwf⟩ : ∃ y, wipe3 w.heap.size w1 = y := ⟨_, rfl⟩
    have hwr := wipe3_rows HP.out hb
    rw [hwf] at hwr
    unfold wipe3 at hwf
    rw [hwf]
    have p0 := row_cell hwr.1 0
    have p1 := row_cell hwr.1 1
    have p2 := row_cell hwr.1 2
    exact bodyPost_ret (v := .tuple #[.agg tz, .int .i64 1]) (by simp [results, Try.results22, go_sem, p0, p1, p2]) rfl ⟨.agg tz, by rw [HV.out], by rw [rel_bad HV.out (by decide)]; exact LsV.zero _ _, hwr.2⟩
  subst hc0
  have HOK := lid (checkLs_ok HC.out)
  have hn : n ≤ 256 := by have := HOK.out.2.2.2.2; rw [HL.out] at this; exact this
  have c0 := row_cell HT.out 0
  have c1 := row_cell HT.out 1
  have c2 := row_cell HT.out 2
  have j0 := row_cell HJ.out 0
  have j1 := row_cell HJ.out 1
  have j2 := row_cell HJ.out 2
  have j3 := row_cell HJ.out 3
  have j4 := row_cell HJ.out 4
  go_wp2_with fail
  clear c0 c1 c2 j0 j1 j2 j3 j4
  have h31 : w.heap.size + 3 ≤ w1.heap.size := by have := row_lt HP.out; omega
  have CWO := lid (Without_any t.l n cap ao x w1 HL.out (by omega) HA.out.sl)
  (with_reducible refine (CWO.out).mono ?_); rintro e w2 ⟨v4, rfl, hown, hb2⟩
  clear CWO
  have hb' := hb
  replace hb : Below w.heap.size w w2 := hb.trans (hb2.mono hb.size)
  replace HP := lid ((hb2.block _ (row_lt HP.out)).trans HP.out)
  replace HT := lid ((hb2.block _ (row_lt HT.out)).trans HT.out)
  replace HJ := lid ((hb2.block _ (row_lt HJ.out)).trans HJ.out)
  replace HA := lid (HA.out.below hb2)
  clear hb2 hb'
  have HLE := lid (lessL_le t.l x)
  have HSZ : Hid (∀ y ∈ lessL t.l x, y.2.1.size ≤ maxLen) := lid (fun y hy => HA.out.sz y (List.mem_filter.1 hy).1)
  obtain ⟨l', hl'⟩ : ∃ l', lessL t.l x = l' := ⟨_, rfl⟩
  rw [hl'] at hown HLE HSZ
  have HLL := lid hl'
  clear hl'
  obtain ⟨q, hq⟩ : ∃ q, l'.length = q := ⟨_, rfl⟩
  rw [hq] at hown HLE
  have HQL := lid hq
  have hqn : q ≤ n := by have := HLE.out; rw [HL.out] at this; exact this
  have HO4 := lid (ownsRow_base (base' := w.heap.size + 3) hown h31)
  obtain ⟨ao4, cap4, rfl⟩ := own_slice hown
  have HZ4 : Hid (ao4 = none → cap4 = 0) := lid (own_zero hown)
  clear hown hq HLE
  cases hmm : memB t.l x with
  | false =>
    have HMM := lid hmm
    clear hmm
    have p0 := row_cell HP.out 0
    have p1 := row_cell HP.out 1
    have p2 := row_cell HP.out 2
    have y0 := row_fz HP.out 0
    have y1 := row_fz HP.out 1
    have y2 := row_fz HP.out 2
    have HV := lid (rel_2 HC.out HMM.out)
    go_wp2_with fail
    clear p0 p1 p2 y0 y1 y2
    obtain ⟨wf, hwf⟩ : ∃ y, wipe3 w.heap.size w2 = y := ⟨_, rfl⟩
    have hwr := wipe3_rows HP.out hb
    rw [hwf] at hwr
    unfold wipe3 at hwf
    rw [hwf]
    have p0 := row_cell hwr.1 0
    have p1 := row_cell hwr.1 1
    have p2 := row_cell hwr.1 2
    exact bodyPost_ret (v := .tuple #[.agg tz, .int .i64 28]) (by simp [results, Try.results22, go_sem, p0, p1, p2]) rfl ⟨.agg tz, by rw [HV.out], by rw [rel_bad HV.out (by decide)]; exact LsV.zero _ _, hwr.2⟩
  | true =>
  have HMM := lid hmm
  clear hmm
  have HV := lid (rel_good (rel_3 HC.out HMM.out))
  rw [HLL.out] at HV
  have c0 := row_cell HT.out 0
  have c1 := row_cell HT.out 1
  have c2 := row_cell HT.out 2
  have j0 := row_cell HJ.out 0
  have j1 := row_cell HJ.out 1
  have j2 := row_cell HJ.out 2
  have j3 := row_cell HJ.out 3
  have j4 := row_cell HJ.out 4
  have p0 := row_cell HP.out 0
  have p1 := row_cell HP.out 1
  have p2 := row_cell HP.out 2
  have y0 := row_fz HP.out 0
  have y1 := row_fz HP.out 1
  have y2 := row_fz HP.out 2
  go_wp2_with fail
  clear p0 p1 p2 y0 y1 y2 c0 c1 c2 j0 j1 j2 j3 j4
  obtain ⟨wS, hwS⟩ : ∃ y, ((w2.setCell ⟨w.heap.size + 1 + 1, 0, none⟩ (.int .i64 t.clock)).setCell ⟨w.heap.size + 1 + 1, 1, none⟩ (.int .i64 t.epoch)).setCell ⟨w.heap.size + 1 + 1, 2, none⟩ (.slice ao4 q cap4) = y := ⟨_, rfl⟩
  rw [hwS]
  have HPS : wS.heap[w.heap.size + 1 + 1]? = some (.cells #[.int .i64 t.clock, .int .i64 t.epoch, .slice ao4 q cap4] 24 (0, 0)) := by rw [← hwS]; exact row_set (row_set (row_set HP.out 0 _) 1 _) 2 _
  have hbS : Below w.heap.size w wS := by rw [← hwS]; exact ((hb.setCell (p := ⟨w.heap.size + 1 + 1, 0, none⟩) (by simp only; omega) _).setCell (p := ⟨w.heap.size + 1 + 1, 1, none⟩) (by simp only; omega) _).setCell (p := ⟨w.heap.size + 1 + 1, 2, none⟩) (by simp only; omega) _
  have HOS : wS.ownsRow (w.heap.size + 3) 31 5 (.slice ao4 q cap4) q (lzcells l') := by
    rw [← hwS]
    iterate 3 refine own_set ?_ (by omega)
    exact HO4.out
  have hLV : LsV ⟨t.clock, t.epoch, l'⟩ w.heap.size wS (.agg #[.int .i64 t.clock, .int .i64 t.epoch, .slice ao4 q cap4]) := LsV.own (T := ⟨t.clock, t.epoch, l'⟩) HOS (by omega) HQL.out (by simp only [maxLen]; omega) HSZ.out
  have p0 := row_cell HPS 0
  have p1 := row_cell HPS 1
  have p2 := row_cell HPS 2
  exact bodyPost_ret (v := .tuple #[.agg #[.int .i64 t.clock, .int .i64 t.epoch, .slice ao4 q cap4], .int .i64 0]) (by simp [results, Try.results22, go_sem, p0, p1, p2]) rfl ⟨_, by rw [HV.out.2], by rw [HV.out.1]; exact hLV, hbS⟩
set_option maxRecDepth 100000 in
set_option maxHeartbeats 16000000 in
theorem refHolds_any (t : Ls) (ao : Option Addr) (n cap : Nat) (x : Lz) (w : World) (h : LsA w ao n t) :
    Calls Try.prog 25 #[.agg (tcells t ao n cap), .agg (lzc x)] w fun e w' => e = .returned (.bool (holdsB t x)) ∧ Below w.heap.size w w' := by
  obtain ⟨W, hW⟩ : ∃ y, (w.alloc (.cells #[.int .i64 t.clock, .int .i64 t.epoch, .slice ao n cap] 24)).alloc (.cells (lzc x) 31) = y := ⟨_, rfl⟩
  have hb : Below w.heap.size w W := by
    rw [← hW]
    exact ((Below.refl _ _).alloc (Nat.le_refl _) _).alloc (by simp) _
  have HT : Hid (W.heap[w.heap.size]? = some (.cells (tcells t ao n cap) 24 (0, 0))) := lid (by
    rw [← hW]
    iterate 1 rw [Below.heap_alloc _ _ _ (by simp only [World.size_alloc]; omega)]
    exact heap_alloc_new _ _)
  have HJ : Hid (W.heap[w.heap.size + 1]? = some (.cells (lzc x) 31 (0, 0))) := lid (by
    rw [← hW]
    have := heap_alloc_new (w.alloc (.cells #[.int .i64 t.clock, .int .i64 t.epoch, .slice ao n cap] 24)) (.cells (lzc x) 31)
    simp only [World.size_alloc] at this
    exact this)
  have HW := lid hW
  have HA := lid (h.below hb)
  have HL := lid h.len
  clear h hW
  go_enter Try.func25, Try.ntmps25
  have c0 := row_cell HT.out 0
  have c1 := row_cell HT.out 1
  have c2 := row_cell HT.out 2
  rw [← HW.out] at c0 c1 c2
  go_wp2_with fail
  rw [HW.out]
  clear HW c0 c1 c2
  have CK := lid (refLeaCheck_any t ao n cap W HA.out)
  obtain ⟨c, hc⟩ : ∃ c, checkLs t = c := ⟨_, rfl⟩
  rw [hc] at CK
  have HC := lid hc
  clear hc
  (with_reducible refine (CK.out).mono ?_); rintro e w1 ⟨rfl, hb1⟩
  have hb' := hb
  replace hb : Below w.heap.size w w1 := hb.trans (hb1.mono hb.size)
  replace HT := lid ((hb1.block _ (row_lt HT.out)).trans HT.out)
  replace HJ := lid ((hb1.block _ (row_lt HJ.out)).trans HJ.out)
  replace HA := lid (HA.out.below hb1)
  clear hb1 hb' CK
  by_cases hc0 : c = 0
  case neg =>
    have d0 : (c == 0) = false := by simpa using hc0
    go_wp2_with fail
    go_ret
    exact ⟨ret_bool (by unfold holdsB; rw [HC.out, decide_eq_false hc0]; rfl), hb⟩
  subst hc0
  have HOK := lid (checkLs_ok HC.out)
  have c0 := row_cell HT.out 0
  have c1 := row_cell HT.out 1
  have c2 := row_cell HT.out 2
  have j0 := row_cell HJ.out 0
  have j1 := row_cell HJ.out 1
  have j2 := row_cell HJ.out 2
  have j3 := row_cell HJ.out 3
  have j4 := row_cell HJ.out 4
  go_wp2_with fail
  clear c0 c1 c2 j0 j1 j2 j3 j4
  have hn : n ≤ 1000000 := by have := HOK.out.2.2.2.2; rw [HL.out] at this; omega
  (with_reducible refine (Without_any t.l n cap ao x w1 HL.out hn HA.out.sl).mono ?_); rintro e w2 ⟨v4, rfl, hown, hb2⟩
  obtain ⟨ao4, cap4, rfl⟩ := own_slice hown
  clear hown
  go_wp2_with fail
  go_ret
  exact ⟨ret_bool (by unfold holdsB; rw [HC.out]; simp), hb.trans (hb2.mono hb.size)⟩
end Go.Proofs.Ytghkldodceamcaa

namespace Go.Proofs.Ytghkldodceamcaa
open Go.RowKit

/-- The world behind the store of zero values into the result's cells. -/
def wipe1 (k : Nat) (w : World) : World := ((w.setCell ⟨k + 1, 0, none⟩ (.int .i64 0)).setCell ⟨k + 1, 1, none⟩ (.int .i64 0)).setCell ⟨k + 1, 2, none⟩ (.slice none 0 0)
theorem wipe1_rows {k : Nat} {w0 w : World} (HP : tzRow (k + 1) w) (hb : Below k w0 w) : tzRow (k + 1) (wipe1 k w) ∧ Below k w0 (wipe1 k w) := by
  unfold wipe1
  refine ⟨row_set (row_set (row_set HP 0 (.int .i64 0)) 1 (.int .i64 0)) 2 (.slice none 0 0), ?_⟩
  refine ((hb.setCell (p := ⟨k + 1, 0, none⟩) ?_ _).setCell (p := ⟨k + 1, 1, none⟩) ?_ _).setCell (p := ⟨k + 1, 2, none⟩) ?_ _ <;> (simp only; omega)
/-- Two rows lie apart. -/
def Apart (u v : Value) : Prop := ∀ g, u.ownBlock = some g → v.ownBlock = some g → False
theorem Apart.symm {u v : Value} (h : Apart u v) : Apart v u := fun g a b => h g b a
/-- 'append(out, x)' beside another row of the call's own. -/
theorem wpList_append_pair {P : Program} {ops : Array Oper} {rest : List Oper} {o : Oper} {a : Act} {Q : Exit → Act → World → Prop} {w : World} (us : Array Value) (hgd : o.guard = none) (s x : Operand) (t : TypeId)
    (ho : o.op = .call { callee := .builtin .append, args := #[s, x], argTypes := #[t, t] })
    (base : Nat) (e : TypeId) (z : Value) (size bytes : Nat) (hinfo : (P.info? e).map (fun i => (i.zero, i.size, i.bytes)) = some (some z, size, bytes)) (ht : P.underlying t = some (.slice e)) (hzs : z.cells.size = size) (hsz : 0 < size)
    (v : Value) (n : Nat) (xs : List Value) (hown : w.ownsRow base e size v n xs) (hs : a.eval s = v)
    (vB : Value) (m : Nat) (ys : List Value) (hownB : w.ownsRow base e size vB m ys) (hap : Apart v vB)
    (hx : a.eval x = .slice (some ⟨w.heap.size, 0, none⟩) 1 1) (hl : us.size = size) (h1 : ∀ u ∈ us.toList, u.oneCell' = true)
    (h63 : n + 1 ≤ maxLen) (hbytes : (n + 1) * bytes ≤ 140737488355328) (hbase : base ≤ w.heap.size)
    (h : ∀ v' w', w'.ownsRow base e size v' (n + 1) (xs ++ us.toList) → w'.ownsRow base e size vB m ys → Apart v' vB → Below base w w' → wpList P ops Q rest (a.put o.dst v') w') : wpList P ops Q (o :: rest) a (w.alloc (.cells us e)) := by
  obtain ⟨i, hi, hz0, hz1, hz2⟩ := info_parts hinfo
  refine wpList_append_lies _ hgd s x t ho base e i z size bytes ht hi hz0 hz1 hz2 hzs hsz v n xs hs (hown.alloc _) ⟨w.heap.size, 0, none⟩ 1 1 us.toList hx (by simp [hl]) ?_ h1 (by omega) h63 hbytes (by simp; omega) _ rfl ?_
  · intro j u hu
    rw [Addr.add_lit]
    simp only [World.cell?, Nat.zero_add]
    rw [heap_alloc_new]
    simpa using hu
  · intro g cap w' hown' hg hor hlt
    have hB1 := hownB.alloc (.cells us e)
    refine h _ w' hown' (hB1.kept hg ?_) ?_ (((Below.refl _ _).alloc hbase _).grown hg (by simp; omega) (fun k hk => ownsRow_row hown k hk))
    · cases hvB : vB.ownBlock with
      | none => exact .inl rfl
      | some k =>
        refine .inr fun e => ?_
        exact hap k e.symm hvB
    · intro k hk hkB
      have hk' : g = k := by simpa [Value.ownBlock] using hk
      subst hk'
      rcases hor with h2 | h2
      · exact hap g h2 hkB
      · have := (hB1.lt g hkB).2
        omega
theorem Apart.nil (v : Value) : Apart (.slice none 0 0) v := fun g h _ => by simp [Value.ownBlock] at h
def keepL (l : List Lz) (c : Int) : List Lz := l.filter fun x => !decide (x.2.2.1 ≤ c)
theorem keep_yes {l : List Lz} {k : Nat} {c : Int} (h : k < l.length) (hc : ¬ (l[k]).2.2.1 ≤ c) : keepL (l.take (k + 1)) c = keepL (l.take k) c ++ [l[k]] := by
  unfold keepL
  rw [List.take_succ_eq_append_getElem h, List.filter_append]
  simp [hc]
theorem keep_no {l : List Lz} {k : Nat} {c : Int} (h : k < l.length) (hc : (l[k]).2.2.1 ≤ c) : keepL (l.take (k + 1)) c = keepL (l.take k) c := by
  unfold keepL
  rw [List.take_succ_eq_append_getElem h, List.filter_append]
  simp [hc]
theorem keep_le (l : List Lz) (c : Int) (k : Nat) : (keepL (l.take k) c).length ≤ k := Nat.le_trans (List.length_filter_le _ _) (by rw [List.length_take]; omega)

set_option maxRecDepth 100000 in
set_option maxHeartbeats 16000000 in
theorem refAdvance_any (t : Ls) (ao : Option Addr) (n cap : Nat) (k : Int) (w : World) (h : LsA w ao n t) :
    Calls Try.prog 23 #[.agg (tcells t ao n cap), .int .i64 k] w fun e w' => AdvR (advL t k) (advG t k) (advE t k) w e w' := by
  obtain ⟨W, hW⟩ : ∃ y, (w.alloc (.cells #[.int .i64 t.clock, .int .i64 t.epoch, .slice ao n cap] 24)).alloc (.cells tz 24) = y := ⟨_, rfl⟩
  have hb : Below w.heap.size w W := by
    rw [← hW]
    exact ((Below.refl _ _).alloc (Nat.le_refl _) _).alloc (by simp) _
  have HT : Hid (W.heap[w.heap.size]? = some (.cells (tcells t ao n cap) 24 (0, 0))) := lid (by
    rw [← hW]
    iterate 1 rw [Below.heap_alloc _ _ _ (by simp only [World.size_alloc]; omega)]
    exact heap_alloc_new _ _)
  have HP : Hid (tzRow (w.heap.size + 1) W) := lid (by
    rw [← hW]; unfold tzRow
    have := heap_alloc_new (w.alloc (.cells #[.int .i64 t.clock, .int .i64 t.epoch, .slice ao n cap] 24)) (.cells tz 24)
    simp only [World.size_alloc] at this
    exact this)
  have HW := lid hW
  have HA := lid (h.below hb)
  have HL := lid h.len
  clear h hW
  go_enter Try.func23, Try.ntmps23
  have c0 := row_cell HT.out 0
  have c1 := row_cell HT.out 1
  have c2 := row_cell HT.out 2
  rw [← HW.out] at c0 c1 c2
  go_wp2_with fail
  rw [HW.out]
  clear HW c0 c1 c2
  have CK := lid (refLeaCheck_any t ao n cap W HA.out)
  obtain ⟨c, hc⟩ : ∃ c, checkLs t = c := ⟨_, rfl⟩
  rw [hc] at CK
  have HC := lid hc
  clear hc
  (with_reducible refine (CK.out).mono ?_); rintro e w1 ⟨rfl, hb1⟩
  have hb' := hb
  replace hb : Below w.heap.size w w1 := hb.trans (hb1.mono hb.size)
  replace HP := lid ((hb1.block _ (row_lt HP.out)).trans HP.out)
  replace HT := lid ((hb1.block _ (row_lt HT.out)).trans HT.out)
  replace HA := lid (HA.out.below hb1)
  clear hb1 hb'
  clear CK
  by_cases hc0 : c = 0
  case neg =>
    have d0 : (c == 0) = false := by simpa using hc0
    have p0 := row_cell HP.out 0
    have p1 := row_cell HP.out 1
    have p2 := row_cell HP.out 2
    have y0 := row_fz HP.out 0
    have y1 := row_fz HP.out 1
    have y2 := row_fz HP.out 2
    have HV := lid (adv_1 (by rw [HC.out]; exact hc0) k)
    go_wp2_with fail
    clear p0 p1 p2 y0 y1 y2
    obtain ⟨wf, hwf⟩ : ∃ y, wipe1 w.heap.size w1 = y := ⟨_, rfl⟩
    have hwr := wipe1_rows HP.out hb
    rw [hwf] at hwr
    unfold wipe1 at hwf
    rw [hwf]
    have p0 := row_cell hwr.1 0
    have p1 := row_cell hwr.1 1
    have p2 := row_cell hwr.1 2
    exact bodyPost_ret (v := .tuple #[.agg tz, .slice none 0 0, .int .i64 1]) (by simp [results, Try.results23, go_sem, p0, p1, p2]) rfl ⟨.agg tz, .slice none 0 0, by rw [HV.out], by rw [(adv_bad HV.out (by decide)).1]; exact LsV.zero _ _, by rw [(adv_bad HV.out (by decide)).2]; exact LzV.nil _ _, hwr.2⟩
  subst hc0
  have HOK := lid (checkLs_ok HC.out)
  have hn : n ≤ 256 := by have := HOK.out.2.2.2.2; rw [HL.out] at this; exact this
  have c0 := row_cell HT.out 0
  have c1 := row_cell HT.out 1
  have c2 := row_cell HT.out 2
  by_cases h1 : k < t.clock
  case pos =>
    have d1 : decide (k < t.clock) = true := by simpa using h1
    have p0 := row_cell HP.out 0
    have p1 := row_cell HP.out 1
    have p2 := row_cell HP.out 2
    have y0 := row_fz HP.out 0
    have y1 := row_fz HP.out 1
    have y2 := row_fz HP.out 2
    have HV := lid (adv_2 HC.out (.inl h1))
    go_wp2_with fail
    clear p0 p1 p2 y0 y1 y2
    obtain ⟨wf, hwf⟩ : ∃ y, wipe1 w.heap.size w1 = y := ⟨_, rfl⟩
    have hwr := wipe1_rows HP.out hb
    rw [hwf] at hwr
    unfold wipe1 at hwf
    rw [hwf]
    have p0 := row_cell hwr.1 0
    have p1 := row_cell hwr.1 1
    have p2 := row_cell hwr.1 2
    exact bodyPost_ret (v := .tuple #[.agg tz, .slice none 0 0, .int .i64 2]) (by simp [results, Try.results23, go_sem, p0, p1, p2]) rfl ⟨.agg tz, .slice none 0 0, by rw [HV.out], by rw [(adv_bad HV.out (by decide)).1]; exact LsV.zero _ _, by rw [(adv_bad HV.out (by decide)).2]; exact LzV.nil _ _, hwr.2⟩
  have d1 : decide (k < t.clock) = false := by simpa using h1
  by_cases h2 : 1099511627776 < k
  case pos =>
    have d2 : decide (1099511627776 < k) = true := by simpa using h2
    have p0 := row_cell HP.out 0
    have p1 := row_cell HP.out 1
    have p2 := row_cell HP.out 2
    have y0 := row_fz HP.out 0
    have y1 := row_fz HP.out 1
    have y2 := row_fz HP.out 2
    have HV := lid (adv_2 HC.out (.inr h2))
    go_wp2_with fail
    clear p0 p1 p2 y0 y1 y2
    obtain ⟨wf, hwf⟩ : ∃ y, wipe1 w.heap.size w1 = y := ⟨_, rfl⟩
    have hwr := wipe1_rows HP.out hb
    rw [hwf] at hwr
    unfold wipe1 at hwf
    rw [hwf]
    have p0 := row_cell hwr.1 0
    have p1 := row_cell hwr.1 1
    have p2 := row_cell hwr.1 2
    exact bodyPost_ret (v := .tuple #[.agg tz, .slice none 0 0, .int .i64 2]) (by simp [results, Try.results23, go_sem, p0, p1, p2]) rfl ⟨.agg tz, .slice none 0 0, by rw [HV.out], by rw [(adv_bad HV.out (by decide)).1]; exact LsV.zero _ _, by rw [(adv_bad HV.out (by decide)).2]; exact LzV.nil _ _, hwr.2⟩
  have d2 : decide (1099511627776 < k) = false := by simpa using h2
  have HV := lid (adv_good (adv_3 HC.out (fun h => h.elim h1 h2)))
  have h21 : w.heap.size + 2 ≤ w1.heap.size := by have := row_lt HP.out; omega
  have lT := row_lt HT.out
  clear h1 h2
  obtain ⟨W2, hW2⟩ : ∃ y, (w1.alloc (.cells #[.int .i64 k, .int .i64 t.epoch, .slice none 0 0] 24)).alloc (.cells #[] 31) = y := ⟨_, rfl⟩
  have HW2 := lid hW2
  have zW2 : W2.heap.size = w1.heap.size + 2 := by rw [← hW2]; simp only [World.size_alloc]
  have hb12 : Below w1.heap.size w1 W2 := by rw [← hW2]; exact ((Below.refl _ _).alloc (Nat.le_refl _) _).alloc (by simp) _
  have HO : Hid (W2.heap[w1.heap.size]? = some (.cells #[.int .i64 k, .int .i64 t.epoch, .slice none 0 0] 24 (0, 0))) := lid (by
    rw [← hW2]
    iterate 1 rw [Below.heap_alloc _ _ _ (by simp only [World.size_alloc]; omega)]
    exact heap_alloc_new _ _)
  have HG : Hid (W2.ownsRow (w1.heap.size + 1) 31 5 (.slice (some ⟨w1.heap.size + 1, 0, none⟩) 0 0) 0 []) := lid (by rw [← hW2]; exact ownsRow_empty (by simp) (Nat.le_refl _))
  clear hW2
  go_wp2_with fail
  rw [HW2.out]
  clear HW2 c0 c1 c2 d1 d2
  have HAO := lid HA.out.sl
  have hv0 := hb12
  have hb' := hb
  replace hb : Below w.heap.size w W2 := hb.trans (hb12.mono hb.size)
  replace HP := lid ((hb12.block _ (row_lt HP.out)).trans HP.out)
  replace HT := lid ((hb12.block _ (row_lt HT.out)).trans HT.out)
  replace HA := lid (HA.out.below hb12)
  clear hb12 hb'
  go_loopw [8, 9] (fun vG i wr => ∃ (j p q : Nat) (vK : Value), j ≤ n ∧ i = .int .i64 j ∧ Hid ((keepL (t.l.take j) k).length = p) ∧ Hid ((goneL (t.l.take j) k).length = q) ∧ p ≤ j ∧ q ≤ j ∧ Hid (wr.heap[w1.heap.size]? = some (.cells #[.int .i64 k, .int .i64 t.epoch, vK] 24 (0, 0))) ∧ Hid (wr.ownsRow (w1.heap.size + 1) 31 5 vK p (lzcells (keepL (t.l.take j) k))) ∧ Hid (wr.ownsRow (w1.heap.size + 1) 31 5 vG q (lzcells (goneL (t.l.take j) k))) ∧ Hid (Apart vK vG) ∧ Below w1.heap.size W2 wr) (fun _ i _ => n - (intOf i).toNat)
  case atStart => exact ⟨0, 0, 0, _, Nat.zero_le _, rfl, lid rfl, lid rfl, Nat.le_refl _, Nat.le_refl _, HO, lid (World.ownsRow_nil _ _ _ _), HG, lid (Apart.nil _), Below.refl _ _⟩
  case round =>
    clear HO HG
    obtain ⟨j, p, q, vK, hj, rfl, HKL, HGL, hp, hq, HO, HK, HG, HAP, hv⟩ := hrel
    replace hb : Below w.heap.size w wr := hb.trans (hv.mono (by omega))
    replace HP := lid ((hv.block _ (by omega)).trans HP.out)
    replace HT := lid ((hv.block _ (by omega)).trans HT.out)
    have HAS : Hid (Sl wr 5 ao n (lzcells t.l)) := lid (HAO.out.below (hv0.trans hv))
    have z1 := hv.size
    have hbase : w1.heap.size + 1 ≤ wr.heap.size := by omega
    have lT := row_lt HT.out
    have lO := row_lt HO.out
    have c0 := row_cell HT.out 0
    have c1 := row_cell HT.out 1
    have c2 := row_cell HT.out 2
    obtain ⟨aoK, capK, rfl⟩ := own_slice HK.out
    obtain ⟨aoG, capG, rfl⟩ := own_slice HG.out
    by_cases hlt : j < n
    · have hjl : j < t.l.length := by rw [HL.out]; exact hlt
      obtain ⟨b1, o1, rfl, hlb1, hcell⟩ := HAO.out.at_ hlt
      obtain ⟨b1', o1', e1, hlb, hcell⟩ := HAS.out.at_ hlt
      cases e1
      have HB1 := lid hlb1
      clear hlb1
      have x0 := hcell (j * 5 + 0) _ (lzcells_at hjl).1
      have x1 := hcell (j * 5 + 1) _ (lzcells_at hjl).2.1
      have x2 := hcell (j * 5 + 2) _ (lzcells_at hjl).2.2.1
      have x3 := hcell (j * 5 + 3) _ (lzcells_at hjl).2.2.2.1
      have x4 := hcell (j * 5 + 4) _ (lzcells_at hjl).2.2.2.2
      rw [← Nat.add_assoc] at x1 x2 x3 x4
      rw [Nat.add_zero] at x0
      have dj : decide ((j : Int) < (n : Int)) = true := by simp; omega
      have HK1 := lid (fun h => keep_yes (c := k) hjl h)
      have HK2 := lid (fun h => keep_no (c := k) hjl h)
      have HG1 := lid (fun h => gone_yes (c := k) hjl h)
      have HG2 := lid (fun h => gone_no (c := k) hjl h)
      obtain ⟨r, hr⟩ : ∃ y, t.l[j] = y := ⟨_, rfl⟩
      rw [hr] at x0 x1 x2 x3 x4 HK1 HK2 HG1 HG2
      clear hr hcell
      by_cases hu : r.2.2.1 ≤ k
      · have HKN := lid (HK2.out hu)
        have HGN := lid (HG1.out (by simpa using hu))
        have du : decide (k < r.2.2.1) = false := by simp; omega
        clear hu HK1 HK2 HG1 HG2
        go_wp2_with (at_builtin; go_must (refine wpList_append_pair (lzc r) rfl _ _ 22 rfl (w1.heap.size + 1) 31 (.agg #[.int .u64 0, .int .u64 0, .string ⟨#[]⟩, .int .i64 0, .int .i64 0]) 5 48 info_lz Try.underlying22 rfl (by decide) _ q _ HG.out rfl _ p _ HK.out HAP.out.symm rfl rfl (by simp [Value.oneCell']) (by unfold maxLen; omega) (by omega) hbase ?_))
        intro v' w5 hownG hownK hap5 hb5
        have HG5 : Hid (w5.ownsRow (w1.heap.size + 1) 31 5 v' (q + 1) (lzcells (goneL (t.l.take (j + 1)) k))) := lid (by rw [HGN.out, lzcells_snoc]; exact hownG)
        have HK5 : Hid (w5.ownsRow (w1.heap.size + 1) 31 5 (.slice aoK p capK) p (lzcells (keepL (t.l.take (j + 1)) k))) := lid (by rw [HKN.out]; exact hownK)
        have HO5 := lid ((hb5.block _ (Nat.lt_succ_self _)).trans HO.out)
        have HAP5 := lid hap5.symm
        obtain ⟨ao', cap', rfl⟩ := own_slice hownG
        clear hownG hownK hap5
        go_wp2_with fail
        go_roundw
        case rel => exact ⟨j + 1, p, q + 1, _, by omega, by go_num, lid (by rw [HKN.out]; exact HKL.out), lid (by rw [HGN.out, List.length_append, HGL.out]; rfl), by omega, by omega, HO5, HK5, HG5, HAP5, hv.trans (hb5.mono (Nat.le_succ _))⟩
        case measure => simp [intOf]; omega
      · have HKN := lid (HK1.out hu)
        have HGN := lid (HG2.out (by simpa using hu))
        have du : decide (k < r.2.2.1) = true := by simp; omega
        clear hu HK1 HK2 HG1 HG2
        have o0 := row_cell HO.out 0
        have o1' := row_cell HO.out 1
        have o2 := row_cell HO.out 2
        go_wp2_with fail
        have g1 : w.heap.size < w1.heap.size + 1 := by omega
        have g2 : w1.heap.size < w1.heap.size + 1 := Nat.lt_succ_self _
        have g3 : b1 < w1.heap.size + 1 := Nat.lt_succ_of_lt HB1.out
        refine wp_region_seqL 10 (fun w' => ∃ s : Since (w1.heap.size + 1) wr, w' = s.world) [(0, true), (1, true), (2, true), (3, true), (4, true), (5, true), (6, true), (7, false), (8, false), (9, true), (10, false)] (by kernel_rfl) (by kernel_rfl) (by intro c d v a w h; cases d <;> exact h) (since (Below.refl _ _).drew) ?_
        repeat (first | (refine seqL_skip (by rfl) (by rfl) (by rfl) ?_; simp only [Act.put, List.setIfInBounds_toArray, List.set_cons_succ, List.set_cons_zero]) | (refine seqL_float (by rfl) (by rfl) (by rfl) (by rfl) ?_; intro K hK; go_big_quiet_op; go_big_quiet_on))
        refine seqL_chain (by rfl) ?_
        intro K hK
        go_wp2_with fail
        go_wp2_with fail
        refine hK.out _ _ (since ((Below.refl (w1.heap.size + 1) wr).alloc hbase _).drew) ?_
        clear hK K
        rw [show ∀ o, (wr.alloc o).drew = wr.drew.alloc o from fun _ => rfl]
        refine seqL_chain (by rfl) ?_
        intro K hK
        go_wp2_with (at_builtin; go_must (refine wpList_append_pair (w := wr.drew) (lzc r) rfl _ _ 22 rfl (w1.heap.size + 1) 31 (.agg #[.int .u64 0, .int .u64 0, .string ⟨#[]⟩, .int .i64 0, .int .i64 0]) 5 48 info_lz Try.underlying22 rfl (by decide) _ p _ HK.out.drew rfl _ q _ HG.out.drew HAP.out rfl rfl (by simp [Value.oneCell']) (by unfold maxLen; omega) (by omega) hbase ?_))
        intro v' w5 hownK hownG hap5 hb5
        have HK5 : Hid (w5.ownsRow (w1.heap.size + 1) 31 5 v' (p + 1) (lzcells (keepL (t.l.take (j + 1)) k))) := lid (by rw [HKN.out, lzcells_snoc]; exact hownK)
        have HG5 : Hid (w5.ownsRow (w1.heap.size + 1) 31 5 (.slice aoG q capG) q (lzcells (goneL (t.l.take (j + 1)) k))) := lid (by rw [HGN.out]; exact hownG)
        have HO5 : w5.heap[w1.heap.size]? = some (.cells #[.int .i64 k, .int .i64 t.epoch, .slice aoK p capK] 24 (0, 0)) := (hb5.block _ (Nat.lt_succ_self _)).trans HO.out
        have HAP5 := lid hap5
        obtain ⟨ao', cap', rfl⟩ := own_slice hownK
        clear hownG hownK hap5
        have o2 := row_cell HO5 2
        have z2 := row_fz HO5 2
        go_wp2_with fail
        refine hK.out _ _ (since ((Below.refl _ _).drew.trans hb5)) ?_
        clear hK K
        repeat (first | (refine seqL_skip (by rfl) (by rfl) (by rfl) ?_; simp only [Act.put, List.setIfInBounds_toArray, List.set_cons_succ, List.set_cons_zero]) | (refine seqL_float (by rfl) (by rfl) (by rfl) (by rfl) ?_; intro K hK; go_big_quiet_op; go_big_quiet_on))
        refine seqL_last (by rfl) (by rfl) ?_
        intro K hK
        go_wp2_with fail
        refine hK.out _ _ ?_
        clear hK K o2 z2
        obtain ⟨w6, hw6⟩ : ∃ y, w5.setCell ⟨w1.heap.size, 2, none⟩ (.slice ao' (p + 1) cap') = y := ⟨_, rfl⟩
        rw [hw6]
        have HO6 : Hid (w6.heap[w1.heap.size]? = some (.cells #[.int .i64 k, .int .i64 t.epoch, .slice ao' (p + 1) cap'] 24 (0, 0))) := lid (by rw [← hw6]; exact row_set HO5 2 _)
        have HK6 := lid (show w6.ownsRow _ _ _ _ _ _ by rw [← hw6]; exact own_set HK5.out (Nat.lt_succ_self _))
        have HG6 := lid (show w6.ownsRow _ _ _ _ _ _ by rw [← hw6]; exact own_set HG5.out (Nat.lt_succ_self _))
        have hb6 : Below w1.heap.size W2 w6 := by rw [← hw6]; exact (hv.drew.trans (hb5.mono (Nat.le_succ _))).setCell (p := ⟨w1.heap.size, 2, none⟩) (Nat.le_refl _) _
        clear hw6
        go_wp2_with fail
        go_roundw
        case rel => exact ⟨j + 1, p + 1, q, _, by omega, by go_num, lid (by rw [HKN.out, List.length_append, HKL.out]; rfl), lid (by rw [HGN.out]; exact HGL.out), by omega, by omega, HO6, HK6, HG6, HAP5, hb6⟩
        case measure => simp [intOf]; omega
    · obtain rfl : j = n := by omega
      have HTF : Hid (t.l.take j = t.l) := lid (List.take_of_length_le (by rw [HL.out]; exact Nat.le_refl _))
      rw [HTF.out] at HKL HGL HK HG
      have dj : decide ((j : Int) < (j : Int)) = false := by simp
      have o0 := row_cell HO.out 0
      have o1' := row_cell HO.out 1
      have o2 := row_cell HO.out 2
      have p0 := row_cell HP.out 0
      have p1 := row_cell HP.out 1
      have p2 := row_cell HP.out 2
      have y0 := row_fz HP.out 0
      have y1 := row_fz HP.out 1
      have y2 := row_fz HP.out 2
      go_wp2_with fail
      clear p0 p1 p2 y0 y1 y2 o0 o1' o2
      obtain ⟨wS, hwS⟩ : ∃ y, ((wr.setCell ⟨w.heap.size + 1, 0, none⟩ (.int .i64 k)).setCell ⟨w.heap.size + 1, 1, none⟩ (.int .i64 t.epoch)).setCell ⟨w.heap.size + 1, 2, none⟩ (.slice aoK p capK) = y := ⟨_, rfl⟩
      rw [hwS]
      have HPS : wS.heap[w.heap.size + 1]? = some (.cells #[.int .i64 k, .int .i64 t.epoch, .slice aoK p capK] 24 (0, 0)) := by rw [← hwS]; exact row_set (row_set (row_set HP.out 0 _) 1 _) 2 _
      have hbS : Below w.heap.size w wS := by rw [← hwS]; exact ((hb.setCell (p := ⟨w.heap.size + 1, 0, none⟩) (by simp only; omega) _).setCell (p := ⟨w.heap.size + 1, 1, none⟩) (by simp only; omega) _).setCell (p := ⟨w.heap.size + 1, 2, none⟩) (by simp only; omega) _
      have HKS : wS.ownsRow (w1.heap.size + 1) 31 5 (.slice aoK p capK) p (lzcells (keepL t.l k)) := by
        rw [← hwS]
        iterate 3 refine own_set ?_ (by omega)
        exact HK.out
      have HGS : wS.ownsRow (w1.heap.size + 1) 31 5 (.slice aoG q capG) q (lzcells (goneL t.l k)) := by
        rw [← hwS]
        iterate 3 refine own_set ?_ (by omega)
        exact HG.out
      have HSZ : ∀ y ∈ keepL t.l k, y.2.1.size ≤ maxLen := fun y hy => HA.out.sz y (List.mem_filter.1 hy).1
      have hLV : LsV ⟨k, t.epoch, keepL t.l k⟩ w.heap.size wS (.agg #[.int .i64 k, .int .i64 t.epoch, .slice aoK p capK]) := LsV.own (T := ⟨k, t.epoch, keepL t.l k⟩) HKS (by omega) HKL.out (by simp only [maxLen]; omega) HSZ
      have hGV : LzV (goneL t.l k) w.heap.size wS (.slice aoG q capG) := LzV.own HGS (by omega) HGL.out (by simp only [maxLen]; omega)
      have p0 := row_cell HPS 0
      have p1 := row_cell HPS 1
      have p2 := row_cell HPS 2
      exact bodyPost_ret (v := .tuple #[.agg #[.int .i64 k, .int .i64 t.epoch, .slice aoK p capK], .slice aoG q capG, .int .i64 0]) (by simp [results, Try.results23, go_sem, p0, p1, p2]) rfl ⟨_, _, by rw [HV.out.2.2], by rw [HV.out.1]; exact hLV, by rw [HV.out.2.1]; exact hGV, hbS⟩
set_option maxRecDepth 100000 in
set_option maxHeartbeats 4000000 in
theorem leaSame_any (t u : Ls) (ao bo : Option Addr) (n cn k ck : Nat) (w : World) (h : LsA w ao n t) (h2 : LsA w bo k u) (hn : n ≤ 1000000) (hk : k ≤ 1000000) :
    Calls Try.prog 16 #[.agg (tcells t ao n cn), .agg (tcells u bo k ck)] w fun e w' => e = .returned (.bool (decide (t.clock = u.clock) && decide (t.epoch = u.epoch) && decide (t.l = u.l))) ∧ Below w.heap.size w w' := by
  obtain ⟨W, hW⟩ : ∃ y, (w.alloc (.cells #[.int .i64 t.clock, .int .i64 t.epoch, .slice ao n cn] 24)).alloc (.cells #[.int .i64 u.clock, .int .i64 u.epoch, .slice bo k ck] 24) = y := ⟨_, rfl⟩
  have hb : Below w.heap.size w W := by
    rw [← hW]
    exact ((Below.refl _ _).alloc (Nat.le_refl _) _).alloc (by simp) _
  have HT : W.heap[w.heap.size]? = some (.cells (tcells t ao n cn) 24 (0, 0)) := by
    rw [← hW]
    iterate 1 rw [Below.heap_alloc _ _ _ (by simp only [World.size_alloc]; omega)]
    exact heap_alloc_new _ _
  have HU : W.heap[w.heap.size + 1]? = some (.cells (tcells u bo k ck) 24 (0, 0)) := by
    rw [← hW]
    have := heap_alloc_new (w.alloc (.cells #[.int .i64 t.clock, .int .i64 t.epoch, .slice ao n cn] 24)) (.cells #[.int .i64 u.clock, .int .i64 u.epoch, .slice bo k ck] 24)
    simp only [World.size_alloc] at this
    exact this
  have HW := lid hW
  have Hb := lid hb
  have CS := lid (SameLeases_any t.l u.l n cn k ck ao bo W h.len h2.len (h.below hb).sl (h2.below hb).sl hn hk)
  have c0 := row_cell HT 0
  have c1 := row_cell HT 1
  have c2 := row_cell HT 2
  have d0 := row_cell HU 0
  have d1 := row_cell HU 1
  have d2 := row_cell HU 2
  rw [← HW.out] at c0 c1 c2 d0 d1 d2
  clear h h2 hW hb HT HU
  by_cases e1 : t.clock = u.clock
  case neg =>
    have f1 : (t.clock == u.clock) = false := by simpa using e1
    go_enter Try.func16, Try.ntmps16
    go_wp2_with fail
    rw [HW.out]
    go_ret
    exact ⟨ret_bool (by simp [e1]), Hb.out⟩
  have f1 : (t.clock == u.clock) = true := by simpa using e1
  by_cases e2 : t.epoch = u.epoch
  case neg =>
    have f2 : (t.epoch == u.epoch) = false := by simpa using e2
    go_enter Try.func16, Try.ntmps16
    go_wp2_with fail
    rw [HW.out]
    go_ret
    exact ⟨ret_bool (by simp [e2]), Hb.out⟩
  have f2 : (t.epoch == u.epoch) = true := by simpa using e2
  have HE := lid (And.intro e1 e2)
  clear e1 e2
  go_enter Try.func16, Try.ntmps16
  go_wp2_with fail
  rw [HW.out]
  (with_reducible refine (CS.out).mono ?_); rintro e w1 ⟨rfl, hb1⟩
  go_wp2_with fail
  go_ret
  exact ⟨ret_bool (by simp [HE.out.1, HE.out.2]), Hb.out.trans (hb1.mono Hb.out.size)⟩
end Go.Proofs.Ytghkldodceamcaa

namespace Go.Proofs.Ytghkldodceamcaa
open Go.RowKit

theorem Sl.hi {w : World} {size n : Nat} {ao : Option Addr} {xs : List Value} (h : Sl w size ao n xs) : n = 0 ∨ ∀ a, ao = some a → a.block < w.heap.size := by
  rcases h.2 with h0 | ⟨b, o, e, hlt, _⟩
  · exact .inl h0
  · exact .inr fun a ha => by rw [e] at ha; cases ha; exact hlt
theorem Sl.setHi {w : World} {size n X o H : Nat} {ao : Option Addr} {xs : List Value} {u : Value} (h : Sl w size ao n xs) (hi : n = 0 ∨ ∀ a, ao = some a → a.block < H) (hX : H ≤ X) : Sl (w.setCell ⟨X, o, none⟩ u) size ao n xs := by
  rcases hi with h0 | hi
  · exact ⟨h.1, .inl h0⟩
  · exact h.set (fun a ha => by have := hi a ha; omega)
theorem LsB.hi {w : World} {b n cap : Nat} {ao : Option Addr} {T : Ls} (h : LsB w b ao n cap T) : n = 0 ∨ ∀ a, ao = some a → a.block < w.heap.size := h.A.sl.hi
theorem LsB.setHi {w : World} {b n cap X o H : Nat} {ao : Option Addr} {T : Ls} {u : Value} (h : LsB w b ao n cap T) (hi : n = 0 ∨ ∀ a, ao = some a → a.block < H) (hX : H ≤ X) : LsB (w.setCell ⟨X, o, none⟩ u) b ao n cap T :=
  ⟨⟨h.A.len, h.A.sl.setHi hi hX, h.A.max, h.A.sz⟩, h.le, h.z, h.lo⟩
theorem LzB.hi {w : World} {b n cap : Nat} {ao : Option Addr} {G : List Lz} (h : LzB w b ao n cap G) : n = 0 ∨ ∀ a, ao = some a → a.block < w.heap.size := h.sl.hi
theorem LzB.setHi {w : World} {b n cap X o H : Nat} {ao : Option Addr} {G : List Lz} {u : Value} (h : LzB w b ao n cap G) (hi : n = 0 ∨ ∀ a, ao = some a → a.block < H) (hX : H ≤ X) : LzB (w.setCell ⟨X, o, none⟩ u) b ao n cap G :=
  ⟨h.len, h.sl.setHi hi hX, h.le, h.z, h.max, h.lo⟩
def annS : ByteArray := ⟨#[97, 110, 110]⟩
def wX : Lz := ((1, 2), annS, 8, 1)
def wY : Lz := ((1, 2), annS, 10, 2)
def wT0 : Ls := ⟨5, 0, []⟩
def wT1 : Ls := ⟨5, 1, [wX]⟩
def wU : Ls := ⟨7, 1, [wX]⟩
def wG : Ls := ⟨8, 1, []⟩
def wV : Ls := ⟨6, 1, [wX]⟩
def wV2 : Ls := ⟨6, 2, [wY]⟩
def wW : Ls := ⟨9, 2, [wY]⟩
theorem ann_size : annS.size ≤ maxLen := by decide
theorem wk_1 : grantE wT0 (1, 2) annS 3 = 0 ∧ grantL wT0 (1, 2) annS 3 = wT1 ∧ grantX wT0 (1, 2) annS 3 = wX := ⟨by rfl, by rfl, by rfl⟩
theorem wk_2 : advE wT1 7 = 0 ∧ advL wT1 7 = wU ∧ advG wT1 7 = [] := ⟨by rfl, by rfl, by rfl⟩
theorem wk_3 : advE wT1 8 = 0 ∧ advL wT1 8 = wG ∧ advG wT1 8 = [wX] := ⟨by rfl, by rfl, by rfl⟩
theorem wk_4 : advE wT1 6 = 0 ∧ advL wT1 6 = wV ∧ advG wT1 6 = [] := ⟨by rfl, by rfl, by rfl⟩
theorem wk_5 : renewE wV wX 4 = 0 ∧ renewL wV wX 4 = wV2 ∧ renewX wV wX 4 = wY := ⟨by rfl, by rfl, by rfl⟩
theorem wk_6 : advE wV2 9 = 0 ∧ advL wV2 9 = wW ∧ advG wV2 9 = [] := ⟨by rfl, by rfl, by rfl⟩
theorem wk_7 : holdsB wT1 wX = true := by rfl
theorem wk_8 : holdsB wU wX = true := by rfl
theorem wk_9 : holdsB wV2 wX = false := by rfl
theorem wk_10 : holdsB wW wY = true := by rfl

set_option maxRecDepth 100000 in
set_option maxHeartbeats 16000000 in
theorem awake_any (w : World) : Calls Try.prog 11 #[] w fun e w' => e = .returned (.bool true) ∧ Below w.heap.size w w' := by
  have hb : Below w.heap.size w w := Below.refl _ _
  have hA0 : LsA w none 0 wT0 := ⟨rfl, Sl.nil, by simp [maxLen], by intro x hx; cases hx⟩
  have C1 : Hid (Calls Try.prog 12 #[.agg #[.int .i64 5, .int .i64 0, .slice none 0 0], .agg #[.int .u64 1, .int .u64 2], .string ⟨#[97, 110, 110]⟩, .int .i64 3] w fun e w' => GrR wT1 wX 0 w e w') := lid (by
    have := grant_any wT0 none 0 0 (1, 2) annS 3 w hA0 (Nat.le_refl _) (fun _ => rfl) ann_size
    rw [wk_1.1, wk_1.2.1, wk_1.2.2] at this
    exact this)
  clear hA0
  go_enter Try.func11, Try.ntmps11
  go_wp2_with fail
  (with_reducible refine (C1.out).mono ?_); rintro e w1 ⟨_, rfl, ⟨ao1, n1, cap1, rfl, hA1⟩, hb1⟩
  clear C1
  have HA1 := lid hA1
  clear hA1
  replace hb := hb.trans (hb1.mono hb.size)
  have mw1 := hb1.size
  clear hb1
  go_wp2_with fail
  have bw1 : w.heap.size ≤ w1.heap.size := hb.size
  obtain ⟨W1, hW⟩ : ∃ y, (w1.alloc (.cells (tcells wT1 ao1 n1 cap1) 24)).alloc (.cells (lzc wX) 31) = y := ⟨_, rfl⟩
  rw [hW]
  have hbW : Below w1.heap.size w1 W1 := by rw [← hW]; exact (((Below.refl w1.heap.size w1).alloc (Nat.le_refl _) _).alloc (by simp only [World.size_alloc]; omega) _)
  have gW1 : w1.heap.size + 1 < W1.heap.size := by rw [← hW]; simp only [World.size_alloc]; omega
  have BT1 : Hid (W1.heap[w1.heap.size]? = some (.cells (tcells wT1 ao1 n1 cap1) 24 (0, 0))) := lid (by
    rw [← hW]
    iterate 1 rw [Below.heap_alloc _ _ _ (by simp only [World.size_alloc]; omega)]
    have := heap_alloc_new w1 (.cells (tcells wT1 ao1 n1 cap1) 24)
    exact this)
  have BX : Hid (W1.heap[w1.heap.size + 1]? = some (.cells (lzc wX) 31 (0, 0))) := lid (by
    rw [← hW]
    have := heap_alloc_new (w1.alloc (.cells (tcells wT1 ao1 n1 cap1) 24)) (.cells (lzc wX) 31)
    simp only [World.size_alloc] at this
    exact this)
  clear hW
  replace HA1 := lid (HA1.out.below hbW)
  replace hb := hb.trans (hbW.mono hb.size)
  have mW1 := hbW.size
  clear hbW
  have C2 : Hid (Calls Try.prog 18 #[.agg (tcells wT1 ao1 n1 cap1), .int .i64 7] W1 fun e w' => AdvR wU [] 0 W1 e w') := lid (by
    have := advance_any wT1 ao1 n1 cap1 7 W1 HA1.out.A HA1.out.le HA1.out.z
    rw [wk_2.1, wk_2.2.1, wk_2.2.2] at this
    exact this)
  (with_reducible refine (C2.out).mono ?_); rintro e w2 ⟨_, _, rfl, ⟨ao2, n2, cap2, rfl, hA⟩, ⟨aog2, ng2, capg2, rfl, hG⟩, hb1⟩
  clear C2
  replace HA1 := lid (HA1.out.below hb1)
  replace BT1 := lid ((hb1.block _ (row_lt BT1.out)).trans BT1.out)
  replace BX := lid ((hb1.block _ (row_lt BX.out)).trans BX.out)
  replace hb := hb.trans (hb1.mono hb.size)
  have mw2 := hb1.size
  clear hb1
  have HA2 := lid hA
  have HG2 := lid hG
  clear hA hG
  have q1 := row_cell BT1.out 0
  have q2 := row_cell BT1.out 1
  have q3 := row_cell BT1.out 2
  have q4 := row_lt BT1.out
  go_wp2_with fail
  clear q1 q2 q3 q4
  have lBT1w2 := row_lt BT1.out
  have lBXw2 := row_lt BX.out
  have bw2 : w.heap.size ≤ w2.heap.size := hb.size
  obtain ⟨W2, hW⟩ : ∃ y, w2.alloc (.cells (tcells wU ao2 n2 cap2) 24) = y := ⟨_, rfl⟩
  rw [hW]
  have hbW : Below w2.heap.size w2 W2 := by rw [← hW]; exact ((Below.refl w2.heap.size w2).alloc (Nat.le_refl _) _)
  have gW2 : w2.heap.size + 0 < W2.heap.size := by rw [← hW]; simp only [World.size_alloc]; omega
  have BT2 : Hid (W2.heap[w2.heap.size]? = some (.cells (tcells wU ao2 n2 cap2) 24 (0, 0))) := lid (by
    rw [← hW]
    have := heap_alloc_new w2 (.cells (tcells wU ao2 n2 cap2) 24)
    exact this)
  clear hW
  replace HA1 := lid (HA1.out.below hbW)
  replace BT1 := lid ((hbW.block _ (row_lt BT1.out)).trans BT1.out)
  replace BX := lid ((hbW.block _ (row_lt BX.out)).trans BX.out)
  replace HA2 := lid (HA2.out.below hbW)
  replace HG2 := lid (HG2.out.below hbW)
  replace hb := hb.trans (hbW.mono hb.size)
  have mW2 := hbW.size
  clear hbW
  have C3 : Hid (Calls Try.prog 18 #[.agg (tcells wT1 ao1 n1 cap1), .int .i64 8] W2 fun e w' => AdvR wG [wX] 0 W2 e w') := lid (by
    have := advance_any wT1 ao1 n1 cap1 8 W2 HA1.out.A HA1.out.le HA1.out.z
    rw [wk_3.1, wk_3.2.1, wk_3.2.2] at this
    exact this)
  (with_reducible refine (C3.out).mono ?_); rintro e w3 ⟨_, _, rfl, ⟨ao3, n3, cap3, rfl, hA⟩, ⟨aog3, ng3, capg3, rfl, hG⟩, hb1⟩
  clear C3
  replace HA1 := lid (HA1.out.below hb1)
  replace BT1 := lid ((hb1.block _ (row_lt BT1.out)).trans BT1.out)
  replace BX := lid ((hb1.block _ (row_lt BX.out)).trans BX.out)
  replace HA2 := lid (HA2.out.below hb1)
  replace HG2 := lid (HG2.out.below hb1)
  replace BT2 := lid ((hb1.block _ (row_lt BT2.out)).trans BT2.out)
  replace hb := hb.trans (hb1.mono hb.size)
  have mw3 := hb1.size
  clear hb1
  have HA3 := lid hA
  have HG3 := lid hG
  clear hA hG
  have q5 := row_cell BT1.out 0
  have q6 := row_cell BT1.out 1
  have q7 := row_cell BT1.out 2
  have q8 := row_lt BT1.out
  go_wp2_with fail
  clear q5 q6 q7 q8
  have lBT1w3 := row_lt BT1.out
  have lBXw3 := row_lt BX.out
  have lBT2w3 := row_lt BT2.out
  have bw3 : w.heap.size ≤ w3.heap.size := hb.size
  obtain ⟨W3, hW⟩ : ∃ y, w3.alloc (.cells (tcells wG ao3 n3 cap3) 24) = y := ⟨_, rfl⟩
  rw [hW]
  have hbW : Below w3.heap.size w3 W3 := by rw [← hW]; exact ((Below.refl w3.heap.size w3).alloc (Nat.le_refl _) _)
  have gW3 : w3.heap.size + 0 < W3.heap.size := by rw [← hW]; simp only [World.size_alloc]; omega
  have BT3 : Hid (W3.heap[w3.heap.size]? = some (.cells (tcells wG ao3 n3 cap3) 24 (0, 0))) := lid (by
    rw [← hW]
    have := heap_alloc_new w3 (.cells (tcells wG ao3 n3 cap3) 24)
    exact this)
  clear hW
  replace HA1 := lid (HA1.out.below hbW)
  replace BT1 := lid ((hbW.block _ (row_lt BT1.out)).trans BT1.out)
  replace BX := lid ((hbW.block _ (row_lt BX.out)).trans BX.out)
  replace HA2 := lid (HA2.out.below hbW)
  replace HG2 := lid (HG2.out.below hbW)
  replace BT2 := lid ((hbW.block _ (row_lt BT2.out)).trans BT2.out)
  replace HA3 := lid (HA3.out.below hbW)
  replace HG3 := lid (HG3.out.below hbW)
  replace hb := hb.trans (hbW.mono hb.size)
  have mW3 := hbW.size
  clear hbW
  have C4 : Hid (Calls Try.prog 18 #[.agg (tcells wT1 ao1 n1 cap1), .int .i64 6] W3 fun e w' => AdvR wV [] 0 W3 e w') := lid (by
    have := advance_any wT1 ao1 n1 cap1 6 W3 HA1.out.A HA1.out.le HA1.out.z
    rw [wk_4.1, wk_4.2.1, wk_4.2.2] at this
    exact this)
  (with_reducible refine (C4.out).mono ?_); rintro e w4 ⟨_, _, rfl, ⟨ao4, n4, cap4, rfl, hA⟩, ⟨aog4, ng4, capg4, rfl, hG⟩, hb1⟩
  clear C4
  replace HA1 := lid (HA1.out.below hb1)
  replace BT1 := lid ((hb1.block _ (row_lt BT1.out)).trans BT1.out)
  replace BX := lid ((hb1.block _ (row_lt BX.out)).trans BX.out)
  replace HA2 := lid (HA2.out.below hb1)
  replace HG2 := lid (HG2.out.below hb1)
  replace BT2 := lid ((hb1.block _ (row_lt BT2.out)).trans BT2.out)
  replace HA3 := lid (HA3.out.below hb1)
  replace HG3 := lid (HG3.out.below hb1)
  replace BT3 := lid ((hb1.block _ (row_lt BT3.out)).trans BT3.out)
  replace hb := hb.trans (hb1.mono hb.size)
  have mw4 := hb1.size
  clear hb1
  have HA4 := lid hA
  have HG4 := lid hG
  clear hA hG
  have q9 := row_cell BX.out 0
  have q10 := row_cell BX.out 1
  have q11 := row_cell BX.out 2
  have q12 := row_cell BX.out 3
  have q13 := row_cell BX.out 4
  have q14 := row_lt BX.out
  go_wp2_with fail
  clear q9 q10 q11 q12 q13 q14
  have new4HA1 := lid HA1.out.hi
  have new4HA2 := lid HA2.out.hi
  have new4HG2 := lid HG2.out.hi
  have new4HA3 := lid HA3.out.hi
  have new4HG3 := lid HG3.out.hi
  have new4HA4 := lid HA4.out.hi
  have new4HG4 := lid HG4.out.hi
  have lBT1w4 := row_lt BT1.out
  have lBXw4 := row_lt BX.out
  have lBT2w4 := row_lt BT2.out
  have lBT3w4 := row_lt BT3.out
  have bw4 : w.heap.size ≤ w4.heap.size := hb.size
  obtain ⟨W4, hW⟩ : ∃ y, w4.alloc (.cells (tcells wV ao4 n4 cap4) 24) = y := ⟨_, rfl⟩
  rw [hW]
  have hbW : Below w4.heap.size w4 W4 := by rw [← hW]; exact ((Below.refl w4.heap.size w4).alloc (Nat.le_refl _) _)
  have gW4 : w4.heap.size + 0 < W4.heap.size := by rw [← hW]; simp only [World.size_alloc]; omega
  have BT4 : Hid (W4.heap[w4.heap.size]? = some (.cells (tcells wV ao4 n4 cap4) 24 (0, 0))) := lid (by
    rw [← hW]
    have := heap_alloc_new w4 (.cells (tcells wV ao4 n4 cap4) 24)
    exact this)
  clear hW
  replace HA1 := lid (HA1.out.below hbW)
  replace BT1 := lid ((hbW.block _ (row_lt BT1.out)).trans BT1.out)
  replace BX := lid ((hbW.block _ (row_lt BX.out)).trans BX.out)
  replace HA2 := lid (HA2.out.below hbW)
  replace HG2 := lid (HG2.out.below hbW)
  replace BT2 := lid ((hbW.block _ (row_lt BT2.out)).trans BT2.out)
  replace HA3 := lid (HA3.out.below hbW)
  replace HG3 := lid (HG3.out.below hbW)
  replace BT3 := lid ((hbW.block _ (row_lt BT3.out)).trans BT3.out)
  replace HA4 := lid (HA4.out.below hbW)
  replace HG4 := lid (HG4.out.below hbW)
  replace hb := hb.trans (hbW.mono hb.size)
  have mW4 := hbW.size
  clear hbW
  have C5 : Hid (Calls Try.prog 19 #[.agg (tcells wV ao4 n4 cap4), .agg (lzc wX), .int .i64 4] W4 fun e w' => GrR wV2 wY 0 W4 e w') := lid (by
    have := renew_any wV ao4 n4 cap4 wX 4 W4 HA4.out.A HA4.out.le HA4.out.z ann_size
    rw [wk_5.1, wk_5.2.1, wk_5.2.2] at this
    exact this)
  (with_reducible refine (C5.out).mono ?_); rintro e w5 ⟨_, rfl, ⟨ao5, n5, cap5, rfl, hA⟩, hb1⟩
  clear C5
  replace HA1 := lid (HA1.out.below hb1)
  replace BT1 := lid ((hb1.block _ (row_lt BT1.out)).trans BT1.out)
  replace BX := lid ((hb1.block _ (row_lt BX.out)).trans BX.out)
  replace HA2 := lid (HA2.out.below hb1)
  replace HG2 := lid (HG2.out.below hb1)
  replace BT2 := lid ((hb1.block _ (row_lt BT2.out)).trans BT2.out)
  replace HA3 := lid (HA3.out.below hb1)
  replace HG3 := lid (HG3.out.below hb1)
  replace BT3 := lid ((hb1.block _ (row_lt BT3.out)).trans BT3.out)
  replace HA4 := lid (HA4.out.below hb1)
  replace HG4 := lid (HG4.out.below hb1)
  replace BT4 := lid ((hb1.block _ (row_lt BT4.out)).trans BT4.out)
  replace hb := hb.trans (hb1.mono hb.size)
  have mw5 := hb1.size
  clear hb1
  have HA5 := lid hA
  clear hA
  have q15 := row_cell BT4.out 0
  have q16 := row_cell BT4.out 1
  have q17 := row_cell BT4.out 2
  have q18 := row_fz BT4.out 0
  have q19 := row_fz BT4.out 1
  have q20 := row_fz BT4.out 2
  have q21 := row_lt BT4.out
  go_wp2_with fail
  clear q15 q16 q17 q18 q19 q20 q21
  have lq := row_lt BT4.out
  obtain ⟨w6, hW⟩ : ∃ y, ((w5.setCell ⟨w4.heap.size, 0, none⟩ (.int .i64 wV2.clock)).setCell ⟨w4.heap.size, 1, none⟩ (.int .i64 wV2.epoch)).setCell ⟨w4.heap.size, 2, none⟩ (.slice ao5 n5 cap5) = y := ⟨_, rfl⟩
  rw [hW]
  have zw6 : Hid (w6.heap.size = w5.heap.size) := lid (by rw [← hW]; simp only [World.size_setCell])
  have gw6 : w5.heap.size ≤ w6.heap.size := by rw [zw6.out]; exact Nat.le_refl _
  replace HA1 := lid ((((HA1.out.setHi (X := w4.heap.size) (o := 0) (u := (.int .i64 wV2.clock)) new4HA1.out (by omega)).setHi (X := w4.heap.size) (o := 1) (u := (.int .i64 wV2.epoch)) new4HA1.out (by omega)).setHi (X := w4.heap.size) (o := 2) (u := (.slice ao5 n5 cap5)) new4HA1.out (by omega)))
  rw [hW] at HA1
  replace BT1 : Hid (w6.heap[w1.heap.size]? = some (.cells (tcells wT1 ao1 n1 cap1) 24 (0, 0))) := lid (by rw [← hW]; exact row_other (row_other (row_other BT1.out (by omega)) (by omega)) (by omega))
  replace BX : Hid (w6.heap[w1.heap.size + 1]? = some (.cells (lzc wX) 31 (0, 0))) := lid (by rw [← hW]; exact row_other (row_other (row_other BX.out (by omega)) (by omega)) (by omega))
  replace HA2 := lid ((((HA2.out.setHi (X := w4.heap.size) (o := 0) (u := (.int .i64 wV2.clock)) new4HA2.out (by omega)).setHi (X := w4.heap.size) (o := 1) (u := (.int .i64 wV2.epoch)) new4HA2.out (by omega)).setHi (X := w4.heap.size) (o := 2) (u := (.slice ao5 n5 cap5)) new4HA2.out (by omega)))
  rw [hW] at HA2
  replace HG2 := lid ((((HG2.out.setHi (X := w4.heap.size) (o := 0) (u := (.int .i64 wV2.clock)) new4HG2.out (by omega)).setHi (X := w4.heap.size) (o := 1) (u := (.int .i64 wV2.epoch)) new4HG2.out (by omega)).setHi (X := w4.heap.size) (o := 2) (u := (.slice ao5 n5 cap5)) new4HG2.out (by omega)))
  rw [hW] at HG2
  replace BT2 : Hid (w6.heap[w2.heap.size]? = some (.cells (tcells wU ao2 n2 cap2) 24 (0, 0))) := lid (by rw [← hW]; exact row_other (row_other (row_other BT2.out (by omega)) (by omega)) (by omega))
  replace HA3 := lid ((((HA3.out.setHi (X := w4.heap.size) (o := 0) (u := (.int .i64 wV2.clock)) new4HA3.out (by omega)).setHi (X := w4.heap.size) (o := 1) (u := (.int .i64 wV2.epoch)) new4HA3.out (by omega)).setHi (X := w4.heap.size) (o := 2) (u := (.slice ao5 n5 cap5)) new4HA3.out (by omega)))
  rw [hW] at HA3
  replace HG3 := lid ((((HG3.out.setHi (X := w4.heap.size) (o := 0) (u := (.int .i64 wV2.clock)) new4HG3.out (by omega)).setHi (X := w4.heap.size) (o := 1) (u := (.int .i64 wV2.epoch)) new4HG3.out (by omega)).setHi (X := w4.heap.size) (o := 2) (u := (.slice ao5 n5 cap5)) new4HG3.out (by omega)))
  rw [hW] at HG3
  replace BT3 : Hid (w6.heap[w3.heap.size]? = some (.cells (tcells wG ao3 n3 cap3) 24 (0, 0))) := lid (by rw [← hW]; exact row_other (row_other (row_other BT3.out (by omega)) (by omega)) (by omega))
  replace HA4 := lid ((((HA4.out.setHi (X := w4.heap.size) (o := 0) (u := (.int .i64 wV2.clock)) new4HA4.out (by omega)).setHi (X := w4.heap.size) (o := 1) (u := (.int .i64 wV2.epoch)) new4HA4.out (by omega)).setHi (X := w4.heap.size) (o := 2) (u := (.slice ao5 n5 cap5)) new4HA4.out (by omega)))
  rw [hW] at HA4
  replace HG4 := lid ((((HG4.out.setHi (X := w4.heap.size) (o := 0) (u := (.int .i64 wV2.clock)) new4HG4.out (by omega)).setHi (X := w4.heap.size) (o := 1) (u := (.int .i64 wV2.epoch)) new4HG4.out (by omega)).setHi (X := w4.heap.size) (o := 2) (u := (.slice ao5 n5 cap5)) new4HG4.out (by omega)))
  rw [hW] at HG4
  replace BT4 : Hid (w6.heap[w4.heap.size]? = some (.cells (tcells wV2 ao5 n5 cap5) 24 (0, 0))) := lid (by rw [← hW]; exact row_set (row_set (row_set BT4.out 0 _) 1 _) 2 _)
  replace HA5 := lid ((((HA5.out.set (X := w4.heap.size) (o := 0) (u := (.int .i64 wV2.clock)) (by omega)).set (X := w4.heap.size) (o := 1) (u := (.int .i64 wV2.epoch)) (by omega)).set (X := w4.heap.size) (o := 2) (u := (.slice ao5 n5 cap5)) (by omega)))
  rw [hW] at HA5
  replace hb : Below w.heap.size w w6 := by rw [← hW]; exact (((hb.setCell (p := ⟨w4.heap.size, 0, none⟩) (by have := hb.size; simp only; omega) _).setCell (p := ⟨w4.heap.size, 1, none⟩) (by have := hb.size; simp only; omega) _).setCell (p := ⟨w4.heap.size, 2, none⟩) (by have := hb.size; simp only; omega) _)
  clear hW
  have lBT1w6 := row_lt BT1.out
  have lBXw6 := row_lt BX.out
  have lBT2w6 := row_lt BT2.out
  have lBT3w6 := row_lt BT3.out
  have lBT4w6 := row_lt BT4.out
  have bw6 : w.heap.size ≤ w6.heap.size := hb.size
  obtain ⟨W6, hW⟩ : ∃ y, w6.alloc (.cells (lzc wY) 31) = y := ⟨_, rfl⟩
  rw [hW]
  have hbW : Below w6.heap.size w6 W6 := by rw [← hW]; exact ((Below.refl w6.heap.size w6).alloc (Nat.le_refl _) _)
  have gW6 : w6.heap.size + 0 < W6.heap.size := by rw [← hW]; simp only [World.size_alloc]; omega
  have BY : Hid (W6.heap[w6.heap.size]? = some (.cells (lzc wY) 31 (0, 0))) := lid (by
    rw [← hW]
    have := heap_alloc_new w6 (.cells (lzc wY) 31)
    exact this)
  clear hW
  replace HA1 := lid (HA1.out.below hbW)
  replace BT1 := lid ((hbW.block _ (row_lt BT1.out)).trans BT1.out)
  replace BX := lid ((hbW.block _ (row_lt BX.out)).trans BX.out)
  replace HA2 := lid (HA2.out.below hbW)
  replace HG2 := lid (HG2.out.below hbW)
  replace BT2 := lid ((hbW.block _ (row_lt BT2.out)).trans BT2.out)
  replace HA3 := lid (HA3.out.below hbW)
  replace HG3 := lid (HG3.out.below hbW)
  replace BT3 := lid ((hbW.block _ (row_lt BT3.out)).trans BT3.out)
  replace HA4 := lid (HA4.out.below hbW)
  replace HG4 := lid (HG4.out.below hbW)
  replace BT4 := lid ((hbW.block _ (row_lt BT4.out)).trans BT4.out)
  replace HA5 := lid (HA5.out.below hbW)
  replace hb := hb.trans (hbW.mono hb.size)
  have mW6 := hbW.size
  clear hbW
  rw [zw6.out] at BY
  have C6 : Hid (Calls Try.prog 18 #[.agg (tcells wV2 ao5 n5 cap5), .int .i64 9] W6 fun e w' => AdvR wW [] 0 W6 e w') := lid (by
    have := advance_any wV2 ao5 n5 cap5 9 W6 HA5.out.A HA5.out.le HA5.out.z
    rw [wk_6.1, wk_6.2.1, wk_6.2.2] at this
    exact this)
  (with_reducible refine (C6.out).mono ?_); rintro e w7 ⟨_, _, rfl, ⟨ao6, n6, cap6, rfl, hA⟩, ⟨aog6, ng6, capg6, rfl, hG⟩, hb1⟩
  clear C6
  replace HA1 := lid (HA1.out.below hb1)
  replace BT1 := lid ((hb1.block _ (row_lt BT1.out)).trans BT1.out)
  replace BX := lid ((hb1.block _ (row_lt BX.out)).trans BX.out)
  replace HA2 := lid (HA2.out.below hb1)
  replace HG2 := lid (HG2.out.below hb1)
  replace BT2 := lid ((hb1.block _ (row_lt BT2.out)).trans BT2.out)
  replace HA3 := lid (HA3.out.below hb1)
  replace HG3 := lid (HG3.out.below hb1)
  replace BT3 := lid ((hb1.block _ (row_lt BT3.out)).trans BT3.out)
  replace HA4 := lid (HA4.out.below hb1)
  replace HG4 := lid (HG4.out.below hb1)
  replace BT4 := lid ((hb1.block _ (row_lt BT4.out)).trans BT4.out)
  replace HA5 := lid (HA5.out.below hb1)
  replace BY := lid ((hb1.block _ (row_lt BY.out)).trans BY.out)
  replace hb := hb.trans (hb1.mono hb.size)
  have mw7 := hb1.size
  clear hb1
  have HA6 := lid hA
  have HG6 := lid hG
  clear hA hG
  have q22 := row_cell BT1.out 0
  have q23 := row_cell BT1.out 1
  have q24 := row_cell BT1.out 2
  have q25 := row_cell BX.out 0
  have q26 := row_cell BX.out 1
  have q27 := row_cell BX.out 2
  have q28 := row_cell BX.out 3
  have q29 := row_cell BX.out 4
  have q30 := row_lt BT1.out
  have q31 := row_lt BX.out
  go_wp2_with fail
  clear q22 q23 q24 q25 q26 q27 q28 q29 q30 q31
  have lBT1w7 := row_lt BT1.out
  have lBXw7 := row_lt BX.out
  have lBT2w7 := row_lt BT2.out
  have lBT3w7 := row_lt BT3.out
  have lBT4w7 := row_lt BT4.out
  have lBYw7 := row_lt BY.out
  have bw7 : w.heap.size ≤ w7.heap.size := hb.size
  obtain ⟨W7, hW⟩ : ∃ y, w7.alloc (.cells (tcells wW ao6 n6 cap6) 24) = y := ⟨_, rfl⟩
  rw [hW]
  have hbW : Below w7.heap.size w7 W7 := by rw [← hW]; exact ((Below.refl w7.heap.size w7).alloc (Nat.le_refl _) _)
  have gW7 : w7.heap.size + 0 < W7.heap.size := by rw [← hW]; simp only [World.size_alloc]; omega
  have BT6 : Hid (W7.heap[w7.heap.size]? = some (.cells (tcells wW ao6 n6 cap6) 24 (0, 0))) := lid (by
    rw [← hW]
    have := heap_alloc_new w7 (.cells (tcells wW ao6 n6 cap6) 24)
    exact this)
  clear hW
  replace HA1 := lid (HA1.out.below hbW)
  replace BT1 := lid ((hbW.block _ (row_lt BT1.out)).trans BT1.out)
  replace BX := lid ((hbW.block _ (row_lt BX.out)).trans BX.out)
  replace HA2 := lid (HA2.out.below hbW)
  replace HG2 := lid (HG2.out.below hbW)
  replace BT2 := lid ((hbW.block _ (row_lt BT2.out)).trans BT2.out)
  replace HA3 := lid (HA3.out.below hbW)
  replace HG3 := lid (HG3.out.below hbW)
  replace BT3 := lid ((hbW.block _ (row_lt BT3.out)).trans BT3.out)
  replace HA4 := lid (HA4.out.below hbW)
  replace HG4 := lid (HG4.out.below hbW)
  replace BT4 := lid ((hbW.block _ (row_lt BT4.out)).trans BT4.out)
  replace HA5 := lid (HA5.out.below hbW)
  replace BY := lid ((hbW.block _ (row_lt BY.out)).trans BY.out)
  replace HA6 := lid (HA6.out.below hbW)
  replace HG6 := lid (HG6.out.below hbW)
  replace hb := hb.trans (hbW.mono hb.size)
  have mW7 := hbW.size
  clear hbW
  have D1 : Hid (Calls Try.prog 17 #[.agg (tcells wT1 ao1 n1 cap1), .agg (lzc wX)] W7 fun e w' => e = .returned (.bool true) ∧ Below W7.heap.size W7 w') := lid (by
    have := holds_any wT1 ao1 n1 cap1 wX W7 HA1.out.A HA1.out.le
    rw [wk_7] at this
    exact this)
  (with_reducible refine (D1.out).mono ?_); rintro e w8 ⟨rfl, hb1⟩
  clear D1
  replace HA1 := lid (HA1.out.below hb1)
  replace BT1 := lid ((hb1.block _ (row_lt BT1.out)).trans BT1.out)
  replace BX := lid ((hb1.block _ (row_lt BX.out)).trans BX.out)
  replace HA2 := lid (HA2.out.below hb1)
  replace HG2 := lid (HG2.out.below hb1)
  replace BT2 := lid ((hb1.block _ (row_lt BT2.out)).trans BT2.out)
  replace HA3 := lid (HA3.out.below hb1)
  replace HG3 := lid (HG3.out.below hb1)
  replace BT3 := lid ((hb1.block _ (row_lt BT3.out)).trans BT3.out)
  replace HA4 := lid (HA4.out.below hb1)
  replace HG4 := lid (HG4.out.below hb1)
  replace BT4 := lid ((hb1.block _ (row_lt BT4.out)).trans BT4.out)
  replace HA5 := lid (HA5.out.below hb1)
  replace BY := lid ((hb1.block _ (row_lt BY.out)).trans BY.out)
  replace HA6 := lid (HA6.out.below hb1)
  replace HG6 := lid (HG6.out.below hb1)
  replace BT6 := lid ((hb1.block _ (row_lt BT6.out)).trans BT6.out)
  replace hb := hb.trans (hb1.mono hb.size)
  have mw8 := hb1.size
  clear hb1
  have q32 := row_cell BT2.out 0
  have q33 := row_cell BT2.out 1
  have q34 := row_cell BT2.out 2
  have q35 := row_cell BX.out 0
  have q36 := row_cell BX.out 1
  have q37 := row_cell BX.out 2
  have q38 := row_cell BX.out 3
  have q39 := row_cell BX.out 4
  have q40 := row_lt BT2.out
  have q41 := row_lt BX.out
  go_wp2_with fail
  clear q32 q33 q34 q35 q36 q37 q38 q39 q40 q41
  have D2 : Hid (Calls Try.prog 17 #[.agg (tcells wU ao2 n2 cap2), .agg (lzc wX)] w8 fun e w' => e = .returned (.bool true) ∧ Below w8.heap.size w8 w') := lid (by
    have := holds_any wU ao2 n2 cap2 wX w8 HA2.out.A HA2.out.le
    rw [wk_8] at this
    exact this)
  (with_reducible refine (D2.out).mono ?_); rintro e w9 ⟨rfl, hb1⟩
  clear D2
  replace HA1 := lid (HA1.out.below hb1)
  replace BT1 := lid ((hb1.block _ (row_lt BT1.out)).trans BT1.out)
  replace BX := lid ((hb1.block _ (row_lt BX.out)).trans BX.out)
  replace HA2 := lid (HA2.out.below hb1)
  replace HG2 := lid (HG2.out.below hb1)
  replace BT2 := lid ((hb1.block _ (row_lt BT2.out)).trans BT2.out)
  replace HA3 := lid (HA3.out.below hb1)
  replace HG3 := lid (HG3.out.below hb1)
  replace BT3 := lid ((hb1.block _ (row_lt BT3.out)).trans BT3.out)
  replace HA4 := lid (HA4.out.below hb1)
  replace HG4 := lid (HG4.out.below hb1)
  replace BT4 := lid ((hb1.block _ (row_lt BT4.out)).trans BT4.out)
  replace HA5 := lid (HA5.out.below hb1)
  replace BY := lid ((hb1.block _ (row_lt BY.out)).trans BY.out)
  replace HA6 := lid (HA6.out.below hb1)
  replace HG6 := lid (HG6.out.below hb1)
  replace BT6 := lid ((hb1.block _ (row_lt BT6.out)).trans BT6.out)
  replace hb := hb.trans (hb1.mono hb.size)
  have mw9 := hb1.size
  clear hb1
  have q42 := row_cell BX.out 0
  have q43 := row_cell BX.out 1
  have q44 := row_cell BX.out 2
  have q45 := row_cell BX.out 3
  have q46 := row_cell BX.out 4
  have q47 := row_lt BX.out
  go_wp2_with fail
  clear q42 q43 q44 q45 q46 q47
  have lBT1w9 := row_lt BT1.out
  have lBXw9 := row_lt BX.out
  have lBT2w9 := row_lt BT2.out
  have lBT3w9 := row_lt BT3.out
  have lBT4w9 := row_lt BT4.out
  have lBYw9 := row_lt BY.out
  have lBT6w9 := row_lt BT6.out
  have bw9 : w.heap.size ≤ w9.heap.size := hb.size
  obtain ⟨W9, hW⟩ : ∃ y, w9.alloc (.cells (lzc wX) 31) = y := ⟨_, rfl⟩
  rw [hW]
  have hbW : Below w9.heap.size w9 W9 := by rw [← hW]; exact ((Below.refl w9.heap.size w9).alloc (Nat.le_refl _) _)
  have gW9 : w9.heap.size + 0 < W9.heap.size := by rw [← hW]; simp only [World.size_alloc]; omega
  have BL : Hid (W9.heap[w9.heap.size]? = some (.cells (lzc wX) 31 (0, 0))) := lid (by
    rw [← hW]
    have := heap_alloc_new w9 (.cells (lzc wX) 31)
    exact this)
  clear hW
  replace HA1 := lid (HA1.out.below hbW)
  replace BT1 := lid ((hbW.block _ (row_lt BT1.out)).trans BT1.out)
  replace BX := lid ((hbW.block _ (row_lt BX.out)).trans BX.out)
  replace HA2 := lid (HA2.out.below hbW)
  replace HG2 := lid (HG2.out.below hbW)
  replace BT2 := lid ((hbW.block _ (row_lt BT2.out)).trans BT2.out)
  replace HA3 := lid (HA3.out.below hbW)
  replace HG3 := lid (HG3.out.below hbW)
  replace BT3 := lid ((hbW.block _ (row_lt BT3.out)).trans BT3.out)
  replace HA4 := lid (HA4.out.below hbW)
  replace HG4 := lid (HG4.out.below hbW)
  replace BT4 := lid ((hbW.block _ (row_lt BT4.out)).trans BT4.out)
  replace HA5 := lid (HA5.out.below hbW)
  replace BY := lid ((hbW.block _ (row_lt BY.out)).trans BY.out)
  replace HA6 := lid (HA6.out.below hbW)
  replace HG6 := lid (HG6.out.below hbW)
  replace BT6 := lid ((hbW.block _ (row_lt BT6.out)).trans BT6.out)
  replace hb := hb.trans (hbW.mono hb.size)
  have mW9 := hbW.size
  clear hbW
  have CS : Hid (Calls Try.prog 24 #[.slice aog3 ng3 capg3, .slice (some ⟨w9.heap.size, 0, none⟩) 1 1] W9 fun e w' => e = .returned (.bool true) ∧ Below W9.heap.size W9 w') := lid (by
    have h1 := HG3.out.len
    have := SameLeases_any [wX] [wX] ng3 capg3 1 1 aog3 (some ⟨w9.heap.size, 0, none⟩) W9 HG3.out.len rfl HG3.out.sl (sl_one5 BL.out rfl) (by simp at h1; omega) (by omega)
    rw [show decide ([wX] = [wX]) = true from decide_eq_true rfl] at this
    exact this)
  (with_reducible refine (CS.out).mono ?_); rintro e w10 ⟨rfl, hb1⟩
  clear CS
  replace HA1 := lid (HA1.out.below hb1)
  replace BT1 := lid ((hb1.block _ (row_lt BT1.out)).trans BT1.out)
  replace BX := lid ((hb1.block _ (row_lt BX.out)).trans BX.out)
  replace HA2 := lid (HA2.out.below hb1)
  replace HG2 := lid (HG2.out.below hb1)
  replace BT2 := lid ((hb1.block _ (row_lt BT2.out)).trans BT2.out)
  replace HA3 := lid (HA3.out.below hb1)
  replace HG3 := lid (HG3.out.below hb1)
  replace BT3 := lid ((hb1.block _ (row_lt BT3.out)).trans BT3.out)
  replace HA4 := lid (HA4.out.below hb1)
  replace HG4 := lid (HG4.out.below hb1)
  replace BT4 := lid ((hb1.block _ (row_lt BT4.out)).trans BT4.out)
  replace HA5 := lid (HA5.out.below hb1)
  replace BY := lid ((hb1.block _ (row_lt BY.out)).trans BY.out)
  replace HA6 := lid (HA6.out.below hb1)
  replace HG6 := lid (HG6.out.below hb1)
  replace BT6 := lid ((hb1.block _ (row_lt BT6.out)).trans BT6.out)
  replace BL := lid ((hb1.block _ (row_lt BL.out)).trans BL.out)
  replace hb := hb.trans (hb1.mono hb.size)
  have mw10 := hb1.size
  clear hb1
  have q48 := row_cell BT4.out 0
  have q49 := row_cell BT4.out 1
  have q50 := row_cell BT4.out 2
  have q51 := row_cell BX.out 0
  have q52 := row_cell BX.out 1
  have q53 := row_cell BX.out 2
  have q54 := row_cell BX.out 3
  have q55 := row_cell BX.out 4
  have q56 := row_lt BT4.out
  have q57 := row_lt BX.out
  go_wp2_with fail
  clear q48 q49 q50 q51 q52 q53 q54 q55 q56 q57
  have D3 : Hid (Calls Try.prog 17 #[.agg (tcells wV2 ao5 n5 cap5), .agg (lzc wX)] w10 fun e w' => e = .returned (.bool false) ∧ Below w10.heap.size w10 w') := lid (by
    have := holds_any wV2 ao5 n5 cap5 wX w10 HA5.out.A HA5.out.le
    rw [wk_9] at this
    exact this)
  (with_reducible refine (D3.out).mono ?_); rintro e w11 ⟨rfl, hb1⟩
  clear D3
  replace HA1 := lid (HA1.out.below hb1)
  replace BT1 := lid ((hb1.block _ (row_lt BT1.out)).trans BT1.out)
  replace BX := lid ((hb1.block _ (row_lt BX.out)).trans BX.out)
  replace HA2 := lid (HA2.out.below hb1)
  replace HG2 := lid (HG2.out.below hb1)
  replace BT2 := lid ((hb1.block _ (row_lt BT2.out)).trans BT2.out)
  replace HA3 := lid (HA3.out.below hb1)
  replace HG3 := lid (HG3.out.below hb1)
  replace BT3 := lid ((hb1.block _ (row_lt BT3.out)).trans BT3.out)
  replace HA4 := lid (HA4.out.below hb1)
  replace HG4 := lid (HG4.out.below hb1)
  replace BT4 := lid ((hb1.block _ (row_lt BT4.out)).trans BT4.out)
  replace HA5 := lid (HA5.out.below hb1)
  replace BY := lid ((hb1.block _ (row_lt BY.out)).trans BY.out)
  replace HA6 := lid (HA6.out.below hb1)
  replace HG6 := lid (HG6.out.below hb1)
  replace BT6 := lid ((hb1.block _ (row_lt BT6.out)).trans BT6.out)
  replace BL := lid ((hb1.block _ (row_lt BL.out)).trans BL.out)
  replace hb := hb.trans (hb1.mono hb.size)
  have mw11 := hb1.size
  clear hb1
  have q58 := row_cell BT6.out 0
  have q59 := row_cell BT6.out 1
  have q60 := row_cell BT6.out 2
  have q61 := row_cell BY.out 0
  have q62 := row_cell BY.out 1
  have q63 := row_cell BY.out 2
  have q64 := row_cell BY.out 3
  have q65 := row_cell BY.out 4
  have q66 := row_lt BT6.out
  have q67 := row_lt BY.out
  go_wp2_with fail
  clear q58 q59 q60 q61 q62 q63 q64 q65 q66 q67
  have D4 : Hid (Calls Try.prog 17 #[.agg (tcells wW ao6 n6 cap6), .agg (lzc wY)] w11 fun e w' => e = .returned (.bool true) ∧ Below w11.heap.size w11 w') := lid (by
    have := holds_any wW ao6 n6 cap6 wY w11 HA6.out.A HA6.out.le
    rw [wk_10] at this
    exact this)
  (with_reducible refine (D4.out).mono ?_); rintro e w12 ⟨rfl, hb1⟩
  clear D4
  replace HA1 := lid (HA1.out.below hb1)
  replace BT1 := lid ((hb1.block _ (row_lt BT1.out)).trans BT1.out)
  replace BX := lid ((hb1.block _ (row_lt BX.out)).trans BX.out)
  replace HA2 := lid (HA2.out.below hb1)
  replace HG2 := lid (HG2.out.below hb1)
  replace BT2 := lid ((hb1.block _ (row_lt BT2.out)).trans BT2.out)
  replace HA3 := lid (HA3.out.below hb1)
  replace HG3 := lid (HG3.out.below hb1)
  replace BT3 := lid ((hb1.block _ (row_lt BT3.out)).trans BT3.out)
  replace HA4 := lid (HA4.out.below hb1)
  replace HG4 := lid (HG4.out.below hb1)
  replace BT4 := lid ((hb1.block _ (row_lt BT4.out)).trans BT4.out)
  replace HA5 := lid (HA5.out.below hb1)
  replace BY := lid ((hb1.block _ (row_lt BY.out)).trans BY.out)
  replace HA6 := lid (HA6.out.below hb1)
  replace HG6 := lid (HG6.out.below hb1)
  replace BT6 := lid ((hb1.block _ (row_lt BT6.out)).trans BT6.out)
  replace BL := lid ((hb1.block _ (row_lt BL.out)).trans BL.out)
  replace hb := hb.trans (hb1.mono hb.size)
  have mw12 := hb1.size
  clear hb1
  have hY : wY.2.2.1 = 10 := rfl
  have q68 := row_cell BY.out 0
  have q69 := row_cell BY.out 1
  have q70 := row_cell BY.out 2
  have q71 := row_cell BY.out 3
  have q72 := row_cell BY.out 4
  have q73 := row_lt BY.out
  go_wp2_with fail
  go_ret
  exact ⟨rfl, hb⟩
end Go.Proofs.Ytghkldodceamcaa

namespace Go.Proofs.Ytghkldodceamcaa
open Go.RowKit

def smallLs (t : Ls) : Bool := decide (t.l.length ≤ 12) && t.l.all fun x => decide (x.2.1.size ≤ 100)
theorem smallLs_no {t : Ls} {x : Lz} (hx : x ∈ t.l) (h : ¬ x.2.1.size ≤ 100) : smallLs t = false := by
  unfold smallLs
  rw [Bool.and_eq_false_iff]
  right
  rw [List.all_eq_false]
  exact ⟨x, hx, by simpa using h⟩
set_option maxRecDepth 100000 in
set_option maxHeartbeats 4000000 in
theorem leaGreat_any (t : Ls) (ao : Option Addr) (n cap : Nat) (w : World) (h : LsA w ao n t) :
    Calls Try.prog 10 #[.agg (tcells t ao n cap)] w fun e w' => e = .returned (.bool (!smallLs t)) ∧ Below w.heap.size w w' := by
  have hb0 := ba w (Obj.cells (tcells t ao n cap) 24)
  have HB0 := LBox.new w t ao n cap 24
  obtain ⟨W, hW⟩ : ∃ W, w.alloc (Obj.cells (tcells t ao n cap) 24) = W := ⟨_, rfl⟩
  rw [hW] at hb0 HB0
  have HW := lid hW
  have HX := lid HB0
  have HA := lid (h.below hb0)
  have HN := lid h.len
  have hn' : n ≤ 9223372036854775807 := h.max
  have Hb := lid hb0
  obtain ⟨l0, c0, c1, c2⟩ := HX.out
  rw [← HW.out] at c0 c1 c2
  clear hW HB0 h hb0
  by_cases h12 : 12 < n
  case pos =>
    have HV : Hid ((!smallLs t) = true) := lid (by have := HN.out; unfold smallLs; rw [decide_eq_false (by omega)]; rfl)
    have u1 : decide ((12 : Int) < (n : Int)) = true := by simp; omega
    go_enter Try.func10, Try.ntmps10
    go_wp2_with fail
    rw [HW.out]
    go_ret
    exact ⟨ret_bool HV.out.symm, Hb.out⟩
  have u1 : decide ((12 : Int) < (n : Int)) = false := by simp; omega
  go_enter Try.func10, Try.ntmps10
  go_wp2_with fail
  rw [HW.out]
  clear HW c0 c1 c2
  go_loopw [3] (fun i wr => ∃ k : Nat, k ≤ n ∧ i = .int .i64 k ∧ Hid ((t.l.take k).all (fun x => decide (x.2.1.size ≤ 100)) = true) ∧ Below W.heap.size W wr) (fun i _ => n - (intOf i).toNat)
  case atStart => exact ⟨0, Nat.zero_le _, rfl, lid rfl, Below.refl _ _⟩
  case round =>
    obtain ⟨k, hk, rfl, HT, hb⟩ := hrel
    obtain ⟨l0', c0, c1, c2⟩ := HX.out.below hb
    by_cases hlt : k < n
    · have hkl : k < t.l.length := by rw [HN.out]; exact hlt
      obtain ⟨b1, o1, rfl, hlb, hcell⟩ := (HA.out.sl.below hb).at_ hlt
      have x2 := hcell (k * 5 + 2) _ (lzcells_at hkl).2.2.1
      rw [← Nat.add_assoc] at x2
      have dk : decide ((k : Int) < (n : Int)) = true := by simp; omega
      have HTS := lid (List.take_succ_eq_append_getElem hkl)
      have HNO := lid (fun h => smallLs_no (t := t) (List.getElem_mem hkl) h)
      obtain ⟨x, hx⟩ : ∃ x, t.l[k] = x := ⟨_, rfl⟩
      rw [hx] at x2 HTS HNO
      clear hx hcell
      by_cases hs : x.2.1.size ≤ 100
      · have u2 : decide ((100 : Int) < (x.2.1.size : Int)) = false := by simp; omega
        have HT2 : Hid ((t.l.take (k + 1)).all (fun x => decide (x.2.1.size ≤ 100)) = true) := lid (by rw [HTS.out, List.all_append, HT.out]; simpa using hs)
        clear hs
        go_wp2_with fail
        go_roundw
        case rel => exact ⟨k + 1, by omega, by go_num, HT2, hb⟩
        case measure => simp [intOf]; omega
      · have u2 : decide ((100 : Int) < (x.2.1.size : Int)) = true := by simp; omega
        have HV : Hid ((!smallLs t) = true) := lid (by rw [HNO.out hs]; rfl)
        clear hs
        go_wp2_with fail
        go_ret
        exact ⟨ret_bool HV.out.symm, Hb.out.trans (hb.mono Hb.out.size)⟩
    · obtain rfl : k = n := by omega
      have HV : Hid ((!smallLs t) = false) := lid (by
        have e := HN.out
        have h2 := HT.out
        rw [List.take_of_length_le (by omega)] at h2
        unfold smallLs
        rw [h2, decide_eq_true (by omega)]
        rfl)
      have dk : decide ((k : Int) < (k : Int)) = false := by simp
      go_wp2_with fail
      go_ret
      exact ⟨ret_bool HV.out.symm, Hb.out.trans (hb.mono Hb.out.size)⟩
end Go.Proofs.Ytghkldodceamcaa
