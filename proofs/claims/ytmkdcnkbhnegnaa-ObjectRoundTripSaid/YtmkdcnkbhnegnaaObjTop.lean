/-
  Check of both, Encode of the reference, Name of both.
-/
import Derived.Test.YtmkdcnkbhnegnaaObjEncode
import Derived.Test.YtmkdcnkbhnegnaaDigRefOf
namespace Go.Proofs.Ytmkdcnkbhnegnaa
open Go.RowKit

theorem two_set {w : World} {b : Nat} {x y : Value} (u v : Value) (h0 : w.cell? ⟨b, 0, none⟩ = some x) (h1 : w.cell? ⟨b, 1, none⟩ = some y) :
    ((w.setCell ⟨b, 0, none⟩ u).setCell ⟨b, 1, none⟩ v).cell? ⟨b, 0, none⟩ = some u ∧ ((w.setCell ⟨b, 0, none⟩ u).setCell ⟨b, 1, none⟩ v).cell? ⟨b, 1, none⟩ = some v := by
  constructor <;> simp [h0, h1, World.cell?_setCell_same, World.cell?_setCell_other]
def nameD (o : Ob) : Dg := if checkO o = 0 then ofU (encL o) else (0, 0)
set_option maxRecDepth 100000 in
set_option maxHeartbeats 8000000 in
theorem objCheck_any (o : Ob) (ae ap : Option Addr) (ne ce np cp : Nat) (w : World) (h : ObjA w ae ne ap np o) (hc : np ≤ cp) (hd : o.data.size ≤ 60000) :
    Calls Try.prog 12 #[.agg (ocells o ae ne ce ap np cp)] w fun e w' => e = .returned (.int .i64 (checkO o)) ∧ Below w.heap.size w w' := by
  have hb0 := ba w (Obj.cells (ocells o ae ne ce ap np cp) 28)
  have HO0 := OBox.new w o ae ne ce ap np cp 28
  obtain ⟨W, hW⟩ : ∃ W, w.alloc (Obj.cells (ocells o ae ne ce ap np cp) 28) = W := ⟨_, rfl⟩
  rw [hW] at hb0 HO0
  have HA := lid (h.below hb0)
  have HW := lid hW
  have HEN := lid HW.out
  have HO := lid HO0
  have CE := lid (fun w (h : ObjA w ae ne ap np o) => objEncode_any o ae ap ne ce np cp w h hc hd)
  clear hW h HO0 hd
  go_enter Try.func12, Try.ntmps12
  go_wp2_with fail
  rw [HW.out]
  clear HW HEN
  (with_reducible refine (CE.out _ HA.out).mono ?_); rintro e w1 ⟨rfl, hb1⟩
  go_wp2_with fail
  go_ret
  exact ⟨rfl, hb0.trans (hb1.mono hb0.size)⟩
set_option maxRecDepth 100000 in
set_option maxHeartbeats 8000000 in
theorem refCheck_any (o : Ob) (ae ap : Option Addr) (ne ce np cp : Nat) (w : World) (h : ObjA w ae ne ap np o) (hc : np ≤ cp) (hd : o.data.size ≤ 60000) :
    Calls Try.prog 13 #[.agg (ocells o ae ne ce ap np cp)] w fun e w' => e = .returned (.int .i64 (checkO o)) ∧ Below w.heap.size w w' := by
  have hb0 := ba w (Obj.cells (ocells o ae ne ce ap np cp) 28)
  have HO0 := OBox.new w o ae ne ce ap np cp 28
  obtain ⟨W, hW⟩ : ∃ W, w.alloc (Obj.cells (ocells o ae ne ce ap np cp) 28) = W := ⟨_, rfl⟩
  rw [hW] at hb0 HO0
  have HA := lid (h.below hb0)
  have HW := lid hW
  have HEN := lid HW.out
  have HO := lid HO0
  have CF := lid (fun w (h : ObjA w ae ne ap np o) => fields_any o ae ap ne ce np cp w h hc hd)
  have CE := lid (fun w (h : ObjA w ae ne ap np o) (hv : checkO o = 0) => refEncodeL_any o ae ap ne ce np cp w h hv hd)
  have hds := lid hd
  clear hW h HO0 hd
  go_enter Try.func13, Try.ntmps13
  go_wp2_with fail
  rw [HW.out]
  clear HW HEN
  (with_reducible refine (CF.out _ HA.out).mono ?_); rintro e w1 ⟨rfl, hb1⟩
  have hw1 := hb0.trans (hb1.mono hb0.size)
  by_cases hv : checkO o = 0
  case neg =>
    have uK : (checkO o == 0) = false := by simpa using hv
    clear hv
    go_wp2_with fail
    go_ret
    exact ⟨rfl, hw1⟩
  have HC := lid hv
  have HLL : Hid ((encL o).length ≤ 60012) := lid (encL_len hv hds.out)
  rw [hv]
  clear hv
  obtain ⟨l1, c0, c1, c2, c3, c4, c5, c6, c7, c8⟩ := HO.out.below hb1
  go_wp2_with fail
  (with_reducible refine (CE.out _ (HA.out.below hb1) HC.out).mono ?_); rintro e w2 ⟨rfl, hb2⟩
  have hs : (bstr (encL o)).size ≤ 60012 := HLL.out
  generalize bstr (encL o) = S at *
  go_wp2_with fail
  go_ret
  exact ⟨ret_int' HC.out.symm, hw1.trans (hb2.mono hw1.size)⟩
set_option maxRecDepth 100000 in
set_option maxHeartbeats 8000000 in
theorem refEncode_any (o : Ob) (ae ap : Option Addr) (ne ce np cp : Nat) (w : World) (h : ObjA w ae ne ap np o) (hc : np ≤ cp) (hd : o.data.size ≤ 60000) :
    Calls Try.prog 18 #[.agg (ocells o ae ne ce ap np cp)] w fun e w' => e = .returned (.tuple #[.string (bstr (encT o)), .int .i64 (checkO o)]) ∧ Below w.heap.size w w' := by
  have hb0 := ba w (Obj.cells (ocells o ae ne ce ap np cp) 28)
  have HO0 := OBox.new w o ae ne ce ap np cp 28
  obtain ⟨W, hW⟩ : ∃ W, w.alloc (Obj.cells (ocells o ae ne ce ap np cp) 28) = W := ⟨_, rfl⟩
  rw [hW] at hb0 HO0
  have HA := lid (h.below hb0)
  have HW := lid hW
  have HEN := lid HW.out
  have HO := lid HO0
  have CF := lid (fun w (h : ObjA w ae ne ap np o) => refCheck_any o ae ap ne ce np cp w h hc hd)
  have CE := lid (fun w (h : ObjA w ae ne ap np o) (hv : checkO o = 0) => refEncodeL_any o ae ap ne ce np cp w h hv hd)
  clear hW h HO0 hd
  go_enter Try.func18, Try.ntmps18
  go_wp2_with fail
  rw [HW.out]
  clear HW HEN
  (with_reducible refine (CF.out _ HA.out).mono ?_); rintro e w1 ⟨rfl, hb1⟩
  have hw1 := hb0.trans (hb1.mono hb0.size)
  by_cases hv : checkO o = 0
  case neg =>
    have uK : (checkO o == 0) = false := by simpa using hv
    have HV : Hid (encT o = []) := lid (by unfold encT; rw [if_neg hv])
    clear hv
    go_wp2_with fail
    go_ret2
    exact ⟨ret_se (by rw [HV.out]; rfl) rfl, hw1⟩
  have HC := lid hv
  have HV : Hid (encT o = encL o) := lid (by unfold encT; rw [if_pos hv])
  rw [hv]
  clear hv
  obtain ⟨l1, c0, c1, c2, c3, c4, c5, c6, c7, c8⟩ := HO.out.below hb1
  go_wp2_with fail
  (with_reducible refine (CE.out _ (HA.out.below hb1) HC.out).mono ?_); rintro e w2 ⟨rfl, hb2⟩
  go_wp2_with fail
  go_ret2
  exact ⟨ret_se (by rw [HV.out]) HC.out.symm, hw1.trans (hb2.mono hw1.size)⟩
set_option maxRecDepth 100000 in
set_option maxHeartbeats 8000000 in
theorem objName_any (o : Ob) (ae ap : Option Addr) (ne ce np cp : Nat) (w : World) (h : ObjA w ae ne ap np o) (hc : np ≤ cp) (hd : o.data.size ≤ 60000) :
    Calls Try.prog 19 #[.agg (ocells o ae ne ce ap np cp)] w fun e w' => e = .returned (.tuple #[dv (nameD o), .int .i64 (checkO o)]) ∧ Below w.heap.size w w' := by
  have hb0 := ba w (Obj.cells (ocells o ae ne ce ap np cp) 28)
  have HO0 := OBox.new w o ae ne ce ap np cp 28
  obtain ⟨W, hW⟩ : ∃ W, w.alloc (Obj.cells (ocells o ae ne ce ap np cp) 28) = W := ⟨_, rfl⟩
  rw [hW] at hb0 HO0
  have HA := lid (h.below hb0)
  have HW := lid hW
  have HEN := lid HW.out
  have HO := lid HO0
  have CE := lid (fun w (h : ObjA w ae ne ap np o) => objEncode_any o ae ap ne ce np cp w h hc hd)
  have HS : Hid ((bstr (encT o)).size ≤ maxLen) := lid (by
    rw [bstr_size]
    unfold encT
    split
    · rename_i hv
      exact Nat.le_trans (encL_len hv hd) (by simp [maxLen])
    · simp)
  obtain ⟨W2, hW2⟩ : ∃ W2, W.alloc (Obj.cells #[.int .u64 0, .int .u64 0] 25) = W2 := ⟨_, rfl⟩
  have hb2 : Below W.heap.size W W2 := by rw [← hW2]; exact ba _ _
  have HA2 := lid (HA.out.below hb2)
  obtain ⟨l2, c0, c1, c2, c3, c4, c5, c6, c7, c8⟩ := HO.out.below hb2
  clear hW h HO0 hd
  have HL2 := lid l2
  have l4 : W.heap.size = w.heap.size + 1 := by rw [← HW.out]; simp
  have y0 : W2.cell? ⟨w.heap.size + 1, 0, none⟩ = some (.int .u64 0) := by rw [← hW2]; exact cell_new_at l4 _ _ _
  have y1 : W2.cell? ⟨w.heap.size + 1, 1, none⟩ = some (.int .u64 0) := by rw [← hW2]; exact cell_new_at l4 _ _ _
  have hfz : ∀ q, W2.frozen? ⟨w.heap.size + 1, q, none⟩ = false := by
    intro q
    have hq : W2.heap[w.heap.size + 1]? = some (.cells #[.int .u64 0, .int .u64 0] 25 (0, 0)) := by rw [← hW2, ← l4]; exact heap_alloc_new _ _
    exact Lib.frozen_of_heap hq q
  have g0 := hfz 0
  have g1 := hfz 1
  have l5 : w.heap.size + 1 < W2.heap.size := by rw [← hW2, World.size_alloc, l4]; omega
  have HW2 := lid hW2
  clear hW2 hfz l4 c0 c1 c2 c3 c4 c5 c6 c7 c8 l2
  go_enter Try.func19, Try.ntmps19
  go_wp2_with fail
  rw [HW.out, HW2.out]
  have hbw := hb0.trans (hb2.mono hb0.size)
  clear HW HW2 HEN hb0 hb2 HA HO
  (with_reducible refine (CE.out _ HA2.out).mono ?_); rintro e w3 ⟨rfl, hb3⟩
  have hw3 := hbw.trans (hb3.mono hbw.size)
  have e0 := (bc hb3 l5 _).trans y0
  have e1 := (bc hb3 l5 _).trans y1
  have f0 := (bf hb3 l5 _).trans g0
  have f1 := (bf hb3 l5 _).trans g1
  clear y0 y1 g0 g1
  by_cases hv : checkO o = 0
  case neg =>
    have uK : (checkO o == 0) = false := by simpa using hv
    have HV : Hid ((0, 0) = nameD o) := lid (by unfold nameD; rw [if_neg hv])
    clear hv
    go_wp2_with fail
    refine bodyPost_ret (v := .tuple #[.agg #[.int .u64 0, .int .u64 0], .int .i64 (checkO o)]) (by
      obtain ⟨z0, z1⟩ := two_set (.int .u64 0) (.int .u64 0) e0 e1
      simp [results, Try.results19, go_sem, z0, z1]) rfl ⟨by rw [← HV.out]; rfl, (hw3.setCell (p := ⟨w.heap.size + 1, 0, none⟩) (Nat.le_succ _) _).setCell (p := ⟨w.heap.size + 1, 1, none⟩) (Nat.le_succ _) _⟩
  have HC := lid hv
  have HV : Hid (ofU (bstr (encT o)).data.toList = nameD o) := lid (by unfold nameD encT; rw [if_pos hv, if_pos hv]; rfl)
  rw [hv]
  clear hv
  go_wp2_with fail
  (with_reducible refine (of_any (bstr (encT o)) _ HS.out).mono ?_); rintro e w4 ⟨rfl, hb4⟩
  rw [HV.out]
  have hw4 := hw3.trans (hb4.mono hw3.size)
  have l6 : w.heap.size + 1 < w3.heap.size := Nat.lt_of_lt_of_le l5 hb3.size
  have p0 := (bc hb4 l6 _).trans e0
  have p1 := (bc hb4 l6 _).trans e1
  have q0 := (bf hb4 l6 _).trans f0
  have q1 := (bf hb4 l6 _).trans f1
  clear e0 e1 f0 f1
  go_wp2_with fail
  refine bodyPost_ret (v := .tuple #[dv (nameD o), .int .i64 0]) (by
    obtain ⟨z0, z1⟩ := two_set (.int .u64 (nameD o).1.toNat) (.int .u64 (nameD o).2.toNat) p0 p1
    simp [results, Try.results19, go_sem, z0, z1]) rfl ⟨by rw [HC.out], (hw4.setCell (p := ⟨w.heap.size + 1, 0, none⟩) (Nat.le_succ _) _).setCell (p := ⟨w.heap.size + 1, 1, none⟩) (Nat.le_succ _) _⟩
set_option maxRecDepth 100000 in
set_option maxHeartbeats 8000000 in
theorem refName_any (o : Ob) (ae ap : Option Addr) (ne ce np cp : Nat) (w : World) (h : ObjA w ae ne ap np o) (hc : np ≤ cp) (hd : o.data.size ≤ 60000) :
    Calls Try.prog 20 #[.agg (ocells o ae ne ce ap np cp)] w fun e w' => e = .returned (.tuple #[dv (nameD o), .int .i64 (checkO o)]) ∧ Below w.heap.size w w' := by
  have hb0 := ba w (Obj.cells (ocells o ae ne ce ap np cp) 28)
  have HO0 := OBox.new w o ae ne ce ap np cp 28
  obtain ⟨W, hW⟩ : ∃ W, w.alloc (Obj.cells (ocells o ae ne ce ap np cp) 28) = W := ⟨_, rfl⟩
  rw [hW] at hb0 HO0
  have HA := lid (h.below hb0)
  have HW := lid hW
  have HEN := lid HW.out
  have HO := lid HO0
  have CE := lid (fun w (h : ObjA w ae ne ap np o) => refEncode_any o ae ap ne ce np cp w h hc hd)
  have HS : Hid ((bstr (encT o)).size ≤ maxLen) := lid (by
    rw [bstr_size]
    unfold encT
    split
    · rename_i hv
      exact Nat.le_trans (encL_len hv hd) (by simp [maxLen])
    · simp)
  obtain ⟨W2, hW2⟩ : ∃ W2, W.alloc (Obj.cells #[.int .u64 0, .int .u64 0] 25) = W2 := ⟨_, rfl⟩
  have hb2 : Below W.heap.size W W2 := by rw [← hW2]; exact ba _ _
  have HA2 := lid (HA.out.below hb2)
  obtain ⟨l2, c0, c1, c2, c3, c4, c5, c6, c7, c8⟩ := HO.out.below hb2
  clear hW h HO0 hd
  have HL2 := lid l2
  have l4 : W.heap.size = w.heap.size + 1 := by rw [← HW.out]; simp
  have y0 : W2.cell? ⟨w.heap.size + 1, 0, none⟩ = some (.int .u64 0) := by rw [← hW2]; exact cell_new_at l4 _ _ _
  have y1 : W2.cell? ⟨w.heap.size + 1, 1, none⟩ = some (.int .u64 0) := by rw [← hW2]; exact cell_new_at l4 _ _ _
  have hfz : ∀ q, W2.frozen? ⟨w.heap.size + 1, q, none⟩ = false := by
    intro q
    have hq : W2.heap[w.heap.size + 1]? = some (.cells #[.int .u64 0, .int .u64 0] 25 (0, 0)) := by rw [← hW2, ← l4]; exact heap_alloc_new _ _
    exact Lib.frozen_of_heap hq q
  have g0 := hfz 0
  have g1 := hfz 1
  have l5 : w.heap.size + 1 < W2.heap.size := by rw [← hW2, World.size_alloc, l4]; omega
  have HW2 := lid hW2
  clear hW2 hfz l4 c0 c1 c2 c3 c4 c5 c6 c7 c8 l2
  go_enter Try.func20, Try.ntmps20
  go_wp2_with fail
  rw [HW.out, HW2.out]
  have hbw := hb0.trans (hb2.mono hb0.size)
  clear HW HW2 HEN hb0 hb2 HA HO
  (with_reducible refine (CE.out _ HA2.out).mono ?_); rintro e w3 ⟨rfl, hb3⟩
  have hw3 := hbw.trans (hb3.mono hbw.size)
  have e0 := (bc hb3 l5 _).trans y0
  have e1 := (bc hb3 l5 _).trans y1
  have f0 := (bf hb3 l5 _).trans g0
  have f1 := (bf hb3 l5 _).trans g1
  clear y0 y1 g0 g1
  by_cases hv : checkO o = 0
  case neg =>
    have uK : (checkO o == 0) = false := by simpa using hv
    have HV : Hid ((0, 0) = nameD o) := lid (by unfold nameD; rw [if_neg hv])
    clear hv
    go_wp2_with fail
    refine bodyPost_ret (v := .tuple #[.agg #[.int .u64 0, .int .u64 0], .int .i64 (checkO o)]) (by
      obtain ⟨z0, z1⟩ := two_set (.int .u64 0) (.int .u64 0) e0 e1
      simp [results, Try.results20, go_sem, z0, z1]) rfl ⟨by rw [← HV.out]; rfl, (hw3.setCell (p := ⟨w.heap.size + 1, 0, none⟩) (Nat.le_succ _) _).setCell (p := ⟨w.heap.size + 1, 1, none⟩) (Nat.le_succ _) _⟩
  have HC := lid hv
  have HV : Hid (ofU (bstr (encT o)).data.toList = nameD o) := lid (by unfold nameD encT; rw [if_pos hv, if_pos hv]; rfl)
  rw [hv]
  clear hv
  go_wp2_with fail
  (with_reducible refine (refOf_any (bstr (encT o)) _ HS.out).mono ?_); rintro e w4 ⟨rfl, hb4⟩
  rw [HV.out]
  have hw4 := hw3.trans (hb4.mono hw3.size)
  have l6 : w.heap.size + 1 < w3.heap.size := Nat.lt_of_lt_of_le l5 hb3.size
  have p0 := (bc hb4 l6 _).trans e0
  have p1 := (bc hb4 l6 _).trans e1
  have q0 := (bf hb4 l6 _).trans f0
  have q1 := (bf hb4 l6 _).trans f1
  clear e0 e1 f0 f1
  go_wp2_with fail
  refine bodyPost_ret (v := .tuple #[dv (nameD o), .int .i64 0]) (by
    obtain ⟨z0, z1⟩ := two_set (.int .u64 (nameD o).1.toNat) (.int .u64 (nameD o).2.toNat) p0 p1
    simp [results, Try.results20, go_sem, z0, z1]) rfl ⟨by rw [HC.out], (hw4.setCell (p := ⟨w.heap.size + 1, 0, none⟩) (Nat.le_succ _) _).setCell (p := ⟨w.heap.size + 1, 1, none⟩) (Nat.le_succ _) _⟩
end Go.Proofs.Ytmkdcnkbhnegnaa
