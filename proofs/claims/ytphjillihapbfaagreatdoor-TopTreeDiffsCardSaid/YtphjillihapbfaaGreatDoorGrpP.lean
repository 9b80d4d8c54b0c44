/-
  PoolGet PoolPut PoolCat PoolIns.
-/
import Derived.Test.YtphjillihapbfaaGreatDoorGrpM
import Derived.Test.YtphjillihapbfaaGreatDoorObjDecO
import Derived.Test.YtphjillihapbfaaGreatDoorGrpL
import Derived.Lib.AppendZeros
import Derived.Test.YtphjillihapbfaaGreatDoorGrpN
import Derived.Test.YtphjillihapbfaaGreatDoorGrpJ
namespace Go.Proofs.YtphjillihapbfaaGreatDoor
open Go.RowKit

set_option maxRecDepth 100000 in
set_option maxHeartbeats 1000000 in
theorem poolFind_any (l : List It) (d : Dg) (n cap : Nat) (ao : Option Addr) (w : World) (h : PA w ao n cap l) (hA : Asc l) (hm1 : n ≤ 1000000) :
    Calls Tryz.prog 84 #[.slice ao n cap, dv d] w fun e w' => e = .returned (.tuple #[.int .i64 (idxP l d), .bool (getP l d).isSome]) ∧ Below w.heap.size w w' := by
  obtain ⟨W, hW⟩ : ∃ W, w.alloc (Obj.cells #[.int .u64 d.1.toNat, .int .u64 d.2.toNat] 31) = W := ⟨_, rfl⟩
  have hbW : Below w.heap.size w W := by rw [← hW]; exact ba _ _
  have y0 : W.cell? ⟨w.heap.size, 0, none⟩ = some (.int .u64 d.1.toNat) := by rw [← hW]; exact cell_new_at rfl _ _ _
  have y1 : W.cell? ⟨w.heap.size, 1, none⟩ = some (.int .u64 d.2.toNat) := by rw [← hW]; exact cell_new_at rfl _ _ _
  have CB := lid (bsearch_any l d n cap ao W (h.below hbW) hA hm1)
  have HBW := lid hbW
  have HW := lid hW
  clear h hA hbW hW
  show Calls Tryz.prog 84 #[.slice ao n cap, .agg #[.int .u64 d.1.toNat, .int .u64 d.2.toNat]] w _
  go_enter Tryz.func84, Tryz.ntmps84
  go_wp2_with fail
  rw [HW.out]
  (with_reducible refine (CB.out).mono ?_); rintro e w1 ⟨rfl, hb⟩
  go_wp2_with fail
  go_ret2
  exact ⟨rfl, HBW.out.trans (hb.mono HBW.out.size)⟩

theorem hcell {w w' : World} {b o : Nat} (h : w'.heap[b]? = w.heap[b]?) : w'.cell? ⟨b, o, none⟩ = w.cell? ⟨b, o, none⟩ := by
  unfold World.cell?
  simp only [h]
theorem ObjA.hi {w w' : World} {n ne np : Nat} {ae ap : Option Addr} {o : Ob} (h : ObjA w ae ne ap np o) (h1 : HiA n ae) (h2 : HiA n ap) (hk : ∀ k, n ≤ k → k < w.heap.size → w'.heap[k]? = w.heap[k]?) (hs : w.heap.size ≤ w'.heap.size) : ObjA w' ae ne ap np o := by
  refine ⟨h.elen, ⟨h.es.1, h.es.2.imp id fun ⟨b, o, e, hlt, hc⟩ => ⟨b, o, e, Nat.lt_of_lt_of_le hlt hs, fun j u hu => (hcell (hk b (h1 _ e) hlt)).trans (hc j u hu)⟩⟩, h.emax, h.esz, h.plen, ?_, h.pmax, h.dsz, h.asz, h.msz⟩
  rcases h.ps with hp | ⟨b, off, e, hlt, hc⟩
  · exact .inl hp
  · exact .inr ⟨b, off, e, Nat.lt_of_lt_of_le hlt hs, fun j hj => by
      have := hc j hj
      rw [hcell (hk b (h2 _ e) hlt), hcell (hk b (h2 _ e) hlt)]
      exact this⟩
theorem getO_some {l : List It} {d : Dg} {o : Ob} (hG : GoodP l) (h : getO l d = some o) : ∃ hi : idxP l d < l.length, ∃ s, l[idxP l d] = (d, s) ∧ getP l d = some s ∧ s.size ≤ 60000 ∧ oR s.data.toList = o ∧ eR s.data.toList = 0 := by
  unfold getO at h
  rw [Option.map_eq_some_iff] at h
  obtain ⟨s, hs, rfl⟩ := h
  have hg := getP_at hG.asc d
  rw [hs] at hg
  split at hg
  · rename_i hi
    split at hg
    · rename_i he
      have h2 : l[idxP l d] = (d, s) := Prod.ext he (Option.some.inj hg).symm
      obtain ⟨o, ho, e⟩ := hG.ob _ (List.getElem_mem hi)
      rw [h2] at e
      obtain ⟨_, e2⟩ := Prod.mk.inj e
      have h3 := oR_enc ho.chk (Nat.le_trans ho.dat (by omega))
      refine ⟨hi, s, h2, hs, by rw [e2]; exact ho.enc, rfl, by rw [e2, bstr_list]; exact h3.2⟩
    · cases hg
  · cases hg
set_option maxRecDepth 100000 in
set_option maxHeartbeats 4000000 in
theorem poolGet_any (l : List It) (d : Dg) (n cap : Nat) (ao : Option Addr) (w : World) (o : Ob) (h : PA w ao n cap l) (hG : GoodP l) (hm1 : n ≤ 1000000) (ho : getO l d = some o) :
    Calls Tryz.prog 52 #[.slice ao n cap, dv d] w (DecO o 0 w) := by
  obtain ⟨hi, s, hls, hg, hsz, hoR, heR⟩ := getO_some hG ho
  obtain ⟨W, hW⟩ : ∃ W, (w.alloc (Obj.cells #[.int .u64 d.1.toNat, .int .u64 d.2.toNat] 31)).alloc (.cells #[.int .i64 0, .string ⟨#[]⟩, .slice none 0 0, .int .u64 0, .int .u64 0, .slice none 0 0, .string ⟨#[]⟩, .int .i64 0, .string ⟨#[]⟩] 72) = W := ⟨_, rfl⟩
  have hbW : Below w.heap.size w W := by rw [← hW]; exact ((Below.refl _ _).alloc (Nat.le_refl _) _).alloc (by simp) _
  have y0 : W.cell? ⟨w.heap.size, 0, none⟩ = some (.int .u64 d.1.toNat) := by rw [← hW, cell_old_at (by simp)]; exact cell_new_at rfl _ _ _
  have y1 : W.cell? ⟨w.heap.size, 1, none⟩ = some (.int .u64 d.2.toNat) := by rw [← hW, cell_old_at (by simp)]; exact cell_new_at rfl _ _ _
  have HZ : Hid (Oc (w.heap.size + 1) (.int .i64 0) (.string ⟨#[]⟩) (.slice none 0 0) (.int .u64 0) (.int .u64 0) (.slice none 0 0) (.string ⟨#[]⟩) (.int .i64 0) (.string ⟨#[]⟩) W) := lid (by rw [← hW]; have := Oc.new (w.alloc (Obj.cells #[.int .u64 d.1.toNat, .int .u64 d.2.toNat] 31)) (.int .i64 0) (.string ⟨#[]⟩) (.slice none 0 0) (.int .u64 0) (.int .u64 0) (.slice none 0 0) (.string ⟨#[]⟩) (.int .i64 0) (.string ⟨#[]⟩); simpa using this)
  have CB := lid (poolFind_any l d n cap ao W (h.below hbW) hG.asc hm1)
  obtain ⟨k, hk⟩ : ∃ k, idxP l d = k := ⟨_, rfl⟩
  have hkn : k < n := by rw [← h.len, ← hk]; exact hi
  have HS : Hid (Sl W 3 ao n (icells l)) := lid (h.sl.below hbW)
  have hit : (icells l)[k * 3 + 2]? = some (.string s) := by
    have := (icells_at hi).2.2
    rw [hls, hk] at this
    exact this
  have HIT := lid hit
  have HBW := lid hbW
  have HW := lid hW
  have HOR := lid hoR
  have HSZ := lid hsz
  have CD := lid (fun w => objDecode_own s w hsz)
  have hWz : w.heap.size + 2 = W.heap.size := by rw [← hW]; simp
  have HWZ := lid hWz
  rw [hg, hk, Option.isSome_some] at CB
  rw [hoR, heR] at CD
  clear h hG hbW hW hls hg hi hit hoR heR hsz hk ho hWz
  show Calls Tryz.prog 52 #[.slice ao n cap, .agg #[.int .u64 d.1.toNat, .int .u64 d.2.toNat]] w _
  go_enter Tryz.func52, Tryz.ntmps52
  go_wp2_with fail
  rw [HW.out]
  (with_reducible refine (CB.out).mono ?_); rintro e w1 ⟨rfl, hb⟩
  obtain ⟨b1, o1, rfl, hlb1, hc1⟩ := (HS.out.below hb).at_ hkn
  have x2 := hc1 _ _ HIT.out
  rw [← Nat.add_assoc] at x2
  have HZ1 := lid (HZ.out.below hb)
  have HB1 := lid (HBW.out.trans (hb.mono HBW.out.size))
  have hz1 : w.heap.size + 2 ≤ w1.heap.size := by have := HWZ.out; have := hb.size; omega
  clear hc1 hb y0 y1 HZ HBW HW
  go_wp2_with fail
  (with_reducible refine (CD.out _).mono ?_); rintro e w2 ⟨ae, ap, ne, ce, np, cp, rfl, hcp, hoA, hb2, hi1, hi2⟩
  have HZ2 := lid (HZ1.out.below hb2)
  have HB2 := lid (HB1.out.trans (hb2.mono HB1.out.size))
  have HOA := lid hoA
  have HI := lid (And.intro hi1 hi2)
  have hOl2 := HZ2.out.lt
  have f0 := HZ2.out.fz 0
  have f1 := HZ2.out.fz 1
  have f2 := HZ2.out.fz 2
  have f3 := HZ2.out.fz 3
  have f4 := HZ2.out.fz 4
  have f5 := HZ2.out.fz 5
  have f6 := HZ2.out.fz 6
  have f7 := HZ2.out.fz 7
  have f8 := HZ2.out.fz 8
  have g0 := HZ2.out.g0
  have g1 := HZ2.out.g1
  have g2 := HZ2.out.g2
  have g3 := HZ2.out.g3
  have g4 := HZ2.out.g4
  have g5 := HZ2.out.g5
  have g6 := HZ2.out.g6
  have g7 := HZ2.out.g7
  have g8 := HZ2.out.g8
  have hz2 := hb2.size
  clear hoA hb2 hi1 hi2 HZ1
  go_wp2_with fail
  have X := set9_oc (d0 := (.int .i64 o.kind)) (d1 := (.string o.data)) (d2 := (.slice ae ne ce)) (d3 := (.int .u64 o.tree.1.toNat)) (d4 := (.int .u64 o.tree.2.toNat)) (d5 := (.slice ap np cp)) (d6 := (.string o.auth)) (d7 := (.int .i64 o.time)) (d8 := (.string o.msg)) HZ2.out
  have z0 := X.g0
  have z1 := X.g1
  have z2 := X.g2
  have z3 := X.g3
  have z4 := X.g4
  have z5 := X.g5
  have z6 := X.g6
  have z7 := X.g7
  have z8 := X.g8
  unfold set9 at z0 z1 z2 z3 z4 z5 z6 z7 z8
  refine bodyPost_ret (v := .tuple #[.agg #[(.int .i64 o.kind), (.string o.data), (.slice ae ne ce), (.int .u64 o.tree.1.toNat), (.int .u64 o.tree.2.toNat), (.slice ap np cp), (.string o.auth), (.int .i64 o.time), (.string o.msg)], .int .i64 0]) (by simp [results, Tryz.results52, go_sem, z0, z1, z2, z3, z4, z5, z6, z7, z8]) rfl ?_
  refine ⟨ae, ap, ne, ce, np, cp, rfl, hcp, ?_, set9_below _ _ _ _ _ _ _ _ _ HB2.out (by omega), fun x hx => Nat.le_trans (by omega) (HI.out.1 x hx), fun x hx => Nat.le_trans (by omega) (HI.out.2 x hx)⟩
  exact HOA.out.hi HI.out.1 HI.out.2 (fun k hk _ => set9_heap _ _ _ _ _ _ _ _ _ _ _ (by omega)) (set9_below _ _ _ _ _ _ _ _ _ (Below.refl (w.heap.size + 1) w2) (Nat.le_refl _)).size
end Go.Proofs.YtphjillihapbfaaGreatDoor

namespace Go.Proofs.YtphjillihapbfaaGreatDoor
open Go.RowKit

theorem info_it : (Tryz.prog.info? 101).map (fun i => (i.zero, i.size, i.bytes)) = some (some (.agg #[.int .u64 0, .int .u64 0, .string ⟨#[]⟩]), 3, 32) := by kernel_rfl
set_option maxRecDepth 100000 in
set_option maxHeartbeats 4000000 in
theorem growIt_nil (n : Nat) (w : World) (h0 : 0 < n) (h1 : n ≤ 100000) :
    Calls Tryz.prog 110 #[.slice none 0 0, .int .i64 n] w fun e w' => ∃ v', e = .returned v' ∧ w'.ownsRow w.heap.size 101 3 v' 0 [] ∧ Below w.heap.size w w' := by
  obtain ⟨i, hi, hz0, hz1, hz2⟩ := info_parts info_it
  have d0 : decide ((n : Int) < 0) = false := by simp
  have d1 : decide ((0 : Int) < (n : Int)) = true := by simp; omega
  have HR := Lib.run_append_nil_zeros (P := Tryz.prog) w 25 3 25 101 i (.agg #[.int .u64 0, .int .u64 0, .string ⟨#[]⟩]) .i64 .i64 Tryz.underlying25 Tryz.underlying3 hi hz0 n h0 (by omega) (by omega) (by rw [hz2]; omega)
  have hg := grownCap_ge w n 0 101
  have hm := grownCap_le_maxLen w n 0 101 (by simp only [maxLen]; omega)
  generalize hG : grownCap w n 0 101 = G at *
  have hown : (w.drew.alloc (.cells (Builtin.zeroCells (Value.agg #[.int .u64 0, .int .u64 0, .string ⟨#[]⟩]).cells n ++ Builtin.zeroCells (Value.agg #[.int .u64 0, .int .u64 0, .string ⟨#[]⟩]).cells (G - n)) 101)).ownsRow w.heap.size 101 3 (.slice (some ⟨w.heap.size, 0, none⟩) 0 G) 0 [] :=
    World.ownsRow_made w.drew _ G (Nat.le_refl _) hm (by rw [Array.size_append, size_zeroCells, size_zeroCells]; simp [Value.cells]; omega)
  have hb : Below w.heap.size w (w.drew.alloc (.cells (Builtin.zeroCells (Value.agg #[.int .u64 0, .int .u64 0, .string ⟨#[]⟩]).cells n ++ Builtin.zeroCells (Value.agg #[.int .u64 0, .int .u64 0, .string ⟨#[]⟩]).cells (G - n)) 101)) := (Below.refl _ _).drew.alloc (Nat.le_refl _) _
  generalize w.drew.alloc (.cells (Builtin.zeroCells (Value.agg #[.int .u64 0, .int .u64 0, .string ⟨#[]⟩]).cells n ++ Builtin.zeroCells (Value.agg #[.int .u64 0, .int .u64 0, .string ⟨#[]⟩]).cells (G - n)) 101) = W at *
  clear hi hz0 hz1 hz2 hG
  go_enter Tryz.func110, Tryz.ntmps110
  go_wp2_with (at_builtin; go_must (refine Lib.wpList_append_run _ rfl _ _ 25 3 rfl _ _ rfl rfl _ _ HR ?_))
  go_wp2_with fail
  go_ret
  exact ⟨_, rfl, hown, hb⟩
end Go.Proofs.YtphjillihapbfaaGreatDoor

namespace Go.Proofs.YtphjillihapbfaaGreatDoor
open Go.RowKit

/-- A row of items that lies in a slice. -/
abbrev IRow := Option Addr × Nat × List It
def IRowIn (w : World) (x : IRow) : Prop := Sl w 3 x.1 x.2.2.length (icells x.2.2) ∧ (x.1 = none → x.2.1 = 0)
theorem IRowIn.below {w w' : World} {x : IRow} (h : IRowIn w x) (hb : Below w.heap.size w w') : IRowIn w' x := ⟨h.1.below hb, h.2⟩
def joinI (R : List IRow) : List It := R.flatMap fun x => x.2.2
theorem joinI_take {R : List IRow} {k : Nat} (h : k < R.length) : joinI (R.take (k + 1)) = joinI (R.take k) ++ (R[k]).2.2 := by
  unfold joinI
  rw [List.take_succ_eq_append_getElem h, List.flatMap_append]
  congr 1
  simp
theorem joinI_le (R : List IRow) (k : Nat) : (joinI (R.take k)).length ≤ (joinI R).length := by
  have := congrArg joinI (List.take_append_drop k R)
  have h2 : joinI (R.take k ++ R.drop k) = joinI (R.take k) ++ joinI (R.drop k) := by unfold joinI; rw [List.flatMap_append]
  rw [h2] at this
  rw [← this, List.length_append]
  omega
set_option maxRecDepth 100000 in
set_option maxHeartbeats 8000000 in
theorem concatIt_any (R : List IRow) (b : Nat) (w : World) (hb : b < w.heap.size) (hc : ∀ j (h : j < R.length), w.cell? ⟨b, j, none⟩ = some (.slice (R[j]).1 (R[j]).2.2.length (R[j]).2.1)) (hr : ∀ x ∈ R, IRowIn w x) (hR : R.length ≤ 10) (hn : (joinI R).length ≤ 100000) (h0 : 0 < (joinI R).length) :
    Calls Tryz.prog 85 #[.slice (some ⟨b, 0, none⟩) R.length R.length] w fun e w' => ∃ v', e = .returned v' ∧ w'.ownsRow w.heap.size 101 3 v' (joinI R).length (icells (joinI R)) ∧ Below w.heap.size w w' := by
  have HC := lid hc
  have HR := lid hr
  have HJ := lid (joinI_le R)
  have HT := lid (fun k (h : k < R.length) => joinI_take h)
  have HA : Hid (joinI (R.take R.length) = joinI R) := lid (by rw [List.take_length])
  obtain ⟨N, hN⟩ : ∃ N, (joinI R).length = N := ⟨_, rfl⟩
  obtain ⟨r, hrr⟩ : ∃ r, R.length = r := ⟨_, rfl⟩
  have HNN := lid hN
  have Hr := lid hrr
  rw [hN] at hn h0
  rw [hrr] at hR
  clear hc hr
  rw [hN, hrr]
  go_enter Tryz.func85, Tryz.ntmps85
  go_wp2_with fail
  go_loopw [3, 5, 11] (fun s _ i wr => ∃ (k : Nat), k ≤ r ∧ i = .int .i64 k ∧ s = .int .i64 ((joinI (R.take k)).length : Nat) ∧ wr = w) (fun _ _ i _ => r - (intOf i).toNat)
  case atStart => exact ⟨0, Nat.zero_le _, rfl, rfl, rfl⟩
  case round =>
    obtain ⟨k, hk, rfl, rfl, rfl⟩ := hrel
    by_cases hlt : k < r
    · have hkl : k < R.length := by rw [Hr.out]; exact hlt
      have c0 := HC.out k hkl
      have HS := lid (HT.out k hkl)
      have hl1 : (joinI (R.take (k + 1))).length ≤ N := by have := HJ.out (k + 1); rw [HNN.out] at this; exact this
      have hl2 : (joinI (R.take (k + 1))).length = (joinI (R.take k)).length + (R[k]).2.2.length := by rw [HS.out, List.length_append]
      obtain ⟨J0, hJ0⟩ : ∃ J0, (joinI (R.take k)).length = J0 := ⟨_, rfl⟩
      obtain ⟨m, hm⟩ : ∃ m, (R[k]).2.2.length = m := ⟨_, rfl⟩
      rw [hJ0, hm] at hl2
      rw [hm] at c0
      rw [hJ0]
      rw [hl2] at hl1
      have HL2 := lid hl2
      generalize (R[k]).2.1 = cp at *
      generalize (R[k]).1 = ao at *
      clear hJ0 hm hl2
      have dneg : decide ((J0 : Int) + (m : Int) < 0) = false := by simp; omega
      go_wp2_with fail
      go_roundw
      case rel => exact ⟨k + 1, by omega, by go_num, by rw [HL2.out]; go_num, trivial⟩
      case measure => simp [intOf]; omega
    · obtain rfl : k = r := by omega
      have HE : Hid ((joinI (R.take k)).length = N) := lid (by rw [← Hr.out, HA.out, HNN.out])
      rw [HE.out]
      go_wp2_with fail
      obtain ⟨w0, rfl⟩ : ∃ w0, w0 = wr := ⟨_, rfl⟩
      (with_reducible refine (growIt_nil N w0 h0 hn).mono ?_); rintro e w1 ⟨v1, rfl, hown1, hb1⟩
      go_wp2_with fail
      go_loopw [6, 8, 27] (fun v _ i w2 => ∃ (c : Nat), c ≤ k ∧ i = .int .i64 c ∧ Hid (w2.ownsRow w0.heap.size 101 3 v (joinI (R.take c)).length (icells (joinI (R.take c)))) ∧ Below w0.heap.size w0 w2) (fun _ _ i _ => k - (intOf i).toNat)
      case atStart => exact ⟨0, Nat.zero_le _, rfl, lid hown1, hb1⟩
      case round =>
        obtain ⟨c, hc, rfl, HO, hb2⟩ := hrel
        by_cases hlt : c < k
        · have hcl : c < R.length := by rw [Hr.out]; exact hlt
          have c0 := (bc hb2 hb c).trans (HC.out c hcl)
          have hbr : b < wr.heap.size := by have := hb2.size; omega
          have HS := lid (HT.out c hcl)
          have HIN := lid ((HR.out (R[c]) (List.getElem_mem hcl)).below hb2)
          have hl1 : (joinI (R.take (c + 1))).length ≤ N := by have := HJ.out (c + 1); rw [HNN.out] at this; exact this
          have hl2 : (joinI (R.take (c + 1))).length = (joinI (R.take c)).length + (R[c]).2.2.length := by rw [HS.out, List.length_append]
          have dk : decide ((c : Int) < (k : Int)) = true := by simp; omega
          obtain ⟨x, hx⟩ : ∃ x, R[c] = x := ⟨_, rfl⟩
          rw [hx] at c0 HS HIN hl2
          obtain ⟨ao, cp, L⟩ := x
          simp only at c0 hl2
          rw [hl2] at hl1
          have HO' := HO.out
          obtain ⟨J, hJ⟩ : ∃ J, joinI (R.take c) = J := ⟨_, rfl⟩
          rw [hJ] at HS HO' hl1
          have HS2 : Hid (joinI (R.take (c + 1)) = J ++ L) := lid HS.out
          clear hx HS hl2 hJ HO
          go_wp2_with (at_builtin; go_must (refine wpList_append_sl rfl _ _ 25 rfl w0.heap.size 101 (.agg #[.int .u64 0, .int .u64 0, .string ⟨#[]⟩]) 3 32 info_it Tryz.underlying25 rfl (by decide) _ _ _ HO' rfl ao L.length cp (icells L) rfl HIN.out.1 HIN.out.2 (icells_one L) (by simp only [maxLen]; omega) (by omega) hb2.size ?_))
          intro v5 w5 hown5 hb5
          go_wp2_with fail
          go_roundw
          case rel => exact ⟨c + 1, by omega, by go_num, lid (by rw [HS2.out, List.length_append, icells_append]; exact hown5), hb2.trans hb5⟩
          case measure => simp [intOf]; omega
        · obtain rfl : c = k := by omega
          have hfin := HO.out
          rw [← Hr.out, HA.out, HNN.out] at hfin
          go_wp2_with fail
          go_ret
          exact ⟨_, rfl, hfin, hb2⟩
end Go.Proofs.YtphjillihapbfaaGreatDoor

namespace Go.Proofs.YtphjillihapbfaaGreatDoor
open Go.RowKit

set_option maxRecDepth 100000 in
set_option maxHeartbeats 4000000 in
theorem insert_found (l : List It) (x : It) (n cap : Nat) (ao : Option Addr) (t : ByteArray) (w : World) (h : PA w ao n cap l) (hA : Asc l) (hm1 : n ≤ 1000000) (hg : getP l x.1 = some t) :
    Calls Tryz.prog 48 #[.slice ao n cap, iv x] w fun e w' => Below w.heap.size w w' ∧ ((t = x.2 ∧ e = .returned (.tuple #[.slice ao n cap, .int .i64 0])) ∨ (t ≠ x.2 ∧ e = .returned (.tuple #[.slice none 0 0, .int .i64 16]))) := by
  have hgat := getP_at hA x.1
  rw [hg] at hgat
  obtain ⟨hi, hls⟩ : ∃ hi : idxP l x.1 < l.length, l[idxP l x.1] = (x.1, t) := by
    split at hgat
    · rename_i hi
      split at hgat
      · rename_i he
        exact ⟨hi, Prod.ext he (Option.some.inj hgat).symm⟩
      · cases hgat
    · cases hgat
  obtain ⟨W, hW⟩ : ∃ W, w.alloc (Obj.cells #[.int .u64 x.1.1.toNat, .int .u64 x.1.2.toNat, .string x.2] 101) = W := ⟨_, rfl⟩
  have hbW : Below w.heap.size w W := by rw [← hW]; exact ba _ _
  have hP : W.heap[w.heap.size]? = some (.cells #[.int .u64 x.1.1.toNat, .int .u64 x.1.2.toNat, .string x.2] 101 (0, 0)) := by rw [← hW]; exact heap_alloc_new w _
  have y0 : W.cell? ⟨w.heap.size, 0, none⟩ = some (.int .u64 x.1.1.toNat) := row_cell hP 0
  have y1 : W.cell? ⟨w.heap.size, 1, none⟩ = some (.int .u64 x.1.2.toNat) := row_cell hP 1
  have ly := row_lt hP
  have HP := lid hP
  have CB := lid (poolFind_any l x.1 n cap ao W (h.below hbW) hA hm1)
  obtain ⟨k, hk⟩ : ∃ k, idxP l x.1 = k := ⟨_, rfl⟩
  have hkn : k < n := by rw [← h.len, ← hk]; exact hi
  have HS : Hid (Sl W 3 ao n (icells l)) := lid (h.sl.below hbW)
  have hit : (icells l)[k * 3 + 2]? = some (.string t) := by
    have := (icells_at hi).2.2
    rw [hls, hk] at this
    exact this
  have HIT := lid hit
  have HBW := lid hbW
  have HW := lid hW
  rw [hg, hk, Option.isSome_some] at CB
  clear h hbW hW hls hi hit hk hP hgat hg hA
  go_enter Tryz.func48, Tryz.ntmps48
  go_wp2_with fail
  rw [HW.out]
  (with_reducible refine (CB.out).mono ?_); rintro e w1 ⟨rfl, hb⟩
  obtain ⟨b1, o1, rfl, hlb1, hc1⟩ := (HS.out.below hb).at_ hkn
  have x2 := hc1 _ _ HIT.out
  rw [← Nat.add_assoc] at x2
  have z2 : w1.cell? ⟨w.heap.size, 2, none⟩ = some (.string x.2) := row_cell ((hb.block _ (row_lt HP.out)).trans HP.out) 2
  have lz := row_lt ((hb.block _ (row_lt HP.out)).trans HP.out)
  have HB1 := lid (HBW.out.trans (hb.mono HBW.out.size))
  clear hc1 hb y0 y1 HBW HW
  by_cases he : t = x.2
  · have u := str_eq he
    have HE := lid he
    clear he
    go_wp2_with fail
    refine wp_region_seq (fun w' => ∃ s : Since w1.heap.size w1, w' = s.world) [(0, true), (1, true), (2, true), (3, true), (4, true), (5, true), (6, true), (7, true)] (by kernel_rfl) (by kernel_rfl) (by intro c d v a w h; first | (cases d <;> exact h) | cases h.1) (since (Below.refl _ _).drew) ?_
    repeat (first | (refine seq_skip (by rfl) (by rfl) ?_; simp only [Act.put, List.setIfInBounds_toArray, List.set_cons_succ, List.set_cons_zero]) | (refine seq_float (by rfl) (by rfl) (by rfl) ?_; intro K hK; go_big_quiet_op; go_big_quiet_on))
    refine seq_nil ?_
    go_wp2_with fail
    go_ret2
    exact ⟨HB1.out.drew, .inl ⟨HE.out, rfl⟩⟩
  · have u := str_ne he
    have HE := lid he
    clear he
    go_wp2_with fail
    refine wp_region_seq (fun w' => ∃ s : Since w1.heap.size w1, w' = s.world) [(0, true), (1, true), (2, true), (3, true), (4, true), (5, true), (6, true), (7, true)] (by kernel_rfl) (by kernel_rfl) (by intro c d v a w h; first | (cases d <;> exact h) | cases h.1) (since (Below.refl _ _).drew) ?_
    repeat (first | (refine seq_skip (by rfl) (by rfl) ?_; simp only [Act.put, List.setIfInBounds_toArray, List.set_cons_succ, List.set_cons_zero]) | (refine seq_float (by rfl) (by rfl) (by rfl) ?_; intro K hK; go_big_quiet_op; go_big_quiet_on))
    refine seq_nil ?_
    go_wp2_with fail
    go_ret2
    exact ⟨HB1.out.drew, .inr ⟨HE.out, rfl⟩⟩
end Go.Proofs.YtphjillihapbfaaGreatDoor
