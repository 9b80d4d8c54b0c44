/-
  owners.directories: the iterator over the owners files of a path, as its caller meets it.
-/
import Derived.Test.YtefehgdckmajiaaGreatDoorOwnLast
import Derived.Test.YtefehgdckmajiaaGreatDoorRF2
import Derived.Test.YtefehgdckmajiaaGreatDoorRegionY
import Derived.Test.YtefehgdckmajiaaGreatDoorGrpG
namespace Go.Proofs.YtefehgdckmajiaaGreatDoor
open Go.RowKit Go.Shelf
attribute [local go_sem] Oper.semAt_some

abbrev Dr := List UInt8 × List UInt8
abbrev drv (x : Dr) : Array Value := #[.string (bstr x.1), .string (bstr x.2)]
def DrX (s : List Dr) (x : Dr) (_ : World) : Prop := ∃ t, s = x :: t
def DrT (s : List Dr) (x : Dr) (s' : List Dr) : Prop := s = x :: s'
set_option maxRecDepth 100000 in
set_option maxHeartbeats 1000000 in
theorem directories_fn (s : ByteArray) (w : World) :
    Calls Tryz.prog 43 #[.string s] w fun e w' => e = .returned (.func (.func 62) #[] #[.pointer (some ⟨w.heap.size, 0, none⟩)]) ∧ w' = w.alloc (.cells #[.string s] 9) := by
  go_enter Tryz.func43, Tryz.ntmps43
  go_wp2_with fail
  go_ret
  exact ⟨by simp, rfl⟩
set_option maxRecDepth 100000 in
set_option maxHeartbeats 8000000 in
theorem dirs_iter (l m : Nat) (c : Nat → Prop) (B bs : Nat) (s : ByteArray) (J : List Dr → World → Prop) (Jx : List Dr → Dr → World → Prop) (hJ : ∀ s, Ab B (J s))
    (hY : RoundN Tryz.prog m l c B drv DrX DrT J Jx) (W : World) (hs : W.heap[bs]? = some (.cells #[.string s] 9 (0, 0))) (h1 : c bs) (hlen : s.size ≤ 1000000) (hJ0 : J (dirsL s.data.toList) W) :
    Calls Tryz.prog 62 #[.func (.yield l) #[] #[], .pointer (some ⟨bs, 0, none⟩)] W fun e W' => e = .returned (.tuple #[]) ∧ (J [] W' ∨ ∃ s x, Jx s x W') := by
  have HS := lid hs
  have HJ := lid hJ
  have HY := lid hY
  have HJ0 := lid hJ0
  have s0 := row_cell hs 0
  have lS := row_lt hs
  clear hs hJ hY hJ0
  refine (callsIn_wide (n := m + 1)).1 ?_
  refine callsIn_of_wp Tryz.func62 rfl trivial ?_ rfl
  simp only [Tryz.ntmps62, List.size_toArray, List.length_cons, List.length_nil, Nat.reduceAdd, Nat.reduceSub, Array.replicate_succ, Array.replicate_zero, List.push_toArray, List.append_toArray, List.nil_append, List.cons_append]
  gi_wp2_with fail
  gi_loopw [3] (fun i wr => ∃ k : Nat, k ≤ s.size ∧ i = .int .i64 k ∧ Hid (wr.heap[bs]? = some (.cells #[.string s] 9 (0, 0))) ∧ Hid (J (dirsE s.data.toList k) wr)) (fun i _ => (intOf i).toNat)
  case atStart => exact ⟨s.size, Nat.le_refl _, rfl, HS, HJ0⟩
  case round =>
    clear s0 lS HS HJ0
    obtain ⟨k, hk, rfl, HS2, HJ2⟩ := hrel
    have s0 := row_cell HS2.out 0
    have lS := row_lt HS2.out
    have hk63 : (k : Int) ≤ s.size := by omega
    have hs63 : s.size ≤ 9223372036854775807 := by omega
    have CL := lid (LastIndexByte_any (s.extract 0 k) wr (by rw [ByteArray.size_extract]; omega))
    have hv : slashAt (s.extract 0 k).data.toList (s.extract 0 k).size = slashAt s.data.toList k := by
      rw [extract_bstr]
      show slashAt ((s.data.toList.drop 0).take (k - 0)) ((s.data.toList.drop 0).take (k - 0)).length = _
      rw [List.drop_zero, Nat.sub_zero, show (s.data.toList.take k).length = k by rw [List.length_take]; exact Nat.min_eq_left hk, slashAt_take (Nat.le_refl _)]
    rw [hv] at CL
    clear hv
    gi_wp2_with fail
    refine ⟨trivial, (callsIn_wide.2 CL.out).mono ?_⟩
    rintro e w1 ⟨rfl, rfl⟩
    have hge := slashAt_ge s.data.toList k
    have hlt := slashAt_lt s.data.toList k
    rcases Int.lt_or_le (slashAt s.data.toList k) 0 with hneg | hpos
    · have HE := lid (dirsE_end hneg)
      obtain ⟨q, hq⟩ : ∃ q, slashAt s.data.toList k = q := ⟨_, rfl⟩
      rw [hq] at hneg ⊢
      have dq : decide (q < 0) = true := decide_eq_true hneg
      clear hge hlt hq hneg
      rw [HE.out] at HJ2
      obtain ⟨fn, tmps, assign, body, hy, hR⟩ := HY.out _ (ownS, s.data.toList) w1 HJ2.out ⟨_, rfl⟩
      rw [show drv (ownS, s.data.toList) = #[.string ⟨#[79, 87, 78, 69, 82, 83]⟩, .string s] from rfl] at hy
      have HR1 := lid hR
      clear hR
      gi_wp2_with fail
      refine HR1.out.mono ?_
      rintro e W' (⟨rfl, hk', s', hT, hJ'⟩ | ⟨rfl, hk', hJx'⟩)
      · have hs' : s' = [] := by
          unfold DrT at hT
          exact (List.cons.inj hT).2.symm
        subst hs'
        have HJ' := lid hJ'
        clear hJ' hT hk' hy
        gi_wp2_with fail
        exact bodyPost_ret (results_none rfl _ _ _) rfl ⟨rfl, .inl HJ'.out⟩
      · have HJ' := lid hJx'
        clear hJx' hk'
        gi_wp2_with fail
        exact bodyPost_ret (results_none rfl _ _ _) rfl ⟨rfl, .inr ⟨_, _, HJ'.out⟩⟩
    · obtain ⟨j, hj⟩ : ∃ j : Nat, slashAt s.data.toList k = j := ⟨(slashAt s.data.toList k).toNat, by omega⟩
      have HE := lid (dirsE_next hj)
      rw [hj] at hlt ⊢
      have hjk : j < k := by omega
      have dj : decide ((j : Int) < 0) = false := by simp
      have hj1 : j + 1 ≤ s.size := by omega
      clear hge hpos hlt hj
      rw [HE.out] at HJ2
      have HJd := lid ((HJ.out _).below HJ2.out (Below.refl w1.heap.size w1).drew)
      have HSd : Hid (w1.drew.heap[bs]? = some (.cells #[.string s] 9 (0, 0))) := lid HS2.out
      obtain ⟨fn, tmps, assign, body, hy, hR⟩ := HY.out _ (s.data.toList.take (j + 1) ++ ownS, s.data.toList.drop (j + 1)) w1.drew HJd.out ⟨_, rfl⟩
      have e1 : s.extract 0 (j + 1) = bstr (s.data.toList.take (j + 1)) := by rw [extract_bstr, List.drop_zero, Nat.sub_zero]
      have e2 : s.extract (j + 1) s.size = bstr (s.data.toList.drop (j + 1)) := by rw [extract_bstr, List.take_of_length_le (by rw [List.length_drop]; exact Nat.le_refl _)]
      rw [show drv (s.data.toList.take (j + 1) ++ ownS, s.data.toList.drop (j + 1)) = #[.string (s.extract 0 (j + 1) ++ ⟨#[79, 87, 78, 69, 82, 83]⟩), .string (s.extract (j + 1) s.size)] by
        rw [e1, e2, show (⟨#[79, 87, 78, 69, 82, 83]⟩ : ByteArray) = bstr ownS from rfl, bstr_append]] at hy
      clear e1 e2
      have HR1 := lid hR
      have c0 := SinceK.cell (k := bs) (W := w1) s0
      clear hR
      gi_wp2_with fail
      refine wpIn_region_seqY (fun w' => ∃ s : SinceK bs w1, w' = s.world) [(0, true), (1, true), (2, true), (3, true), (4, true), (5, true), (6, true), (7, true), (8, true), (9, true), (10, false), (11, true)] (by kernel_rfl) (by kernel_rfl) (by intro c d v a w h; first | (cases d <;> exact h) | cases h.1) (sincek (KeepK.refl _ _).drew) ?_
      repeat (first | (refine seqY_skip (by rfl) (by rfl) ?_; simp only [Act.put, List.setIfInBounds_toArray, List.set_cons_succ, List.set_cons_zero]) | (refine seqY_float (by rfl) (by rfl) (by rfl) ?_; intro K hK; go_big_quiet_op; go_big_quiet_on))
      refine seqY_chain (by rfl) ?_
      intro K hK
      gi_wp2_with fail
      refine HR1.out.mono ?_
      rintro e W' (⟨rfl, hk', s', hT, hJ'⟩ | ⟨rfl, hk', hJx'⟩)
      · have hs' : s' = dirsE s.data.toList j := by
          unfold DrT at hT
          exact (List.cons.inj hT).2.symm
        subst hs'
        have HJ' := lid hJ'
        have HS' : Hid (W'.heap[bs]? = some (.cells #[.string s] 9 (0, 0))) := lid (hk'.cells _ _ _ _ h1 HSd.out)
        have k1 : KeepK bs w1 W' := HS'.out.trans HS2.out.symm
        clear hJ' hT hk' hy
        gi_wp2_with fail
        refine hK.out _ _ (sincek k1) ?_
        clear hK K
        repeat (first | (refine seqY_skip (by rfl) (by rfl) ?_; simp only [Act.put, List.setIfInBounds_toArray, List.set_cons_succ, List.set_cons_zero]) | (refine seqY_float (by rfl) (by rfl) (by rfl) ?_; intro K hK; go_big_quiet_op; go_big_quiet_on))
        refine seqY_nil ?_
        gi_wp2_with fail
        go_roundw
        case rel => exact ⟨j, by omega, rfl, HS', HJ'⟩
        case measure => simp [intOf]; omega
      · have HJ' := lid hJx'
        have HS' : Hid (W'.heap[bs]? = some (.cells #[.string s] 9 (0, 0))) := lid (hk'.cells _ _ _ _ h1 HSd.out)
        have k1 : KeepK bs w1 W' := HS'.out.trans HS2.out.symm
        clear hJx' hk'
        gi_wp2_with fail
        refine hK.out _ _ (sincek k1) ?_
        clear hK K
        repeat (first | (refine seqY_skip (by rfl) (by rfl) ?_; simp only [Act.put, List.setIfInBounds_toArray, List.set_cons_succ, List.set_cons_zero]) | (refine seqY_float (by rfl) (by rfl) (by rfl) ?_; intro K hK; go_big_quiet_op; go_big_quiet_on))
        refine seqY_nil ?_
        gi_wp2_with fail
        exact bodyPost_ret (results_none rfl _ _ _) rfl ⟨rfl, .inr ⟨_, _, HJ'.out⟩⟩
end Go.Proofs.YtefehgdckmajiaaGreatDoor
