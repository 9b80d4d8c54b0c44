/-
  ask of a simulation: the answer that is known, or the one that the round of the loop lays into the map.
-/
import Derived.Test.YtnjcoejnknpfoaaMinMap
import Derived.Test.YtnjcoejnknpfoaaMinSub
namespace Go.Proofs.Ytnjcoejnknpfoaa
open Go.RowKit Go.Shelf
attribute [local go_sem] Oper.semAt_some
/-- The state of a run: the answers used, and the result when it has come. -/
abbrev Fs := Nat × Option Sw
/-- What a question is; what the round does with it. -/
def AX (kn : List Kn) (B0 : Nat) (s : Fs) (x : Sw) (W : World) : Prop := s.2 = none ∧ IA W x.ao x.vs.length x.cap x.vs ∧ InR x.vs ∧ x.vs.length ≤ 64 ∧ lookL (kn.take s.1) x.vs = none ∧ ∀ b o, x.ao = some ⟨b, o, none⟩ → B0 ≤ b
def AT (kn : List Kn) (s : Fs) (x : Sw) (s' : Fs) : Prop := (∃ b, kn[s.1]? = some (x.vs, b)) ∧ s' = (s.1 + 1, none)
/-- What a run's invariants must say. -/
structure Inv (kn : List Kn) (n mb bm B : Nat) (J : Fs → World → Prop) (Jx : Fs → Sw → World → Prop) : Prop where
  j : ∀ s, Ab B (J s)
  jx : ∀ s x, Ab B (Jx s x)
  ms : ∀ u W, J (u, none) W → MS kn n mb bm u W
  no : ∀ u x W, Jx (u, none) x W → ∀ b, kn[u]? ≠ some (x.vs, b)
  fin : ∀ u x W, J (u, none) W → IA W x.ao x.vs.length x.cap x.vs → (∀ b o, x.ao = some ⟨b, o, none⟩ → B ≤ b) → J (u, some x) ((W.setCell ⟨mb, 2, none⟩ (swv x)).setCell ⟨mb, 3, none⟩ (.bool true))
/-- What ask gives. -/
def askPost (kn : List Kn) (J : Fs → World → Prop) (Jx : Fs → Sw → World → Prop) (u : Nat) (x : Sw) (e : Ending) (W' : World) : Prop :=
  match ask1 kn u x.vs with
  | some (b, u') => e = .returned (.tuple #[.bool b, .bool true]) ∧ J (u', none) W'
  | none => e = .returned (.tuple #[.bool false, .bool false]) ∧ Jx (u, none) x W'

set_option maxRecDepth 100000 in
set_option maxHeartbeats 8000000 in
theorem ask_any (kn : List Kn) (n mb bm l m B0 B : Nat) (J : Fs → World → Prop) (Jx : Fs → Sw → World → Prop) (hI : Inv kn n mb bm B J Jx)
    (hY : RoundC Try.prog m l B0 B swv (AX kn B0) (AT kn) J Jx) (x : Sw) (k : Nat) (hk : x.vs.length = k) (hk64 : k ≤ 64) (u : Nat) (W : World) (hA : IA W x.ao k x.cap x.vs) (hR : InR x.vs) (hf : ∀ b o, x.ao = some ⟨b, o, none⟩ → B0 ≤ b) (hJ0 : J (u, none) W) :
    Calls Try.prog 45 #[.pointer (some ⟨mb, 0, none⟩), .slice x.ao k x.cap, .func (.yield l) #[] #[]] W fun e W' => KF B0 B W W' ∧ askPost kn J Jx u x e W' := by
  have hM := hI.ms _ _ hJ0
  have HM := lid hM
  have HA := lid hA
  have HR := lid hR
  have HF := lid hf
  have HJ0 := lid hJ0
  have HI := lid hI
  have HK := lid hk
  have k1 := row_cell hM.sim 1
  have hmb := row_lt hM.sim
  have hkm : x.vs.length ≤ 1000000 := by omega
  clear hM hA hR hf hJ0 hI
  obtain ⟨xs, ao, cap⟩ := x
  simp only at HK hkm
  clear hk
  refine (callsIn_wide (n := m + 1)).1 ?_
  refine callsIn_of_wp Try.func45 rfl trivial ?_ rfl
  simp only [Try.ntmps45, List.size_toArray, List.length_cons, List.length_nil, Nat.reduceAdd, Nat.reduceSub, Array.replicate_succ, Array.replicate_zero, List.push_toArray, List.append_toArray, List.nil_append, List.cons_append]
  gi_wp2_with fail
  refine wpIn_wide.2 ?_
  refine wp_region_seq (fun w' => ∃ s : Since W.heap.size W, w' = s.world) [(0, true), (1, true), (2, true), (3, true), (4, true), (5, false), (6, false), (7, true), (8, true), (9, true), (10, false), (11, false)] (by kernel_rfl) (by kernel_rfl) (by intro c d v a w h; first | (cases d <;> exact h) | cases h.1) (since (Below.refl _ _).drew) ?_
  repeat (first | (refine seq_skip (by rfl) (by rfl) ?_; simp only [Act.put, List.setIfInBounds_toArray, List.set_cons_succ, List.set_cons_zero]) | (refine seq_float (by rfl) (by rfl) (by rfl) ?_; intro K hK; go_big_quiet_op; go_big_quiet_on))
  refine seq_chain (by rfl) ?_
  intro K hK
  go_wp2_with fail
  (with_reducible refine (text_any xs k cap ao _ (by omega) (HA.out.below (Below.refl _ _).drew)).mono ?_); rintro e w1 ⟨rfl, hb1⟩
  have g1 : Below W.heap.size W w1 := (Below.refl _ _).drew.trans hb1
  have HM1 := lid (HM.out.below g1)
  clear hb1
  go_wp2_with fail
  refine hK.out _ _ (since g1) ?_
  clear hK K
  repeat (first | (refine seq_skip (by rfl) (by rfl) ?_; simp only [Act.put, List.setIfInBounds_toArray, List.set_cons_succ, List.set_cons_zero]) | (refine seq_float (by rfl) (by rfl) (by rfl) ?_; intro K hK; go_big_quiet_op; go_big_quiet_on))
  refine seq_chain (by rfl) ?_
  intro K hK
  go_wp2_with (at_lookup; go_must (refine wpList_lookX _ true rfl _ _ 64 rfl _ _ _ rfl rfl (HM1.out.look_ok HR.out hkm) ?_))
  obtain ⟨lo, hlo⟩ : ∃ y, lookL (List.take u kn) xs = y := ⟨_, rfl⟩
  rw [hlo]
  have HLO := lid hlo
  clear hlo
  cases lo with
  | some b =>
    simp only [Option.getD_some, Option.isSome_some]
    refine hK.out _ _ (since g1) ?_
    clear hK K
    repeat (first | (refine seq_skip (by rfl) (by rfl) ?_; simp only [Act.put, List.setIfInBounds_toArray, List.set_cons_succ, List.set_cons_zero]) | (refine seq_float (by rfl) (by rfl) (by rfl) ?_; intro K hK; go_big_quiet_op; go_big_quiet_on))
    refine seq_chain (by rfl) ?_
    intro K hK
    go_wp2_with fail
    refine hK.out _ _ (since g1) ?_
    clear hK K
    repeat (first | (refine seq_skip (by rfl) (by rfl) ?_; simp only [Act.put, List.setIfInBounds_toArray, List.set_cons_succ, List.set_cons_zero]) | (refine seq_float (by rfl) (by rfl) (by rfl) ?_; intro K hK; go_big_quiet_op; go_big_quiet_on))
    refine seq_chain (by rfl) ?_
    intro K hK
    go_wp2_with fail
    refine hK.out _ _ (since g1) ?_
    clear hK K
    repeat (first | (refine seq_skip (by rfl) (by rfl) ?_; simp only [Act.put, List.setIfInBounds_toArray, List.set_cons_succ, List.set_cons_zero]) | (refine seq_float (by rfl) (by rfl) (by rfl) ?_; intro K hK; go_big_quiet_op; go_big_quiet_on))
    refine seq_nil ?_
    gi_wp2_with fail
    go_ret2
    refine ⟨KF.below g1, ?_⟩
    unfold askPost
    rw [ask1_old HLO.out]
    exact ⟨rfl, (HI.out.j _).below HJ0.out g1⟩
  | none =>
    simp only [Option.getD_none, Option.isSome_none]
    have hJ1 := (HI.out.j _).below HJ0.out g1
    have hA1 := HA.out.below g1
    have hX : AX kn B0 (u, none) ⟨xs, ao, cap⟩ w1 := ⟨rfl, by rw [HK.out]; exact hA1, HR.out, by rw [HK.out]; exact hk64, HLO.out, HF.out⟩
    obtain ⟨fn, tmps, assign, body, hy, hR⟩ := hY _ _ _ hJ1 hX
    rw [show swv ⟨xs, ao, cap⟩ = .slice ao k cap by simp only [swv, HK.out]] at hy
    have HA1 := lid hA1
    have HR1 := lid hR
    clear hJ1 hX hA1
    refine hK.out _ _ (since g1) ?_
    clear hK K
    repeat (first | (refine seq_skip (by rfl) (by rfl) ?_; simp only [Act.put, List.setIfInBounds_toArray, List.set_cons_succ, List.set_cons_zero]) | (refine seq_float (by rfl) (by rfl) (by rfl) ?_; intro K hK; go_big_quiet_op; go_big_quiet_on))
    refine seq_chain (by rfl) ?_
    intro K hK
    go_wp2_with fail
    refine hK.out _ _ (since g1) ?_
    clear hK K
    repeat (first | (refine seq_skip (by rfl) (by rfl) ?_; simp only [Act.put, List.setIfInBounds_toArray, List.set_cons_succ, List.set_cons_zero]) | (refine seq_float (by rfl) (by rfl) (by rfl) ?_; intro K hK; go_big_quiet_op; go_big_quiet_on))
    refine seq_chain (by rfl) ?_
    intro K hK
    go_wp2_with fail
    refine hK.out _ _ (since g1) ?_
    clear hK K
    repeat (first | (refine seq_skip (by rfl) (by rfl) ?_; simp only [Act.put, List.setIfInBounds_toArray, List.set_cons_succ, List.set_cons_zero]) | (refine seq_float (by rfl) (by rfl) (by rfl) ?_; intro K hK; go_big_quiet_op; go_big_quiet_on))
    refine seq_nil ?_
    gi_wp2_with fail
    refine HR1.out.mono ?_
    rintro e W' (⟨rfl, hk', s', ⟨⟨b, hb⟩, rfl⟩, hJ'⟩ | ⟨rfl, hk', hJx'⟩)
    · have HB := lid hb
      have HJ' := lid hJ'
      clear hb hJ' hy hR HR1
      have HM2 := lid (HI.out.ms _ _ HJ'.out)
      have q1 := row_cell HM2.out.sim 1
      have hmb2 := row_lt HM2.out.sim
      have HA2 := lid (hk'.ia HA1.out HF.out)
      have HL2 : Hid (lookL (kn.take (u + 1)) xs = some b) := lid (by
        have hlt : u < kn.length := (Array.getElem?_eq_some_iff.1 (by simpa using HB.out)).1
        have e : kn[u] = (xs, b) := by
          have := HB.out
          rw [List.getElem?_eq_getElem hlt] at this
          exact Option.some.inj this
        rw [List.take_succ_eq_append_getElem hlt, e, lookL_snoc, HLO.out]
        simp)
      gi_wp2_with fail
      refine wpIn_wide.2 ?_
      refine wp_region_seq (fun w' => ∃ s : Since W'.heap.size W', w' = s.world) [(0, true), (1, true), (2, true), (3, true), (4, true), (5, false), (6, false), (7, false), (8, false)] (by kernel_rfl) (by kernel_rfl) (by intro c d v a w h; first | (cases d <;> exact h) | cases h.1) (since (Below.refl _ _).drew) ?_
      repeat (first | (refine seq_skip (by rfl) (by rfl) ?_; simp only [Act.put, List.setIfInBounds_toArray, List.set_cons_succ, List.set_cons_zero]) | (refine seq_float (by rfl) (by rfl) (by rfl) ?_; intro K hK; go_big_quiet_op; go_big_quiet_on))
      refine seq_chain (by rfl) ?_
      intro K hK
      go_wp2_with fail
      (with_reducible refine (text_any xs k cap ao _ (by omega) (HA2.out.below (Below.refl _ _).drew)).mono ?_); rintro e w2 ⟨rfl, hb2⟩
      have g2 : Below W'.heap.size W' w2 := (Below.refl _ _).drew.trans hb2
      have HM3 := lid (HM2.out.below g2)
      clear hb2
      go_wp2_with fail
      refine hK.out _ _ (since g2) ?_
      clear hK K
      repeat (first | (refine seq_skip (by rfl) (by rfl) ?_; simp only [Act.put, List.setIfInBounds_toArray, List.set_cons_succ, List.set_cons_zero]) | (refine seq_float (by rfl) (by rfl) (by rfl) ?_; intro K hK; go_big_quiet_op; go_big_quiet_on))
      refine seq_chain (by rfl) ?_
      intro K hK
      go_wp2_with (at_lookup; go_must (refine wpList_lookX _ false rfl _ _ 64 rfl _ _ _ rfl rfl (HM3.out.look HR.out hkm) ?_))
      rw [HL2.out]
      simp only [Option.getD_some]
      refine hK.out _ _ (since g2) ?_
      clear hK K
      repeat (first | (refine seq_skip (by rfl) (by rfl) ?_; simp only [Act.put, List.setIfInBounds_toArray, List.set_cons_succ, List.set_cons_zero]) | (refine seq_float (by rfl) (by rfl) (by rfl) ?_; intro K hK; go_big_quiet_op; go_big_quiet_on))
      refine seq_chain (by rfl) ?_
      intro K hK
      go_wp2_with fail
      refine hK.out _ _ (since g2) ?_
      clear hK K
      repeat (first | (refine seq_skip (by rfl) (by rfl) ?_; simp only [Act.put, List.setIfInBounds_toArray, List.set_cons_succ, List.set_cons_zero]) | (refine seq_float (by rfl) (by rfl) (by rfl) ?_; intro K hK; go_big_quiet_op; go_big_quiet_on))
      refine seq_chain (by rfl) ?_
      intro K hK
      go_wp2_with fail
      refine hK.out _ _ (since g2) ?_
      clear hK K
      repeat (first | (refine seq_skip (by rfl) (by rfl) ?_; simp only [Act.put, List.setIfInBounds_toArray, List.set_cons_succ, List.set_cons_zero]) | (refine seq_float (by rfl) (by rfl) (by rfl) ?_; intro K hK; go_big_quiet_op; go_big_quiet_on))
      refine seq_nil ?_
      gi_wp2_with fail
      go_ret2
      refine ⟨((KF.below g1).trans hk').trans (KF.below g2), ?_⟩
      unfold askPost
      rw [ask1_new HLO.out HB.out]
      exact ⟨rfl, (HI.out.j _).below HJ'.out g2⟩
    · have HJ' := lid hJx'
      clear hJx' hy hR HR1
      gi_wp2_with fail
      go_ret2
      refine ⟨(KF.below g1).trans hk', ?_⟩
      unfold askPost
      rw [ask1_stop HLO.out (HI.out.no _ _ _ HJ'.out)]
      exact ⟨rfl, HJ'.out⟩
end Go.Proofs.Ytnjcoejnknpfoaa
