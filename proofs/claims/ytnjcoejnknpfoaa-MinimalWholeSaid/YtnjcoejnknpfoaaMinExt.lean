/-
  subsets of the program: the sets in order, each handed to yield.
-/
import Derived.Test.YtnjcoejnknpfoaaMix
import Derived.Test.YtnjcoejnknpfoaaMinRF
namespace Go.Proofs.Ytnjcoejnknpfoaa
open Go.RowKit Go.Shelf
attribute [local go_sem] Oper.semAt_some
/-- A set as it lies, as a value. -/
abbrev swv (x : Sw) : Value := .slice x.ao x.vs.length x.cap
def SwX (B0 : Nat) (s : List (List Int)) (x : Sw) (W : World) : Prop := IA W x.ao x.vs.length x.cap x.vs ∧ (∀ b o, x.ao = some ⟨b, o, none⟩ → B0 ≤ b) ∧ ∃ t, s = x.vs :: t
def SwT (s : List (List Int)) (x : Sw) (s' : List (List Int)) : Prop := s = x.vs :: s'
/-- The sets whose next number is at least i. -/
theorem setsL_step {n k i : Nat} (h : i < n) : setsL n (k + 1) i = ((setsL n k (i + 1)).map fun s => (i : Int) :: s) ++ setsL n (k + 1) (i + 1) := by
  simp only [setsL]
  rw [show n - i = (n - (i + 1)) + 1 by omega, List.range'_succ, List.flatMap_cons]
theorem setsL_none {n k i : Nat} (h : n ≤ i) : setsL n (k + 1) i = [] := by
  simp only [setsL]
  rw [show n - i = 0 by omega]
  rfl
def SinceKF (B0 B : Nat) (W : World) : Type := { w' : World // KF B0 B W w' }
instance {B0 B : Nat} {W : World} : Nonempty (SinceKF B0 B W) := ⟨⟨W, KF.refl _ _ _⟩⟩
def SinceKF.world {B0 B : Nat} {W : World} (x : SinceKF B0 B W) : World := x.1
theorem sincekf {B0 B : Nat} {W w' : World} (h : KF B0 B W w') : ∃ x : SinceKF B0 B W, w' = x.world := ⟨⟨w', h⟩, rfl⟩
theorem kf_of {B0 B : Nat} {W w' : World} (h : ∃ x : SinceKF B0 B W, w' = x.world) : KF B0 B W w' := by
  obtain ⟨x, rfl⟩ := h
  exact x.2
theorem SinceKF.cell {B0 B : Nat} {W : World} (b o : Nat) (hb : B0 ≤ b) {v : Value} (hv : W.cell? ⟨b, o, none⟩ = some v) : ∀ x : SinceKF B0 B W, x.world.cell? ⟨b, o, none⟩ = some v := fun x => by
  obtain ⟨ob, ho, hcl⟩ := cells_of_cell hv
  cases ob <;> first | (cases hcl; done) | skip
  rw [← hv]
  exact World.cell?_of_block (w := W) (a := ⟨b, o, none⟩) ((x.2.cells b _ _ _ hb ho).trans ho.symm)
/-- The boxes of the closures. -/
structure Ebx (W : World) (B0 size n bs bn bo bx l : Nat) : Prop where
  s : W.heap[bs]? = some (.cells #[.int .i64 size] 3 (0, 0))
  n : W.heap[bn]? = some (.cells #[.int .i64 n] 3 (0, 0))
  y : W.heap[bo]? = some (.cells #[.func (.yield l) #[] #[]] 78 (0, 0))
  x : W.heap[bx]? = some (.cells #[.func (.func 52) #[] #[.pointer (some ⟨bs, 0, none⟩), .pointer (some ⟨bo, 0, none⟩), .pointer (some ⟨bn, 0, none⟩), .pointer (some ⟨bx, 0, none⟩)]] 46 (0, 0))
  hs : B0 ≤ bs
  hn : B0 ≤ bn
  hy : B0 ≤ bo
  hx : B0 ≤ bx
theorem Ebx.kf {W W' : World} {B0 B size n bs bn bo bx l : Nat} (h : Ebx W B0 size n bs bn bo bx l) (k : KF B0 B W W') : Ebx W' B0 size n bs bn bo bx l :=
  ⟨k.cells _ _ _ _ h.hs h.s, k.cells _ _ _ _ h.hn h.n, k.cells _ _ _ _ h.hy h.y, k.cells _ _ _ _ h.hx h.x, h.hs, h.hn, h.hy, h.hx⟩

/-- One operation as a list of one, within a fence. -/
theorem opIn {F : Fence} {n : Nat} {P : Program} {Q : Exit → Act → World → Prop} {i : Nat} {o : Oper} {l : List Oper} (hi : l[i]? = some o) {a : Act} {w : World} {G : Act → World → Prop} (h : ∀ K : Act → World → Prop, Hid (∀ a w, G a w → K a w) → wpListIn F n P l.toArray (Exit.then K Q) [o] a w) : wpOpIn F n P l.toArray Q i G a w := by
  have h1 := h G (lid fun _ _ hg => hg)
  have hi' : l.toArray[i]? = some o := by simpa using hi
  unfold wpOpIn
  simp only [hi']
  unfold wpListIn at h1
  split
  · rename_i hw
    rw [if_pos hw] at h1
    refine ⟨h1.1, ?_⟩
    have h2 := h1.2
    generalize (o.semAt F.round a.eval).run P w = r at *
    cases r with
    | ok n w' =>
      cases n <;> simp only [Oper.uponIn] at h2 ⊢ <;>
        first
          | exact h2
          | exact ⟨h2.1, CallsIn.mono h2.2 (fun e w'' he => by cases e <;> exact he)⟩
          | exact ⟨h2.1, RoundIn.mono h2.2 (fun e w'' he => by cases e <;> exact he)⟩
    | halt x w' => cases x <;> simp only [Oper.uponIn] at h2 ⊢ <;> exact h2
  · rename_i hw
    rw [if_neg hw] at h1
    exact h1

theorem sl_one1 {w : World} {k : Nat} {us : Array Value} {t : TypeId} (h : w.heap[k]? = some (.cells us t (0, 0))) (hu : us.size = 1) : Sl w 1 (some ⟨k, 0, none⟩) 1 us.toList := by
  refine ⟨by simp [hu], .inr ⟨k, 0, rfl, (Array.getElem?_eq_some_iff.1 h).1, fun j u hj => ?_⟩⟩
  rw [cell_of_row _ _ _ us t (0, 0) h]
  simpa using hj
/-- The copy of a set and the slice of the new number, made in either order. -/
def RI (i j B0 : Nat) (W : World) (n : Nat) (xs : List Value) (us : Array Value) (s : Nat → Bool) (vs : List Value) (w : World) : Prop :=
  ∃ x y, vs = [x, y] ∧ Below B0 W w ∧ (s i = true → w.ownsRow B0 3 1 x n xs) ∧ (s j = true → ∃ k, y = .slice (some ⟨k, 0, none⟩) 1 1 ∧ B0 ≤ k ∧ w.heap[k]? = some (.cells us 3 (0, 0)))
section
variable {i j B0 : Nat} {W w w' : World} {n : Nat} {xs : List Value} {us : Array Value} {s : Nat → Bool} {x y : Value}
theorem RI.start (i j B0 : Nat) (W : World) (n : Nat) (xs : List Value) (us : Array Value) (s : Nat → Bool) (hi : s i = false) (hj : s j = false) : RI i j B0 W n xs us s [x, y] W.drew :=
  ⟨_, _, rfl, (Below.refl _ _).drew, fun h => (by rw [hi] at h; cases h), fun h => (by rw [hj] at h; cases h)⟩
theorem RI.clone (h : RI i j B0 W n xs us s [x, y] w) (hij : j ≠ i) (hB : B0 ≤ w.heap.size) {v' : Value} (hown : w'.ownsRow w.heap.size 3 1 v' n xs) (hb : Below w.heap.size w w') : RI i j B0 W n xs us (upd s i) [v', y] w' := by
  obtain ⟨_, _, e, h0, h1, h2⟩ := h
  cases e
  refine ⟨_, _, rfl, h0.trans (hb.mono hB), fun _ => ownsRow_base hown hB, fun hs => ?_⟩
  obtain ⟨k, e, hk, hc⟩ := h2 (by rwa [upd_ne _ hij] at hs)
  exact ⟨k, e, hk, (hb.block k (Array.getElem?_eq_some_iff.1 hc).1).trans hc⟩
theorem RI.lay (h : RI i j B0 W n xs us s [x, y] w) (hij : i ≠ j) (hB : B0 ≤ w.heap.size) : RI i j B0 W n xs us (upd s j) [x, .slice (some ⟨w.heap.size, 0, none⟩) 1 1] (w.alloc (.cells us 3)) := by
  obtain ⟨_, _, e, h0, h1, h2⟩ := h
  cases e
  refine ⟨_, _, rfl, h0.trans ((ba _ _).mono hB), fun hs => ownsRow_below (h1 (by rwa [upd_ne _ hij] at hs)) (ba _ _), fun _ => ⟨_, rfl, hB, heap_alloc_new w _⟩⟩
end

set_option maxRecDepth 100000 in
set_option maxHeartbeats 8000000 in
theorem ext_any (size n l m B0 B bs bn bo bx : Nat) (hsz : size ≤ 5) (hn5 : n ≤ 5) (J : List (List Int) → World → Prop) (Jx : List (List Int) → Sw → World → Prop) (hJ : ∀ s, Ab B (J s))
    (hY : RoundC Try.prog m l B0 B swv (SwX B0) SwT J Jx) : ∀ (d : Nat), d ≤ size → ∀ (pre : List Int) (ao : Option Addr) (cap low k : Nat) (rest : List (List Int)) (W : World), pre.length = k → k + d = size → low ≤ 6 →
      IA W ao k cap pre → (∀ b o, ao = some ⟨b, o, none⟩ → B0 ≤ b) → Ebx W B0 size n bs bn bo bx l → J ((setsL n d low).map (pre ++ ·) ++ rest) W → B0 ≤ W.heap.size →
      Calls Try.prog 52 #[.slice ao k cap, .int .i64 low, .pointer (some ⟨bs, 0, none⟩), .pointer (some ⟨bo, 0, none⟩), .pointer (some ⟨bn, 0, none⟩), .pointer (some ⟨bx, 0, none⟩)] W fun e W' =>
        KF B0 B W W' ∧ ((e = .returned (.bool true) ∧ J rest W') ∨ (e = .returned (.bool false) ∧ ∃ s x, Jx s x W')) := by
  intro d
  induction d with
  | zero =>
    intro _ pre ao cap low k rest W hpl hk hlow hIA hfr hE hJ0 hB
    obtain rfl : k = size := by omega
    have HI := lid hIA
    have HE := lid hE
    have HJ := lid hJ
    have HJ0 := lid hJ0
    have cs := row_cell hE.s 0
    have cy := row_cell hE.y 0
    have hbo := (Array.getElem?_eq_some_iff.1 hE.y).1
    clear hIA hE hJ hJ0 hfr
    go_enter Try.func52, Try.ntmps52
    go_wp2_with fail
    refine (wpIn_wide (n := m + 1)).1 ?_
    refine wpIn_region_any (by kernel_rfl) ?_
    refine wpAnyIn_take (i := 1) (v := .slice ao k cap) rfl rfl (by kernel_rfl) (by kernel_rfl) (by kernel_rfl) (fun _ _ _ h => h) ⟨Or.inl ⟨by rfl, ?_⟩, fun _ => rfl⟩ ?_
    · intro w
      go_simp
    refine wpAnyIn_ready (rs := [0, 2]) (by kernel_rfl) (by simp) (List.forall_mem_cons.2 ⟨?_, List.forall_mem_cons.2 ⟨?_, List.forall_mem_nil _⟩⟩)
    · refine opIn (by rfl) ?_
      intro K hK
      gi_wp2_with fail
      refine hK.out _ _ ?_
      clear hK K
      refine wpAnyIn_ready (rs := [2]) (by kernel_rfl) (by simp) (List.forall_mem_cons.2 ⟨?_, List.forall_mem_nil _⟩)
      refine opIn (by rfl) ?_
      intro K hK
      gi_wp2_with fail
      refine ⟨trivial, (callsIn_wide.2 (Clone_int pre k cap ao _ hpl (HI.out.below (Below.refl _ _).drew).sl HI.out.z (by omega))).mono ?_⟩
      rintro e w2 ⟨v', rfl, hown, hb2⟩
      gi_wp2_with fail
      refine hK.out _ _ ?_
      clear hK K
      have hb2 : Below W.heap.size W w2 := (Below.refl _ _).drew.trans hb2
      obtain ⟨ao2, cap2, rfl, hI2⟩ := IA.of_own hown
      have hJ2 := (HJ.out _).below HJ0.out hb2
      have hX : SwX B0 ((setsL n 0 low).map (pre ++ ·) ++ rest) ⟨pre, ao2, cap2⟩ w2 := ⟨by rw [hpl]; exact hI2, fun b o e => (by have h1 := ownsRow_row hown b (by simp only at e; subst e; rfl); have h2 : W.heap.size ≤ W.drew.heap.size := Nat.le_refl _; omega), rest, by simp [setsL]⟩
      obtain ⟨fn, tmps, assign, body, hy, hR⟩ := hY _ _ _ hJ2 hX
      have hKF : KF B0 B W w2 := KF.below hb2
      rw [show swv ⟨pre, ao2, cap2⟩ = .slice ao2 k cap2 by simp only [swv, hpl]] at hy
      clear hJ2 hown hI2 hX
      refine wpAnyIn_ready (rs := [3]) (by kernel_rfl) (by simp) (List.forall_mem_cons.2 ⟨?_, List.forall_mem_nil _⟩)
      refine opIn (by rfl) ?_
      intro K hK
      gi_wp2_with fail
      refine hR.mono ?_
      clear hR hy
      rintro e W' (⟨rfl, hk', s', hT, hJ'⟩ | ⟨rfl, hk', hJx'⟩)
      · have HJ' := lid (show J rest W' by
          have hT' : (setsL n 0 low).map (pre ++ ·) ++ rest = pre :: s' := hT
          simp [setsL] at hT'
          rw [hT']
          exact hJ')
        clear hT hJ'
        gi_wp2_with fail
        refine hK.out _ _ ?_
        clear hK K
        refine wpAnyIn_ready (rs := [4]) (by kernel_rfl) (by simp) (List.forall_mem_cons.2 ⟨?_, List.forall_mem_nil _⟩)
        refine opIn (by rfl) ?_
        intro K hK
        gi_wp2_with fail
        refine hK.out _ _ ?_
        clear hK K
        refine wpAnyIn_done (by kernel_rfl) ?_ _
        go_wp2_with fail
        go_ret
        exact ⟨hKF.trans hk', .inl ⟨rfl, HJ'.out⟩⟩
      · have HJ' := lid hJx'
        clear hJx'
        gi_wp2_with fail
        refine hK.out _ _ ?_
        clear hK K
        refine wpAnyIn_ready (rs := [4]) (by kernel_rfl) (by simp) (List.forall_mem_cons.2 ⟨?_, List.forall_mem_nil _⟩)
        refine opIn (by rfl) ?_
        intro K hK
        gi_wp2_with fail
        refine hK.out _ _ ?_
        clear hK K
        refine wpAnyIn_done (by kernel_rfl) ?_ _
        go_wp2_with fail
        go_ret
        exact ⟨hKF.trans hk', .inr ⟨rfl, _, _, HJ'.out⟩⟩
    · refine opIn (by rfl) ?_
      intro K hK
      gi_wp2_with fail
      refine ⟨trivial, (callsIn_wide.2 (Clone_int pre k cap ao _ hpl (HI.out.below (Below.refl _ _).drew).sl HI.out.z (by omega))).mono ?_⟩
      rintro e w2 ⟨v', rfl, hown, hb2⟩
      gi_wp2_with fail
      refine hK.out _ _ ?_
      clear hK K
      have hb2 : Below W.heap.size W w2 := (Below.refl _ _).drew.trans hb2
      refine wpAnyIn_ready (rs := [0]) (by kernel_rfl) (by simp) (List.forall_mem_cons.2 ⟨?_, List.forall_mem_nil _⟩)
      have cy2 := (bc hb2 hbo 0).trans cy
      refine opIn (by rfl) ?_
      intro K hK
      gi_wp2_with fail
      refine hK.out _ _ ?_
      clear hK K
      obtain ⟨ao2, cap2, rfl, hI2⟩ := IA.of_own hown
      have hJ2 := (HJ.out _).below HJ0.out hb2
      have hX : SwX B0 ((setsL n 0 low).map (pre ++ ·) ++ rest) ⟨pre, ao2, cap2⟩ w2 := ⟨by rw [hpl]; exact hI2, fun b o e => (by have h1 := ownsRow_row hown b (by simp only at e; subst e; rfl); have h2 : W.heap.size ≤ W.drew.heap.size := Nat.le_refl _; omega), rest, by simp [setsL]⟩
      obtain ⟨fn, tmps, assign, body, hy, hR⟩ := hY _ _ _ hJ2 hX
      have hKF : KF B0 B W w2 := KF.below hb2
      rw [show swv ⟨pre, ao2, cap2⟩ = .slice ao2 k cap2 by simp only [swv, hpl]] at hy
      clear hJ2 hown hI2 hX
      refine wpAnyIn_ready (rs := [3]) (by kernel_rfl) (by simp) (List.forall_mem_cons.2 ⟨?_, List.forall_mem_nil _⟩)
      refine opIn (by rfl) ?_
      intro K hK
      gi_wp2_with fail
      refine hR.mono ?_
      clear hR hy
      rintro e W' (⟨rfl, hk', s', hT, hJ'⟩ | ⟨rfl, hk', hJx'⟩)
      · have HJ' := lid (show J rest W' by
          have hT' : (setsL n 0 low).map (pre ++ ·) ++ rest = pre :: s' := hT
          simp [setsL] at hT'
          rw [hT']
          exact hJ')
        clear hT hJ'
        gi_wp2_with fail
        refine hK.out _ _ ?_
        clear hK K
        refine wpAnyIn_ready (rs := [4]) (by kernel_rfl) (by simp) (List.forall_mem_cons.2 ⟨?_, List.forall_mem_nil _⟩)
        refine opIn (by rfl) ?_
        intro K hK
        gi_wp2_with fail
        refine hK.out _ _ ?_
        clear hK K
        refine wpAnyIn_done (by kernel_rfl) ?_ _
        go_wp2_with fail
        go_ret
        exact ⟨hKF.trans hk', .inl ⟨rfl, HJ'.out⟩⟩
      · have HJ' := lid hJx'
        clear hJx'
        gi_wp2_with fail
        refine hK.out _ _ ?_
        clear hK K
        refine wpAnyIn_ready (rs := [4]) (by kernel_rfl) (by simp) (List.forall_mem_cons.2 ⟨?_, List.forall_mem_nil _⟩)
        refine opIn (by rfl) ?_
        intro K hK
        gi_wp2_with fail
        refine hK.out _ _ ?_
        clear hK K
        refine wpAnyIn_done (by kernel_rfl) ?_ _
        go_wp2_with fail
        go_ret
        exact ⟨hKF.trans hk', .inr ⟨rfl, _, _, HJ'.out⟩⟩
  | succ d ih =>
    intro hd pre ao cap low k rest W hpl hk hlow hIA hfr hE hJ0 hB
    have IH := lid (ih (by omega))
    have HI := lid hIA
    have HF := lid hfr
    have HE := lid hE
    have HJ := lid hJ
    have HJ0 := lid hJ0
    have HPL := lid hpl
    have cs := row_cell hE.s 0
    have d1 : ((k : Int) == (size : Int)) = false := by simp; omega
    clear hIA hE hJ hJ0 hfr ih hpl
    go_enter Try.func52, Try.ntmps52
    go_wp2_with fail
    go_loopw [9] (fun i wr => ∃ j : Nat, low ≤ j ∧ (j ≤ n ∨ j = low) ∧ i = .int .i64 j ∧ Hid (J ((setsL n (d + 1) j).map (pre ++ ·) ++ rest) wr) ∧ Hid (KF B0 B W wr)) (fun i _ => n - (intOf i).toNat)
    case atStart => exact ⟨low, Nat.le_refl _, .inr rfl, rfl, HJ0, lid (KF.refl _ _ _)⟩
    case round =>
      obtain ⟨j, hlj, hjn, rfl, HJ1, HK⟩ := hrel
      have HE1 := lid (HE.out.kf HK.out)
      have cn := row_cell HE1.out.n 0
      have cx := row_cell HE1.out.x 0
      have HI1 := lid (HK.out.ia HI.out HF.out)
      have hWr : W.heap.size ≤ wr.heap.size := HK.out.size
      have hBr : B0 ≤ wr.heap.size := by omega
      by_cases hlt : j < n
      · have dj : decide ((j : Int) < (n : Int)) = true := by simp; omega
        have hk5 : k ≤ 5 := by omega
        have hj5 : j ≤ 5 := by omega
        go_wp2_with fail
        have xx := SinceKF.cell (B0 := B0) (B := B) (W := wr) bx 0 HE1.out.hx cx
        have CL := lid (fun w1 (hb : Below wr.heap.size wr w1) => Clone_int pre k cap ao w1 HPL.out (HI1.out.below hb).sl HI1.out.z (by omega))
        clear cx
        refine wp_region_mix (fun w' => ∃ s : SinceKF B0 B wr, w' = s.world) [(0, true), (1, true), (3, true), (6, true), (7, true)] [(2, []), (4, [])] [(5, false), (8, false), (9, true)] (by kernel_rfl) (by kernel_rfl) (by intro c d v a w h; cases d <;> exact h) (sincekf (KF.below (Below.refl _ _).drew)) ?_
        repeat (first | (refine seq_skip (by rfl) (by rfl) ?_; simp only [Act.put, List.setIfInBounds_toArray, List.set_cons_succ, List.set_cons_zero]) | (refine seq_float (by rfl) (by rfl) (by rfl) ?_; intro K hK; go_big_quiet_op; go_big_quiet_on))
        refine seq_nil (mix_go [26, 28] [u26, u28] (RI 2 4 wr.heap.size wr k (ivals pre) #[.int .i64 j]) rfl (by simp only [putAll, Act.put, List.setIfInBounds_toArray, List.set_cons_succ, List.set_cons_zero]) (fun s h => RI.start _ _ _ _ _ _ _ s (h (2, []) (by simp)) (h (4, []) (by simp))) ⟨?_, ?_, trivial⟩ ?_)
        · intro s vs w1 _ _ _ _ hR
          have hR' := lid hR
          obtain ⟨x, y, rfl, hB1, hx, hy⟩ := hR
          simp only [putAll, Act.put, List.setIfInBounds_toArray, List.set_cons_succ, List.set_cons_zero]
          refine mix_op (by rfl) ?_
          intro K hK
          go_wp2_with fail
          (with_reducible refine (CL.out _ hB1).mono ?_); rintro e w2 ⟨v', rfl, hown, hb2⟩
          go_wp2_with fail
          exact hK.out _ _ ⟨sincekf (KF.below (hB1.trans (hb2.mono hB1.size))), [v', y], rfl, by simp only [putAll, Act.put, List.setIfInBounds_toArray, List.set_cons_succ, List.set_cons_zero], hR'.out.clone (by decide) hB1.size hown hb2⟩
        · intro s vs w1 _ _ _ _ hR
          have hR' := lid hR
          obtain ⟨x, y, rfl, hB1, hx, hy⟩ := hR
          simp only [putAll, Act.put, List.setIfInBounds_toArray, List.set_cons_succ, List.set_cons_zero]
          refine mix_op (by rfl) ?_
          intro K hK
          go_wp2_with fail
          exact hK.out _ _ ⟨sincekf (KF.below (hB1.trans ((ba _ _).mono hB1.size))), [x, .slice (some ⟨w1.heap.size, 0, none⟩) 1 1], rfl, by simp only [putAll, Act.put, List.setIfInBounds_toArray, List.set_cons_succ, List.set_cons_zero], hR'.out.lay (by decide) hB1.size⟩
        · intro s vs w1 _ hall _ hR
          obtain ⟨x, y, rfl, hB1, hx, hy⟩ := hR
          replace hx := hx (hall (2, []) (by simp))
          replace hy := hy (hall (4, []) (by simp))
          obtain ⟨kb, rfl, hkb, hkc⟩ := hy
          simp only [putAll, Act.put, List.setIfInBounds_toArray, List.set_cons_succ, List.set_cons_zero]
          clear hall
          refine seq_chain (by rfl) ?_
          intro K hK
          go_wp2_with (at_builtin; go_must (refine wpList_append_sl rfl _ _ 30 rfl wr.heap.size 3 (.int .i64 0) 1 8 info_int Try.underlying30 rfl (by decide) _ _ _ hx rfl _ 1 1 #[.int .i64 j].toList rfl (sl_one1 hkc rfl) (by intro h; cases h) (by simp [Value.oneCell']) (by simp only [maxLen]; omega) (by omega) hB1.size ?_))
          intro v5 w5 hown5 hb5
          have hB5 := hB1.trans hb5
          have hown5' : w5.ownsRow wr.heap.size 3 1 v5 (k + 1) (ivals (pre ++ [(j : Int)])) := by rw [ivals_snoc]; exact hown5
          clear hown5 hx hkc
          obtain ⟨ao5, cap5, rfl, hI5⟩ := IA.of_own hown5'
          have HFR : Hid (∀ b o, ao5 = some ⟨b, o, none⟩ → B0 ≤ b) := lid (fun b o e => by
            have h1 := ownsRow_row hown5' b (by subst e; rfl)
            omega)
          have HI5 := lid hI5
          have HJ5 := lid ((HJ.out _).below HJ1.out hB5)
          have HE5 := lid (HE1.out.kf (KF.below (B := B) hB5))
          have h5 := hB5.size
          have CI : Hid (Calls Try.prog 52 #[.slice ao5 (k + 1) cap5, .int .i64 ((j : Int) + 1), .pointer (some ⟨bs, 0, none⟩), .pointer (some ⟨bo, 0, none⟩), .pointer (some ⟨bn, 0, none⟩), .pointer (some ⟨bx, 0, none⟩)] w5 fun e W' =>
              KF B0 B w5 W' ∧ ((e = .returned (.bool true) ∧ J ((setsL n (d + 1) (j + 1)).map (pre ++ ·) ++ rest) W') ∨ (e = .returned (.bool false) ∧ ∃ s x, Jx s x W'))) := lid (by
            have := IH.out (pre ++ [(j : Int)]) ao5 cap5 (j + 1) (k + 1) ((setsL n (d + 1) (j + 1)).map (pre ++ ·) ++ rest) w5 (by simp [HPL.out]) (by omega) (by omega) HI5.out HFR.out HE5.out (by
              have h := HJ5.out
              rw [setsL_step hlt] at h
              simpa [List.map_append, List.map_map, Function.comp_def, List.append_assoc] using h) (by omega)
            rwa [show ((j + 1 : Nat) : Int) = (j : Int) + 1 by omega] at this)
          have hKF5 : KF B0 B wr w5 := KF.below hB5
          clear hI5 hown5' hb5
          go_wp2_with fail
          refine hK.out _ _ (sincekf hKF5) ?_
          clear hK K
          refine seq_chain (by rfl) ?_
          intro K hK
          go_wp2_with fail
          (with_reducible refine CI.out.mono ?_)
          rintro e W' ⟨hk', ⟨rfl, hJ'⟩ | ⟨rfl, s, x, hJx'⟩⟩
          · have HJ' := lid hJ'
            have hkk := hKF5.trans hk'
            clear hJ'
            go_wp2_with fail
            refine hK.out _ _ (sincekf hkk) ?_
            clear hK K
            repeat (first | (refine seq_skip (by rfl) (by rfl) ?_; simp only [Act.put, List.setIfInBounds_toArray, List.set_cons_succ, List.set_cons_zero]) | (refine seq_float (by rfl) (by rfl) (by rfl) ?_; intro K hK; go_big_quiet_op; go_big_quiet_on))
            refine seq_nil ?_
            go_wp2_with fail
            go_roundw
            case rel => exact ⟨j + 1, by omega, by omega, by go_num, HJ', lid (HK.out.trans hkk)⟩
            case measure => simp [intOf]; omega
          · have HJ' := lid hJx'
            have hkk := hKF5.trans hk'
            clear hJx'
            go_wp2_with fail
            refine hK.out _ _ (sincekf hkk) ?_
            clear hK K
            repeat (first | (refine seq_skip (by rfl) (by rfl) ?_; simp only [Act.put, List.setIfInBounds_toArray, List.set_cons_succ, List.set_cons_zero]) | (refine seq_float (by rfl) (by rfl) (by rfl) ?_; intro K hK; go_big_quiet_op; go_big_quiet_on))
            refine seq_nil ?_
            go_wp2_with fail
            go_ret
            exact ⟨HK.out.trans hkk, .inr ⟨rfl, _, _, HJ'.out⟩⟩
      · have dj : decide ((j : Int) < (n : Int)) = false := by simp; omega
        have HJ2 : Hid (J rest wr) := lid (by
          have h := HJ1.out
          rw [setsL_none (by omega)] at h
          simpa using h)
        go_wp2_with fail
        go_ret
        exact ⟨HK.out, .inl ⟨rfl, HJ2.out⟩⟩
end Go.Proofs.Ytnjcoejnknpfoaa
