/-
  run of the law: a search is gone through to its end.
-/
import Derived.OwnWalk
import Derived.Test.YtnjcoejnknpfoaaMix
import Derived.Test.YtnjcoejnknpfoaaMinRunI
namespace Go.Proofs.Ytnjcoejnknpfoaa
open Go.RowKit Go.Shelf
/-- What a run gives. -/
def RnP (w : World) (T : List (List Int)) (R : List Int) (e : Ending) (w' : World) : Prop :=
  ∃ (a1 : Option Addr) (n1 c1 : Nat) (vo : Value) (base : Nat) (rs : List Sw), e = .returned (.tuple #[.slice a1 n1 c1, vo, .bool true]) ∧ IA w' a1 n1 c1 R ∧ rs.map Sw.vs = T ∧ OutG w' base vo rs ∧ Below w.heap.size w w'
/-- The oracle's answers. -/
def orcF (L : List Sw) (q r : Int) (n : Nat) (s : List Int) : Bool := badB (L.map Sw.vs) q r n s
theorem kn_snoc {lk : List Kw} {f : List Int → Bool} {T : List (List Int)} {i : Nat} {s : List Int} {b : Bool} (h : lk.map Kw.kn = (T.take i).map (ans f)) (hs : T[i]? = some s) (hb : b = f s) : lk.map Kw.kn ++ [(s, b)] = (T.take (i + 1)).map (ans f) := by
  obtain ⟨hi, e⟩ := List.getElem?_eq_some_iff.1 hs
  rw [h, List.take_succ_eq_append_getElem hi, List.map_append, e, hb]
  rfl
/-- Two values under way, what stood stays. -/
def RM2 (i j : Nat) (X Y : Value) (W : World) (s : Nat → Bool) (vs : List Value) (w : World) : Prop :=
  ∃ x y, vs = [x, y] ∧ Below W.heap.size W w ∧ (s i = true → x = X) ∧ (s j = true → y = Y)
theorem RM2.start (i j : Nat) (X Y x0 y0 : Value) (W W' : World) (h : Below W.heap.size W W') (s : Nat → Bool) (h1 : s i = false) (h2 : s j = false) : RM2 i j X Y W s [x0, y0] W' :=
  ⟨_, _, rfl, h, fun e => (by rw [h1] at e; cases e), fun e => (by rw [h2] at e; cases e)⟩
theorem RM2.one {i j : Nat} {X Y x y : Value} {W w w' : World} {s : Nat → Bool} (h : RM2 i j X Y W s [x, y] w) (hij : j ≠ i) (hb : Below W.heap.size W w') : RM2 i j X Y W (upd s i) [X, y] w' := by
  obtain ⟨x', y', e, _, h1, h2⟩ := h
  cases e
  exact ⟨_, _, rfl, hb, fun _ => rfl, fun e => h2 (by rwa [upd_ne s hij] at e)⟩
theorem RM2.two {i j : Nat} {X Y x y : Value} {W w w' : World} {s : Nat → Bool} (h : RM2 i j X Y W s [x, y] w) (hij : i ≠ j) (hb : Below W.heap.size W w') : RM2 i j X Y W (upd s j) [x, Y] w' := by
  obtain ⟨x', y', e, _, h1, h2⟩ := h
  cases e
  exact ⟨_, _, rfl, hb, fun e => h1 (by rwa [upd_ne s hij] at e), fun _ => rfl⟩
theorem kx_below {B X : Nat} {W W' : World} (h : Below B W W') : KeptX B X W W' := fun q hq _ => h.block q hq
theorem set2_keptx' {W W' : World} {B X : Nat} {v0 v1 : Value} (h : KeptX B X W W') : KeptX B X W ((W'.setCell ⟨X, 0, none⟩ v0).setCell ⟨X, 1, none⟩ v1) := by
  refine KeptX.setCell (p := ⟨X, 1, none⟩) ?_ (.inl rfl) v1
  refine KeptX.setCell (p := ⟨X, 0, none⟩) ?_ (.inl rfl) v0
  exact h
/-- Tell in a run. -/
theorem tell_run {n : Nat} (hN : GoodN (n : Int)) {f : List Int → Bool} {T : List (List Int)} {i : Nat} {S : List Int} {lk : List Kw} {cap : Nat} {ao : Option Addr} {n1 c1 : Nat} {a1 : Option Addr} (w1 : World) (hi : i ≤ 60) (hE : Exm (lk.map Kw.kn) n ⟨0, false, S⟩) (hk : KA w1 ao i cap lk) (hl : ∀ q ∈ lk, q.vs.length ≤ 20) (hI : IA w1 a1 n1 c1 S) (hn1 : n1 ≤ 20) (hkn : lk.map Kw.kn = (T.take i).map (ans f)) (hS : T[i]? = some S) :
    Calls Try.prog 23 #[.agg #[.int .i64 n, .slice ao i cap], .slice a1 n1 c1, .bool (f S)] w1 fun e w' => ∃ (a' : Option Addr) (c' : Nat) (l' : List Kw), e = .returned (.tuple #[.agg #[.int .i64 n, .slice a' (i + 1) c'], .int .i64 0]) ∧ KA w' a' (i + 1) c' l' ∧ l'.map Kw.kn = (T.take (i + 1)).map (ans f) ∧ (∀ q ∈ l', q.vs.length ≤ 20) ∧ Below w1.heap.size w1 w' ∧
      (∀ b o, a' = some ⟨b, o, none⟩ → w1.heap.size ≤ b) ∧ (∀ q ∈ l', q ∈ lk ∨ ∀ b o, q.ao = some ⟨b, o, none⟩ → w1.heap.size ≤ b) := by
  refine (Tell_any n hN lk i cap ao S n1 c1 a1 (f S) w1 (by omega) hk hl hI hn1).mono ?_
  rintro e w' ⟨r, l', k', c', a', hE2, rfl, hka, hkn', hl', hb, hfa, hfq⟩
  obtain rfl := hE2.det hE
  have ht : tellE ⟨0, false, S⟩ S = 0 := by unfold tellE; simp
  rw [ht, if_pos rfl] at hkn'
  have hkn2 := hkn'.trans (kn_snoc hkn hS rfl)
  have hk' : k' = i + 1 := by
    obtain ⟨hi', _⟩ := List.getElem?_eq_some_iff.1 hS
    have h1 := congrArg List.length hkn2
    rw [List.length_map, List.length_map, List.length_take, hka.len] at h1
    omega
  subst hk'
  exact ⟨a', c', l', by rw [ht, if_pos rfl], hka, hkn2, hl', hb, hfa, hfq⟩
set_option maxRecDepth 100000 in
set_option maxHeartbeats 8000000 in
theorem run_any (n : Nat) (hn10 : n ≤ 10) (L : List Sw) (ok ocp : Nat) (ob : Option Addr) (q r : Int) (w : World) (hG : GA w ob ok ocp L) (hr : 0 ≤ r) (hk : ok ≤ 1000) (hlen : ∀ s ∈ L, s.vs.length ≤ 1000) (T : List (List Int)) (R : List Int) (hT : Trc (orcF L q r n) n T R) :
    Calls Try.prog 26 #[.int .i64 n, .agg #[.slice ob ok ocp, .int .u64 q, .int .u8 r]] w (RnP w T R) := by
  have hN : GoodN (n : Int) := .inr (by omega)
  have HTR := lid hT
  have HT55 := lid (hT.len60 hn10)
  have HTS := lid hT.short
  have CS : Hid (∀ w1 : World, Calls Try.prog 13 #[.int .i64 n] w1 fun e w' => e = .returned (.tuple #[.agg #[.int .i64 n, .slice none 0 0], .int .i64 0]) ∧ Below w1.heap.size w1 w') := lid (fun w1 => by
    have := Start_any n w1
    rwa [show startN (n : Int) = n by unfold startN; rw [if_neg (by omega)], show startE (n : Int) = 0 by unfold startE; rw [if_neg (by omega)]] at this)
  have CB : Hid (∀ (w1 : World) (xs : List Int) (n2 c2 : Nat) (a2 : Option Addr), Below w.heap.size w w1 → IA w1 a2 n2 c2 xs → n2 ≤ 1000 → Calls Try.prog 27 #[.agg #[.slice ob ok ocp, .int .u64 q, .int .u8 r], .slice a2 n2 c2, .int .i64 n] w1 fun e w' => e = .returned (.bool (orcF L q r n xs)) ∧ Below w1.heap.size w1 w') := lid (fun w1 xs n2 c2 a2 hb hx h2 => bad_any L ok ocp ob q r xs n2 c2 a2 n w1 (hG.below hb) hx hr (by omega) (by omega) (fun s hs => by have := hlen s hs; omega))
  obtain ⟨f, hf⟩ : ∃ f, orcF L q r n = f := ⟨_, rfl⟩
  rw [hf] at HTR CB
  clear hT hG hlen hf hr
  go_enter Try.func26, Try.ntmps26
  go_wp2_with fail
  obtain ⟨W1, hW1⟩ : ∃ y, w.alloc (.cells #[.slice ob ok ocp, .int .u64 q, .int .u8 r] 42) = y := ⟨_, rfl⟩
  have g1 : Below w.heap.size w W1 := by rw [← hW1]; exact ba _ _
  have rO : W1.heap[w.heap.size]? = some (.cells #[.slice ob ok ocp, .int .u64 q, .int .u8 r] 42 (0, 0)) := by rw [← hW1]; exact h_new rfl _
  rw [hW1]
  clear hW1
  (with_reducible refine (CS.out W1).mono ?_); rintro e w2 ⟨rfl, hb2⟩
  have rO2 := (hb2.block _ (row_lt rO)).trans rO
  have g2 := g1.trans (hb2.mono g1.size)
  have hz2 : w.heap.size < w2.heap.size := row_lt rO2
  go_wp2_with fail
  obtain ⟨b0, hb0⟩ : ∃ y, w2.heap.size = y := ⟨_, rfl⟩
  have HI0 : Hid (RunI w b0 n #[.slice ob ok ocp, .int .u64 q, .int .u8 r] f T 0 0 (.slice (some ⟨b0 + 1, 0, none⟩) 0 0) none 0 [] [] ((w2.alloc (.cells #[.int .i64 n, .slice none 0 0] 24)).alloc (.cells #[] 30))) := lid (by
    subst hb0
    refine ⟨(g2.alloc g2.size _).alloc (by simp; omega) _, hz2, (h_old (by simp; omega) _).trans ((h_old hz2 _).trans rO2), (h_old (by simp) _).trans (h_new rfl _), ka_nil _, rfl, (fun q hq => by cases hq), (fun b o e => by cases e), (fun q hq => by cases hq), ⟨ownsRow_empty (by simp) (by simp), (fun r hr => by cases hr), (fun r hr => by cases hr)⟩, (fun r hr => by cases hr), rfl, fun g e => ⟨(fun b o e => by cases e), (fun q hq => by cases hq)⟩⟩)
  rw [hb0]
  obtain ⟨W3, hW3⟩ : ∃ y, (w2.alloc (.cells #[.int .i64 n, .slice none 0 0] 24)).alloc (.cells #[] 30) = y := ⟨_, rfl⟩
  rw [hW3] at HI0 ⊢
  clear hW3 hb0 rO rO2 hb2 g1 g2 hz2
  go_loopw [9, 22] (fun v9 vi wr => ∃ (i cap : Nat) (ao : Option Addr) (lk : List Kw) (rs : List Sw), i ≤ T.length ∧ vi = .int .i64 i ∧ Hid (RunI w b0 n #[.slice ob ok ocp, .int .u64 q, .int .u8 r] f T i i v9 ao cap lk rs wr)) (fun _ vi _ => 100 - (intOf vi).toNat)
  case atStart => exact ⟨0, 0, none, [], [], Nat.zero_le _, rfl, HI0⟩
  case round =>
    obtain ⟨i, cap, ao, lk, rs, hi, rfl, HI⟩ := hrel
    have hi55 : i ≤ 55 := by have := HT55.out; omega
    have di : decide ((i : Int) < 100) = true := by simp; omega
    have CN := lid (fun (w5 : World) (hb5 : Below wr.heap.size wr w5) => Next_any n hN lk i cap ao w5 (by omega) (HI.out.ka.below hb5) HI.out.l20)
    have CR := lid (fun (w5 : World) (hb5 : Below wr.heap.size wr w5) => Result_any n hN lk i cap ao w5 (by omega) (HI.out.ka.below hb5) HI.out.l20)
    by_cases hlt : i < T.length
    · have HST := lid (stAt_open (R := R) hlt)
      have HSI := lid (List.getElem?_eq_getElem hlt)
      have HSS : Hid (T[i].length < n) := lid (HTS.out _ (List.getElem_mem hlt))
      obtain ⟨S, hS⟩ : ∃ y, T[i] = y := ⟨_, rfl⟩
      rw [hS] at HST HSI HSS
      clear hS
      have HEX : Hid (Exm (lk.map Kw.kn) n ⟨0, false, S⟩) := lid (by
        have := HTR.out.exm hn10 hi
        rw [HST.out, ← HI.out.kn] at this
        exact this)
      have s0 := row_cell HI.out.srch 0
      have s1 := row_cell HI.out.srch 1
      have lS := row_lt HI.out.srch
      go_wp2_with fail
      (with_reducible refine (CN.out wr (Below.refl _ _)).mono ?_); rintro e w4 ⟨rr, a1, n1, c1, hE, rfl, hIA, hb4, hf4⟩
      obtain rfl := hE.det HEX.out
      have HI4 := lid (HI.out.below hb4)
      have HIA : Hid (IA w4 a1 n1 c1 S) := lid hIA
      have HF4 := lid hf4
      have HB4 := lid hb4
      rw [show Ex.open ⟨0, false, S⟩ = true from rfl]
      clear hE hIA hf4
      replace s0 := row_cell HI4.out.srch 0
      replace s1 := row_cell HI4.out.srch 1
      have lS4 := row_lt HI4.out.srch
      go_wp2_with fail
      (with_reducible refine (CR.out w4 hb4).mono ?_); rintro e w5 ⟨rr, a2, n2, c2, hE, rfl, hIA2, hb5, hf5⟩
      obtain rfl := hE.det HEX.out
      rw [show Ex.fin ⟨0, false, S⟩ = false from rfl]
      have HI5 := lid (HI4.out.below hb5)
      have HIA5 := lid (HIA.out.below hb5)
      have HIA2 : Hid (IA w5 a2 n2 c2 []) := lid hIA2
      have hz45 := hb5.size
      have hz4 := HB4.out.size
      clear hE hIA2 hf5 hb4 hb5 CN CR s0 s1 lS lS4 HI4
      have hn1 : n1 ≤ 10 := by have := HIA5.out.len; have := HSS.out; omega
      have HRL : Hid (rs.length = i) := lid (by
        have := congrArg List.length HI5.out.rs
        rw [List.length_map, List.length_take] at this
        omega)
      have hrl55 : rs.length ≤ 55 := by have := HRL.out; omega
      have hbase : b0 + 1 ≤ w5.heap.size := row_lt HI5.out.srch
      go_wp2_with (at_builtin; go_must (refine wpList_append_new_at (w := w5) #[.slice a1 n1 c1] rfl _ _ 39 rfl (b0 + 1) 30 (.slice none 0 0) 1 24 info_ints Try.underlying39 rfl (by decide) _ rs.length _ HI5.out.out.own rfl rfl rfl (by intro u hu; simp only [List.mem_cons, List.not_mem_nil, or_false] at hu; rw [hu]; rfl) (by simp only [maxLen]; omega) (by omega) hbase ?_))
      intro v9 w9 hown9 hg9 hat9
      have HI9 : Hid (RunI w b0 n #[.slice ob ok ocp, .int .u64 q, .int .u8 r] f T i (i + 1) v9 ao cap lk (rs ++ [⟨S, a1, c1⟩]) w9) := lid (HI5.out.app (x := ⟨S, a1, c1⟩) (by
          show w9.ownsRow _ _ _ _ _ (gcells rs ++ [.slice a1 S.length c1])
          rw [HIA5.out.len]
          exact hown9) hg9 hat9 (by
          show IA w5 a1 S.length c1 S
          rw [HIA5.out.len]
          exact HIA5.out) (fun b o e => by
          have h1 := HF4.out b o e
          have h2 := row_lt HI.out.srch
          refine ⟨by omega, .inl fun e2 => ?_⟩
          have h3 := (HI.out.out.own.lt b e2.symm).2
          omega) HSI.out)
      have HIA9 : Hid (IA w9 a1 n1 c1 S) := lid (by
        have h1 := HI9.out.out.ok ⟨S, a1, c1⟩ (by simp)
        have h2 : IA w9 a1 S.length c1 S := h1
        rwa [HIA5.out.len] at h2)
      clear hown9 hg9 hat9 HI5 HIA5 HIA2 hbase
      have lS9 := row_lt HI9.out.srch
      have lO9 := row_lt HI9.out.orc
      have hle0 := HI9.out.le0
      have t0 := SinceX.cell (B := w9.heap.size) (X := b0) (W := w9) w.heap.size 0 lO9 (by omega) (row_cell HI9.out.orc 0)
      have t1 := SinceX.cell (B := w9.heap.size) (X := b0) (W := w9) w.heap.size 1 lO9 (by omega) (row_cell HI9.out.orc 1)
      have t2 := SinceX.cell (B := w9.heap.size) (X := b0) (W := w9) w.heap.size 2 lO9 (by omega) (row_cell HI9.out.orc 2)
      go_wp2_with fail
      refine wp_region_mix (fun w' => ∃ s : SinceX w9.heap.size b0 w9, w' = s.world) [(1, true), (2, true), (3, true), (4, true)] [(0, []), (5, [])] [(6, false), (7, true), (8, true), (9, true), (10, false), (11, false)] (by kernel_rfl) (by kernel_rfl) (by intro c d v a w h; cases d <;> exact h) (sincex (KeptX.refl _ _ _).drew) ?_
      repeat (first | (refine seq_skip (by rfl) (by rfl) ?_; simp only [Act.put, List.setIfInBounds_toArray, List.set_cons_succ, List.set_cons_zero]) | (refine seq_float (by rfl) (by rfl) (by rfl) ?_; intro K hK; go_big_quiet_op; go_big_quiet_on))
      refine seq_nil (mix_go [45, 50] [u45, u50] (RM2 0 5 (.agg #[.int .i64 n, .slice ao i cap]) (.bool (f S)) w9) rfl (by simp only [putAll, Act.put, List.setIfInBounds_toArray, List.set_cons_succ, List.set_cons_zero]) (fun s h => RM2.start _ _ _ _ _ _ _ _ (Below.refl _ _).drew s (h (0, []) (by simp)) (h (5, []) (by simp))) ⟨?_, ?_, trivial⟩ ?_)
      · intro s vs wm _ _ hneed _ hR
        have hR' := lid hR
        obtain ⟨x, y, rfl, hB1, -, -⟩ := hR
        have HIM := HI9.out.below hB1
        have s0 := row_cell HIM.srch 0
        have s1 := row_cell HIM.srch 1
        have lSM := row_lt HIM.srch
        simp only [putAll, Act.put, List.setIfInBounds_toArray, List.set_cons_succ, List.set_cons_zero]
        refine mix_op (by rfl) ?_
        intro K hK
        go_wp2_with fail
        exact hK.out _ _ ⟨sincex (kx_below hB1), [_, y], rfl, by simp only [putAll, Act.put, List.setIfInBounds_toArray, List.set_cons_succ, List.set_cons_zero], hR'.out.one (by decide) hB1⟩
      · intro s vs wm _ _ hneed _ hR
        have hR' := lid hR
        obtain ⟨x, y, rfl, hB1, -, -⟩ := hR
        simp only [putAll, Act.put, List.setIfInBounds_toArray, List.set_cons_succ, List.set_cons_zero]
        refine mix_op (by rfl) ?_
        intro K hK
        go_wp2_with fail
        (with_reducible refine (CB.out _ S n1 c1 a1 (HI9.out.b.trans (hB1.mono HI9.out.b.size)) (HIA9.out.below hB1) (by omega)).mono ?_); rintro e w10 ⟨rfl, hb10⟩
        go_wp2_with fail
        exact hK.out _ _ ⟨sincex (kx_below (hB1.trans (hb10.mono hB1.size))), [x, _], rfl, by simp only [putAll, Act.put, List.setIfInBounds_toArray, List.set_cons_succ, List.set_cons_zero], hR'.out.two (by decide) (hB1.trans (hb10.mono hB1.size))⟩
      · intro s vs wm _ hall _ hR
        obtain ⟨x, y, rfl, hB1, hx, hy⟩ := hR
        obtain rfl := hx (hall (0, []) (by simp))
        obtain rfl := hy (hall (5, []) (by simp))
        have HIM := lid (HI9.out.below hB1)
        have HIAM := lid (HIA9.out.below hB1)
        have hB1s := hB1.size
        clear hall hx hy
        simp only [putAll, Act.put, List.setIfInBounds_toArray, List.set_cons_succ, List.set_cons_zero]
        have CT := lid (tell_run hN wm (by omega) HEX.out HIM.out.ka HIM.out.l20 HIAM.out (by omega) HIM.out.kn HSI.out)
        refine seq_chain (by rfl) ?_
        intro K hK
        go_wp2_with fail
        (with_reducible refine (CT.out).mono ?_); rintro e w11 ⟨a', c', lk', rfl, hka, hkn, hl', hb11, hfa, hfq⟩
        have HNX := lid (HIM.out.tell hb11 hka hkn hl' hfa hfq)
        have HIN := lid (HIM.out.below hb11)
        have g11 := hB1.trans (hb11.mono hB1s)
        clear hka hkn hl' hfa hfq CT
        go_wp2_with fail
        refine hK.out _ _ (sincex (kx_below g11)) ?_
        clear hK K
        repeat (first | (refine seq_skip (by rfl) (by rfl) ?_; simp only [Act.put, List.setIfInBounds_toArray, List.set_cons_succ, List.set_cons_zero]) | (refine seq_float (by rfl) (by rfl) (by rfl) ?_; intro K hK; go_big_quiet_op; go_big_quiet_on))
        have s0 := row_cell HIN.out.srch 0
        have s1 := row_cell HIN.out.srch 1
        have f0 := row_fz HIN.out.srch 0
        have f1 := row_fz HIN.out.srch 1
        have lS11 := row_lt HIN.out.srch
        refine seq_chain (by rfl) ?_
        intro K hK
        go_wp2_with fail
        refine hK.out _ _ (sincex (set2_keptx' (kx_below g11))) ?_
        clear hK K
        repeat (first | (refine seq_skip (by rfl) (by rfl) ?_; simp only [Act.put, List.setIfInBounds_toArray, List.set_cons_succ, List.set_cons_zero]) | (refine seq_float (by rfl) (by rfl) (by rfl) ?_; intro K hK; go_big_quiet_op; go_big_quiet_on))
        refine seq_chain (by rfl) ?_
        intro K hK
        go_wp2_with fail
        refine hK.out _ _ (sincex (set2_keptx' (kx_below g11))) ?_
        clear hK K
        repeat (first | (refine seq_skip (by rfl) (by rfl) ?_; simp only [Act.put, List.setIfInBounds_toArray, List.set_cons_succ, List.set_cons_zero]) | (refine seq_float (by rfl) (by rfl) (by rfl) ?_; intro K hK; go_big_quiet_op; go_big_quiet_on))
        refine seq_nil ?_
        obtain ⟨w12, hw12⟩ : ∃ y, (w11.setCell ⟨b0, 0, none⟩ (.int .i64 n)).setCell ⟨b0, 1, none⟩ (.slice a' (i + 1) c') = y := ⟨_, rfl⟩
        rw [hw12] at HNX ⊢
        clear hw12 s0 s1 f0 f1 lS11 HIN g11 hB1 hB1s
        have s0 := row_cell HNX.out.srch 0
        have s1 := row_cell HNX.out.srch 1
        have lS12 := row_lt HNX.out.srch
        have HEX2 : Hid (Exm (lk'.map Kw.kn) n ⟨0, (stAt T R (i + 1)).done, (stAt T R (i + 1)).set⟩) := lid (by rw [HNX.out.kn]; exact HTR.out.exm hn10 (by omega))
        have CC := lid (Check_any n hN lk' (i + 1) c' a' w12 (by omega) HNX.out.ka HNX.out.l20)
        go_wp2_with fail
        (with_reducible refine (CC.out).mono ?_); rintro e w13 ⟨rr, hE, rfl, hb13⟩
        obtain rfl := hE.det HEX2.out
        have HN13 := lid (HNX.out.below hb13)
        clear hE hb13 s0 s1 lS12 CC
        go_wp2_with fail
        go_roundw
        case rel => exact ⟨i + 1, c', a', lk', rs ++ [⟨S, a1, c1⟩], by omega, by go_num, HN13⟩
        case measure => simp [intOf]; omega
    · obtain rfl : i = T.length := by omega
      have HST := lid (stAt_done (T := T) (R := R))
      have HEX : Hid (Exm (lk.map Kw.kn) n ⟨0, true, R⟩) := lid (by
        have := HTR.out.exm hn10 hi
        rw [HST.out, ← HI.out.kn] at this
        exact this)
      have s0 := row_cell HI.out.srch 0
      have s1 := row_cell HI.out.srch 1
      have lS := row_lt HI.out.srch
      go_wp2_with fail
      (with_reducible refine (CN.out wr (Below.refl _ _)).mono ?_); rintro e w4 ⟨rr, a1, n1, c1, hE, rfl, hIA, hb4, hf4⟩
      obtain rfl := hE.det HEX.out
      have HI4 := lid (HI.out.below hb4)
      have HIA : Hid (IA w4 a1 n1 c1 []) := lid hIA
      have HF4 := lid hf4
      have HB4 := lid hb4
      rw [show Ex.open ⟨0, true, R⟩ = false from rfl]
      clear hE hIA hf4
      replace s0 := row_cell HI4.out.srch 0
      replace s1 := row_cell HI4.out.srch 1
      have lS4 := row_lt HI4.out.srch
      go_wp2_with fail
      (with_reducible refine (CR.out w4 hb4).mono ?_); rintro e w5 ⟨rr, a2, n2, c2, hE, rfl, hIA2, hb5, hf5⟩
      obtain rfl := hE.det HEX.out
      rw [show Ex.fin ⟨0, true, R⟩ = true from rfl]
      have HI5 := lid (HI4.out.below hb5)
      have HIA5 := lid (HIA.out.below hb5)
      have HIA2 : Hid (IA w5 a2 n2 c2 R) := lid hIA2
      have hz45 := hb5.size
      have hz4 := HB4.out.size
      clear hE hIA2 hf5 hb4 hb5 CN CR s0 s1 lS lS4 HI4
      go_wp2_with fail
      go_ret3
      exact ⟨a2, n2, c2, _, _, rs, rfl, HIA2.out, by rw [HI5.out.rs, List.take_length], HI5.out.out, HI5.out.b⟩
end Go.Proofs.Ytnjcoejnknpfoaa
