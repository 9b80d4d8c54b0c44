/-
  tree.Load.
-/
import Derived.Test.YtphjillihapbfaaGreatDoorGrpU
namespace Go.Proofs.YtphjillihapbfaaGreatDoor
open Go.RowKit Go.Shelf
attribute [local go_sem] Oper.semAt_some

theorem wpListIn_append_own_at2 {F : Fence} {n : Nat} {P : Program} (w : World) {ops : Array Oper} {rest : List Oper} {o : Oper} {a : Act} {Q : Exit → Act → World → Prop}
    (hg : o.guard = none) (s x : Operand) (t : TypeId) (hop : o.op = Op.call { callee := Callee.builtin Builtin.append, args := #[s, x], argTypes := #[t, t] })
    (base : Nat) (e : TypeId) (i : TypeInfo) (z : Value) (size bytes : Nat) (h1 : P.underlying t = some (.slice e)) (h2 : P.info? e = some i) (h3 : i.zero = some z) (h4 : i.size = size) (h5 : i.bytes = bytes) (h6 : z.cells.size = size) (h7 : 0 < size)
    (v : Value) (k : Nat) (xs : List Value) (hs : a.eval s = v) (hown : w.ownsRow base e size v k xs) (ad : Addr) (m c : Nat) (news : List Value) (hx : a.eval x = .slice (some ad) m c) (hn : news.length = m * size)
    (hc : ∀ j u, news[j]? = some u → w.cell? (ad.add j) = some u) (h1c : ∀ u ∈ news, u.oneCell' = true) (b1 : k + m ≤ maxLen) (b2 : (k + m) * bytes ≤ 140737488355328) (b3 : base ≤ w.heap.size)
    (hK : ∀ v' w', w'.ownsRow base e size v' (k + m) (xs ++ news) → w.grownBy w' v.ownBlock → (v'.ownBlock = v.ownBlock ∨ v'.ownBlock = some w.heap.size) → wpListIn F n P ops Q rest (a.put o.dst v') w') :
    wpListIn F n P ops Q (o :: rest) a w := by
  refine wpListIn_plain hg fun K hK' => ?_
  obtain ⟨v', w', hrun, r1, r2, _, r4⟩ := run_append_own_at (P := P) w base t o.type e i z size bytes h1 h2 h3 h4 h5 h6 h7 v k xs hown ad m c news hn hc h1c b1 b2 b3
  unfold Oper.wpIn
  refine ⟨?_, ?_⟩
  · simp [Oper.about, hop, resolve, Target.leads, Sem.run_pure]
  · rw [Oper.semAt_plain F _ _ (by rw [hop]; intro c hc'; cases hc')]
    simp [execOp, hop, resolve, invoke, builtin, hs, hx, hrun, Result.andThen]
    exact hK' _ _ (hK v' w' r1 r2 r4)
theorem cells_new2 (W : World) (us : Array Value) (t : TypeId) : ∀ j u, us.toList[j]? = some u → (W.alloc (.cells us t)).cell? ((⟨W.heap.size, 0, none⟩ : Addr).add j) = some u := by
  intro j u hu
  rw [Addr.add_lit]
  simp only [World.cell?, Nat.zero_add]
  rw [heap_alloc_new]
  simpa using hu
/-- A round that appends to the caller's slice and lays it in its box. -/
theorem KT.appended {bx base k : Nat} {W w1 : World} {v v' : Value} {xs : List Value} {o : Obj} (hv : W.heap[bx]? = some (.cells #[v] 28 (0, 0))) (hown : W.ownsRow base 45 2 v k xs) (hb : bx < base) (hg : (W.alloc o).grownBy w1 v.ownBlock)
    (hat : v'.ownBlock = v.ownBlock ∨ v'.ownBlock = some (W.alloc o).heap.size) (hnb : ∀ j, v'.ownBlock = some j → j < w1.heap.size) : KT bx W (w1.setCell ⟨bx, 0, none⟩ v') := fun hn => by
  have lb := (Array.getElem?_eq_some_iff.1 hv).1
  have hbv : some bx ≠ v.ownBlock := fun e => by have := (hown.lt bx e.symm).1; omega
  have h1 : w1.heap[bx]? = some (.cells #[v] 28 (0, 0)) := (hg.block bx (by simp; omega) hbv).trans ((h_old lb _).trans hv)
  have hz := hg.size
  rw [World.size_alloc] at hz
  have h2 : (w1.setCell ⟨bx, 0, none⟩ v').heap[bx]? = some (.cells #[v'] 28 (0, 0)) := by
    have := row_set h1 0 v'
    simpa using this
  have hs : (w1.setCell ⟨bx, 0, none⟩ v').heap.size = w1.heap.size := by simp [World.setCell]
  refine ⟨⟨v', h2, fun j hj => by rw [hs]; exact hnb j hj⟩, by rw [hs]; omega, fun j cs t f hj hnt => ?_, fun j hj ht => ?_⟩
  · have lj := (Array.getElem?_eq_some_iff.1 hj).1
    have hjb : j ≠ bx := fun e => hnt (.inl e)
    have hjv : some j ≠ v.ownBlock := fun e => hnt (.inr ⟨v, hv, e.symm⟩)
    exact (Below.heap_setCell _ _ _ _ (by simpa using hjb)).trans ((hg.block j (by simp; omega) hjv).trans (h_old lj _))
  · rcases ht with rfl | ⟨u, hu, hk⟩
    · exact .inl rfl
    · rw [h2] at hu
      cases hu
      rcases hat with e | e
      · exact .inr ⟨v, hv, by rw [← e]; exact hk⟩
      · rw [hk] at e
        have := Option.some.inj e
        simp at this
        omega
set_option maxRecDepth 100000 in
set_option maxHeartbeats 16000000 in
theorem load_any (p : List It) (n cap : Nat) (ao : Option Addr) (d : Dg) (k : Nat) (L : List Fl) (w : World) (hG : GoodP p) (hn : n ≤ 90000) (hP : PA w ao n cap p) (hLo : Lo w ao) (hL : loadP p k d [] = some L) (h12 : L.length ≤ 12) (hnd : L.Pairwise fun f g => f.1 ≠ g.1) (hsz : ∀ f ∈ L, f.1.size ≤ maxLen ∧ f.2.size ≤ maxLen) :
    Calls Tryz.prog 11 #[.slice ao n cap, dv d] w fun e w' => Below w.heap.size w w' ∧ ∃ (a : Option Addr) (n' c : Nat) (M : List Fl), e = .returned (.tuple #[.slice a n' c, .int .i64 0]) ∧ FA w' a n' c M ∧ M.Perm L ∧ AscF M := by
  obtain ⟨i0, hi, hz0, hz1, hz2⟩ := info_parts info_fl
  obtain ⟨W0, hW0⟩ : ∃ W0, (((w.alloc (Obj.cells #[.int .u64 d.1.toNat, .int .u64 d.2.toNat] 31)).alloc (Obj.cells #[.slice none 0 0] 28)).alloc (Obj.cells #[.int .i64 0] 27)).alloc (Obj.cells #[.slice none 0 0] 28) = W0 := ⟨_, rfl⟩
  have hs0 : W0.heap.size = w.heap.size + 4 := by rw [← hW0]; simp
  have hb0 : Below w.heap.size w W0 := by rw [← hW0]; exact (((ba w _).alloc (by simp) _).alloc (by simp; omega) _).alloc (by simp; try omega) _
  have hD0 : W0.heap[w.heap.size]? = some (.cells #[.int .u64 d.1.toNat, .int .u64 d.2.toNat] 31 (0, 0)) := by rw [← hW0]; exact (h_old (by simp; try omega) _).trans ((h_old (by simp; try omega) _).trans ((h_old (by simp) _).trans (h_new rfl _)))
  have hR0 : W0.heap[w.heap.size + 1]? = some (.cells #[.slice none 0 0] 28 (0, 0)) := by rw [← hW0]; exact (h_old (by simp; try omega) _).trans ((h_old (by simp) _).trans (h_new (by simp) _))
  have hE0 : W0.heap[w.heap.size + 1 + 1]? = some (.cells #[.int .i64 0] 27 (0, 0)) := by rw [← hW0]; exact (h_old (by simp) _).trans (h_new (by simp) _)
  have hX0 : W0.heap[w.heap.size + 1 + 1 + 1]? = some (.cells #[.slice none 0 0] 28 (0, 0)) := by rw [← hW0]; exact h_new (by simp) _
  obtain ⟨W1, hW1⟩ : ∃ W1, (W0.alloc (.cells #[.slice ao n cap] 25)).alloc (.cells #[.int .u64 d.1.toNat, .int .u64 d.2.toNat] 31) = W1 := ⟨_, rfl⟩
  have hb1 : Below W0.heap.size W0 W1 := by rw [← hW1]; exact (ba W0 _).alloc (by simp) _
  have hp1 : W1.heap[W0.heap.size]? = some (.cells #[.slice ao n cap] 25 (0, 0)) := by rw [← hW1]; exact (h_old (by simp) _).trans (h_new rfl _)
  have hd1 : W1.heap[W0.heap.size + 1]? = some (.cells #[.int .u64 d.1.toNat, .int .u64 d.2.toNat] 31 (0, 0)) := by rw [← hW1]; exact h_new (by simp) _
  have y0 : W0.cell? ⟨w.heap.size, 0, none⟩ = some (.int .u64 d.1.toNat) := row_cell hD0 0
  have y1 : W0.cell? ⟨w.heap.size, 1, none⟩ = some (.int .u64 d.2.toNat) := row_cell hD0 1
  have ly := row_lt hD0
  have hbw := hb0.trans (hb1.mono hb0.size)
  obtain ⟨bx, hbx⟩ : ∃ b, w.heap.size + 1 + 1 + 1 = b := ⟨_, rfl⟩
  have hX1 : W1.heap[bx]? = some (.cells #[.slice none 0 0] 28 (0, 0)) := by rw [← hbx]; exact (hb1.block _ (row_lt hX0)).trans hX0
  have hND1 : ND bx W1 := ⟨_, hX1, fun k hk => by cases hk⟩
  have hT1 : ∀ x, ao = some x → ¬ Ter bx W1 x.block := fun x hx ht => by
    rcases ht with e | ⟨v, hv, hk⟩
    · have := hLo x hx; omega
    · rw [hX1] at hv; cases hv; cases hk
  have CS := lid (fun m hm1 => all_stops m hm1 W0.heap.size (W0.heap.size + 1) bx p n cap ao d k L W1 hG hn (hP.below hbw) (hLo.mono hbw.size) hND1 hT1 hL hp1 hd1)
  have CA := lid (all_fn n cap ao d W0)
  have HR1 := lid ((hb1.block _ (row_lt hR0)).trans hR0)
  have HE1 := lid ((hb1.block _ (row_lt hE0)).trans hE0)
  have HX1 := lid hX1
  have HBW := lid hbw
  have HW0 := lid hW0
  have HW1 := lid hW1
  have hlx : bx < W0.heap.size := by omega
  have hz1' := hb1.size
  have HBX := lid hbx
  have HNDL := lid hnd
  have HSZ := lid hsz
  clear hG hP hLo hL hW0 hb0 hD0 hR0 hE0 hX0 hW1 hb1 hp1 hd1 hbw hX1 hND1 hT1 hs0 hnd hsz
  show Calls Tryz.prog 11 #[.slice ao n cap, .agg #[.int .u64 d.1.toNat, .int .u64 d.2.toNat]] w _
  refine (callsIn_wide (n := 4)).1 ?_
  refine callsIn_of_wp_marks Tryz.func11 rfl trivial ?_ rfl
  simp only [Tryz.ntmps11, List.size_toArray, List.length_cons, List.length_nil, Nat.reduceAdd, Nat.reduceSub, Array.replicate_succ, Array.replicate_zero, List.push_toArray, List.append_toArray, List.nil_append, List.cons_append]
  gi_wp2_with (with_reducible refine swap_world_in HW0.out ?_)
  refine ⟨trivial, (callsIn_wide.2 CA.out).mono ?_⟩
  rintro e w' ⟨rfl, rfl⟩
  gi_wp2_with fail
  rw [HW1.out]
  clear hbx
  refine wpIn_rangeFunc_ownH rfl (by omega) (gf := 35) (lb := #[.pointer (some ⟨W0.heap.size, 0, none⟩), .pointer (some ⟨W0.heap.size + 1, 0, none⟩)]) rfl trivial (enters_of Tryz.func35 (by kernel_rfl) rfl)
    (CS.out _ (by omega)) KT.trans (fun W l o o' _ h1 h2 _ => KT.putObj W l o o' h1 h2) (Below.refl _ _) (fun _ => rfl)
    (fun pre W => (∃ v', Boxed W bx 28 v' ∧ W.ownsRow W1.heap.size 45 2 v' pre.length (fcells pre) ∧ True) ∧ Below bx W1 W)
    (fun _ _ _ => False)
    (OwnFrom.and (Own.from (holdsRow_own W1.heap.size bx 28 45 2 (fun pre : List Fl => pre.length) (fun pre => fcells pre) (fun _ _ => True)) _) (ownFrom_below (by omega) (by omega)))
    (fun _ _ _ _ _ hs _ _ => hs)
    ⟨⟨_, HX1.out, World.ownsRow_nil _ _ _ _, trivial⟩, Below.refl _ _⟩
    (fun (x : Fl) (a' : Act) (W : World) => ∃ Bv : Nat, W.heap[Bv]? = some (.cells #[.string x.1, .string x.2, .int .i64 0] 63 (0, 0)) ∧ a' = { tmps := #[.slice ao n cap, .agg #[.int .u64 d.1.toNat, .int .u64 d.2.toNat], undef, .pointer (some ⟨w.heap.size, 0, none⟩), .pointer (some ⟨w.heap.size + 1, 0, none⟩), .pointer (some ⟨w.heap.size + 1 + 1, 0, none⟩), .pointer (some ⟨bx, 0, none⟩), .pointer (some ⟨Bv, 0, none⟩), .slice ao n cap, .agg #[.int .u64 d.1.toNat, .int .u64 d.2.toNat], .func (.func 35) #[] #[.pointer (some ⟨W0.heap.size, 0, none⟩), .pointer (some ⟨W0.heap.size + 1, 0, none⟩)], vv x, undef, undef, undef, undef, undef, undef, undef, undef, undef, undef, undef, undef, undef, undef, undef, undef], defers := [] }) ?hAx ?assign ?body ?done ?stop
  case hAx =>
    rintro x a' s W W' row ⟨Bv, hv, e⟩ hg hr
    refine ⟨Bv, ?_, e⟩
    refine (hg.block Bv (Array.getElem?_eq_some_iff.1 hv).1 (fun e' => ?_)).trans hv
    obtain ⟨o, ho, hco⟩ := (hr _ e'.symm).2
    rw [show W.heap[Bv]? = _ from hv] at ho
    cases ho
    cases hco
  case assign =>
    rintro l pre x W K ⟨⟨v', hv, hrow, -⟩, hB⟩ hK
    gi_wp2_with fail
    refine hK _ _ ((KeepsOthers.alloc _ _).from _) (KT.below (ba W _)) ⟨⟨v', hv.alloc _, hrow.alloc _, trivial⟩, hB.alloc (by have := hB.size; omega) _⟩ ⟨W.heap.size, heap_alloc_new _ _, rfl⟩
  case body =>
    rintro l' pre x a' W hl ⟨rr, hrr⟩ ⟨⟨v', hv, hrow, -⟩, hB⟩ ⟨Bv, hx, rfl⟩ hlt
    have hc1 := hv.cell
    have hx0 : W.cell? ⟨Bv, 0, none⟩ = some (.string x.1) := row_cell hx 0
    have hx1 : W.cell? ⟨Bv, 1, none⟩ = some (.string x.2) := row_cell hx 1
    have hx2 : W.cell? ⟨Bv, 2, none⟩ = some (.int .i64 0) := row_cell hx 2
    have lv := row_lt hx
    have hrl := hB.size
    have lbx : bx < W.heap.size := hv.lt
    have hbb : bx < W1.heap.size := by omega
    gi_wp2_with (gi_at_builtin; go_must (refine wpListIn_append_own_at2 _ rfl _ _ 28 rfl W1.heap.size 45 i0 (.agg #[.string ⟨#[]⟩, .string ⟨#[]⟩]) 2 32 Tryz.underlying28 hi hz0 hz1 hz2 rfl (by decide) v' _ _ rfl (hrow.alloc _) ⟨W.heap.size, 0, none⟩ 1 1 (fce x) rfl rfl (cells_new2 W (fca x) _) (by intro u hu; simp at hu; rcases hu with rfl | rfl <;> rfl) (by unfold maxLen; omega) (by omega) (by simp; omega) ?_))
    intro v9 w9 own9 hg9 hat9
    obtain ⟨g', cap', rfl⟩ := ownsRow_succ own9
    have hv9 : w9.heap[bx]? = some (.cells #[v'] 28 (0, 0)) := (hg9.block _ (by simp; omega) (fun e => by have := (hrow.lt bx e.symm).1; omega)).trans ((h_old lbx _).trans hv)
    have hc9 : w9.cell? ⟨bx, 0, none⟩ = some v' := row_cell hv9 0
    have hf9 := row_fz hv9 0
    have l9 := row_lt hv9
    have HKT := lid (KT.appended (bx := bx) (w1 := w9) (v' := .slice (some ⟨g', 0, none⟩) (pre.length + 1) cap') hv hrow hbb hg9 (by rw [World.size_alloc]; exact hat9) (fun j hj => (own9.lt j hj).2))
    have hKO : KeepsOthers W (w9.setCell ⟨bx, 0, none⟩ (.slice (some ⟨g', 0, none⟩) (pre.length + 1) cap')) := by
      refine ((KeepsOthers.alloc W _).trans (KeepsOthers.of_grownBy hg9 fun j o ej hj => ?_)).trans (KeepsOthers.setCell _ _ _)
      rcases (hrow.alloc (.cells (fca x) 45)).2 with ⟨rfl, _⟩ | ⟨g, cap, cur, rfl, _, hgb, _⟩
      · simp [Value.ownBlock] at ej
      · obtain rfl : g = j := by simpa [Value.ownBlock] using ej
        rw [hgb] at hj; cases hj; rfl
    have HKO := lid hKO
    have HB9 : Hid (Below bx W1 (w9.setCell ⟨bx, 0, none⟩ (.slice (some ⟨g', 0, none⟩) (pre.length + 1) cap'))) := lid (((hB.alloc (by omega) _).grown hg9 (by simp; omega) (fun q e => by have := (hrow.lt q e).1; omega)).setCell (p := ⟨bx, 0, none⟩) (Nat.le_refl _) _)
    have HO9 := lid own9
    have h9 : pre.length + 1 ≤ 12 := by omega
    have hset : (w9.setCell ⟨bx, 0, none⟩ (.slice (some ⟨g', 0, none⟩) (pre.length + 1) cap')).heap[bx]? = some (.cells #[.slice (some ⟨g', 0, none⟩) (pre.length + 1) cap'] 28 (0, 0)) := by
      have := row_set hv9 0 (.slice (some ⟨g', 0, none⟩) (pre.length + 1) cap')
      simpa using this
    obtain ⟨W5, hW5⟩ : ∃ y, w9.setCell ⟨bx, 0, none⟩ (.slice (some ⟨g', 0, none⟩) (pre.length + 1) cap') = y := ⟨_, rfl⟩
    have HOW5 : Hid (W5.ownsRow W1.heap.size 45 2 (.slice (some ⟨g', 0, none⟩) (pre.length + 1) cap') (pre ++ [x]).length (fcells (pre ++ [x]))) := lid (by
      rw [← hW5, List.length_append, fcells_append]
      have := own9.kept (grown_set w9 bx 0 (.slice (some ⟨g', 0, none⟩) (pre.length + 1) cap')) (.inr fun e => by have := (own9.lt bx e).1; omega)
      simpa [fcells] using this)
    rw [hW5] at HKT HKO HB9 hset
    have hc5 : W5.cell? ⟨bx, 0, none⟩ = some (.slice (some ⟨g', 0, none⟩) (pre.length + 1) cap') := row_cell hset 0
    have l5 := row_lt hset
    have HSET := lid hset
    have HW5 := lid hW5
    clear hKO hat9 hg9 own9 hv9 hset hW5 hx hc1 hx0 hx1 hx2
    gi_wp2_with (with_reducible refine swap_world_in HW5.out ?_)
    exact ⟨HKO.out.from _, HKT.out, ⟨_, HSET.out, HOW5.out, trivial⟩, HB9.out⟩
  case done =>
    rintro D xs W hD rfl ⟨⟨v', hv, hrow, -⟩, hB⟩ hK
    have CSF : Calls Tryz.prog 19 #[v', .func (.func 20) #[] #[]] W fun e w' => e = .returned (.tuple #[]) ∧ ∃ M : List Fl, w'.ownsRow W1.heap.size 45 2 v' xs.length (fcells M) ∧ M.Perm xs ∧ AscF M ∧ W.grownBy w' v'.ownBlock := by
      by_cases hn0 : v' = .slice none 0 0
      · subst hn0
        refine (sortF_none 0 W).mono ?_
        rintro e w' ⟨rfl, rfl⟩
        have h0 : xs = [] := by
          rcases hrow.2 with ⟨_, h0⟩ | ⟨g, cap, cur, e, _⟩
          · exact List.eq_nil_of_length_eq_zero h0
          · cases e
        subst h0
        exact ⟨rfl, [], hrow, List.Perm.refl _, List.Pairwise.nil, rfl, rfl, rfl, Nat.le_refl _, fun _ _ _ => rfl⟩
      · exact sortF_own v' xs W1.heap.size W hrow hn0 h12 HNDL.out
    obtain ⟨a', c', rfl, _⟩ := Sl.of_own hrow
    have CSF := lid CSF
    have hc1 : W.cell? ⟨bx, 0, none⟩ = some (.slice a' xs.length c') := hv.cell
    have lbx : bx < W.heap.size := hv.lt
    have hv' : W.heap[bx]? = some (.cells #[.slice a' xs.length c'] 28 (0, 0)) := hv
    have HV := lid hv'
    have HRO := lid hrow
    have HBB := lid hB
    have HKD := lid hK
    clear hv hv' hrow hB hK
    gi_wp2_with fail
    refine ⟨trivial, (callsIn_wide.2 CSF.out).mono ?_⟩
    rintro e W6 ⟨rfl, M, hown6, hperm, hasc, hg6⟩
    have hX6 : W6.heap[bx]? = some (.cells #[.slice a' xs.length c'] 28 (0, 0)) := (hg6.block bx lbx (fun e => by have := (HRO.out.lt bx e.symm).1; omega)).trans HV.out
    have hB6 : Below bx W1 W6 := HBB.out.grown hg6 (by omega) (fun q e => by have := (HRO.out.lt q e).1; omega)
    have hbx1 : w.heap.size + 1 < bx := by have := HBX.out; omega
    have hbx2 : w.heap.size + 1 + 1 < bx := by have := HBX.out; omega
    have hR6 := (hB6.block _ hbx1).trans HR1.out
    have hE6 := (hB6.block _ hbx2).trans HE1.out
    have hD6 : W6.heap[D]? = some (.deferred (some [])) := (hg6.block D (row_lt HKD.out) (fun e => by
      rcases HRO.out.2 with ⟨e2, _⟩ | ⟨g, cap, cur, e2, _, hgb, _⟩
      · rw [e2] at e; cases e
      · rw [e2] at e
        have : D = g := by simpa [Value.ownBlock] using e
        subst this
        rw [HKD.out] at hgb; cases hgb)).trans HKD.out
    have hc6 : W6.cell? ⟨bx, 0, none⟩ = some (.slice a' xs.length c') := row_cell hX6 0
    have l6 := row_lt hX6
    have r6 : W6.cell? ⟨w.heap.size + 1, 0, none⟩ = some (.slice none 0 0) := row_cell hR6 0
    have rf6 := row_fz hR6 0
    have lr6 := row_lt hR6
    have e6 : W6.cell? ⟨w.heap.size + 1 + 1, 0, none⟩ = some (.int .i64 0) := row_cell hE6 0
    have ef6 := row_fz hE6 0
    have le6 := row_lt hE6
    obtain ⟨W7, hW7⟩ : ∃ y, (W6.setCell ⟨w.heap.size + 1, 0, none⟩ (.slice a' xs.length c')).setCell ⟨w.heap.size + 1 + 1, 0, none⟩ (.int .i64 0) = y := ⟨_, rfl⟩
    have hr7 : W7.heap[w.heap.size + 1]? = some (.cells #[.slice a' xs.length c'] 28 (0, 0)) := by
      rw [← hW7]
      have := row_set hR6 0 (.slice a' xs.length c')
      exact row_other (by simpa using this) (by omega)
    have he7 : W7.heap[w.heap.size + 1 + 1]? = some (.cells #[.int .i64 0] 27 (0, 0)) := by
      rw [← hW7]
      have := row_set (row_other (b := w.heap.size + 1) (j := 0) (v := .slice a' xs.length c') hE6 (by omega)) 0 (.int .i64 0)
      simpa using this
    have hD7 : W7.heap[D]? = some (.deferred (some [])) := by
      rw [← hW7]
      have hlD := row_lt HKD.out
      exact row_other (row_other hD6 (by omega)) (by omega)
    have hO7 : W7.ownsRow W1.heap.size 45 2 (.slice a' xs.length c') xs.length (fcells M) := by
      rw [← hW7]
      exact (hown6.kept (grown_set _ _ _ _) (.inr fun e => by have := (hown6.lt _ e).1; omega)).kept (grown_set _ _ _ _) (.inr fun e => by have := (hown6.lt _ e).1; omega)
    have hB7 : Below w.heap.size w W7 := by
      rw [← hW7]
      have h1 : Below w.heap.size w W6 := HBW.out.trans (hB6.mono (by omega))
      exact (h1.setCell (p := ⟨w.heap.size + 1, 0, none⟩) (Nat.le_succ _) _).setCell (p := ⟨w.heap.size + 1 + 1, 0, none⟩) (by show w.heap.size ≤ w.heap.size + 1 + 1; omega) _
    have HO7 := lid hO7
    have HB7 := lid hB7
    have HD7 := lid hD7
    have HP := lid hperm
    have HA := lid hasc
    have HW7 := lid hW7
    have q1 : (W7.putObj D (.deferred none)).cell? ⟨w.heap.size + 1, 0, none⟩ = some (.slice a' xs.length c') := by
      have h : (W7.putObj D (.deferred none)).heap[w.heap.size + 1]? = some (.cells #[.slice a' xs.length c'] 28 (0, 0)) := (World.putObj_heap_other (by omega)).trans hr7
      exact row_cell h 0
    have q2 : (W7.putObj D (.deferred none)).cell? ⟨w.heap.size + 1 + 1, 0, none⟩ = some (.int .i64 0) := by
      have h : (W7.putObj D (.deferred none)).heap[w.heap.size + 1 + 1]? = some (.cells #[.int .i64 0] 27 (0, 0)) := (World.putObj_heap_other (by omega)).trans he7
      exact row_cell h 0
    have Q1 := lid q1
    have Q2 := lid q2
    clear hperm hasc hg6 hown6 hO7 hB7 hD7 hr7 he7 hW7 hX6 hB6 hR6 hE6 hD6 hc1 q1 q2
    gi_wp2_with fail
    rw [HW7.out]
    refine ⟨by simp, .inl ⟨_, _, rfl, run_takeDeferred HD7.out, ?_⟩⟩
    refine ⟨.tuple #[.slice a' xs.length c', .int .i64 0], ?_, HB7.out.trans (belowK_b (w := W1) (n₀ := w.heap.size) (by have := HBW.out.size; omega) W7 D _ _ hD HD7.out rfl rfl), a', xs.length, c', M, rfl, ?_, HP.out, HA.out⟩
    · simp [results, Tryz.f11, go_sem, Q1.out, Q2.out]
    · have ho8 := HO7.out.kept (grownBy_putObj' W7 D (.deferred none)) (by
        rcases HO7.out.2 with ⟨e2, _⟩ | ⟨g, cap, cur, e2, _, hgb, _⟩
        · rw [e2]; exact .inl rfl
        · rw [e2]
          refine .inr fun e => ?_
          have : g = D := by simpa [Value.ownBlock] using e
          subst this
          rw [HD7.out] at hgb; cases hgb)
      obtain ⟨a8, c8, e8, k1, k2, k3⟩ := Sl.of_own ho8
      injection e8 with e8 _ e9
      subst e8; subst e9
      refine ⟨HP.out.length_eq, k3, k1, k2, fun e => ?_, fun f hf => HSZ.out f (HP.out.mem_iff.1 hf)⟩
      rcases ho8.2 with ⟨e2, _⟩ | ⟨g, cap, cur, e2, _⟩
      · injection e2
      · injection e2 with e3 _ _
        rw [show a' = none from e] at e3
        cases e3
  case stop =>
    rintro D c pre W _ _ h _
    exact h.elim
end Go.Proofs.YtphjillihapbfaaGreatDoor
