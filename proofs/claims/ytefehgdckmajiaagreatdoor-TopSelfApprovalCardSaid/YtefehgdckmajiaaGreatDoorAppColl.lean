/-
  slices.Collect of what a person sees.
-/
import Derived.Test.YtefehgdckmajiaaGreatDoorAppSeen
import Derived.Test.YtefehgdckmajiaaGreatDoorAppEnc
import Derived.OwnWalkIn
namespace Go.Proofs.YtefehgdckmajiaaGreatDoor
open Go.RowKit Go.Shelf
attribute [local go_sem] Oper.semAt_some

def CoI (w : World) (tot : List Ch) (s : List Ch) (W : World) : Prop :=
  Below w.heap.size w W ∧ ∃ (q : SV) (acc : List Ch), W.heap[w.heap.size]? = some (.cells #[slv q] 53 (0, 0)) ∧ W.ownsRow (w.heap.size + 1) 61 5 (slv q) acc.length (chcells acc) ∧ tot = acc ++ s
theorem CoI.ab {w : World} {tot s : List Ch} {B : Nat} (hB : w.heap.size < B) : Ab B (CoI w tot s) := fun W W' row hs hg hr => by
  obtain ⟨hb, q, acc, h1, h2, h3⟩ := hs
  exact ⟨Ab.belowW (B := B) (Nat.le_refl _) (by omega) W W' row hb hg hr, q, acc, Ab.blk (B := B) hB _ rfl W W' row h1 hg hr, h2.kept hg (own_ne_cells h2 fun r e => (hr r e).2), h3⟩
theorem cells_newc (W : World) (us : Array Value) (t : TypeId) : ∀ j u, us.toList[j]? = some u → (W.alloc (.cells us t)).cell? ((⟨W.heap.size, 0, none⟩ : Addr).add j) = some u := by
  intro j u hu
  rw [Addr.add_lit]
  simp only [World.cell?, Nat.zero_add]
  rw [heap_alloc_new]
  simpa using hu
theorem OwS.keep {c : Nat → Prop} {w w' : World} {v : SV} {L : List (Ch × List (List ByteArray))} (h : OwS c w v L) (hk : KeepC c w w') : OwS c w' v L := ⟨let ⟨rows, h1, h2⟩ := h.r; ⟨rows, h1.keep hk, h2.keep hk⟩, h.len⟩
theorem OwS.mono {c c' : Nat → Prop} {w : World} {v : SV} {L : List (Ch × List (List ByteArray))} (h : OwS c w v L) (hc : ∀ k, c k → c' k) : OwS c' w v L := ⟨let ⟨rows, h1, h2⟩ := h.r; ⟨rows, h1.mono hc, h2.mono hc⟩, h.len⟩
/-- A change's box. -/
def CBx (a : Act) (w4 : World) (x : Ch) (a₁ : Act) (W : World) : Prop := ∃ b, w4.heap.size ≤ b ∧ a₁ = { tmps := (a.tmps.setIfInBounds 7 (chv x)).setIfInBounds 5 (.pointer (some ⟨b, 0, none⟩)), defers := [] } ∧ W.heap[b]? = some (.cells (cha x) 61 (0, 0))
theorem CBx.ab {a : Act} {w4 : World} {x : Ch} {a₁ : Act} {B : Nat} : Ab B (CBx a w4 x a₁) := fun W W' row hs hg hr => let ⟨b, h1, h2, h3⟩ := hs; ⟨b, h1, h2, Ab.cells (B := B) W W' row h3 hg hr⟩
theorem seenF_len {who : ByteArray} {L : List (Ch × List (List ByteArray))} : (seenF who L).length ≤ L.length := by
  unfold seenF
  rw [List.length_map]
  exact List.length_filter_le _ _
set_option maxRecDepth 100000 in
set_option maxHeartbeats 4000000 in
theorem AppendSeq_any (bo bw : Nat) (v : SV) (who : ByteArray) (L : List (Ch × List (List ByteArray))) (w : World) (ho : w.heap[bo]? = some (.cells #[slv v] 44 (0, 0))) (hw : w.heap[bw]? = some (.cells #[.string who] 9 (0, 0))) (hL : OwS (fun k => k < w.heap.size) w v L) (hsm : smallL L) (hlen : L.length ≤ 1000000) :
    Calls Tryz.prog 48 #[.slice none 0 0, .func (.func 49) #[] #[.pointer (some ⟨bo, 0, none⟩), .pointer (some ⟨bw, 0, none⟩)]] w fun e w' => ∃ q : SV, e = .returned (slv q) ∧ w'.ownsRow w.heap.size 61 5 (slv q) (seenF who L).length (chcells (seenF who L)) ∧ Below w.heap.size w w' := by
  obtain ⟨i0, hi, hz0, hz1, hz2⟩ := info_parts info_ch
  have lo := row_lt ho
  have lw := row_lt hw
  have HOW := lid ho
  have HWW := lid hw
  have HLL := lid hL
  have HSM := lid hsm
  have hln := Nat.le_trans (seenF_len (who := who) (L := L)) hlen
  clear ho hw hL hsm
  refine (callsIn_wide (n := 3)).1 ?_
  refine callsIn_of_wp_marks Tryz.func48 rfl trivial ?_ rfl
  simp only [Tryz.ntmps48, List.size_toArray, List.length_cons, List.length_nil, Nat.reduceAdd, Nat.reduceSub, Array.replicate_succ, Array.replicate_zero, List.push_toArray, List.append_toArray, List.nil_append, List.cons_append]
  gi_wp2_with fail
  obtain ⟨w4, hw4⟩ : ∃ y, w.alloc (Obj.cells #[Value.slice none 0 0] 53) = y := ⟨_, rfl⟩
  rw [hw4]
  have hz4 : w4.heap.size = w.heap.size + 1 := by rw [← hw4]; simp
  have HB4 : Hid (Below w.heap.size w w4) := lid (by rw [← hw4]; exact ba _ _)
  have HP0 : Hid (CoI w (seenF who L) (seenF who L) w4) := lid ⟨HB4.out, nv, [], by rw [← hw4]; exact h_new rfl _, World.ownsRow_nil _ _ _ _, rfl⟩
  have HZ4 := lid hz4
  clear hw4 hz4
  refine wpIn_rfa (pre := #[]) (lb := #[.pointer (some ⟨bo, 0, none⟩), .pointer (some ⟨bw, 0, none⟩)]) rfl (enters_of Tryz.func49 (by kernel_rfl) rfl) chv ChX ChT (CoI w (seenF who L)) (fun _ _ _ _ => False) (fun s x => Ab.pure _) (fun _ => CoI.ab (by have := HZ4.out; omega)) (fun c _ x => Ab.pure _) (seenF who L) HP0.out
    (CBx { tmps := #[.slice none 0 0, .func (.func 49) #[] #[.pointer (some ⟨bo, 0, none⟩), .pointer (some ⟨bw, 0, none⟩)], .pointer (some ⟨w.heap.size, 0, none⟩), undef, .slice none 0 0, undef, .func (.func 49) #[] #[.pointer (some ⟨bo, 0, none⟩), .pointer (some ⟨bw, 0, none⟩)], undef, undef, undef, undef, undef, undef], defers := [] } w4)
    (fun x a₁ => CBx.ab) (fun s => s = []) (fun _ _ => False) (fun k => k < w.heap.size) ?call ?assign ?body ?done ?stop
  case call =>
    intro l' m' rec W' hz' hbw hJ1 hJ2 hR hj
    have hz4 := HZ4.out
    have hbW : Below w.heap.size w W' := HB4.out.trans (hbw.mono (by omega))
    refine (seen_iter l' m' (fun k => k < w.heap.size) W'.heap.size bo bw v who L _ _ hJ1 hR W' ((hbW.block _ lo).trans HOW.out) ((hbW.block _ lw).trans HWW.out) lw (HLL.out.keep (KeepC.below hbW)) HSM.out hlen hj).mono ?_
    rintro e W3 ⟨rfl, h | ⟨s, x, c, h, _⟩⟩
    · exact ⟨rfl, .inl ⟨[], rfl, h⟩⟩
    · exact h.elim
  case assign =>
    intro l' m' st x W' K hi hx hsz hK
    gi_wp2_with fail
    exact hK _ _ (ba _ _) ⟨W'.heap.size, hsz, rfl, h_new rfl _⟩
  case body =>
    rintro l' m' st x a₁ W' ⟨hb, ⟨aq, nq, cq⟩, acc, h1, h2, h3⟩ ⟨tl, rfl⟩ ⟨b, hbb, rfl, hbx⟩ hsz
    have hz4 := HZ4.out
    have hacc : acc.length ≤ 1000000 := by
      have := congrArg List.length h3
      simp at this
      omega
    have h1' : W'.heap[w.heap.size]? = some (.cells #[.slice aq nq cq] 53 (0, 0)) := h1
    have HB := lid hb
    have H1 := lid h1'
    have H2 := lid h2
    have H3 := lid h3
    have x0 := row_cell hbx 0
    have x1 := row_cell hbx 1
    have x2 := row_cell hbx 2
    have x3 := row_cell hbx 3
    have x4 := row_cell hbx 4
    have lx := row_lt hbx
    have y0 := row_cell h1' 0
    have lb := row_lt h1'
    have hbs : w.heap.size + 1 ≤ W'.heap.size := by omega
    have HBS := lid hbs
    clear hb h1 h1' h2 h3 hbx hz4
    gi_wp2_with (gi_at_builtin; go_must (refine wpListIn_append_own _ rfl _ _ 53 rfl (w.heap.size + 1) 61 i0 (.agg #[.string ⟨#[]⟩, .bool false, .bool false, .string ⟨#[]⟩, .string ⟨#[]⟩]) 5 56 Tryz.underlying53 hi hz0 hz1 hz2 rfl (by decide) (slv (aq, nq, cq)) acc.length _ rfl (H2.out.alloc _) ⟨W'.heap.size, 0, none⟩ 1 1 (cha x).toList rfl rfl (cells_newc W' (cha x) _) (by intro u hu; simp only [List.mem_cons, List.not_mem_nil, or_false] at hu; rcases hu with rfl | rfl | rfl | rfl | rfl <;> rfl) (by unfold maxLen; omega) (by omega) (by simp; omega) ?_))
    intro v9 w9 own9 hg9 _
    obtain ⟨a9, c9, rfl⟩ := slv_of own9
    rw [show slv (a9, acc.length + 1, c9) = Value.slice a9 (acc.length + 1) c9 from rfl]
    have hB9 : w9.heap[w.heap.size]? = some (.cells #[.slice aq nq cq] 53 (0, 0)) := (hg9.block _ (by simp; omega) (fun e => by have := ownsRow_row H2.out _ e.symm; omega)).trans ((h_old lb _).trans H1.out)
    have HB9 := lid hB9
    have z0 := row_cell hB9 0
    have f0 := row_fz hB9 0
    have lb9 := row_lt hB9
    have HO9 : Hid (w9.ownsRow (w.heap.size + 1) 61 5 (slv (a9, acc.length + 1, c9)) (acc ++ [x]).length (chcells (acc ++ [x]))) := lid (by rw [List.length_append, chcells_append]; exact own9)
    have HST : Hid (RdStep (w.heap.size + 1) w.heap.size W' (w9.setCell ⟨w.heap.size, 0, none⟩ (.slice a9 (acc.length + 1) c9))) := lid ((RdStep.of_below HBS.out (Nat.lt_succ_self _) (ba W' _)).trans ((RdStep.own (by simp; omega) (Nat.lt_succ_self _) (H2.out.alloc _) hg9).trans (RdStep.setCell (base := w.heap.size + 1) (rb := w.heap.size) (by omega) (p := ⟨w.heap.size, 0, none⟩) (.inl rfl) _)))
    clear own9 hg9 hB9 x0 x1 x2 x3 x4 lx y0
    gi_wp2_with fail
    refine ⟨HST.out.kf (fun k hk => ⟨by have hk : k < w.heap.size := hk; omega, by have hk : k < w.heap.size := hk; omega⟩), tl, rfl, HB.out.trans HST.out.below, (a9, acc.length + 1, c9), acc ++ [x], by have := row_set HB9.out 0 (.slice a9 (acc.length + 1) c9); simpa using this, ownsRow_setCell_below HO9.out (a := ⟨w.heap.size, 0, none⟩) (Nat.lt_succ_self _) _, by rw [H3.out]; simp⟩
  case done =>
    rintro D s' W' hD rfl ⟨hb, ⟨aq, nq, cq⟩, acc, h1, h2, h3⟩ hdef
    have hz4 := HZ4.out
    have HB := lid hb
    have HDE := lid hdef
    have H2 := lid h2
    have H3 := lid h3
    have h1' : W'.heap[w.heap.size]? = some (.cells #[.slice aq nq cq] 53 (0, 0)) := h1
    have y0 := row_cell h1' 0
    have lb := row_lt h1'
    have hDw : w.heap.size + 1 ≤ D := by omega
    clear hb h1 h1' h2 h3 hdef hz4
    gi_wp2_with fail
    refine ⟨by simp, .inl ⟨D, _, rfl, run_takeDeferred HDE.out, ?_⟩⟩
    have hBE := HB.out.grown (grownBy_putObj' _ D (.deferred none)) HB.out.size (fun j e => by cases e; omega)
    have e : seenF who L = acc := by rw [H3.out, List.append_nil]
    refine ⟨_, results_tmp rfl _ _ _, (aq, nq, cq), rfl, ?_, hBE⟩
    rw [e]
    exact ownsRow_putObj (ownsRow_base H2.out (Nat.le_succ _)) _ HDE.out rfl
  case stop =>
    rintro D c s x W' hD h
    exact h.elim
set_option maxRecDepth 100000 in
set_option maxHeartbeats 1000000 in
theorem Collect_any (bo bw : Nat) (v : SV) (who : ByteArray) (L : List (Ch × List (List ByteArray))) (w : World) (ho : w.heap[bo]? = some (.cells #[slv v] 44 (0, 0))) (hw : w.heap[bw]? = some (.cells #[.string who] 9 (0, 0))) (hL : OwS (fun k => k < w.heap.size) w v L) (hsm : smallL L) (hlen : L.length ≤ 1000000) :
    Calls Tryz.prog 30 #[.func (.func 49) #[] #[.pointer (some ⟨bo, 0, none⟩), .pointer (some ⟨bw, 0, none⟩)]] w fun e w' => ∃ q : SV, e = .returned (slv q) ∧ w'.ownsRow w.heap.size 61 5 (slv q) (seenF who L).length (chcells (seenF who L)) ∧ Below w.heap.size w w' := by
  have HA := lid (AppendSeq_any bo bw v who L w ho hw hL hsm hlen)
  clear ho hw hL hsm
  go_enter Tryz.func30, Tryz.ntmps30
  go_wp2_with fail
  (with_reducible refine (HA.out).mono ?_); rintro e w1 ⟨q, rfl, hown, hb⟩
  go_wp2_with fail
  go_ret
  exact ⟨q, rfl, hown, hb⟩
end Go.Proofs.YtefehgdckmajiaaGreatDoor
