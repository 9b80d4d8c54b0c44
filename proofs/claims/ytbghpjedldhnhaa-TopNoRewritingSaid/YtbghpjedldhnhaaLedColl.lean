/-
  slices.AppendSeq and slices.Collect over the digests of a ledger's records.
-/
import Derived.Test.YtbghpjedldhnhaaLedIter
import Derived.Test.YtbghpjedldhnhaaBox
import Derived.Maps.AppendAt
namespace Go.Proofs.Ytbghpjedldhnhaa
open Go.RowKit Go.Shelf
attribute [local go_sem] Oper.semAt_some

theorem info_dgc : (Try.prog.info? 32).map (fun i => (i.zero, i.size, i.bytes)) = some (some (.agg #[.int .u64 0, .int .u64 0]), 2, 16) := by kernel_rfl
theorem cells_new (W : World) (us : Array Value) (t : TypeId) : ∀ j u, us.toList[j]? = some u → (W.alloc (.cells us t)).cell? ((⟨W.heap.size, 0, none⟩ : Addr).add j) = some u := by
  intro j u hu
  rw [Addr.add_lit]
  simp only [World.cell?, Nat.zero_add]
  rw [heap_alloc_new]
  simpa using hu

/-- A digest in its own block. -/
def DBlk (W : World) (k : Nat) (d : Dg) : Prop := W.heap[k]? = some (.cells #[.int .u64 d.1.toNat, .int .u64 d.2.toNat] 32 (0, 0))
theorem DBlk.c0 {W : World} {k : Nat} {d : Dg} (h : DBlk W k d) : W.cell? ⟨k, 0, none⟩ = some (.int .u64 d.1.toNat) := by rw [cell_of_row _ _ _ _ _ _ h]; rfl
theorem DBlk.c1 {W : World} {k : Nat} {d : Dg} (h : DBlk W k d) : W.cell? ⟨k, 1, none⟩ = some (.int .u64 d.2.toNat) := by rw [cell_of_row _ _ _ _ _ _ h]; rfl

set_option maxRecDepth 100000 in
set_option maxHeartbeats 8000000 in
theorem AppendSeq_any (bl : Nat) (l : List Rec) (n cap : Nat) (ao : Option Addr) (w : World) (hbl : bl < w.heap.size) (hc : w.cell? ⟨bl, 0, none⟩ = some (.slice ao n cap)) (hn : l.length = n) (hs : Sl w 4 ao n (rcells l)) (hr : ∀ r ∈ l, RecS r) (hm : n ≤ 10000) :
    Calls Try.prog 41 #[.slice none 0 0, .func (.func 42) #[] #[.pointer (some ⟨bl, 0, none⟩)]] w fun e w' => ∃ v', e = .returned v' ∧ w'.ownsRow w.heap.size 32 2 v' n (dcells (l.map recD)) ∧ Below w.heap.size w w' := by
  refine (callsIn_wide (n := 3)).1 ?_
  obtain ⟨i0, hi, hz0, hz1, hz2⟩ := info_parts info_dgc
  refine callsIn_of_wp_marks Try.func41 rfl trivial ?_ rfl
  simp only [Try.ntmps41, List.size_toArray, List.length_cons, List.length_nil, Nat.reduceAdd, Nat.reduceSub, Array.replicate_succ, Array.replicate_zero, List.push_toArray, List.append_toArray, List.nil_append, List.cons_append]
  gi_wp2_with fail
  have bO := Boxed.new w 23 (.slice none 0 0)
  obtain ⟨W0, hW0⟩ : ∃ W0, w.alloc (Obj.cells #[Value.slice none 0 0] 23) = W0 := ⟨_, rfl⟩
  have hsz : W0.heap.size = w.heap.size + 1 := by rw [← hW0]; simp
  have hb0 : Below w.heap.size w W0 := by rw [← hW0]; exact ba _ _
  rw [hW0] at bO ⊢
  clear hW0
  refine wpIn_rangeFunc_ownH rfl (by omega) (gf := 42) (lb := #[.pointer (some ⟨bl, 0, none⟩)]) rfl trivial (enters_of Try.func42 (by kernel_rfl) rfl)
    (digests_stops _ (by omega) bl l n cap ao w hbl hc hn hs hr (by unfold maxLen; omega)) belowK_t (belowK_b (by omega)) hb0 (fun _ => rfl)
    (fun pre W => (∃ v', Boxed W w.heap.size 23 v' ∧ W.ownsRow W0.heap.size 32 2 v' pre.length (dcells pre) ∧ True) ∧ Below w.heap.size W0 W)
    (fun _ _ _ => False)
    (OwnFrom.and (Own.from (holdsRow_own W0.heap.size w.heap.size 23 32 2 (fun pre : List Dg => pre.length) (fun pre => dcells pre) (fun _ _ => True)) _) (ownFrom_below (by omega) (by omega)))
    (fun _ _ _ _ _ hs _ _ => hs)
    ⟨⟨_, bO, World.ownsRow_nil _ _ _ _, trivial⟩, Below.refl _ _⟩
    (fun x a' W => ∃ Bx, DBlk W Bx x ∧ a' = { tmps := #[.slice none 0 0, .func (.func 42) #[] #[.pointer (some ⟨bl, 0, none⟩)], .pointer (some ⟨w.heap.size, 0, none⟩), undef, .slice none 0 0, .pointer (some ⟨Bx, 0, none⟩), .func (.func 42) #[] #[.pointer (some ⟨bl, 0, none⟩)], dv x, undef, undef, undef, undef, undef], defers := [] }) ?hAx ?assign ?body ?done ?stop
  case hAx =>
    rintro x a' s W W' row ⟨Bx, hx, e⟩ hg hr
    refine ⟨Bx, ?_, e⟩
    refine (hg.block Bx (Array.getElem?_eq_some_iff.1 hx).1 (fun e' => ?_)).trans hx
    obtain ⟨o, ho, hco⟩ := (hr _ e'.symm).2
    rw [show W.heap[Bx]? = _ from hx] at ho
    cases ho
    cases hco
  case assign =>
    rintro l pre x W K ⟨⟨v', hv, hrow, -⟩, hB⟩ hK
    gi_wp2_with fail
    refine hK _ _ ((KeepsOthers.alloc _ _).from _) ((Below.refl _ W).alloc (by have := hB.size; omega) _) ⟨⟨v', hv.alloc _, hrow.alloc _, trivial⟩, hB.alloc (by have := hB.size; omega) _⟩ ⟨W.heap.size, heap_alloc_new _ _, rfl⟩
  case body =>
    rintro l' pre x a' W hl ⟨rr, hrr⟩ ⟨⟨v', hv, hrow, -⟩, hB⟩ ⟨Bx, hx, rfl⟩ hlt
    have hc1 := hv.cell
    have hx0 := hx.c0
    have hx1 := hx.c1
    have hrl := hB.size
    gi_wp2_with (gi_at_builtin; go_must (refine wpListIn_append_own _ rfl _ _ 23 rfl W0.heap.size 32 i0 (.agg #[.int .u64 0, .int .u64 0]) 2 16 Try.underlying23 hi hz0 hz1 hz2 rfl (by decide) _ _ _ rfl (hrow.alloc _) ⟨W.heap.size, 0, none⟩ 1 1 [.int .u64 x.1.toNat, .int .u64 x.2.toNat] rfl rfl (cells_new W #[.int .u64 x.1.toNat, .int .u64 x.2.toNat] _) (by simp [Value.oneCell']) (by unfold maxLen; omega) (by omega) (by simp; omega) ?_); intro v'' w2 hown' hgrow _; obtain ⟨g', cap', rfl⟩ := ownsRow_succ hown'; obtain ⟨hv1, hv2, hr2, hk2, hb2, hx2⟩ := appended_x hv hrow hrl (by omega) hown' hgrow; have hc1 := hv1.cell; have hf1 := hv1.frozen)
    exact ⟨hk2.from _, hb2, ⟨_, hv2, by rw [dcells_append, List.length_append]; exact hr2, trivial⟩, hB.trans hb2⟩
  case done =>
    rintro D ys W hD rfl ⟨⟨v', hv, hrow, -⟩, hB⟩ hK
    have hc1 := hv.cell
    gi_wp2_with fail
    refine ⟨by simp, .inl ⟨_, _, rfl, run_takeDeferred hK, ?_⟩⟩
    have hput : Below w.heap.size W0 (W.putObj D (.deferred none)) := hB.trans (belowK_b (w := W0) (by omega) W D _ _ hD hK rfl rfl)
    refine ⟨_, results_tmp rfl _ _ _, v', rfl, ?_, hb0.trans hput⟩
    rw [List.length_map, hn] at hrow
    exact ownsRow_putObj (ownsRow_base hrow (by omega)) _ hK rfl
  case stop =>
    rintro D c pre W _ _ h _
    exact h.elim

set_option maxRecDepth 100000 in
set_option maxHeartbeats 1000000 in
theorem Collect_any (bl : Nat) (l : List Rec) (n cap : Nat) (ao : Option Addr) (w : World) (hbl : bl < w.heap.size) (hc : w.cell? ⟨bl, 0, none⟩ = some (.slice ao n cap)) (hn : l.length = n) (hs : Sl w 4 ao n (rcells l)) (hr : ∀ r ∈ l, RecS r) (hm : n ≤ 10000) :
    Calls Try.prog 22 #[.func (.func 42) #[] #[.pointer (some ⟨bl, 0, none⟩)]] w fun e w' => ∃ v', e = .returned v' ∧ w'.ownsRow w.heap.size 32 2 v' n (dcells (l.map recD)) ∧ Below w.heap.size w w' := by
  have HA := lid (AppendSeq_any bl l n cap ao w hbl hc hn hs hr hm)
  clear hc hn hs hr
  go_enter Try.func22, Try.ntmps22
  go_wp2_with fail
  (with_reducible refine (HA.out).mono ?_); rintro e w1 ⟨v', rfl, hown, hb⟩
  go_wp2_with fail
  go_ret
  exact ⟨v', rfl, hown, hb⟩
end Go.Proofs.Ytbghpjedldhnhaa
