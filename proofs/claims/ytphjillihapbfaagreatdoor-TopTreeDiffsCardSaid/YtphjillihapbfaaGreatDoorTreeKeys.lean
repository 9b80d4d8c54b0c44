/-
  The keys of maps: collected, appended, sorted.
-/
import Derived.Test.YtphjillihapbfaaGreatDoorGrpM
import Derived.Test.YtphjillihapbfaaGreatDoorLay
import Derived.Test.YtphjillihapbfaaGreatDoorGrpC
import Derived.RangeFuncFrom
import Derived.Maps.AppendAt
import Derived.OwnWalkIn
namespace Go.Proofs.YtphjillihapbfaaGreatDoor
open Go.RowKit Go.Shelf Go.Sort
attribute [local go_sem] Oper.semAt_some

theorem enc_svals (ss : List (List UInt8)) : ss.map encStr = svals (ss.map bstr) := by
  unfold svals
  rw [List.map_map]
  rfl
theorem sorts_in (m : Nat) : AnyZ.SortsIn Tryz.prog sortedA_ren Fence.wide m :=
  ⟨fun blk off cap ss W hH hblk hsz => callsIn_wide.2 (AnyM.slices_Sort_string sortA blk off cap ss W hH hblk hsz),
   fun p cap W => callsIn_wide.2 (AnyM.slices_Sort_string_none sortA p cap W)⟩
theorem perm_keys {ss : List (List UInt8)} {D : DataW Value} {f : MF} (hp : ss.Perm (strKeys D)) (hnd : (strKeys D).Nodup) (hmem : ∀ x, x ∈ strKeys D ↔ (f (bstr x)).isSome = true) :
    (ss.map bstr).Nodup ∧ ∀ p, p ∈ ss.map bstr ↔ (f p).isSome = true := by
  have hn : ss.Nodup := (hp.nodup_iff).2 hnd
  refine ⟨?_, fun p => ?_⟩
  · refine List.pairwise_map.2 (hn.imp ?_)
    intro a b hab e
    exact hab (by have := congrArg (fun s : ByteArray => s.data.toList) e; simpa using this)
  · rw [List.mem_map]
    constructor
    · rintro ⟨x, hx, rfl⟩
      exact (hmem x).1 (hp.mem_iff.1 hx)
    · intro h
      have e : bstr p.data.toList = p := data_inj (bstr_list _)
      exact ⟨p.data.toList, hp.mem_iff.2 ((hmem _).2 (by rw [e]; exact h)), e⟩
theorem perm_sorted {ss : List (List UInt8)} {D : DataW Value} {f : MF} (hp : ss.Perm (strKeys D)) (hnd : (strKeys D).Nodup) (hmem : ∀ x, x ∈ strKeys D ↔ (f (bstr x)).isSome = true) :
    AscS ((ss.mergeSort fun x y => decide (x ≤ y)).map bstr) ∧ ∀ p, p ∈ (ss.mergeSort fun x y => decide (x ≤ y)).map bstr ↔ (f p).isSome = true := by
  obtain ⟨h1, h2⟩ := sort_asc (ss := ss) ((hp.nodup_iff).2 hnd)
  refine ⟨h1, fun p => ?_⟩
  have e : bstr p.data.toList = p := data_inj (bstr_list _)
  rw [h2 p, hp.mem_iff, hmem, e]
theorem own_alloc {w : World} {b n : Nat} {D : DataW Value} (o : Obj) (h : w.ownsMap Tryz.prog 9 heldR b n D) : (w.alloc o).ownsMap Tryz.prog 9 heldR b n D := by
  have hbl := h.lt
  obtain ⟨es, clock, hb, Ft, hs, hD⟩ := h
  exact ⟨es, clock, (Below.heap_alloc _ _ b hbl).trans hb, Ft, hs, hD⟩
theorem keysC_fn (b : Nat) (w : World) : Calls Tryz.prog 15 #[.map (some b)] w fun e w' => e = .returned (.func (.func 32) #[] #[.pointer (some ⟨w.heap.size, 0, none⟩)]) ∧ w' = w.alloc (.cells #[.map (some b)] 48) :=
  callsIn_wide.1 (AnyZ.keys_in keysC Fence.wide 5 trivial rfl (some b) w)
theorem keysS_fn (b : Nat) (w : World) : Calls Tryz.prog 17 #[.map (some b)] w fun e w' => e = .returned (.func (.func 34) #[] #[.pointer (some ⟨w.heap.size, 0, none⟩)]) ∧ w' = w.alloc (.cells #[.map (some b)] 56) :=
  callsIn_wide.1 (AnyZ.keys_in keysS Fence.wide 5 trivial rfl (some b) w)
theorem keysF_fn (b : Nat) (w : World) : Calls Tryz.prog 27 #[.map (some b)] w fun e w' => e = .returned (.func (.func 44) #[] #[.pointer (some ⟨w.heap.size, 0, none⟩)]) ∧ w' = w.alloc (.cells #[.map (some b)] 75) :=
  callsIn_wide.1 (AnyZ.keys_in keysF Fence.wide 5 trivial rfl (some b) w)
theorem keysL_fn (b : Nat) (w : World) : Calls Tryz.prog 29 #[.map (some b)] w fun e w' => e = .returned (.func (.func 45) #[] #[.pointer (some ⟨w.heap.size, 0, none⟩)]) ∧ w' = w.alloc (.cells #[.map (some b)] 74) :=
  callsIn_wide.1 (AnyZ.keys_in keysL Fence.wide 5 trivial rfl (some b) w)
set_option maxHeartbeats 1000000 in
theorem sortedC_any (b n : Nat) (f : MF) (w : World) (h : HM w b n f) (hn : n ≤ 1000000) :
    Calls Tryz.prog 14 #[.func (.func 32) #[] #[.pointer (some ⟨w.heap.size, 0, none⟩)]] (w.alloc (.cells #[.map (some b)] 48)) fun e w' => ∃ (v : Value) (L : List ByteArray), e = .returned v ∧ w'.ownsRow (w.heap.size + 1) 9 1 v L.length (svals L) ∧ AscS L ∧ (∀ p, p ∈ L ↔ (f p).isSome = true) ∧ Below (w.heap.size + 1) (w.alloc (.cells #[.map (some b)] 48)) w' ∧ L.length ≤ n := by
  obtain ⟨D, hown, hnd, hmem, hsz⟩ := h.keys
  have hbl := hown.lt
  have hseq : SeqGives Fence.wide 2 Tryz.prog 32 #[.pointer (some ⟨w.heap.size, 0, none⟩)] encStr (fun ss => ss.Perm (strKeys D)) (Maps.size D) (w.alloc (.cells #[.map (some b)] 48)) :=
    AnyZ.keys_gives (ρ := keysC_ren) { keysC with } Fence.wide _ trivial rfl (by omega) w.heap.size b n D _ (by simp) (by simp) (own_alloc _ hown)
  have cS := AnyZ.sorted_in sortedA Fence.wide 5 trivial trivial trivial trivial rfl (by omega) (sorts_in _) (enters_of Tryz.func30 (by kernel_rfl) rfl) 32 #[.pointer (some ⟨w.heap.size, 0, none⟩)] trivial (enters_of Tryz.func32 (by kernel_rfl) rfl) _ _ (by simp only [maxLen]; omega) (by omega) _ hseq
  change CallsIn _ _ Tryz.prog 14 _ _ _ at cS
  refine (callsIn_wide.1 cS).mono ?_
  rintro e w' ⟨v, ss, rfl, hp, hrow, _, hb⟩
  obtain ⟨h1, h2⟩ := perm_sorted hp hnd hmem
  have e1 : (w.alloc (.cells #[.map (some b)] 48)).heap.size = w.heap.size + 1 := by simp
  rw [e1] at hrow hb
  refine ⟨v, _, rfl, ?_, h1, h2, hb, ?_⟩
  · rw [enc_svals] at hrow
    have e2 : ((ss.mergeSort fun x y => decide (x ≤ y)).map bstr).length = ss.length := by simp
    rw [e2]
    exact hrow
  · rw [List.length_map, List.length_mergeSort, hp.length_eq]
    have : (strKeys D).length = Maps.size D := by
      obtain ⟨es, rfl, _⟩ := hown.tidy kstr
      show (es.map _).length = es.length
      rw [List.length_map]
    omega
set_option maxHeartbeats 1000000 in
theorem sortedS_any (b n : Nat) (f : MF) (w : World) (h : HM w b n f) (hn : n ≤ 1000000) :
    Calls Tryz.prog 14 #[.func (.func 34) #[] #[.pointer (some ⟨w.heap.size, 0, none⟩)]] (w.alloc (.cells #[.map (some b)] 56)) fun e w' => ∃ (v : Value) (L : List ByteArray), e = .returned v ∧ w'.ownsRow (w.heap.size + 1) 9 1 v L.length (svals L) ∧ AscS L ∧ (∀ p, p ∈ L ↔ (f p).isSome = true) ∧ Below (w.heap.size + 1) (w.alloc (.cells #[.map (some b)] 56)) w' ∧ L.length ≤ n := by
  obtain ⟨D, hown, hnd, hmem, hsz⟩ := h.keys
  have hbl := hown.lt
  have hseq : SeqGives Fence.wide 2 Tryz.prog 34 #[.pointer (some ⟨w.heap.size, 0, none⟩)] encStr (fun ss => ss.Perm (strKeys D)) (Maps.size D) (w.alloc (.cells #[.map (some b)] 56)) :=
    AnyZ.keys_gives (ρ := keysS_ren) { keysS with } Fence.wide _ trivial rfl (by omega) w.heap.size b n D _ (by simp) (by simp) (own_alloc _ hown)
  have cS := AnyZ.sorted_in sortedA Fence.wide 5 trivial trivial trivial trivial rfl (by omega) (sorts_in _) (enters_of Tryz.func30 (by kernel_rfl) rfl) 34 #[.pointer (some ⟨w.heap.size, 0, none⟩)] trivial (enters_of Tryz.func34 (by kernel_rfl) rfl) _ _ (by simp only [maxLen]; omega) (by omega) _ hseq
  change CallsIn _ _ Tryz.prog 14 _ _ _ at cS
  refine (callsIn_wide.1 cS).mono ?_
  rintro e w' ⟨v, ss, rfl, hp, hrow, _, hb⟩
  obtain ⟨h1, h2⟩ := perm_sorted hp hnd hmem
  have e1 : (w.alloc (.cells #[.map (some b)] 56)).heap.size = w.heap.size + 1 := by simp
  rw [e1] at hrow hb
  refine ⟨v, _, rfl, ?_, h1, h2, hb, ?_⟩
  · rw [enc_svals] at hrow
    have e2 : ((ss.mergeSort fun x y => decide (x ≤ y)).map bstr).length = ss.length := by simp
    rw [e2]
    exact hrow
  · rw [List.length_map, List.length_mergeSort, hp.length_eq]
    have : (strKeys D).length = Maps.size D := by
      obtain ⟨es, rfl, _⟩ := hown.tidy kstr
      show (es.map _).length = es.length
      rw [List.length_map]
    omega
set_option maxHeartbeats 1000000 in
theorem collectF_any (b n : Nat) (f : MF) (w : World) (h : HM w b n f) (hn : n ≤ 1000000) :
    Calls Tryz.prog 26 #[.func (.func 44) #[] #[.pointer (some ⟨w.heap.size, 0, none⟩)]] (w.alloc (.cells #[.map (some b)] 75)) fun e w' => ∃ (v : Value) (L : List ByteArray), e = .returned v ∧ w'.ownsRow (w.heap.size + 1) 9 1 v L.length (svals L) ∧ L.Nodup ∧ (∀ p, p ∈ L ↔ (f p).isSome = true) ∧ L.length ≤ n ∧ Below (w.heap.size + 1) (w.alloc (.cells #[.map (some b)] 75)) w' := by
  obtain ⟨D, hown, hnd, hmem, hsz⟩ := h.keys
  have hbl := hown.lt
  have hseq : SeqGives Fence.wide 3 Tryz.prog 44 #[.pointer (some ⟨w.heap.size, 0, none⟩)] encStr (fun ss => ss.Perm (strKeys D)) (Maps.size D) (w.alloc (.cells #[.map (some b)] 75)) :=
    AnyZ.keys_gives (ρ := keysF_ren) { keysF with } Fence.wide _ trivial rfl (by omega) w.heap.size b n D _ (by simp) (by simp) (own_alloc _ hown)
  have cS := AnyZ.collect_in (ρ := sortedA_ren) { sortedA with } Fence.wide 5 trivial trivial rfl (by omega) 44 #[.pointer (some ⟨w.heap.size, 0, none⟩)] trivial (enters_of Tryz.func44 (by kernel_rfl) rfl) _ _ (by simp only [maxLen]; omega) (by omega) _ hseq
  change CallsIn _ _ Tryz.prog 26 _ _ _ at cS
  refine (callsIn_wide.1 cS).mono ?_
  rintro e w' ⟨v, ss, rfl, hp, hrow, _, hb⟩
  obtain ⟨h1, h2⟩ := perm_keys hp hnd hmem
  have e1 : (w.alloc (.cells #[.map (some b)] 75)).heap.size = w.heap.size + 1 := by simp
  rw [e1] at hrow hb
  rw [enc_svals] at hrow
  have e2 : (ss.map bstr).length = ss.length := by simp
  refine ⟨v, _, rfl, by rw [e2]; exact hrow, h1, h2, ?_, hb⟩
  rw [e2, hp.length_eq]
  have : (strKeys D).length = Maps.size D := by
    obtain ⟨es, rfl, _⟩ := hown.tidy kstr
    show (es.map _).length = es.length
    rw [List.length_map]
  omega
/-- slices.Sort of an own row of strings. -/
theorem sort_own (v : Value) (L : List ByteArray) (base : Nat) (w : World) (h : w.ownsRow base 9 1 v L.length (svals L)) (hL : L.Nodup) (hlen : L.length ≤ 1000000) (hbase : base ≤ w.heap.size) :
    Calls Tryz.prog 30 #[v] w fun e w' => e = .returned (.tuple #[]) ∧ ∃ M : List ByteArray, w'.ownsRow base 9 1 v L.length (svals M) ∧ M.length = L.length ∧ AscS M ∧ (∀ p, p ∈ M ↔ p ∈ L) ∧ Below base w w' := by
  obtain ⟨ss, hss⟩ : ∃ ss : List (List UInt8), ss.map bstr = L := ⟨L.map fun p => p.data.toList, by rw [List.map_map]; exact (List.map_congr_left (fun p _ => data_inj (bstr_list _))).trans (List.map_id L)⟩
  have hln : ss.length = L.length := by rw [← hss, List.length_map]
  have hns : ss.Nodup := by
    rw [← hss] at hL
    exact (List.pairwise_map.1 hL).imp fun h e => h (by rw [e])
  have e3 : svals L = ss.map encStr := by rw [enc_svals, hss]
  obtain ⟨h1, h2⟩ := sort_asc hns
  have hmem : ∀ p, p ∈ (ss.mergeSort fun x y => decide (x ≤ y)).map bstr ↔ p ∈ L := fun p => by
    rw [h2 p, ← hss, List.mem_map]
    have e : bstr p.data.toList = p := data_inj (bstr_list _)
    constructor
    · intro h; exact ⟨_, h, e⟩
    · rintro ⟨x, hx, rfl⟩
      exact hx
  have hl2 : (ss.mergeSort fun x y => decide (x ≤ y)).length = ss.length := by simp
  rw [e3, ← hln] at h
  rw [← hln] at hlen ⊢
  rcases h.2 with ⟨rfl, hz⟩ | ⟨g, cap, cur, rfl, hgb, hb, r1, r2, r3, r4⟩
  · have hz' : ss = [] := List.eq_nil_of_length_eq_zero hz
    subst hz'
    have hcon := AnyM.slices_Sort_string_none sortA none 0 w
    change Calls Tryz.prog 30 _ _ _ at hcon
    refine hcon.mono ?_
    rintro e w' ⟨rfl, rfl⟩
    exact ⟨rfl, _, by simpa [svals] using World.ownsRow_nil _ _ _ _, by simp, h1, hmem, Below.refl _ _⟩
  · have hH : Holds encStr w g 0 ss.toArray := holds_of_block hb (by simpa using r4)
    have hgl : g < w.heap.size := (Array.getElem?_eq_some_iff.1 hb).1
    have hcon := AnyM.slices_Sort_string sortA g 0 cap ss w hH hgl (by omega)
    change Calls Tryz.prog 30 _ _ _ at hcon
    refine hcon.mono ?_
    rintro e w' ⟨rfl, nn, os, rfl⟩
    refine ⟨rfl, _, ?_, by rw [List.length_map, hl2], h1, hmem, (Below.refl base w).grown (grownBy_sorted _) hbase (fun j hj => by cases hj; exact hgb)⟩
    rw [← enc_svals]
    exact ownsRow_sorted hl2 hgb hb r1 r2 r3
theorem info_str : (Tryz.prog.info? 9).map (fun i => (i.zero, i.size, i.bytes)) = some (some (.string ⟨#[]⟩), 1, 16) := by kernel_rfl
/-- A slice variable in a box and its own row above a base; all else is as it was. -/
def ApI (base bx : Nat) (w : World) (K0 : List ByteArray) (pre : List (List UInt8)) (W : World) : Prop :=
  (∃ v, W.heap[bx]? = some (.cells #[v] 51 (0, 0)) ∧ W.ownsRow base 9 1 v (K0.length + pre.length) (svals (K0 ++ pre.map bstr))) ∧ Below base w W
theorem ApI.own {base bx B : Nat} {w : World} {K0 : List ByteArray} (hB : base ≤ B) (hb : base ≤ w.heap.size) : OwnFrom B (ApI base bx w K0) := fun pre W W' row ⟨⟨v, h1, h2⟩, h3⟩ hg hr => by
  have hne : ∀ (r : Nat), row = some r → ∀ cs t f, W.heap[r]? ≠ some (.cells cs t f) := fun r e cs t f hcs => by
    obtain ⟨_, o, ho, hc⟩ := hr r e
    rw [hcs] at ho
    cases ho
    cases hc
  refine ⟨⟨v, (hg.block bx (Array.getElem?_eq_some_iff.1 h1).1 (fun e => hne bx e.symm _ _ _ h1)).trans h1, ?_⟩, h3.grown hg (Nat.le_trans hb h3.size) (fun k e => Nat.le_trans hB (hr k e).1)⟩
  refine h2.kept hg ?_
  rcases h2.2 with ⟨rfl, _⟩ | ⟨g, cap, cur, rfl, _, hgb, _⟩
  · exact .inl rfl
  · refine .inr fun e' => ?_
    exact hne g (by simpa [Value.ownBlock] using e'.symm) _ _ _ hgb
theorem ownsRow_box {W : World} {base : Nat} {v u : Value} {k bx : Nat} {xs : List Value} (h : W.ownsRow base 9 1 v k xs) (hb : W.heap[bx]? = some (.cells #[u] 51 (0, 0))) : v.ownBlock = none ∨ v.ownBlock ≠ some bx :=
  ownsRow_ne_a h hb (fun cur e => by cases e)
theorem box_ne {v : Value} {bx : Nat} (h : v.ownBlock = none ∨ v.ownBlock ≠ some bx) : some bx ≠ v.ownBlock := fun e => by
  rcases h with h | h
  · rw [h] at e; cases e
  · exact h e.symm
set_option maxRecDepth 100000 in
set_option maxHeartbeats 4000000 in
theorem appendSeqL_any (b n : Nat) (f : MF) (w : World) (h : HM w b n f) (hn : n ≤ 1000000) (base : Nat) (a0 : Option Addr) (c0 : Nat) (K0 : List ByteArray) (hrow : w.ownsRow base 9 1 (.slice a0 K0.length c0) K0.length (svals K0)) (hbase : base ≤ w.heap.size) (hK0 : K0.length ≤ 1000000) :
    Calls Tryz.prog 28 #[.slice a0 K0.length c0, .func (.func 45) #[] #[.pointer (some ⟨w.heap.size, 0, none⟩)]] (w.alloc (.cells #[.map (some b)] 74)) fun e w' => ∃ (v : Value) (L : List ByteArray), e = .returned v ∧ w'.ownsRow base 9 1 v (K0 ++ L).length (svals (K0 ++ L)) ∧ L.Nodup ∧ (∀ p, p ∈ L ↔ (f p).isSome = true) ∧ L.length ≤ n ∧ Below base w w' := by
  obtain ⟨D, hown, hnd, hmem, hsz⟩ := h.keys
  obtain ⟨i0, hi, hz0, hz1, hz2⟩ := info_parts info_str
  have hown1 := own_alloc (.cells #[.map (some b)] 74) hown
  have hm1 : (w.alloc (.cells #[.map (some b)] 74)).cell? ⟨w.heap.size, 0, none⟩ = some (.map (some b)) := by simp
  have hs1 : (w.alloc (.cells #[.map (some b)] 74)).heap.size = w.heap.size + 1 := by simp
  have hrow1 := hrow.alloc (.cells #[.map (some b)] 74)
  have hb1 : Below base w (w.alloc (.cells #[.map (some b)] 74)) := (Below.refl _ _).alloc hbase _
  obtain ⟨Bm, hBm⟩ : ∃ Bm, w.heap.size = Bm := ⟨_, rfl⟩
  rw [hBm] at hm1 hs1 hbase ⊢
  generalize w.alloc (.cells #[.map (some b)] 74) = W at hown1 hm1 hs1 hrow1 hb1 ⊢
  have hs2 : Bm < W.heap.size := by omega
  clear hs1
  refine (callsIn_wide (n := 5)).1 ?_
  refine callsIn_of_wp_marks Tryz.func28 rfl trivial ?_ rfl
  simp only [Tryz.ntmps28, List.size_toArray, List.length_cons, List.length_nil, Nat.reduceAdd, Nat.reduceSub, Array.replicate_succ, Array.replicate_zero, List.push_toArray, List.append_toArray, List.nil_append, List.cons_append]
  gi_wp2_with fail
  obtain ⟨W0, hW0⟩ : ∃ W0, W.alloc (Obj.cells #[.slice a0 K0.length c0] 51) = W0 := ⟨_, rfl⟩
  have hsz0 : W.heap.size < W0.heap.size := by rw [← hW0]; simp
  have hbx : W0.heap[W.heap.size]? = some (.cells #[.slice a0 K0.length c0] 51 (0, 0)) := by rw [← hW0]; exact World.alloc_heap_new W _
  have hb0 : Below base w W0 := by rw [← hW0]; exact hb1.alloc (by omega) _
  have hbW : Below W.heap.size W W0 := by rw [← hW0]; exact (Below.refl _ _).alloc (Nat.le_refl _) _
  have hI0 : ApI base W.heap.size w K0 [] W0 := ⟨⟨_, hbx, by rw [← hW0]; simpa using hrow1.alloc _⟩, hb0⟩
  have hbw : base ≤ w.heap.size := by omega
  rw [hW0]
  clear hW0
  refine wpIn_rangeFunc_ownF rfl (by omega) (gf := 45) (lb := #[.pointer (some ⟨Bm, 0, none⟩)]) rfl trivial (enters_of Tryz.func45 (by kernel_rfl) rfl)
    (AnyZ.keys_stops (ρ := keysL_ren) { keysL with } Fence.wide _ trivial rfl (by omega) Bm b n D W (by omega) hm1 hown1) walksK_t walksK_b hbW (fun _ => rfl)
    (ApI base W.heap.size w K0) (fun _ _ _ => False) (ApI.own (by omega) hbw) (fun _ _ _ _ _ hs _ _ => hs) hI0
    (fun x => { tmps := #[.slice a0 K0.length c0, .func (.func 45) #[] #[.pointer (some ⟨Bm, 0, none⟩)], .pointer (some ⟨W.heap.size, 0, none⟩), undef, .slice none 0 0, encStr x, .func (.func 45) #[] #[.pointer (some ⟨Bm, 0, none⟩)], encStr x, undef, undef, undef, undef, undef], defers := [] }) ?assign ?body ?done ?stop
  case assign =>
    intro l x W' K hK
    gi_wp2_with fail
    exact hK
  case body =>
    rintro l' pre x W' ⟨⟨v, hv, hr⟩, hB⟩ hlt
    obtain ⟨hc1, _⟩ := cell_of_box_a hv
    have lv := row_lt hv
    have hHB : base ≤ W'.heap.size := by have := hB.size; omega
    gi_wp2_with (gi_at_builtin; go_must (refine wpListIn_append_own _ rfl _ _ 51 rfl base 9 i0 (.string ⟨#[]⟩) 1 16 Tryz.underlying51 hi hz0 hz1 hz2 rfl (by decide) _ _ _ rfl (hr.alloc _) ⟨W'.heap.size, 0, none⟩ 1 1 [encStr x] rfl rfl (cell_one_new _ _ _) (by simp [Value.oneCell', encStr]) (by unfold maxLen; omega) (by omega) (by simp; omega) ?_))
    intro v9 w9 own9 hg9 _
    obtain ⟨g', cap', rfl⟩ := ownsRow_succ own9
    have hv9 : w9.heap[W.heap.size]? = some (.cells #[v] 51 (0, 0)) := (hg9.block _ (by simp; omega) (box_ne (ownsRow_box hr hv))).trans ((Below.heap_alloc _ _ _ lv).trans hv)
    obtain ⟨hc9, hf9⟩ := cell_of_box_a hv9
    have hb9 : Below base w w9 := (hB.alloc hHB _).grown hg9 (by simp; omega) (fun k e => (hr.lt k e).1)
    gi_wp2_with fail
    have hko : KeepsOthers W' (w9.setCell ⟨W.heap.size, 0, none⟩ (.slice (some ⟨g', 0, none⟩) (K0.length + pre.length + 1) cap')) := by
      refine ((KeepsOthers.alloc W' _).trans (KeepsOthers.of_grownBy hg9 fun j o ej hj => ?_)).trans (KeepsOthers.setCell _ _ _)
      rcases (hr.alloc (.cells #[encStr x] 9)).2 with ⟨rfl, _⟩ | ⟨g, cap, cur, rfl, _, hgb, _⟩
      · simp [Value.ownBlock] at ej
      · obtain rfl : g = j := by simpa [Value.ownBlock] using ej
        rw [hgb] at hj; cases hj; rfl
    refine ⟨hko, hko.walks, ⟨_, heap_setCell_box_a _ hv9, ?_⟩, ?_⟩
    · have := own9.kept (grownBy_setCell0_a w9 W.heap.size (.slice (some ⟨g', 0, none⟩) (K0.length + pre.length + 1) cap')) (ownsRow_box own9 hv9)
      rw [List.length_append, List.map_append, ← List.append_assoc]
      simpa [svals, encStr, bstr, Nat.add_assoc] using this
    · exact hb9.setCell (p := ⟨W.heap.size, 0, none⟩) (by show base ≤ W.heap.size; omega) _
  case done =>
    rintro D' xs W' hD' ⟨hp, _⟩ ⟨⟨v, hv, hr⟩, hB⟩ hK
    obtain ⟨hc1, _⟩ := cell_of_box_a hv
    obtain ⟨h1, h2⟩ := perm_keys hp hnd hmem
    gi_wp2_with fail
    refine ⟨by simp, .inl ⟨_, _, rfl, run_takeDeferred hK, ?_⟩⟩
    have hput : Below base w (W'.putObj D' (.deferred none)) := hB.trans (belowK_b (w := W0) (by omega) W' D' _ _ hD' hK rfl rfl)
    refine ⟨_, results_tmp rfl _ _ _, v, xs.map bstr, rfl, ?_, h1, h2, ?_, hput⟩
    · rw [List.length_append, List.length_map]
      exact hr.kept (grownBy_putObj_a W' D' (.deferred none)) (ownsRow_ne_a hr hK (fun cur e => by cases e))
    · rw [List.length_map, hp.length_eq]
      have : (strKeys D).length = Maps.size D := by
        obtain ⟨es, rfl, _⟩ := hown.tidy kstr
        show (es.map _).length = es.length
        rw [List.length_map]
      omega
  case stop =>
    rintro D' c pre W' _ _ hF _
    exact hF.elim
end Go.Proofs.YtphjillihapbfaaGreatDoor
