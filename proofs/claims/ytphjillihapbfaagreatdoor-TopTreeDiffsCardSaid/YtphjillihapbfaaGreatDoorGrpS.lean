/-
  TreeStr TreeD.
-/
import Derived.Test.YtphjillihapbfaaGreatDoorTreeStore
import Derived.Test.YtphjillihapbfaaGreatDoorGrpL
namespace Go.Proofs.YtphjillihapbfaaGreatDoor
open Go.RowKit

theorem wt_le {l : List Fl} (h : ∀ f ∈ l, f.1.size ≤ 100) : wt l ≤ 102 * l.length := by
  unfold wt
  induction l with
  | nil => simp
  | cons a l ih =>
    have h1 := h a (List.mem_cons_self ..)
    have h2 := ih fun f hf => h f (List.mem_cons_of_mem _ hf)
    simp only [List.map_cons, List.sum_cons, List.length_cons]
    omega
set_option maxRecDepth 100000 in
set_option maxHeartbeats 4000000 in
theorem Store_any (p : List It) (l : List Fl) (n cap np capp : Nat) (ao aop : Option Addr) (w : World) (hg : GoodP p) (hp : PA w aop np capp p) (hlo : Lo w aop) (hf : FA w ao n cap l) (hz : ∀ f ∈ l, f.2.size ≤ 200) (hn : n ≤ 10) (hnp : np ≤ 70000) :
    Calls Tryz.prog 6 #[.slice aop np capp, .slice ao n cap] w fun e w' => Below w.heap.size w w' ∧ ∃ (a : Option Addr) (n' c : Nat) (d : Dg) (e' : Int), e = .returned (.tuple #[.slice a n' c, dv d, .int .i64 e']) ∧
      ((e' = 0 ∧ treeC l = 0 ∧ ∃ q, storeP 101 p l = some (q, d) ∧ PA w' a n' c q ∧ Lo w' a ∧ From w aop a) ∨ (e' ≠ 0 ∧ (treeC l ≠ 0 ∨ storeP 101 p l = none))) := by
  obtain ⟨W, hW⟩ : ∃ W, w.alloc (Obj.cells #[.int .u64 0, .int .u64 0] 31) = W := ⟨_, rfl⟩
  have hb0 : Below w.heap.size w W := by rw [← hW]; exact ba _ _
  have hR : W.heap[w.heap.size]? = some (.cells #[.int .u64 0, .int .u64 0] 31 (0, 0)) := by rw [← hW]; exact heap_alloc_new w _
  have HB0 := lid hb0
  have HR := lid hR
  have HW := lid hW
  have HG := lid hg
  have HP := lid (hp.below hb0)
  have HLO := lid hlo
  have HF := lid (hf.below hb0)
  have HZ := lid hz
  have CC := lid (treeCheck_any l n cap ao W (hf.below hb0) (fun f h => Nat.le_trans (hz f h) (by omega)))
  clear hg hp hlo hf hz hW hb0 hR
  go_enter Tryz.func6, Tryz.ntmps6
  go_wp2_with fail
  rw [HW.out]
  (with_reducible refine (CC.out).mono ?_); rintro e w1 ⟨rfl, hb1⟩
  have HB1 := lid (HB0.out.trans (hb1.mono HB0.out.size))
  have HR1 := lid ((hb1.block _ (row_lt HR.out)).trans HR.out)
  have HP1 := lid (HP.out.below hb1)
  have HF1 := lid (HF.out.below hb1)
  clear hb1
  by_cases hc : treeC l = 0
  · have HV := lid (treeC_zero hc)
    have HC := lid hc
    have CS := lid (store_any 100 p l n cap np capp ao aop w1 HG.out HP1.out (HLO.out.mono HB1.out.size) HF1.out (treeC_zero hc).nf HZ.out (fun f h => pathB_size ((treeC_zero hc).path f h)) (by omega) hn (by
      have := wt_le (l := l) (fun f h => pathB_size ((treeC_zero hc).path f h))
      have := HF1.out.len
      omega))
    rw [hc]
    clear hc
    go_wp2_with fail
    (with_reducible refine (CS.out).mono ?_); rintro e w2 ⟨hb2, a, n', c, d, e', rfl, hres⟩
    have hR2 := (hb2.block _ (row_lt HR1.out)).trans HR1.out
    have y0 : w2.cell? ⟨w.heap.size, 0, none⟩ = some (.int .u64 0) := row_cell hR2 0
    have y1 : w2.cell? ⟨w.heap.size, 1, none⟩ = some (.int .u64 0) := row_cell hR2 1
    have f0 := row_fz hR2 0
    have f1 := row_fz hR2 1
    have lr := row_lt hR2
    have HB2 := lid (HB1.out.trans (hb2.mono HB1.out.size))
    have HRES := lid hres
    have hlw1 := row_lt HR1.out
    clear hb2 hres hR2
    go_wp2_with fail
    have hset : w2.grownBy ((w2.setCell ⟨w.heap.size, 0, none⟩ (.int .u64 d.1.toNat)).setCell ⟨w.heap.size, 1, none⟩ (.int .u64 d.2.toNat)) (some w.heap.size) := (grown_set w2 _ _ _).trans (grown_set _ _ _ _)
    refine bodyPost_ret (v := .tuple #[.slice a n' c, dv d, .int .i64 e']) (by
      obtain ⟨z0, z1⟩ := two_set (.int .u64 d.1.toNat) (.int .u64 d.2.toNat) y0 y1
      simp [results, Tryz.results6, go_sem, z0, z1]) rfl ⟨(HB2.out.setCell (p := ⟨w.heap.size, 0, none⟩) (Nat.le_refl _) _).setCell (p := ⟨w.heap.size, 1, none⟩) (Nat.le_refl _) _, a, n', c, d, e', rfl, ?_⟩
    rcases HRES.out with ⟨h1, q, h2, h3, h4, h5⟩ | ⟨h1, h2⟩
    · refine .inl ⟨h1, HC.out, q, h2, h3.grown hset (fun x hx e => ?_), h5.mono hset.size, h4.weak HB1.out.size⟩
      have he := Option.some.inj e
      rcases h4 x hx with ⟨y, hy, e2⟩ | h7
      · have := HLO.out y hy
        omega
      · omega
    · exact .inr ⟨h1, .inr h2⟩
  · have u : (treeC l == 0) = false := by simpa using hc
    have HC := lid hc
    have hR1 := HR1.out
    have y0 : w1.cell? ⟨w.heap.size, 0, none⟩ = some (.int .u64 0) := row_cell hR1 0
    have y1 : w1.cell? ⟨w.heap.size, 1, none⟩ = some (.int .u64 0) := row_cell hR1 1
    have f0 := row_fz hR1 0
    have f1 := row_fz hR1 1
    have lr := row_lt hR1
    clear hc hR1
    go_wp2_with fail
    refine bodyPost_ret (v := .tuple #[.slice none 0 0, .agg #[.int .u64 0, .int .u64 0], .int .i64 (treeC l)]) (by
      obtain ⟨z0, z1⟩ := two_set (.int .u64 0) (.int .u64 0) y0 y1
      simp [results, Tryz.results6, go_sem, z0, z1]) rfl ⟨(HB1.out.setCell (p := ⟨w.heap.size, 0, none⟩) (Nat.le_refl _) _).setCell (p := ⟨w.heap.size, 1, none⟩) (Nat.le_refl _) _, none, 0, 0, (0, 0), treeC l, rfl, .inr ⟨HC.out, .inl HC.out⟩⟩
end Go.Proofs.YtphjillihapbfaaGreatDoor

namespace Go.Proofs.YtphjillihapbfaaGreatDoor
open Go.RowKit

/-- The changes at the paths of a list. -/
def diffC (a b : List Fl) (L : List ByteArray) : List Ch := L.filterMap fun p => if findF a p = findF b p then none else some (p, findF a p, findF b p)
theorem diffC_snoc (a b : List Fl) (L : List ByteArray) (p : ByteArray) : diffC a b (L ++ [p]) = if findF a p = findF b p then diffC a b L else diffC a b L ++ [(p, findF a p, findF b p)] := by
  unfold diffC
  rw [List.filterMap_append]
  by_cases h : findF a p = findF b p <;> simp [h]
theorem findF_path {a : List Fl} {p d : ByteArray} (ha : ∀ f ∈ a, pathB f.1 = true) (h : findF a p = some d) : pathB p = true := by
  unfold findF at h
  rw [Option.map_eq_some_iff] at h
  obtain ⟨f, hf, rfl⟩ := h
  have := List.find?_some hf
  rw [decide_eq_true_eq] at this
  rw [← this]
  exact ha f (List.mem_of_find?_eq_some hf)
theorem diff_chg {a b : List Fl} {L : List ByteArray} (ha : ∀ f ∈ a, pathB f.1 = true) (hb : ∀ f ∈ b, pathB f.1 = true) (hL : AscS L) (hm : ∀ p, p ∈ L ↔ (findF a p).isSome = true ∨ (findF b p).isSome = true) : Chg a b (diffC a b L) := by
  refine ⟨?_, ?_, ?_⟩
  · refine List.Pairwise.filterMap _ ?_ hL
    intro p q hpq x hx y hy
    split at hx
    · cases hx
    · cases hx
      split at hy
      · cases hy
      · cases hy
        exact hpq
  · intro x hx
    obtain ⟨p, hp, he⟩ := List.mem_filterMap.1 hx
    split at he
    · cases he
    · rename_i hne
      cases he
      refine ⟨?_, rfl, rfl, hne⟩
      rcases (hm p).1 hp with h | h
      · obtain ⟨d, hd⟩ := Option.isSome_iff_exists.1 h
        exact findF_path ha hd
      · obtain ⟨d, hd⟩ := Option.isSome_iff_exists.1 h
        exact findF_path hb hd
  · intro p hp
    refine ⟨(p, findF a p, findF b p), List.mem_filterMap.2 ⟨p, (hm p).2 ?_, by simp [hp]⟩, rfl⟩
    cases ha' : findF a p with
    | some d => exact .inl rfl
    | none =>
      cases hb' : findF b p with
      | some d => exact .inr rfl
      | none => rw [ha', hb'] at hp; exact absurd rfl hp

/-- The files after changes, as a function. -/
def patF (g : ByteArray → Option ByteArray) (c : List Ch) : ByteArray → Option ByteArray := c.foldl (fun g x => fun q => if q = x.1 then x.2.2 else g q) g
theorem patF_snoc (g : ByteArray → Option ByteArray) (c : List Ch) (x : Ch) : patF g (c ++ [x]) = fun q => if q = x.1 then x.2.2 else patF g c q := by simp [patF]
theorem patF_at {b : List Fl} : ∀ {c : List Ch} {g : ByteArray → Option ByteArray} {p : ByteArray}, (∀ x ∈ c, x.2.2 = findF b x.1) → (g p = findF b p ∨ ∃ x ∈ c, x.1 = p) → patF g c p = findF b p
  | [], _, _, _, h => by
    rcases h with h | ⟨x, hx, _⟩
    · exact h
    · cases hx
  | x :: c, g, p, hc, h => by
    show patF (fun q => if q = x.1 then x.2.2 else g q) c p = findF b p
    refine patF_at (fun y hy => hc y (List.mem_cons_of_mem _ hy)) ?_
    by_cases e : p = x.1
    · left
      simp only [e, if_true]
      exact hc x (List.mem_cons_self ..)
    · rcases h with h | ⟨y, hy, hp⟩
      · left
        simp only [e, if_false]
        exact h
      · rcases List.mem_cons.1 hy with rfl | hy
        · exact absurd hp.symm e
        · exact .inr ⟨y, hy, hp⟩
theorem patF_chg {a b : List Fl} {c : List Ch} (h : Chg a b c) : patF (findF a) c = findF b := by
  funext p
  refine patF_at (fun x hx => (h.mem x hx).2.2.1) ?_
  by_cases e : findF a p = findF b p
  · exact .inl e
  · exact .inr (h.all p e)
/-- The files at the paths of a list. -/
def fileL (g : ByteArray → Option ByteArray) (L : List ByteArray) : List Fl := L.map fun p => (p, (g p).getD ⟨#[]⟩)
theorem fileL_eq {b : List Fl} {L : List ByteArray} (hb : AscF b) (hL : AscS L) (hm : ∀ p, p ∈ L ↔ (findF b p).isSome = true) : fileL (findF b) L = b := by
  refine ascF_unique ?_ hb ?_
  · unfold AscF fileL
    rw [List.pairwise_map]
    exact hL
  · rintro ⟨p, d⟩
    unfold fileL
    rw [List.mem_map]
    constructor
    · rintro ⟨q, hq, e⟩
      obtain ⟨rfl, rfl⟩ := Prod.mk.inj e
      obtain ⟨d, hd⟩ := Option.isSome_iff_exists.1 ((hm q).1 hq)
      rw [hd]
      exact (find_asc hb).1 hd
    · intro h
      have hd := (find_asc hb).2 h
      exact ⟨p, (hm p).2 (by rw [hd]; rfl), by rw [hd]; rfl⟩
end Go.Proofs.YtphjillihapbfaaGreatDoor
