/-
  PoolPt TreeSt.
-/
import Derived.Test.YtphjillihapbfaaGreatDoorPoolIns2
import Derived.Test.YtphjillihapbfaaGreatDoorGrpL
import Derived.Test.YtphjillihapbfaaGreatDoorGrpI
import Derived.Test.YtphjillihapbfaaGreatDoorGrpM
import Derived.Maps.AppendAt
namespace Go.Proofs.YtphjillihapbfaaGreatDoor
open Go.RowKit

/-- A row lies where the one before lay, or it is new. -/
def From (w : World) (ap a : Option Addr) : Prop := ∀ x, a = some x → (∃ y, ap = some y ∧ y.block = x.block) ∨ w.heap.size ≤ x.block
theorem From.refl (w : World) (a : Option Addr) : From w a a := fun x h => .inl ⟨x, h, rfl⟩
theorem From.trans {w w1 : World} {a b c : Option Addr} (h : From w a b) (g : From w1 b c) (hs : w.heap.size ≤ w1.heap.size) : From w a c := fun x hx => by
  rcases g x hx with ⟨y, hy, e⟩ | h2
  · rcases h y hy with ⟨z, hz, e2⟩ | h3
    · exact .inl ⟨z, hz, e2.trans e⟩
    · exact .inr (by rw [← e]; exact h3)
  · exact .inr (Nat.le_trans hs h2)
theorem From.weak {w w1 : World} {a b : Option Addr} (h : From w1 a b) (hs : w.heap.size ≤ w1.heap.size) : From w a b := (From.refl w a).trans h hs
/-- The slice's block lies in the heap. -/
def Lo (w : World) (a : Option Addr) : Prop := ∀ x, a = some x → x.block < w.heap.size
theorem Lo.mono {w w' : World} {a : Option Addr} (h : Lo w a) (hs : w.heap.size ≤ w'.heap.size) : Lo w' a := fun x hx => Nat.lt_of_lt_of_le (h x hx) hs
theorem Lo.nil (w : World) : Lo w none := fun x hx => by cases hx
theorem PA.lo {w : World} {a : Option Addr} {n c : Nat} {l : List It} (h : PA w a (n + 1) c l) : Lo w a := fun x hx => by
  rcases h.sl.2 with h1 | ⟨b, o, e, hb, _⟩
  · omega
  · rw [hx] at e; cases e; exact hb
theorem PA.of_own {w : World} {base n : Nat} {v : Value} {l : List It} (h : w.ownsRow base 101 3 v (n + 1) (icells l)) : ∃ a c, v = .slice a (n + 1) c ∧ PA w a (n + 1) c l ∧ ∀ x, a = some x → base ≤ x.block := by
  have hs := h.1
  rw [icells_length] at hs
  have hl : l.length = n + 1 := by omega
  obtain ⟨a, c, rfl, h1, h2, h3⟩ := Sl.of_own h
  rcases h.2 with ⟨e, h0⟩ | ⟨g, cap, cur, e, hb, _⟩
  · omega
  · cases e
    exact ⟨_, _, rfl, ⟨hl, h3, h1, h2, fun e => by cases e⟩, fun x hx => by cases hx; exact hb⟩
theorem insert_any (l : List It) (x : It) (n cap : Nat) (ao : Option Addr) (w : World) (h : PA w ao n cap l) (hlo : Lo w ao) (hA : Asc l) (hm1 : n ≤ 90000) :
    Calls Tryz.prog 48 #[.slice ao n cap, iv x] w fun e w' => Below w.heap.size w w' ∧ ∃ (a : Option Addr) (n' c : Nat) (e' : Int), e = .returned (.tuple #[.slice a n' c, .int .i64 e']) ∧
      ((e' = 0 ∧ ∃ q, insP l x.1 x.2 = some q ∧ PA w' a n' c q ∧ n' ≤ n + 1 ∧ From w ao a ∧ Lo w' a) ∨ (e' ≠ 0 ∧ insP l x.1 x.2 = none)) := by
  cases hg : getP l x.1 with
  | some t =>
    refine (insert_found l x n cap ao t w h hA (by omega) hg).mono ?_
    rintro e w' ⟨hb, ⟨rfl, rfl⟩ | ⟨ht, rfl⟩⟩
    · exact ⟨hb, _, _, _, _, rfl, .inl ⟨rfl, l, by unfold insP; rw [hg]; simp, h.below hb, by omega, From.refl _ _, hlo.mono hb.size⟩⟩
    · exact ⟨hb, _, _, _, _, rfl, .inr ⟨by decide, by unfold insP; rw [hg]; simp [ht]⟩⟩
  | none =>
    refine (insert_new l x n cap ao w h hA hm1 hg).mono ?_
    rintro e w' ⟨hb, v, rfl, hown⟩
    obtain ⟨a, c, rfl, hp, hf⟩ := PA.of_own hown
    exact ⟨hb, _, _, _, _, rfl, .inl ⟨rfl, _, by unfold insP; rw [hg], hp, Nat.le_refl _, fun y hy => .inr (hf y hy), hp.lo⟩⟩
theorem PA.keptx {w w' : World} {ao : Option Addr} {n cap X : Nat} {l : List It} (h : PA w ao n cap l) (hk : KeptX w.heap.size X w w') (hs : w.heap.size ≤ w'.heap.size) (hx : ∀ x, ao = some x → x.block ≠ X) : PA w' ao n cap l := by
  refine ⟨h.len, ⟨h.sl.1, ?_⟩, h.le, h.max, h.z⟩
  rcases h.sl.2 with h0 | ⟨b, o, e, hb, hc⟩
  · exact .inl h0
  · refine .inr ⟨b, o, e, Nat.lt_of_lt_of_le hb hs, fun j u hu => ?_⟩
    have hh := hk b hb (hx _ e)
    have := hc j u hu
    simp only [World.cell?] at this ⊢
    rw [hh]
    exact this
set_option maxRecDepth 100000 in
set_option maxHeartbeats 8000000 in
theorem put_any (o : Ob) (ae ap : Option Addr) (ne ce np cp : Nat) (p : List It) (n cap : Nat) (ao : Option Addr) (w : World) (h : ObjA w ae ne ap np o) (hc : np ≤ cp) (hd : o.data.size ≤ 60000) (hp : PA w ao n cap p) (hlo : Lo w ao) (hA : Asc p) (hm1 : n ≤ 90000) :
    Calls Tryz.prog 31 #[.slice ao n cap, .agg (ocells o ae ne ce ap np cp)] w fun e w' => Below w.heap.size w w' ∧ ∃ (a : Option Addr) (n' c : Nat) (d : Dg) (e' : Int), e = .returned (.tuple #[.slice a n' c, dv d, .int .i64 e']) ∧
      ((e' = 0 ∧ ∃ q, putP p o = some (q, d) ∧ PA w' a n' c q ∧ n' ≤ n + 1 ∧ From w ao a ∧ Lo w' a) ∨ (e' ≠ 0 ∧ putP p o = none)) := by
  obtain ⟨W, hW⟩ : ∃ W, w.alloc (Obj.cells (ocells o ae ne ce ap np cp) 72) = W := ⟨_, rfl⟩
  have hb0 : Below w.heap.size w W := by rw [← hW]; exact ba _ _
  have HO0 : OBox W w.heap.size o ae ne ce ap np cp := by rw [← hW]; exact OBox.new w o ae ne ce ap np cp 72
  have hsW : W.heap.size = w.heap.size + 1 := by rw [← hW]; simp
  obtain ⟨W2, hW2⟩ : ∃ W2, W.alloc (Obj.cells #[.int .u64 0, .int .u64 0] 31) = W2 := ⟨_, rfl⟩
  have hb2 : Below W.heap.size W W2 := by rw [← hW2]; exact ba _ _
  have hR : W2.heap[W.heap.size]? = some (.cells #[.int .u64 0, .int .u64 0] 31 (0, 0)) := by rw [← hW2]; exact heap_alloc_new _ _
  rw [hsW] at hR
  have HR := lid hR
  have hbw := hb0.trans (hb2.mono hb0.size)
  have HBW := lid hbw
  have CE := lid (objEncode_any o ae ap ne ce np cp W2 (h.below hbw) hc hd)
  have HS : Hid ((bstr (encT o)).size ≤ maxLen) := lid (by
    rw [bstr_size]
    unfold encT
    split
    · rename_i hv
      exact Nat.le_trans (encL_len hv hd) (by simp [maxLen])
    · simp)
  have HPA : Hid (PA W2 ao n cap p) := lid (hp.below hbw)
  have HPW : Hid (Lo w ao) := lid hlo
  obtain ⟨l2, c0, c1, c2, c3, c4, c5, c6, c7, c8⟩ := HO0.below hb2
  have lr := row_lt hR
  have HW := lid hW
  have HW2 := lid hW2
  clear h hd hp hlo hW hW2 hsW hb2 hb0 HO0 hR hbw
  go_enter Tryz.func31, Tryz.ntmps31
  go_wp2_with fail
  rw [HW.out, HW2.out]
  (with_reducible refine (CE.out).mono ?_); rintro e w3 ⟨rfl, hb3⟩
  have HB3 := lid (HBW.out.trans (hb3.mono HBW.out.size))
  have HR3 := lid ((hb3.block _ lr).trans HR.out)
  have HP3 := lid (HPA.out.below hb3)
  have y0 := row_cell HR3.out 0
  have y1 := row_cell HR3.out 1
  have f0 := row_fz HR3.out 0
  have f1 := row_fz HR3.out 1
  have lr3 := row_lt HR3.out
  clear hb3 lr l2 c0 c1 c2 c3 c4 c5 c6 c7 c8
  by_cases hv : checkO o = 0
  case neg =>
    have uK : (checkO o == 0) = false := by simpa using hv
    have HV : Hid (putP p o = none) := lid (by unfold putP; rw [if_neg hv])
    have HVN := lid hv
    clear hv
    go_wp2_with fail
    refine bodyPost_ret (v := .tuple #[.slice none 0 0, .agg #[.int .u64 0, .int .u64 0], .int .i64 (checkO o)]) (by
      obtain ⟨z0, z1⟩ := two_set (.int .u64 0) (.int .u64 0) y0 y1
      simp [results, Tryz.results31, go_sem, z0, z1]) rfl ⟨(HB3.out.setCell (p := ⟨w.heap.size + 1, 0, none⟩) (Nat.le_succ _) _).setCell (p := ⟨w.heap.size + 1, 1, none⟩) (Nat.le_succ _) _, none, 0, 0, (0, 0), checkO o, rfl, .inr ⟨HVN.out, HV.out⟩⟩
  have HE : Hid (encT o = encL o) := lid (by unfold encT; rw [if_pos hv])
  have HV : Hid (putP p o = (insP p (ofU (encL o)) (bstr (encL o))).map fun q => (q, ofU (encL o))) := lid (by unfold putP; rw [if_pos hv])
  rw [hv, HE.out]
  rw [HE.out] at HS
  clear hv HE
  go_wp2_with fail
  (with_reducible refine (of_any (bstr (encL o)) _ HS.out).mono ?_); rintro e w4 ⟨rfl, hb4⟩
  rw [bstr_list]
  obtain ⟨d, hdd⟩ : ∃ d, ofU (encL o) = d := ⟨_, rfl⟩
  rw [hdd] at HV ⊢
  obtain ⟨W5, hW5⟩ : ∃ y, w4.alloc (Obj.cells #[.int .u64 d.1.toNat, .int .u64 d.2.toNat] 31) = y := ⟨_, rfl⟩
  have hb5 : Below w4.heap.size w4 W5 := by rw [← hW5]; exact ba _ _
  have hQ : W5.heap[w4.heap.size]? = some (.cells #[.int .u64 d.1.toNat, .int .u64 d.2.toNat] 31 (0, 0)) := by rw [← hW5]; exact heap_alloc_new _ _
  have h45 := hb4.trans (hb5.mono hb4.size)
  have HB5 := lid (HB3.out.trans (h45.mono HB3.out.size))
  have HR5 := lid ((h45.block _ lr3).trans HR3.out)
  have HQ5 := lid hQ
  have q0 := row_cell hQ 0
  have q1 := row_cell hQ 1
  have lq := row_lt hQ
  have CI := lid (insert_any p (d, bstr (encL o)) n cap ao W5 (HP3.out.below h45) (HPW.out.mono (by have := HBW.out.size; have := HB3.out.size; have := hb4.size; have := hb5.size; omega)) hA hm1)
  have h4w : w.heap.size + 1 < w4.heap.size := Nat.lt_of_lt_of_le lr3 hb4.size
  have hW5' := lid hW5
  clear hb4 hb5 hW5 hQ h45 y0 y1 f0 f1 lr3 HP3 HR3 HB3 hdd
  go_wp2_with fail
  rw [hW5'.out]
  go_wp2_with fail
  (with_reducible refine (CI.out).mono ?_); rintro e w6 ⟨hb6, a, n', c, e', rfl, hres⟩
  have HB6 := lid (HB5.out.trans (hb6.mono HB5.out.size))
  have HR6 := lid ((hb6.block _ (row_lt HR5.out)).trans HR5.out)
  have HQ6 := lid ((hb6.block _ (row_lt HQ5.out)).trans HQ5.out)
  have H56 := lid hb6.size
  have y0 : w6.cell? ⟨w.heap.size + 1, 0, none⟩ = some (.int .u64 0) := row_cell HR6.out 0
  have y1 : w6.cell? ⟨w.heap.size + 1, 1, none⟩ = some (.int .u64 0) := row_cell HR6.out 1
  have f0 := row_fz HR6.out 0
  have f1 := row_fz HR6.out 1
  have lr6 := row_lt HR6.out
  have p0 : w6.cell? ⟨w4.heap.size, 0, none⟩ = some (.int .u64 d.1.toNat) := row_cell HQ6.out 0
  have p1 : w6.cell? ⟨w4.heap.size, 1, none⟩ = some (.int .u64 d.2.toNat) := row_cell HQ6.out 1
  have lq6 := row_lt HQ6.out
  have H5w : Hid (w.heap.size ≤ W5.heap.size ∧ w.heap.size + 1 < W5.heap.size) := lid ⟨by omega, by omega⟩
  clear q0 q1 lq hb6 HR5 HQ5 HB5
  rcases hres with ⟨rfl, q, hq, hpa, hn, hf, hlo6⟩ | ⟨he, hq⟩
  · have HN := lid hn
    have HF := lid hf
    have HLO := lid hlo6
    have HPQ := lid hpa
    have HV2 : Hid (putP p o = some (q, d)) := lid (by rw [HV.out, hq]; rfl)
    clear hq hpa hn hf hlo6
    go_wp2_with fail
    have hx0 := SinceX.cell (B := w6.heap.size) (X := w.heap.size + 1) (W := w6) w4.heap.size 0 (by omega) (by omega) p0
    have hx1 := SinceX.cell (B := w6.heap.size) (X := w.heap.size + 1) (W := w6) w4.heap.size 1 (by omega) (by omega) p1
    refine wp_region_seq (fun w' => ∃ s : SinceX w6.heap.size (w.heap.size + 1) w6, w' = s.world) [(0, true), (1, true), (2, false), (3, false), (4, false)] (by kernel_rfl) (by kernel_rfl) (by intro c d v a w h; first | (cases d <;> exact h) | cases h.1) (sincex (KeptX.refl _ _ _).drew) ?_
    repeat (first | (refine seq_skip (by rfl) (by rfl) ?_; simp only [Act.put, List.setIfInBounds_toArray, List.set_cons_succ, List.set_cons_zero]) | (refine seq_float (by rfl) (by rfl) (by rfl) ?_; intro K hK; go_big_quiet_op; go_big_quiet_on))
    refine seq_chain (by rfl) ?_
    intro K hK
    go_wp2_with fail
    refine hK.out _ _ (sincex ((KeptX.refl w6.heap.size (w.heap.size + 1) w6).drew)) ?_
    clear hK K
    repeat (first | (refine seq_skip (by rfl) (by rfl) ?_; simp only [Act.put, List.setIfInBounds_toArray, List.set_cons_succ, List.set_cons_zero]) | (refine seq_float (by rfl) (by rfl) (by rfl) ?_; intro K hK; go_big_quiet_op; go_big_quiet_on))
    refine seq_chain (by rfl) ?_
    intro K hK
    go_wp2_with fail
    refine hK.out _ _ (sincex ((((KeptX.refl w6.heap.size (w.heap.size + 1) w6).setCell (p := ⟨w.heap.size + 1, 0, none⟩) (.inl rfl) _).setCell (p := ⟨w.heap.size + 1, 1, none⟩) (.inl rfl) _).drew)) ?_
    clear hK K
    repeat (first | (refine seq_skip (by rfl) (by rfl) ?_; simp only [Act.put, List.setIfInBounds_toArray, List.set_cons_succ, List.set_cons_zero]) | (refine seq_float (by rfl) (by rfl) (by rfl) ?_; intro K hK; go_big_quiet_op; go_big_quiet_on))
    refine seq_chain (by rfl) ?_
    intro K hK
    go_wp2_with fail
    refine hK.out _ _ (sincex ((((KeptX.refl w6.heap.size (w.heap.size + 1) w6).setCell (p := ⟨w.heap.size + 1, 0, none⟩) (.inl rfl) _).setCell (p := ⟨w.heap.size + 1, 1, none⟩) (.inl rfl) _).drew)) ?_
    clear hK K
    repeat (first | (refine seq_skip (by rfl) (by rfl) ?_; simp only [Act.put, List.setIfInBounds_toArray, List.set_cons_succ, List.set_cons_zero]) | (refine seq_float (by rfl) (by rfl) (by rfl) ?_; intro K hK; go_big_quiet_op; go_big_quiet_on))
    refine seq_nil ?_
    go_wp2_with fail
    refine bodyPost_ret (v := .tuple #[.slice a n' c, dv d, .int .i64 0]) (by
      obtain ⟨z0, z1⟩ := two_set (.int .u64 d.1.toNat) (.int .u64 d.2.toNat) y0 y1
      simp [results, Tryz.results31, go_sem, z0, z1]) rfl ⟨((HB6.out.setCell (p := ⟨w.heap.size + 1, 0, none⟩) (Nat.le_succ _) _).setCell (p := ⟨w.heap.size + 1, 1, none⟩) (Nat.le_succ _) _).drew, a, n', c, d, 0, rfl, .inl ⟨rfl, q, HV2.out, ?_, HN.out, HF.out.weak H5w.out.1, HLO.out.mono (by simp [World.setCell, World.drew])⟩⟩
    have hk : KeptX w6.heap.size (w.heap.size + 1) w6 ((w6.setCell ⟨w.heap.size + 1, 0, none⟩ (.int .u64 d.1.toNat)).setCell ⟨w.heap.size + 1, 1, none⟩ (.int .u64 d.2.toNat)).drew := (((KeptX.refl w6.heap.size (w.heap.size + 1) w6).setCell (p := ⟨w.heap.size + 1, 0, none⟩) (.inl rfl) _).setCell (p := ⟨w.heap.size + 1, 1, none⟩) (.inl rfl) _).drew
    refine HPQ.out.keptx hk (by simp [World.setCell, World.drew]) fun x hx => ?_
    rcases HF.out x hx with ⟨y, hy, e⟩ | h2
    · rw [← e]
      have := HPW.out y hy
      omega
    · have := H5w.out.2
      omega
  · have uK : (e' == 0) = false := by simpa using he
    have HVN := lid he
    have HV2 : Hid (putP p o = none) := lid (by rw [HV.out, hq]; rfl)
    clear he hq
    go_wp2_with fail
    refine bodyPost_ret (v := .tuple #[.slice none 0 0, .agg #[.int .u64 0, .int .u64 0], .int .i64 e']) (by
      obtain ⟨z0, z1⟩ := two_set (.int .u64 0) (.int .u64 0) y0 y1
      simp [results, Tryz.results31, go_sem, z0, z1]) rfl ⟨(HB6.out.setCell (p := ⟨w.heap.size + 1, 0, none⟩) (Nat.le_succ _) _).setCell (p := ⟨w.heap.size + 1, 1, none⟩) (Nat.le_succ _) _, none, 0, 0, (0, 0), e', rfl, .inr ⟨HVN.out, HV2.out⟩⟩
end Go.Proofs.YtphjillihapbfaaGreatDoor

namespace Go.Proofs.YtphjillihapbfaaGreatDoor
open Go.RowKit

theorem grown_below {w w' : World} (hb : Below w.heap.size w w') (row : Option Nat) : w.grownBy w' row := ⟨hb.os, hb.tape, hb.output, hb.size, fun k hk _ => hb.block k hk⟩
theorem grown_set (w : World) (b o : Nat) (v : Value) : w.grownBy (w.setCell ⟨b, o, none⟩ v) (some b) := ⟨rfl, rfl, rfl, by simp [World.setCell], fun k _ hk => Below.heap_setCell _ _ _ k (fun e => hk (by rw [e]))⟩
/-- What was in w stays in w' but for block b, if w1 is a later world and w' is w1 but for row, which is b or newer than w. -/
theorem grown_on {w w1 w' : World} {b : Nat} {row : Option Nat} (h : w.grownBy w1 (some b)) (g : w1.grownBy w' row) (hr : ∀ r, row = some r → r = b ∨ w.heap.size ≤ r) : w.grownBy w' (some b) :=
  ⟨g.os.trans h.os, g.tape.trans h.tape, g.output.trans h.output, Nat.le_trans h.size g.size, fun k hk hne => (g.block k (Nat.lt_of_lt_of_le hk h.size) (fun e => by
    rcases hr k e.symm with rfl | h2
    · exact hne rfl
    · omega)).trans (h.block k hk hne)⟩
theorem Sl.grown {w w' : World} {size n : Nat} {ao : Option Addr} {xs : List Value} {row : Option Nat} (h : Sl w size ao n xs) (hg : w.grownBy w' row) (hne : ∀ x, ao = some x → some x.block ≠ row) : Sl w' size ao n xs := by
  refine ⟨h.1, ?_⟩
  rcases h.2 with h0 | ⟨b, o, e, hb, hc⟩
  · exact .inl h0
  · refine .inr ⟨b, o, e, Nat.lt_of_lt_of_le hb hg.size, fun j u hu => ?_⟩
    have hh := hg.block b hb (hne _ e)
    have := hc j u hu
    simp only [World.cell?] at this ⊢
    rw [hh]
    exact this
theorem PA.grown {w w' : World} {ao : Option Addr} {n cap : Nat} {l : List It} {row : Option Nat} (h : PA w ao n cap l) (hg : w.grownBy w' row) (hne : ∀ x, ao = some x → some x.block ≠ row) : PA w' ao n cap l := ⟨h.len, h.sl.grown hg hne, h.le, h.max, h.z⟩
theorem FA.grown {w w' : World} {ao : Option Addr} {n cap : Nat} {l : List Fl} {row : Option Nat} (h : FA w ao n cap l) (hg : w.grownBy w' row) (hne : ∀ x, ao = some x → some x.block ≠ row) : FA w' ao n cap l := ⟨h.len, h.sl.grown hg hne, h.le, h.max, h.z, h.sz⟩

abbrev S3 := Option Addr × Nat × Nat
def s3 (v : S3) : Value := .slice v.1 v.2.1 v.2.2
theorem s3_of {w : World} {base n size : Nat} {e : TypeId} {v : Value} {xs : List Value} (h : w.ownsRow base e size v n xs) : ∃ u : S3, v = s3 u := by
  rcases h.2 with ⟨rfl, _⟩ | ⟨g, cap, cur, rfl, _⟩
  · exact ⟨(none, 0, 0), rfl⟩
  · exact ⟨(some ⟨g, 0, none⟩, n, cap), rfl⟩
abbrev GM := ByteArray → Option S3
def gF (G : GM) : MF := fun x => (G x).map s3
/-- The rows of the directories. -/
structure BelM (base : Nat) (w : World) (G : GM) (l : List Fl) : Prop where
  row : ∀ x v, G x = some v → w.ownsRow base 45 2 (s3 v) (subP x l).length (fcells (subP x l)) ∧ subP x l ≠ []
  no : ∀ x, G x = none → subP x l = []
  ap : ∀ x y u v, G x = some u → G y = some v → x ≠ y → (s3 u).ownBlock ≠ (s3 v).ownBlock
theorem BelM.nil (base : Nat) (w : World) : BelM base w (fun _ => none) [] := ⟨(fun _ _ h => by cases h), (fun _ _ => rfl), (fun _ _ _ _ h => by cases h)⟩
theorem BelM.grown {base : Nat} {w w' : World} {G : GM} {l : List Fl} {row : Option Nat} (h : BelM base w G l) (hg : w.grownBy w' row) (hr : ∀ r, row = some r → r < base) : BelM base w' G l :=
  ⟨fun x v hx => ⟨(h.row x v hx).1.kept hg (by
    cases hv : (s3 v).ownBlock with
    | none => exact .inl rfl
    | some k =>
      have := ((h.row x v hx).1.lt k hv).1
      exact .inr (fun e => by have := hr k e.symm; omega)), (h.row x v hx).2⟩, h.no, h.ap⟩
theorem BelM.below {base : Nat} {w w' : World} {G : GM} {l : List Fl} (h : BelM base w G l) (hb : Below w.heap.size w w') : BelM base w' G l := h.grown (grown_below hb none) (fun r e => by cases e)
theorem sub_snoc (n : ByteArray) (l : List Fl) (f : Fl) : subP n (l ++ [f]) = subP n l ++ (if firstB f.1 = n then (match restB f.1 with | some r => [(r, f.2)] | none => []) else []) := by
  unfold subP
  rw [List.filterMap_append]
  congr 1
  by_cases h : firstB f.1 = n
  · cases hr : restB f.1 <;> simp [h, hr]
  · simp [h]
theorem BelM.file {base : Nat} {w : World} {G : GM} {l : List Fl} {f : Fl} (h : BelM base w G l) (hr : restB f.1 = none) : BelM base w G (l ++ [f]) := by
  have e : ∀ n, subP n (l ++ [f]) = subP n l := fun n => by rw [sub_snoc, hr]; simp
  exact ⟨fun x v hx => by rw [e x]; exact h.row x v hx, fun x hx => by rw [e x]; exact h.no x hx, h.ap⟩
theorem BelM.cur {base : Nat} {w : World} {G : GM} {l : List Fl} (h : BelM base w G l) (x : ByteArray) : w.ownsRow base 45 2 (((G x).map s3).getD (.slice none 0 0)) (subP x l).length (fcells (subP x l)) := by
  cases hx : G x with
  | none =>
    rw [h.no x hx]
    exact World.ownsRow_nil _ _ _ _
  | some v => exact (h.row x v hx).1
/-- A file of a directory is appended. -/
theorem BelM.dir {base : Nat} {w w1 w2 : World} {G : GM} {l : List Fl} {f : Fl} {r : ByteArray} {v' : S3} (h : BelM base w G l) (hr : restB f.1 = some r) (hb : Below w.heap.size w w1)
    (hown : w2.ownsRow base 45 2 (s3 v') ((subP (firstB f.1) l).length + 1) (fcells (subP (firstB f.1) l) ++ fce (r, f.2))) (hg : w1.grownBy w2 (((G (firstB f.1)).map s3).getD (.slice none 0 0)).ownBlock)
    (hat : (s3 v').ownBlock = (((G (firstB f.1)).map s3).getD (.slice none 0 0)).ownBlock ∨ (s3 v').ownBlock = some w1.heap.size) :
    BelM base w2 (fun y => if y = firstB f.1 then some v' else G y) (l ++ [f]) := by
  have h1 := h.below hb
  have hlt : ∀ y v k, G y = some v → (s3 v).ownBlock = some k → k < w1.heap.size := fun y v k hy hk => ((h1.row y v hy).1.lt k hk).2
  have hsome : ∃ k, (s3 v').ownBlock = some k := by
    rcases hown.2 with ⟨_, h0⟩ | ⟨g, cap, cur, e, _⟩
    · omega
    · exact ⟨g, by rw [e]; rfl⟩
  refine ⟨fun y v hy => ?_, fun y hy => ?_, fun x y u v hx hy hne => ?_⟩
  · rw [sub_snoc, hr]
    by_cases e : y = firstB f.1
    · subst e
      simp only [if_true, Option.some.injEq] at hy
      subst hy
      simp only [if_true]
      rw [fcells_append, List.length_append]
      exact ⟨by simpa [fcells] using hown, by simp⟩
    · simp only [e, if_false] at hy
      rw [if_neg (fun h => e (Eq.symm h)), List.append_nil]
      obtain ⟨h2, h3⟩ := h1.row y v hy
      refine ⟨h2.kept hg ?_, h3⟩
      cases hv : (s3 v).ownBlock with
      | none => exact .inl rfl
      | some k =>
        right
        rw [← hv]
        cases hG : G (firstB f.1) with
        | none => rw [hv]; intro e2; cases e2
        | some u => exact h1.ap y _ v u hy hG e
  · have e : ¬ y = firstB f.1 := by intro e; simp [e] at hy
    simp only [e, if_false] at hy
    rw [sub_snoc, if_neg (fun h => e (Eq.symm h)), List.append_nil]
    exact h1.no y hy
  · have key : ∀ y v, y ≠ firstB f.1 → G y = some v → (s3 v').ownBlock ≠ (s3 v).ownBlock := fun y v hne hy e => by
      obtain ⟨k, hk⟩ := hsome
      rw [hk] at e hat
      have hk2 := hlt y v k hy e.symm
      rcases hat with h2 | h2
      · cases hG : G (firstB f.1) with
        | none => rw [hG] at h2; cases h2
        | some u =>
          rw [hG] at h2
          exact h1.ap y _ v u hy hG hne (e.symm.trans h2)
      · have := Option.some.inj h2
        omega
    by_cases ex : x = firstB f.1
    · subst ex
      simp only [if_true, Option.some.injEq] at hx
      subst hx
      have ey : ¬ y = firstB f.1 := fun e => hne e.symm
      simp only [ey, if_false] at hy
      exact key y v ey hy
    · simp only [ex, if_false] at hx
      by_cases ey : y = firstB f.1
      · subst ey
        simp only [if_true, Option.some.injEq] at hy
        subst hy
        exact fun e => key x u ex hx e.symm
      · simp only [ey, if_false] at hy
        exact h1.ap x y u v hx hy hne
theorem gF_put (G : GM) (x : ByteArray) (v : S3) : putF (gF G) x (s3 v) = gF (fun y => if y = x then some v else G y) := by
  funext y
  unfold putF gF
  by_cases e : y = x <;> simp [e]
/-- The files of a list, by their names. -/
def filF (l : List Fl) : MF := fun x => (fileP x l).map fun d => .agg #[.string x, .string d]
theorem filF_nil : filF [] = fun _ => none := rfl
theorem fileP_snoc (n : ByteArray) (l : List Fl) (f : Fl) : fileP n (l ++ [f]) = (fileP n l).or (if isFile n f = true then some f.2 else none) := by
  unfold fileP
  rw [List.find?_append]
  cases List.find? (isFile n) l with
  | some g => rfl
  | none => by_cases h : isFile n f = true <;> simp [h]
theorem filF_dir {l : List Fl} {f : Fl} {r : ByteArray} (hr : restB f.1 = some r) : filF (l ++ [f]) = filF l := by
  funext n
  unfold filF
  rw [fileP_snoc]
  have : isFile n f = false := by unfold isFile; rw [hr]; simp
  rw [this]
  simp
theorem filF_file {l : List Fl} {f : Fl} (hr : restB f.1 = none) (hn : ∀ g ∈ l, g.1 ≠ f.1) : filF (l ++ [f]) = putF (filF l) f.1 (.agg #[.string f.1, .string f.2]) := by
  funext n
  unfold filF putF
  rw [fileP_snoc]
  by_cases e : n = f.1
  · subst e
    have h1 : fileP f.1 l = none := by
      cases h : fileP f.1 l with
      | none => rfl
      | some d => exact absurd rfl (hn (f.1, d) (find_mem h))
    have h2 : isFile f.1 f = true := by unfold isFile; rw [hr]; simp
    rw [h1, h2]
    simp
  · have h2 : isFile n f = false := by
      have e' : ¬ f.1 = n := fun h => e h.symm
      unfold isFile
      simp [e']
    rw [h2]
    simp [e]
theorem take_ne {l : List Fl} (h : NF l) {j : Nat} (hj : j < l.length) : ∀ g ∈ l.take j, g.1 ≠ (l[j]).1 := fun g hg => by
  obtain ⟨i, hi, e⟩ := List.getElem_of_mem hg
  rw [List.length_take] at hi
  rw [List.getElem_take] at e
  have := List.pairwise_iff_getElem.1 h.nd i j (by omega) hj (by omega)
  rw [← e]
  exact this
/-- A directory's files, for the call that stores them. -/
theorem BelM.fa {base : Nat} {w : World} {G : GM} {l : List Fl} {x : ByteArray} {v : S3} (h : BelM base w G l) (hx : G x = some v) (hsz : ∀ f ∈ l, f.1.size ≤ maxLen ∧ f.2.size ≤ maxLen) : FA w v.1 v.2.1 v.2.2 (subP x l) ∧ ∀ y, v.1 = some y → base ≤ y.block ∧ y.block < w.heap.size := by
  obtain ⟨h1, h2⟩ := h.row x v hx
  have hs : ∀ f ∈ subP x l, f.1.size ≤ maxLen ∧ f.2.size ≤ maxLen := fun f hf => by
    obtain ⟨g, hg, e1, e2⟩ := sub_mem hf
    have := hsz g hg
    have h3 := congrArg List.length e2
    rw [List.length_append, List.length_cons, size_list, size_list, size_list] at h3
    rw [← e1]
    exact ⟨by omega, this.2⟩
  obtain ⟨a, c, e, k1, k2, k3⟩ := Sl.of_own h1
  obtain ⟨v1, v2, v3⟩ := v
  have h0 : (subP x l).length ≠ 0 := fun h => h2 (List.eq_nil_of_length_eq_zero h)
  generalize hn : (subP x l).length = n at *
  injection e with e1 e2 e3
  subst e1; subst e2; subst e3
  refine ⟨⟨hn, k3, k1, k2, fun e => ?_, hs⟩, fun y hy => ?_⟩
  · rcases h1.2 with ⟨_, h4⟩ | ⟨g, cap, cur, e2, _⟩
    · exact absurd h4 h0
    · injection e2 with e3 _ _
      rw [show v1 = none from e] at e3
      cases e3
  · rcases h1.2 with ⟨_, h4⟩ | ⟨g, cap, cur, e2, hb, hgb, _⟩
    · exact absurd h4 h0
    · injection e2 with e3 _ _
      rw [show v1 = some y from hy] at e3
      cases e3
      exact ⟨hb, (Array.getElem?_eq_some_iff.1 hgb).1⟩
theorem wpList_lookc {P : Program} (w : World) {ops : Array Oper} {rest : List Oper} {o : Oper} {a : Act} {Q : Exit → Act → World → Prop} (b : Bool)
    (hg : o.guard = none) (m x : Operand) (t : TypeId) (hop : o.op = Op.lookup t m x b) (v : Value) (mv xv : Value) (hm : a.eval m = mv) (hx : a.eval x = xv)
    (hrun : (Instr.lookup t mv xv b).run P w = .ok v w) (hK : wpList P ops Q rest (a.put o.dst v) w) : wpList P ops Q (o :: rest) a w := by
  refine wpList_plain hg fun K' hK' => ?_
  unfold Oper.wp
  simp [execOp, hop, hm, hx, hrun, Result.andThen]
  exact hK' _ _ hK
theorem zero_files (w : World) : (zeroValue 28).run Tryz.prog w = .ok (.slice none 0 0) w := by kernel_rfl
theorem zero_file (w : World) : (zeroValue 45).run Tryz.prog w = .ok (.agg #[.string ⟨#[]⟩, .string ⟨#[]⟩]) w := by kernel_rfl
theorem info_fl : (Tryz.prog.info? 45).map (fun i => (i.zero, i.size, i.bytes)) = some (some (.agg #[.string ⟨#[]⟩, .string ⟨#[]⟩]), 2, 32) := by kernel_rfl
theorem sub_len (x : ByteArray) (l : List Fl) : (subP x l).length ≤ l.length := List.length_filterMap_le _ _
end Go.Proofs.YtphjillihapbfaaGreatDoor
