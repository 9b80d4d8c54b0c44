/-
  owners.Parse.
-/
import Derived.Test.YtefehgdckmajiaaGreatDoorRdCnt
import Derived.Test.YtefehgdckmajiaaGreatDoorRFA
import Derived.Test.YtefehgdckmajiaaGreatDoorGrpG
namespace Go.Proofs.YtefehgdckmajiaaGreatDoor
open Go.RowKit Go.Shelf
attribute [local go_sem] Oper.semAt_some

theorem RdI.ab {base rb B : Nat} {s : RdS} (hb : base ≤ B) (hr : rb < base) : Ab B (RdI base rb s) := by
  rintro W W' row ⟨vr, h1, vg, vp, ps, vs, h2⟩ hg hrow
  exact ⟨vr, Ab.blk (B := B) (show rb < B by omega) _ rfl W W' row h1 hg hrow, vg, vp, ps, vs, h2.grown hg fun r e => (hrow r e).2⟩
theorem RdStep.kf {base rb B : Nat} {c : Nat → Prop} {w w' : World} (h : RdStep base rb w w') (hc : ∀ k, c k → k < base ∧ k ≠ rb) : KF c B w w' :=
  ⟨h.below.size, fun k o _ hk ho => h.obj k o hk ho, fun k _ _ _ hk e => (h.low k (hc k hk).1 (hc k hk).2).trans e⟩
theorem res_three {fn : Func} (hf : fn.results = #[.cell 2 92, .cell 3 3, .cell 4 32]) (t : Array Value) (w : World) (k k2 k3 : Nat) (v v2 v3 : Value) (h : t.getD 2 undef = .pointer (some ⟨k, 0, none⟩)) (h2 : t.getD 3 undef = .pointer (some ⟨k2, 0, none⟩)) (h3 : t.getD 4 undef = .pointer (some ⟨k3, 0, none⟩))
    (e : w.heap[k]? = some (.cells #[v] 92 (0, 0))) (e2 : w.heap[k2]? = some (.cells #[v2] 3 (0, 0))) (e3 : w.heap[k3]? = some (.cells #[v3] 32 (0, 0))) : (results fn t).run Tryz.prog w = .ok (.tuple #[v, v2, v3]) w := by
  have e0 := row_cell e 0
  have e02 := row_cell e2 0
  have e03 := row_cell e3 0
  rw [Array.getD_eq_getD_getElem?] at h h2 h3
  unfold results
  rw [hf]
  simp [go_sem, h, h2, h3, e0, e02, e03, asAddr]
/-- What the rounds of Parse keep. -/
def PaI (w w4 : World) (s : ByteArray) (left : List (List UInt8)) (W : World) : Prop :=
  Below w.heap.size w W ∧ W.heap[w.heap.size]? = some (.cells #[.slice none 0 0] 92 (0, 0)) ∧ W.heap[w.heap.size + 1]? = some (.cells #[.int .i64 0] 3 (0, 0)) ∧ W.heap[w.heap.size + 1 + 1]? = some (.cells #[.int .i64 0] 32 (0, 0)) ∧
    ∃ rs : RdS, readGo (.rule []) (wordsL s.data.toList) = readGo rs left ∧ rs.cnt + left.length ≤ 70000 ∧ (∀ x ∈ left, x.length ≤ 70000) ∧ RdI w4.heap.size (w.heap.size + 1 + 1 + 1) rs W ∧ (∀ r ∈ rs.done, r.2.length ≤ 1000000)
/-- Where they have stopped. -/
def PaX (w : World) (s : ByteArray) (c : Code) (_ : List (List UInt8)) (_ : Wd) (W : World) : Prop :=
  c = .ret ∧ Below w.heap.size w W ∧ W.heap[w.heap.size]? = some (.cells #[.slice none 0 0] 92 (0, 0)) ∧ (∃ n : Int, W.heap[w.heap.size + 1]? = some (.cells #[.int .i64 n] 3 (0, 0))) ∧ W.heap[w.heap.size + 1 + 1]? = some (.cells #[.int .i64 3] 32 (0, 0)) ∧ parseF s = none
theorem PaI.ab {w w4 : World} {s : ByteArray} {left : List (List UInt8)} {B : Nat} (hB : w4.heap.size ≤ B) (h4 : w.heap.size + 3 < w4.heap.size) : Ab B (PaI w w4 s left) := fun W W' row hs hg hr =>
  ⟨Ab.belowW (B := B) (Nat.le_refl _) (by omega) W W' row hs.1 hg hr, Ab.blk (B := B) (by omega) _ rfl W W' row hs.2.1 hg hr, Ab.blk (B := B) (by omega) _ rfl W W' row hs.2.2.1 hg hr, Ab.blk (B := B) (by omega) _ rfl W W' row hs.2.2.2.1 hg hr,
    let ⟨rs, h1, h2, h3, h4', h5⟩ := hs.2.2.2.2; ⟨rs, h1, h2, h3, RdI.ab hB h4 W W' row h4' hg hr, h5⟩⟩
theorem PaX.ab {w : World} {s : ByteArray} {c : Code} {l : List (List UInt8)} {x : Wd} {B : Nat} (hB : w.heap.size + 3 < B) : Ab B (PaX w s c l x) := fun W W' row hs hg hr =>
  ⟨hs.1, Ab.belowW (B := B) (Nat.le_refl _) (by omega) W W' row hs.2.1 hg hr, Ab.blk (B := B) (by omega) _ rfl W W' row hs.2.2.1 hg hr, let ⟨n, hn⟩ := hs.2.2.2.1; ⟨n, Ab.blk (B := B) (by omega) _ rfl W W' row hn hg hr⟩, Ab.blk (B := B) (by omega) _ rfl W W' row hs.2.2.2.2.1 hg hr, hs.2.2.2.2.2⟩
set_option maxRecDepth 100000 in
set_option maxHeartbeats 1000000 in
theorem words_fn (s : ByteArray) (w : World) :
    Calls Tryz.prog 59 #[.string s] w fun e w' => e = .returned (.func (.func 78) #[] #[.pointer (some ⟨w.heap.size, 0, none⟩), .pointer (some ⟨w.heap.size + 1, 0, none⟩)]) ∧
      w' = (w.alloc (.cells #[.string s] 9)).alloc (.cells #[.func (.func 77) #[] #[]] 136) := by
  go_enter Tryz.func59, Tryz.ntmps59
  go_wp2_with fail
  go_ret
  exact ⟨by simp, rfl⟩
/-- A word's box. -/
def WBx (a : Act) (w4 : World) (x : Wd) (a₁ : Act) (W : World) : Prop := ∃ b, w4.heap.size ≤ b ∧ a₁ = { tmps := (a.tmps.setIfInBounds 13 (wdv x)).setIfInBounds 6 (.pointer (some ⟨b, 0, none⟩)), defers := [] } ∧ W.heap[b]? = some (.cells #[.string (bstr x.1), .int .i64 x.2] 125 (0, 0))
theorem WBx.ab {a : Act} {w4 : World} {x : Wd} {a₁ : Act} {B : Nat} : Ab B (WBx a w4 x a₁) := fun W W' row hs hg hr => let ⟨b, h1, h2, h3⟩ := hs; ⟨b, h1, h2, Ab.cells (B := B) W W' row h3 hg hr⟩
set_option maxRecDepth 100000 in
set_option maxHeartbeats 4000000 in
theorem Parse_any (s : ByteArray) (w : World) (hs : s.size ≤ 60000) :
    Calls Tryz.prog 42 #[.string s] w fun e w' => ∃ (v : SV) (n x : Int), e = .returned (.tuple #[slv v, .int .i64 n, .int .i64 x]) ∧ Below w.heap.size w w' ∧
      ((x = 0 ∧ ∃ l, parseF s = some l ∧ RS (fun k => w.heap.size ≤ k ∧ k < w'.heap.size) w' v l) ∨ (x ≠ 0 ∧ parseF s = none)) := by
  have d : decide ((65536 : Int) < (s.size : Int)) = false := by simp; omega
  have hs63 : s.size ≤ 60000 := hs
  refine (callsIn_wide (n := 3)).1 ?_
  refine callsIn_of_wp_marks Tryz.func42 rfl trivial ?_ rfl
  simp only [Tryz.ntmps42, List.size_toArray, List.length_cons, List.length_nil, Nat.reduceAdd, Nat.reduceSub, Array.replicate_succ, Array.replicate_zero, List.push_toArray, List.append_toArray, List.nil_append, List.cons_append]
  gi_wp2_with fail
  obtain ⟨W0, hW0⟩ : ∃ y, ((((w.alloc (Obj.cells #[Value.slice none 0 0] 92)).alloc (Obj.cells #[Value.int .i64 0] 3)).alloc (Obj.cells #[.int .i64 0] 32)).alloc (Obj.cells #[.int .i64 0, .slice none 0 0] 120)) = y := ⟨_, rfl⟩
  rw [hW0]
  have hz : W0.heap.size = w.heap.size + 1 + 1 + 1 + 1 := by rw [← hW0]; simp
  refine ⟨trivial, (callsIn_wide.2 (words_fn s _)).mono ?_⟩
  rintro e w4 ⟨rfl, hw4⟩
  rw [hz]
  have hb0 : Below w.heap.size w W0 := by rw [← hW0]; exact (((ba _ _).alloc (by simp) _).alloc (by first | (simp; done) | (simp; omega)) _).alloc (by first | (simp; done) | (simp; omega)) _
  have hb4 : Below w.heap.size w w4 := by rw [hw4]; exact (hb0.alloc (by omega) _).alloc (by first | (simp; done) | (simp; omega)) _
  have hz4 : w4.heap.size = w.heap.size + 6 := by rw [hw4]; simp [hz]
  have o0 : ∀ k, k < W0.heap.size → w4.heap[k]? = W0.heap[k]? := fun k hk => by rw [hw4]; exact (h_old (by simp; omega) _).trans (h_old hk _)
  have HR0 : Hid (w4.heap[w.heap.size]? = some (.cells #[.slice none 0 0] 92 (0, 0))) := lid ((o0 _ (by omega)).trans (by rw [← hW0]; exact (h_old (by first | (simp; done) | (simp; omega)) _).trans ((h_old (by first | (simp; done) | (simp; omega)) _).trans ((h_old (by first | (simp; done) | (simp; omega)) _).trans (h_new rfl _)))))
  have HR1 : Hid (w4.heap[w.heap.size + 1]? = some (.cells #[.int .i64 0] 3 (0, 0))) := lid ((o0 _ (by omega)).trans (by rw [← hW0]; exact (h_old (by first | (simp; done) | (simp; omega)) _).trans ((h_old (by first | (simp; done) | (simp; omega)) _).trans (h_new (by first | (simp; done) | (simp; omega)) _))))
  have HR2 : Hid (w4.heap[w.heap.size + 1 + 1]? = some (.cells #[.int .i64 0] 32 (0, 0))) := lid ((o0 _ (by omega)).trans (by rw [← hW0]; exact (h_old (by first | (simp; done) | (simp; omega)) _).trans (h_new (by first | (simp; done) | (simp; omega)) _)))
  have HR3 : Hid (w4.heap[w.heap.size + 1 + 1 + 1]? = some (.cells #[.int .i64 0, .slice none 0 0] 120 (0, 0))) := lid ((o0 _ (by omega)).trans (by rw [← hW0]; exact h_new (by first | (simp; done) | (simp; omega)) _))
  have HBS : Hid (w4.heap[w.heap.size + 1 + 1 + 1 + 1]? = some (.cells #[.string s] 9 (0, 0))) := lid (by rw [hw4]; exact (h_old (by simp [hz]) _).trans (h_new (by simp [hz]) _))
  have HBF : Hid (w4.heap[w.heap.size + 1 + 1 + 1 + 1 + 1]? = some (.cells #[.func (.func 77) #[] #[]] 136 (0, 0))) := lid (by rw [hw4]; exact h_new (by simp [hz]) _)
  have HP0 : Hid (PaI w w4 s (wordsL s.data.toList) w4) := lid ⟨hb4, HR0.out, HR1.out, HR2.out, .rule [], rfl, by
      have := wordsL_count s.data.toList
      have e : s.data.toList.length = s.size := rfl
      have e2 : (RdS.rule []).cnt = 0 := rfl
      omega, fun x hx => by
      have := wordsL_len hx
      have e : s.data.toList.length = s.size := rfl
      omega, ⟨nv, HR3.out, nv, nv, [], [], Lay.new (Nat.le_refl _)⟩, (fun _ h => by cases h)⟩
  have HZ4 := lid hz4
  clear hw4 hW0 hz hb4 hz4 o0 hb0
  gi_wp2_with fail
  refine wpIn_rfa (pre := #[]) (lb := #[.pointer (some ⟨w.heap.size + 1 + 1 + 1 + 1, 0, none⟩), .pointer (some ⟨w.heap.size + 1 + 1 + 1 + 1 + 1, 0, none⟩)]) rfl (enters_of Tryz.func78 (by kernel_rfl) rfl) wdv WdX WdT (PaI w w4 s) (PaX w s) (fun s x => Ab.pure _) (fun _ => PaI.ab (Nat.le_refl _) (by have := HZ4.out; omega)) (fun c _ x => PaX.ab (by have := HZ4.out; omega)) (wordsL s.data.toList) HP0.out
    (WBx { tmps := #[Value.string s, undef, Value.pointer (some { block := w.heap.size, off := 0 }), Value.pointer (some { block := w.heap.size + 1, off := 0 }), Value.pointer (some { block := w.heap.size + 1 + 1, off := 0 }), Value.pointer (some { block := w.heap.size + 1 + 1 + 1, off := 0 }), undef, undef, Value.string s, Value.int IntKind.i64 ↑s.size, Value.bool false, Value.string s, .func (.func 78) #[] #[.pointer (some ⟨w.heap.size + 1 + 1 + 1 + 1, 0, none⟩), .pointer (some ⟨w.heap.size + 1 + 1 + 1 + 1 + 1, 0, none⟩)], undef, undef, undef, undef, undef, undef, undef, undef, undef, undef, undef, undef, undef, undef, undef, undef, undef, undef, undef, undef], defers := [] } w4)
    (fun x a₁ => WBx.ab) (fun s => s = []) (fun _ _ => True) (fun k => k = w.heap.size + 1 + 1 + 1 + 1 ∨ k = w.heap.size + 1 + 1 + 1 + 1 + 1) ?call ?assign ?body ?done ?stop
  case call =>
    intro l' m' rec W' hz' hbw hJ1 hJ2 hR hj
    have hz4 := HZ4.out
    have hblk : ∀ k, k < w4.heap.size → W'.heap[k]? = w4.heap[k]? := fun k hk => hbw.block k hk
    refine (words_iter l' m' (fun k => k = w.heap.size + 1 + 1 + 1 + 1 ∨ k = w.heap.size + 1 + 1 + 1 + 1 + 1) W'.heap.size (w.heap.size + 1 + 1 + 1 + 1) (w.heap.size + 1 + 1 + 1 + 1 + 1) s _ _ hJ1 hR W' ((hblk _ (by omega)).trans HBS.out) ((hblk _ (by omega)).trans HBF.out) (.inl rfl) (.inr rfl) (by omega) hj).mono ?_
    rintro e W3 ⟨rfl, h | ⟨s, x, h⟩⟩
    · exact ⟨rfl, .inl ⟨[], rfl, h⟩⟩
    · exact ⟨rfl, .inr ⟨s, x, trivial, h⟩⟩
  case assign =>
    intro l' m' st x W' K hi hx hsz hK
    gi_wp2_with fail
    exact hK _ _ (ba _ _) ⟨W'.heap.size, hsz, rfl, h_new rfl _⟩
  case body =>
    rintro l' m' st x a₁ W' ⟨hb, r0, r1, r2, rs, h1, h2, h3, hI, h5⟩ ⟨tl, rfl⟩ ⟨b, hbb, rfl, hbx⟩ hsz
    have hz4 := HZ4.out
    have hcnt : rs.cnt ≤ 100000 := by omega
    have FX := lid (read_any w4.heap.size (w.heap.size + 1 + 1 + 1) rs (bstr x.1) W' hI (by have := h3 x.1 (by simp); show x.1.toArray.size ≤ maxLen; simp [maxLen]; omega) (by omega) hcnt)
    have HB := lid hb
    have HR0 := lid r0
    have HR1 := lid r1
    have HR2 := lid r2
    have H1 := lid h1
    have H2 : Hid (rs.cnt + (tl.length + 1) ≤ 70000) := lid (by simpa using h2)
    have H3 := lid h3
    have H5 := lid h5
    have HX := lid hbx
    have c0 := row_cell hbx 0
    have c1 := row_cell hbx 1
    have lb := row_lt hbx
    have hbne : b ≠ w.heap.size + 1 + 1 + 1 := by omega
    clear hb r0 r1 r2 h1 h2 h3 hbx hI hz4 h5
    gi_wp2_with fail
    refine ⟨trivial, (fun h => by cases h), CallsIn.inRound l' ((callsIn_wide.2 FX.out).mono ?_)⟩
    rintro e w5 ⟨hst, (⟨rfl, s', hF, hI'⟩ | ⟨rfl, hF, hb5⟩)⟩
    · have HST := lid hst
      have HF := lid hF
      have HI := lid hI'
      clear hst hF hI'
      gi_wp2_with fail
      have hz4 := HZ4.out
      have hlow : ∀ k, k < w4.heap.size → k ≠ w.heap.size + 1 + 1 + 1 → w5.heap[k]? = W'.heap[k]? := HST.out.low
      refine ⟨HST.out.kf (fun k hk => by rcases hk with rfl | rfl <;> omega), tl, rfl, HB.out.trans (HST.out.below.mono (by omega)), (hlow _ (by omega) (by omega)).trans HR0.out, (hlow _ (by omega) (by omega)).trans HR1.out, (hlow _ (by omega) (by omega)).trans HR2.out, s', ?_, ?_, fun y hy => H3.out y (by simp [hy]), HI.out, readF_done HF.out H5.out (by omega)⟩
      · rw [H1.out, readGo_cons_some HF.out]
      · have := readF_cnt HF.out
        have := H2.out
        omega
    · have HV : Hid (parseF s = none) := lid (parseF_none (by rw [H1.out, readGo_cons_none hF]))
      have HB5 := lid hb5
      have hz4 := HZ4.out
      have r0 : w5.heap[w.heap.size]? = some (.cells #[.slice none 0 0] 92 (0, 0)) := (hb5.block _ (Nat.lt_of_lt_of_le (by omega) hsz)).trans HR0.out
      have r1 : w5.heap[w.heap.size + 1]? = some (.cells #[.int .i64 0] 3 (0, 0)) := (hb5.block _ (Nat.lt_of_lt_of_le (by omega) hsz)).trans HR1.out
      have r2 : w5.heap[w.heap.size + 1 + 1]? = some (.cells #[.int .i64 0] 32 (0, 0)) := (hb5.block _ (Nat.lt_of_lt_of_le (by omega) hsz)).trans HR2.out
      have s0 := row_set r0 0 (.slice none 0 0)
      have s1 := row_other (j := 0) (v := .slice none 0 0) r1 (show w.heap.size + 1 ≠ w.heap.size by omega)
      have s2 := row_other (j := 0) (v := .slice none 0 0) r2 (show w.heap.size + 1 + 1 ≠ w.heap.size by omega)
      have t0 := row_other (j := 0) (v := .int .i64 x.2) s0 (show w.heap.size ≠ w.heap.size + 1 by omega)
      have t1 := row_set s1 0 (.int .i64 x.2)
      have t2 := row_other (j := 0) (v := .int .i64 x.2) s2 (show w.heap.size + 1 + 1 ≠ w.heap.size + 1 by omega)
      have HQ0 := lid (row_other (j := 0) (v := .int .i64 3) t0 (show w.heap.size ≠ w.heap.size + 1 + 1 by omega))
      have HQ1 := lid (row_other (j := 0) (v := .int .i64 3) t1 (show w.heap.size + 1 ≠ w.heap.size + 1 + 1 by omega))
      have HQ2 := lid (row_set t2 0 (.int .i64 3))
      have a0 := row_cell r0 0
      have a1 := row_cell s1 0
      have a2 := row_cell t2 0
      have b0 := row_fz r0 0
      have b1 := row_fz s1 0
      have b2 := row_fz t2 0
      have k1 : KeepK b w5 (w5.setCell ⟨w.heap.size, 0, none⟩ (.slice none 0 0)) := (KeepK.refl _ _).setCell (show b ≠ w.heap.size by omega) _
      have k2 := k1.setCell (p := ⟨w.heap.size + 1, 0, none⟩) (show b ≠ w.heap.size + 1 by omega) (.int .i64 x.2)
      have k3 := k2.setCell (p := ⟨w.heap.size + 1 + 1, 0, none⟩) (show b ≠ w.heap.size + 1 + 1 by omega) (.int .i64 3)
      have HBE : Hid (Below w.heap.size W' (((w5.setCell ⟨w.heap.size, 0, none⟩ (.slice none 0 0)).setCell ⟨w.heap.size + 1, 0, none⟩ (.int .i64 x.2)).setCell ⟨w.heap.size + 1 + 1, 0, none⟩ (.int .i64 3))) := lid ((((hb5.mono (show w.heap.size ≤ W'.heap.size by omega)).setCell (p := ⟨w.heap.size, 0, none⟩) (Nat.le_refl _) _).setCell (p := ⟨w.heap.size + 1, 0, none⟩) (show w.heap.size ≤ w.heap.size + 1 by omega) _).setCell (p := ⟨w.heap.size + 1 + 1, 0, none⟩) (show w.heap.size ≤ w.heap.size + 1 + 1 by omega) _)
      have HKF : Hid (KF (fun k => k = w.heap.size + 1 + 1 + 1 + 1 ∨ k = w.heap.size + 1 + 1 + 1 + 1 + 1) w4.heap.size W' (((w5.setCell ⟨w.heap.size, 0, none⟩ (.slice none 0 0)).setCell ⟨w.heap.size + 1, 0, none⟩ (.int .i64 x.2)).setCell ⟨w.heap.size + 1 + 1, 0, none⟩ (.int .i64 3))) := lid (((KF.below hb5).trans (KF.setCell _ ⟨w.heap.size, 0, none⟩ _ (by show ¬ (w.heap.size = _ ∨ w.heap.size = _); omega))).trans ((KF.setCell _ ⟨w.heap.size + 1, 0, none⟩ _ (by show ¬ (w.heap.size + 1 = _ ∨ w.heap.size + 1 = _); omega)).trans (KF.setCell _ ⟨w.heap.size + 1 + 1, 0, none⟩ _ (by show ¬ (w.heap.size + 1 + 1 = _ ∨ w.heap.size + 1 + 1 = _); omega))))
      have g5 : W'.heap.size ≤ w5.heap.size := hb5.size
      have e0 : w.heap.size < w5.heap.size := by omega
      have e1 : w.heap.size + 1 < (w5.setCell ⟨w.heap.size, 0, none⟩ (.slice none 0 0)).heap.size := by rw [set_size]; omega
      have e2 : w.heap.size + 1 + 1 < ((w5.setCell ⟨w.heap.size, 0, none⟩ (.slice none 0 0)).setCell ⟨w.heap.size + 1, 0, none⟩ (.int .i64 x.2)).heap.size := by rw [set_size, set_size]; omega
      clear hF hst c0 c1 r0 r1 r2 s0 s1 s2 t0 t1 t2 hz4 g5
      have c1 := SinceK.cell (k := b) (W := w5) (row_cell ((hb5.block b lb).trans HX.out) 1)
      gi_wp2_with fail
      refine wpIn_region_seq (fun w' => ∃ s : SinceK b w5, w' = s.world) [(0, true), (1, true), (2, false), (3, false), (4, false)] (by kernel_rfl) (by kernel_rfl) (sincek (KeepK.refl _ _).drew) ?_
      repeat (first | (refine seq_skip (by rfl) (by rfl) ?_; simp only [Act.put, List.setIfInBounds_toArray, List.set_cons_succ, List.set_cons_zero]) | (refine seq_float (by rfl) (by rfl) (by rfl) ?_; intro K hK; go_big_quiet_op; go_big_quiet_on))
      refine seq_chain (by rfl) ?_
      intro K hK
      go_wp2_with fail
      refine hK.out _ _ (sincek k1.drew) ?_
      clear hK K
      repeat (first | (refine seq_skip (by rfl) (by rfl) ?_; simp only [Act.put, List.setIfInBounds_toArray, List.set_cons_succ, List.set_cons_zero]) | (refine seq_float (by rfl) (by rfl) (by rfl) ?_; intro K hK; go_big_quiet_op; go_big_quiet_on))
      refine seq_chain (by rfl) ?_
      intro K hK
      go_wp2_with fail
      refine hK.out _ _ (sincek k2.drew) ?_
      clear hK K
      repeat (first | (refine seq_skip (by rfl) (by rfl) ?_; simp only [Act.put, List.setIfInBounds_toArray, List.set_cons_succ, List.set_cons_zero]) | (refine seq_float (by rfl) (by rfl) (by rfl) ?_; intro K hK; go_big_quiet_op; go_big_quiet_on))
      refine seq_chain (by rfl) ?_
      intro K hK
      go_wp2_with fail
      refine hK.out _ _ (sincek k3.drew) ?_
      clear hK K
      refine seq_nil ⟨rfl, ?_⟩
      gi_wp2_with fail
      exact ⟨HKF.out.trans (KF.below (Below.refl _ _).drew), rfl, HB.out.trans HBE.out.drew, HQ0.out, ⟨_, HQ1.out⟩, HQ2.out, HV.out⟩
  case done =>
    rintro D s' W' hD rfl ⟨hb, r0, r1, r2, rs, h1, h2, h3, ⟨vr, hvr, hlay⟩, h5⟩ hdef
    have h1' : readGo (.rule []) (wordsL s.data.toList) = some rs := h1
    have hz4 := HZ4.out
    have HB := lid hb
    have HDE := lid hdef
    have hDw : w.heap.size + 6 ≤ D := by omega
    have q0 := row_cell r0 0
    have q1 := row_cell r1 0
    have q2 := row_cell r2 0
    have g0 := row_fz r0 0
    have g1 := row_fz r1 0
    have g2 := row_fz r2 0
    have lW := row_lt hvr
    have e0 : w.heap.size < W'.heap.size := by omega
    have e1 : w.heap.size + 1 < W'.heap.size := by omega
    have e2 : w.heap.size + 1 + 1 < W'.heap.size := by omega
    have HR0 := lid r0
    have HR1 := lid r1
    have HR2 := lid r2
    have stores : ∀ (X : World) (v v2 v3 : Value), X.heap[w.heap.size]? = some (.cells #[.slice none 0 0] 92 (0, 0)) → X.heap[w.heap.size + 1]? = some (.cells #[.int .i64 0] 3 (0, 0)) → X.heap[w.heap.size + 1 + 1]? = some (.cells #[.int .i64 0] 32 (0, 0)) →
        ((((X.setCell ⟨w.heap.size, 0, none⟩ v).setCell ⟨w.heap.size + 1, 0, none⟩ v2).setCell ⟨w.heap.size + 1 + 1, 0, none⟩ v3).heap[w.heap.size]? = some (.cells #[v] 92 (0, 0)) ∧
        (((X.setCell ⟨w.heap.size, 0, none⟩ v).setCell ⟨w.heap.size + 1, 0, none⟩ v2).setCell ⟨w.heap.size + 1 + 1, 0, none⟩ v3).heap[w.heap.size + 1]? = some (.cells #[v2] 3 (0, 0)) ∧
        (((X.setCell ⟨w.heap.size, 0, none⟩ v).setCell ⟨w.heap.size + 1, 0, none⟩ v2).setCell ⟨w.heap.size + 1 + 1, 0, none⟩ v3).heap[w.heap.size + 1 + 1]? = some (.cells #[v3] 32 (0, 0)) ∧
        (∀ k, w.heap.size + 1 + 1 < k → (((X.setCell ⟨w.heap.size, 0, none⟩ v).setCell ⟨w.heap.size + 1, 0, none⟩ v2).setCell ⟨w.heap.size + 1 + 1, 0, none⟩ v3).heap[k]? = X.heap[k]?)) := by
      intro X v v2 v3 h0 h1 h2
      refine ⟨row_other (row_other (row_set h0 0 v) (by omega)) (by omega), row_other (row_set (row_other h1 (by omega)) 0 v2) (by omega), row_set (row_other (row_other h2 (by omega)) (by omega)) 0 v3, fun k hk => row_other (row_other (row_other rfl (by omega)) (by omega)) (by omega)⟩
    have HST := lid stores
    clear hb hdef hz4 r0 r1 r2 h1 h2 h3 stores
    by_cases hpl : rs.place = 0
    · obtain ⟨l, rfl, hV⟩ := parseF_rule h1' hpl
      have HV : Hid (parseF s = if chkL l = 0 then some l else none) := lid hV
      obtain ⟨vg, vp, ps, vs, hL⟩ := hlay
      obtain ⟨av, nv', cv⟩ := vr
      have hRS : RS (fun k => w.heap.size + 6 ≤ k ∧ k < W'.heap.size) W' (av, nv', cv) l := by
        have hL' : Lay w4.heap.size l [] [] [] (av, nv', cv) vg vp ps vs W' := hL
        have hz4 := HZ4.out
        obtain ⟨h1, h2⟩ := SlC.of_own (c := fun k => w.heap.size + 6 ≤ k ∧ k < W'.heap.size) hL'.rows (fun k e => by have := hL'.rows.lt k e; show w.heap.size + 6 ≤ k ∧ k < W'.heap.size; omega)
        exact ⟨⟨ps, by simpa using h1, hL'.cl.mono fun k hk => by have h1 := hk.1; have h2 := hk.2.1; show w.heap.size + 6 ≤ k ∧ k < W'.heap.size; omega⟩, by simpa using h2.symm⟩
      have HRS := lid hRS
      have v0 := row_cell hvr 0
      have v1 := row_cell hvr 1
      have HVR := lid hvr
      have CC := lid (check_owners _ l nv' cv av W' hRS h5)
      clear hL hRS hvr hV h1' hpl h5
      gi_wp2_with fail
      refine ⟨trivial, (callsIn_wide.2 CC.out).mono ?_⟩
      rintro e w5 ⟨rfl, hb5⟩
      have HB5 := lid hb5
      have HRS5 := lid (HRS.out.keep (KeepC.below hb5))
      have v15 := (bc hb5 lW _).trans v1
      have q05 := (bc hb5 e0 _).trans q0
      have q15 := (bc hb5 e1 _).trans q1
      have q25 := (bc hb5 e2 _).trans q2
      have g05 := (bf hb5 e0 _).trans g0
      have g15 := (bf hb5 e1 _).trans g1
      have g25 := (bf hb5 e2 _).trans g2
      have lW5 := Nat.lt_of_lt_of_le lW hb5.size
      have e05 := Nat.lt_of_lt_of_le e0 hb5.size
      have e15 := Nat.lt_of_lt_of_le e1 hb5.size
      have e25 := Nat.lt_of_lt_of_le e2 hb5.size
      have HQ0 := lid ((hb5.block _ e0).trans HR0.out)
      have HQ1 := lid ((hb5.block _ e1).trans HR1.out)
      have HQ2 := lid ((hb5.block _ e2).trans HR2.out)
      have hDl : D < W'.heap.size := (Array.getElem?_eq_some_iff.1 HDE.out).1
      have HD5 := lid ((hb5.block D hDl).trans HDE.out)
      have HBW : Hid (Below w.heap.size w w5) := lid (HB.out.trans (hb5.mono HB.out.size))
      clear q0 q1 q2 g0 g1 g2 v0 v1 hb5 hDl
      obtain ⟨x, hx⟩ : ∃ x, chkL l = x := ⟨_, rfl⟩
      rw [hx] at HV ⊢
      clear hx
      by_cases hx0 : x = 0
      · subst hx0
        gi_wp2_with fail
        obtain ⟨f0, f1, f2, fk⟩ := HST.out w5 (.slice av nv' cv) (.int .i64 0) (.int .i64 0) HQ0.out HQ1.out HQ2.out
        refine ⟨by simp, .inl ⟨D, _, rfl, run_takeDeferred ((fk D (by omega)).trans HD5.out), ?_⟩⟩
        refine ⟨_, res_three rfl _ _ w.heap.size (w.heap.size + 1) (w.heap.size + 1 + 1) _ _ _ rfl rfl rfl ((World.putObj_heap_other (by omega)).trans f0) ((World.putObj_heap_other (by omega)).trans f1) ((World.putObj_heap_other (by omega)).trans f2), (av, nv', cv), 0, 0, rfl, ?_, .inl ⟨rfl, l, by rw [HV.out]; simp, ?_⟩⟩
        · have hbs := ((HBW.out.setCell (p := ⟨w.heap.size, 0, none⟩) (Nat.le_refl _) (.slice av nv' cv)).setCell (p := ⟨w.heap.size + 1, 0, none⟩) (show w.heap.size ≤ w.heap.size + 1 by omega) (.int .i64 0)).setCell (p := ⟨w.heap.size + 1 + 1, 0, none⟩) (show w.heap.size ≤ w.heap.size + 1 + 1 by omega) (.int .i64 0)
          exact hbs.grown (grownBy_putObj' _ D _) hbs.size (fun j e => by cases e; omega)
        · have k1 : KeepC (fun k => w.heap.size + 6 ≤ k ∧ k < W'.heap.size) w5 (((w5.setCell ⟨w.heap.size, 0, none⟩ (.slice av nv' cv)).setCell ⟨w.heap.size + 1, 0, none⟩ (.int .i64 0)).setCell ⟨w.heap.size + 1 + 1, 0, none⟩ (.int .i64 0)) :=
            ((KeepC.setCell _ ⟨w.heap.size, 0, none⟩ _ (show ¬ (w.heap.size + 6 ≤ w.heap.size ∧ w.heap.size < W'.heap.size) by omega)).trans (KeepC.setCell _ ⟨w.heap.size + 1, 0, none⟩ _ (show ¬ (w.heap.size + 6 ≤ w.heap.size + 1 ∧ w.heap.size + 1 < W'.heap.size) by omega))).trans (KeepC.setCell _ ⟨w.heap.size + 1 + 1, 0, none⟩ _ (show ¬ (w.heap.size + 6 ≤ w.heap.size + 1 + 1 ∧ w.heap.size + 1 + 1 < W'.heap.size) by omega))
          exact ((HRS5.out.keep k1).keepS (KeepS.grown (grownBy_putObj' _ D _) (fun r e => by cases e; exact ⟨_, (fk D (by omega)).trans HD5.out, rfl⟩))).mono fun k hk => by
            have hk : w.heap.size + 6 ≤ k ∧ k < W'.heap.size := hk
            have h5 := HB5.out.size
            refine ⟨by omega, ?_⟩
            have hz : ∀ o, ((((w5.setCell ⟨w.heap.size, 0, none⟩ (.slice av nv' cv)).setCell ⟨w.heap.size + 1, 0, none⟩ (.int .i64 0)).setCell ⟨w.heap.size + 1 + 1, 0, none⟩ (.int .i64 0)).putObj D o).heap.size = w5.heap.size := fun o => by simp
            rw [hz]
            omega
      · have u1 : (x != 0) = true := by simpa using hx0
        have HX0 := lid hx0
        clear hx0
        gi_wp2_with fail
        obtain ⟨f0, f1, f2, fk⟩ := HST.out w5 (.slice none 0 0) (.int .i64 0) (.int .i64 x) HQ0.out HQ1.out HQ2.out
        refine ⟨by simp, .inl ⟨D, _, rfl, run_takeDeferred ((fk D (by omega)).trans HD5.out), ?_⟩⟩
        refine ⟨_, res_three rfl _ _ w.heap.size (w.heap.size + 1) (w.heap.size + 1 + 1) _ _ _ rfl rfl rfl ((World.putObj_heap_other (by omega)).trans f0) ((World.putObj_heap_other (by omega)).trans f1) ((World.putObj_heap_other (by omega)).trans f2), nv, 0, x, rfl, ?_, .inr ⟨HX0.out, by rw [HV.out, if_neg HX0.out]⟩⟩
        have hbs := ((HBW.out.setCell (p := ⟨w.heap.size, 0, none⟩) (Nat.le_refl _) (.slice none 0 0)).setCell (p := ⟨w.heap.size + 1, 0, none⟩) (show w.heap.size ≤ w.heap.size + 1 by omega) (.int .i64 0)).setCell (p := ⟨w.heap.size + 1 + 1, 0, none⟩) (show w.heap.size ≤ w.heap.size + 1 + 1 by omega) (.int .i64 x)
        exact hbs.grown (grownBy_putObj' _ D _) hbs.size (fun j e => by cases e; omega)
    · have u0 : (rs.place != 0) = true := by simpa using hpl
      have HV : Hid (parseF s = none) := lid (parseF_open h1' hpl)
      have v0 := row_cell hvr 0
      obtain ⟨pl, hpl2⟩ : ∃ pl, rs.place = pl := ⟨_, rfl⟩
      rw [hpl2] at v0 u0
      clear hpl h1' hlay hvr hpl2
      gi_wp2_with fail
      obtain ⟨f0, f1, f2, fk⟩ := HST.out W' (.slice none 0 0) (.int .i64 s.size) (.int .i64 3) HR0.out HR1.out HR2.out
      refine ⟨by simp, .inl ⟨D, _, rfl, run_takeDeferred ((fk D (by omega)).trans HDE.out), ?_⟩⟩
      refine ⟨_, res_three rfl _ _ w.heap.size (w.heap.size + 1) (w.heap.size + 1 + 1) _ _ _ rfl rfl rfl ((World.putObj_heap_other (by omega)).trans f0) ((World.putObj_heap_other (by omega)).trans f1) ((World.putObj_heap_other (by omega)).trans f2), nv, s.size, 3, rfl, ?_, .inr ⟨by decide, HV.out⟩⟩
      have hbs := ((HB.out.setCell (p := ⟨w.heap.size, 0, none⟩) (Nat.le_refl _) (.slice none 0 0)).setCell (p := ⟨w.heap.size + 1, 0, none⟩) (show w.heap.size ≤ w.heap.size + 1 by omega) (.int .i64 s.size)).setCell (p := ⟨w.heap.size + 1 + 1, 0, none⟩) (show w.heap.size ≤ w.heap.size + 1 + 1 by omega) (.int .i64 3)
      exact hbs.grown (grownBy_putObj' _ D _) hbs.size (fun j e => by cases e; omega)
  case stop =>
    rintro D c s' x W' hD _ ⟨rfl, hb, r0, ⟨n, r1⟩, r2, hV⟩ hdef
    have HB := lid hb
    have HR0 := lid r0
    have HR1 := lid r1
    have HR2 := lid r2
    have HDE := lid hdef
    have HVF := lid hV
    have hDw : w.heap.size + 6 ≤ D := by have := HZ4.out; omega
    clear hb r0 r1 r2 hV hdef
    gi_wp2_with fail
    refine ⟨by simp, .inl ⟨D, _, rfl, run_takeDeferred HDE.out, ?_⟩⟩
    refine ⟨_, res_three rfl _ _ w.heap.size (w.heap.size + 1) (w.heap.size + 1 + 1) (.slice none 0 0) (.int .i64 n) (.int .i64 3) rfl rfl rfl ((World.putObj_heap_other (by omega)).trans HR0.out) ((World.putObj_heap_other (by omega)).trans HR1.out) ((World.putObj_heap_other (by omega)).trans HR2.out), nv, n, 3, rfl, ?_, .inr ⟨by decide, HVF.out⟩⟩
    exact HB.out.grown (grownBy_putObj' _ D _) HB.out.size (fun j e => by cases e; omega)
end Go.Proofs.YtefehgdckmajiaaGreatDoor
