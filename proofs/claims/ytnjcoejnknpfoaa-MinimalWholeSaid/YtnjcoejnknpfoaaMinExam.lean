/-
  examine: a search is gone through.
-/
import Derived.Test.YtnjcoejnknpfoaaMinMany
namespace Go.Proofs.Ytnjcoejnknpfoaa
open Go.RowKit Go.Shelf
attribute [local go_sem] Oper.semAt_some
set_option maxRecDepth 100000 in
set_option maxHeartbeats 2000000 in
theorem asked_few (n mb : Nat) (hn : n ≤ 5) (w : World) (c1 c2 c3 : Value) (h : w.heap[mb]? = some (.cells #[.int .i64 n, c1, c2, c3] 66 (0, 0))) :
    Calls Try.prog 37 #[.pointer (some ⟨mb, 0, none⟩)] w fun e w' => e = .returned (.func (.func 41) #[.pointer (some ⟨mb, 0, none⟩)] #[]) ∧ w' = w := by
  have k0 := row_cell h 0
  have hl := row_lt h
  have d : decide ((n : Int) ≤ 5) = true := by simp; omega
  clear h
  go_enter Try.func37, Try.ntmps37
  go_wp2_with fail
  go_ret
  exact ⟨rfl, rfl⟩
set_option maxRecDepth 100000 in
set_option maxHeartbeats 2000000 in
theorem asked_many (n mb : Nat) (hn : 5 < n) (w : World) (c1 c2 c3 : Value) (h : w.heap[mb]? = some (.cells #[.int .i64 n, c1, c2, c3] 66 (0, 0))) :
    Calls Try.prog 37 #[.pointer (some ⟨mb, 0, none⟩)] w fun e w' => e = .returned (.func (.func 42) #[.pointer (some ⟨mb, 0, none⟩)] #[]) ∧ w' = w := by
  have k0 := row_cell h 0
  have hl := row_lt h
  have d : decide ((n : Int) ≤ 5) = false := by simp; omega
  clear h
  go_enter Try.func37, Try.ntmps37
  go_wp2_with fail
  go_ret
  exact ⟨rfl, rfl⟩
/-- The iterator of a search: which function it is, and what it does. -/
theorem iter_any (n : Nat) (hn : n ≤ 10) : ∃ gf : Nat, (∀ (mb : Nat) (w : World) (c1 c2 c3 : Value), w.heap[mb]? = some (.cells #[.int .i64 n, c1, c2, c3] 66 (0, 0)) →
      Calls Try.prog 37 #[.pointer (some ⟨mb, 0, none⟩)] w fun e w' => e = .returned (.func (.func gf) #[.pointer (some ⟨mb, 0, none⟩)] #[]) ∧ w' = w) ∧
    (∀ args w, (callFunc gf args).run Try.prog w = .ok (.enter gf args) w) ∧
    ∀ (kn : List Kn) (mb bm l m B0 : Nat) (J : Fs → World → Prop) (Jx : Fs → Sw → World → Prop) (W : World), Inv kn n mb bm W.heap.size J Jx → RoundC Try.prog m l B0 W.heap.size swv (AX kn B0) (AT kn) J Jx → B0 ≤ W.heap.size → J (0, none) W →
      Calls Try.prog gf #[.pointer (some ⟨mb, 0, none⟩), .func (.yield l) #[] #[]] W fun e W' => e = .returned (.tuple #[]) ∧ Fin kn n J Jx W' := by
  by_cases h : n ≤ 5
  · exact ⟨_, fun mb w c1 c2 c3 => asked_few n mb h w c1 c2 c3, enters_of Try.func41 (by kernel_rfl) rfl, fun kn mb bm l m B0 J Jx W h1 h2 h3 h4 => few_any kn n mb bm l m B0 h J Jx W h1 h2 h3 h4⟩
  · exact ⟨_, fun mb w c1 c2 c3 => asked_many n mb (by omega) w c1 c2 c3, enters_of Try.func42 (by kernel_rfl) rfl, fun kn mb bm l m B0 J Jx W h1 h2 h3 h4 => many_any kn n mb bm l m B0 (by omega) hn J Jx W h1 h2 h3 h4⟩
theorem KF.grown {B0 B b : Nat} {W W' : World} (h : W.grownBy W' (some b)) (h0 : b < B0) (h1 : b < B) : KF B0 B W W' :=
  ⟨h.size, fun k hk hl => h.block k hl (fun e => by cases e; omega), fun k c t f hk e => (h.block k (Array.getElem?_eq_some_iff.1 e).1 (fun e2 => by cases e2; omega)).trans e⟩
/-- The status that examine gives. -/
def statV (st : St) (k : Nat) (v : Value) : Value :=
  if st.used ≠ k then .agg #[.int .i64 11, .bool false, .slice none 0 0, .slice none 0 0] else if st.done then .agg #[.int .i64 0, .bool true, .slice none 0 0, v] else .agg #[.int .i64 0, .bool false, v, .slice none 0 0]
theorem res_stat {fn : Func} (hf : fn.results = #[.cell 2 57]) (t : Array Value) (w : World) (k : Nat) (a b : Value) (c d : Value) (x : Int) (z : Bool) (n1 c1 n2 c2 : Nat) (a1 a2 : Option Addr) (ea : a = .int .i64 x) (eb : b = .bool z) (ec : c = .slice a1 n1 c1) (ed : d = .slice a2 n2 c2) (h : t.getD 2 undef = .pointer (some ⟨k, 0, none⟩))
    (e : w.heap[k]? = some (.cells #[a, b, c, d] 57 (0, 0))) : (results fn t).run Try.prog w = .ok (.agg #[a, b, c, d]) w := by
  have e0 := row_cell e 0
  have e1 := row_cell e 1
  have e2 := row_cell e 2
  have e3 := row_cell e 3
  subst ea eb ec ed
  rw [Array.getD_eq_getD_getElem?] at h
  unfold results
  rw [hf]
  simp [go_sem, h, e0, e1, e2, e3, asAddr]
theorem h_new {w : World} {n : Nat} (h : w.heap.size = n) (o : Obj) : (w.alloc o).heap[n]? = some o := by subst h; exact World.alloc_heap_new w o
theorem h_old {w : World} {k : Nat} (h : k < w.heap.size) (o : Obj) : (w.alloc o).heap[k]? = w.heap[k]? := Below.heap_alloc w o k h
set_option maxRecDepth 100000 in
set_option maxHeartbeats 2000000 in
theorem exam_range (N : Int) (hN : N < 0 ∨ 64 < N) (n cap : Nat) (ao : Option Addr) (w : World) :
    Calls Try.prog 32 #[.agg #[.int .i64 N, .slice ao n cap]] w fun e w' => e = .returned (.agg #[.int .i64 2, .bool false, .slice none 0 0, .slice none 0 0]) ∧ Below w.heap.size w w' := by
  by_cases h0 : N < 0
  · have d0 : decide (N < 0) = true := decide_eq_true h0
    clear hN h0
    refine (callsIn_wide (n := 3)).1 ?_
    refine callsIn_of_wp_marks Try.func32 rfl trivial ?_ rfl
    simp only [Try.ntmps32, List.size_toArray, List.length_cons, List.length_nil, Nat.reduceAdd, Nat.reduceSub, Array.replicate_succ, Array.replicate_zero, List.push_toArray, List.append_toArray, List.nil_append, List.cons_append]
    gi_wp2_with fail
    exact ⟨_, res_stat rfl _ _ (w.heap.size + 1) _ _ _ _ _ _ _ _ _ _ _ _ rfl rfl rfl rfl rfl (h_new (by simp) _), rfl, (ba _ _).alloc (by simp) _⟩
  · have d0 : decide (N < 0) = false := decide_eq_false h0
    have d1 : decide (64 < N) = true := decide_eq_true (by omega)
    clear hN h0
    refine (callsIn_wide (n := 3)).1 ?_
    refine callsIn_of_wp_marks Try.func32 rfl trivial ?_ rfl
    simp only [Try.ntmps32, List.size_toArray, List.length_cons, List.length_nil, Nat.reduceAdd, Nat.reduceSub, Array.replicate_succ, Array.replicate_zero, List.push_toArray, List.append_toArray, List.nil_append, List.cons_append]
    gi_wp2_with fail
    exact ⟨_, res_stat rfl _ _ (w.heap.size + 1) _ _ _ _ _ _ _ _ _ _ _ _ rfl rfl rfl rfl rfl (h_new (by simp) _), rfl, (ba _ _).alloc (by simp) _⟩
/-- Four cells of a block stored anew. -/
theorem set4_row {W : World} {b : Nat} {x0 x1 x2 x3 : Value} {t : TypeId} (h : W.heap[b]? = some (.cells #[x0, x1, x2, x3] t (0, 0))) (v0 v1 v2 v3 : Value) :
    ((((W.setCell ⟨b, 0, none⟩ v0).setCell ⟨b, 1, none⟩ v1).setCell ⟨b, 2, none⟩ v2).setCell ⟨b, 3, none⟩ v3).heap[b]? = some (.cells #[v0, v1, v2, v3] t (0, 0)) := by
  have := row_set (row_set (row_set (row_set h 0 v0) 1 v1) 2 v2) 3 v3
  simpa using this
theorem set4_below {W W0 : World} {b B : Nat} {v0 v1 v2 v3 : Value} (h : Below B W0 W) (hb : B ≤ b) : Below B W0 ((((W.setCell ⟨b, 0, none⟩ v0).setCell ⟨b, 1, none⟩ v1).setCell ⟨b, 2, none⟩ v2).setCell ⟨b, 3, none⟩ v3) :=
  (((h.setCell (p := ⟨b, 0, none⟩) hb _).setCell (p := ⟨b, 1, none⟩) hb _).setCell (p := ⟨b, 2, none⟩) hb _).setCell (p := ⟨b, 3, none⟩) hb _
theorem set4_kf {W : World} {b B0 B : Nat} {v0 v1 v2 v3 : Value} (h0 : b < B0) (h1 : b < B) : KF B0 B W ((((W.setCell ⟨b, 0, none⟩ v0).setCell ⟨b, 1, none⟩ v1).setCell ⟨b, 2, none⟩ v2).setCell ⟨b, 3, none⟩ v3) :=
  (((KF.setCell _ _ _ h0 h1).trans (KF.setCell _ _ _ h0 h1)).trans (KF.setCell _ _ _ h0 h1)).trans (KF.setCell _ _ _ h0 h1)
/-- What a round of examine keeps. -/
structure EI (w : World) (n k cap : Nat) (ao : Option Addr) (kn : List Kn) (s : Fs) (W : World) : Prop where
  b : Below w.heap.size w W
  srch : W.heap[w.heap.size]? = some (.cells #[.int .i64 n, .slice ao k cap] 24 (0, 0))
  stat : W.heap[w.heap.size + 1]? = some (.cells #[.int .i64 0, .bool false, .slice none 0 0, .slice none 0 0] 57 (0, 0))
  sim : s.2 = none → MS kn n (w.heap.size + 3) (w.heap.size + 2) s.1 W
  fin : ∀ x, s.2 = some x → W.heap[w.heap.size + 3]? = some (.cells #[.int .i64 n, .map (some (w.heap.size + 2)), swv x, .bool true] 66 (0, 0)) ∧ IA W x.ao x.vs.length x.cap x.vs ∧ ∀ b o, x.ao = some ⟨b, o, none⟩ → w.heap.size + 5 ≤ b
  used : W.heap[w.heap.size + 4]? = some (.cells #[.int .i64 s.1] 3 (0, 0))
  hu : s.1 ≤ kn.length
/-- Where a round of examine has stopped. -/
def EX (w : World) (kn : List Kn) (c : Code) (s : Fs) (x : Sw) (W : World) : Prop :=
  c = .ret ∧ Below w.heap.size w W ∧ s.1 ≤ kn.length ∧ (∀ b, kn[s.1]? ≠ some (x.vs, b)) ∧ IA W x.ao x.vs.length x.cap x.vs ∧ (∀ b o, x.ao = some ⟨b, o, none⟩ → w.heap.size ≤ b) ∧
    ∃ (e : Int) (n1 c1 : Nat) (a1 : Option Addr), W.heap[w.heap.size + 1]? = some (.cells #[.int .i64 e, .bool false, .slice a1 n1 c1, .slice none 0 0] 57 (0, 0)) ∧ .agg #[.int .i64 e, .bool false, .slice a1 n1 c1, .slice none 0 0] = statV ⟨x.vs, false, s.1⟩ kn.length (swv x)
theorem MS.ab {kn : List Kn} {n mb bm u B : Nat} (h1 : mb < B) (h2 : bm < B) : Ab B (MS kn n mb bm u) := fun W W' row hs hg hr => by
  refine ⟨Ab.blk h1 _ rfl W W' row hs.sim hg hr, ?_⟩
  obtain ⟨D, ⟨es, clock, h3, h4⟩, h5⟩ := hs.map
  exact ⟨D, ⟨es, clock, Ab.blk h2 _ rfl W W' row h3 hg hr, h4⟩, h5⟩
theorem EI.ab {w : World} {n k cap B : Nat} {ao : Option Addr} {kn : List Kn} {s : Fs} (hB : w.heap.size + 5 ≤ B) : Ab B (EI w n k cap ao kn s) := fun W W' row hs hg hr =>
  ⟨Ab.belowW (B := B) (Nat.le_refl _) (by omega) W W' row hs.b hg hr, Ab.blk (B := B) (by omega) _ rfl W W' row hs.srch hg hr, Ab.blk (B := B) (by omega) _ rfl W W' row hs.stat hg hr, fun e => MS.ab (B := B) (by omega) (by omega) W W' row (hs.sim e) hg hr,
    fun x e => ⟨Ab.blk (B := B) (by omega) _ rfl W W' row (hs.fin x e).1 hg hr, Ab.ia (B := B) W W' row (hs.fin x e).2.1 hg hr, (hs.fin x e).2.2⟩, Ab.blk (B := B) (by omega) _ rfl W W' row hs.used hg hr, hs.hu⟩
theorem EX.ab {w : World} {kn : List Kn} {c : Code} {s : Fs} {x : Sw} {B : Nat} (hB : w.heap.size + 5 ≤ B) : Ab B (EX w kn c s x) := fun W W' row hs hg hr => by
  obtain ⟨h1, h2, h3, h4, h5, h8, e, n1, c1, a1, h6, h7⟩ := hs
  exact ⟨h1, Ab.belowW (B := B) (Nat.le_refl _) (by omega) W W' row h2 hg hr, h3, h4, Ab.ia (B := B) W W' row h5 hg hr, h8, e, n1, c1, a1, Ab.blk (B := B) (by omega) _ rfl W W' row h6 hg hr, h7⟩
/-- A slice of ints behind a store into a block of which it is no part. -/
theorem ia_set {W : World} {ao : Option Addr} {n cap b0 j : Nat} {l : List Int} {v : Value} (h : IA W ao n cap l) (hf : ∀ b o, ao = some ⟨b, o, none⟩ → b0 < b) : IA (W.setCell ⟨b0, j, none⟩ v) ao n cap l := by
  refine ⟨h.len, ⟨h.sl.1, ?_⟩, h.le, h.max, h.z⟩
  rcases h.sl.2 with h0 | ⟨b, o, e, hb, hc⟩
  · exact .inl h0
  · refine .inr ⟨b, o, e, by rw [World.size_setCell]; exact hb, fun i u hu => ?_⟩
    rw [World.cell?_setCell_other _ _ _ _ (by intro e2; have := hf b o e; have := congrArg Addr.block e2; simp at this; omega)]
    exact hc i u hu
theorem set4_ia {W : World} {ao : Option Addr} {n cap b0 : Nat} {l : List Int} {v0 v1 v2 v3 : Value} (h : IA W ao n cap l) (hf : ∀ b o, ao = some ⟨b, o, none⟩ → b0 < b) : IA ((((W.setCell ⟨b0, 0, none⟩ v0).setCell ⟨b0, 1, none⟩ v1).setCell ⟨b0, 2, none⟩ v2).setCell ⟨b0, 3, none⟩ v3) ao n cap l :=
  ia_set (ia_set (ia_set (ia_set h hf) hf) hf) hf
theorem EI.done {w W : World} {n k cap u : Nat} {ao : Option Addr} {kn : List Kn} {x : Sw} (h : EI w n k cap ao kn (u, none) W) (hx : IA W x.ao x.vs.length x.cap x.vs) (hf : ∀ b o, x.ao = some ⟨b, o, none⟩ → w.heap.size + 5 ≤ b) :
    EI w n k cap ao kn (u, some x) ((W.setCell ⟨w.heap.size + 3, 2, none⟩ (swv x)).setCell ⟨w.heap.size + 3, 3, none⟩ (.bool true)) := by
  refine ⟨(h.b.setCell (p := ⟨w.heap.size + 3, 2, none⟩) (by show w.heap.size ≤ w.heap.size + 3; omega) _).setCell (p := ⟨w.heap.size + 3, 3, none⟩) (by show w.heap.size ≤ w.heap.size + 3; omega) _, row_other (row_other h.srch (by omega)) (by omega), row_other (row_other h.stat (by omega)) (by omega), fun e => (by cases e), ?_, row_other (row_other h.used (by omega)) (by omega), h.hu⟩
  intro y e
  cases e
  refine ⟨?_, ia_set (ia_set hx (fun b o e => by have := hf b o e; omega)) (fun b o e => by have := hf b o e; omega), hf⟩
  have := row_set (row_set (h.sim rfl).sim 2 (swv x)) 3 (.bool true)
  simpa using this
/-- What examine gives. -/
def ExP (kn : List Kn) (n k : Nat) (w : World) (e : Ending) (w' : World) : Prop := ∃ (st : St) (a1 : Option Addr) (n1 c1 : Nat), Leads kn n st ∧ e = .returned (statV st k (.slice a1 n1 c1)) ∧ IA w' a1 n1 c1 st.set ∧ Below w.heap.size w w' ∧ ∀ b o, a1 = some ⟨b, o, none⟩ → w.heap.size ≤ b
set_option maxRecDepth 100000 in
set_option maxHeartbeats 8000000 in
theorem exam_any (n : Nat) (hn : n ≤ 10) (l : List Kw) (k cap : Nat) (ao : Option Addr) (w : World) (hk : k ≤ 100) (h : KA w ao k cap l) (hl : ∀ r ∈ l, r.vs.length ≤ 20) :
    Calls Try.prog 32 #[.agg #[.int .i64 n, .slice ao k cap]] w (ExP (l.map Kw.kn) n k w) := by
  obtain ⟨gf, GA, GE, GI⟩ := iter_any n hn
  have HK := lid h
  have HL := lid hl
  have HN := lid h.len
  have HGA := lid GA
  have HGI := lid GI
  obtain ⟨kn, hkn⟩ : ∃ y, l.map Kw.kn = y := ⟨_, rfl⟩
  have HKN := lid hkn
  have HKL : Hid (kn.length = k) := lid (by rw [← hkn, List.length_map]; exact h.len)
  rw [hkn]
  clear h hl GA GI hkn
  have d0 : decide ((n : Int) < 0) = false := by simp
  have d1 : decide (64 < (n : Int)) = false := by simp; omega
  have hmm := @run_makeMap Try.prog
  refine (callsIn_wide (n := 3)).1 ?_
  refine callsIn_of_wp_marks Try.func32 rfl trivial ?_ rfl
  simp only [Try.ntmps32, List.size_toArray, List.length_cons, List.length_nil, Nat.reduceAdd, Nat.reduceSub, Array.replicate_succ, Array.replicate_zero, List.push_toArray, List.append_toArray, List.nil_append, List.cons_append]
  gi_wp2_with (rw [hmm])
  simp only [Nat.add_assoc, Nat.reduceAdd]
  obtain ⟨W5, hW5⟩ : ∃ y, (((((w.alloc (.cells #[.int .i64 n, .slice ao k cap] 24)).alloc (.cells #[.int .i64 0, .bool false, .slice none 0 0, .slice none 0 0] 57)).alloc (.map #[] 0)).alloc (.cells #[.int .i64 n, .map (some (w.heap.size + 2)), .slice none 0 0, .bool false] 66)).alloc (.cells #[.int .i64 0] 3)) = y := ⟨_, rfl⟩
  have hz5 : W5.heap.size = w.heap.size + 5 := by rw [← hW5]; simp
  have g5 : Below w.heap.size w W5 := by rw [← hW5]; exact ((((ba _ _).alloc (by simp) _).alloc (by simp; omega) _).alloc (by simp; omega) _).alloc (by simp; omega) _
  have r0 : W5.heap[w.heap.size]? = some (.cells #[.int .i64 n, .slice ao k cap] 24 (0, 0)) := by
    rw [← hW5]
    exact (h_old (w := ((((w.alloc (.cells #[.int .i64 n, .slice ao k cap] 24)).alloc (.cells #[.int .i64 0, .bool false, .slice none 0 0, .slice none 0 0] 57)).alloc (.map #[] 0)).alloc (.cells #[.int .i64 n, .map (some (w.heap.size + 2)), .slice none 0 0, .bool false] 66))) (by simp <;> omega) _).trans ((h_old (w := (((w.alloc (.cells #[.int .i64 n, .slice ao k cap] 24)).alloc (.cells #[.int .i64 0, .bool false, .slice none 0 0, .slice none 0 0] 57)).alloc (.map #[] 0))) (by simp <;> omega) _).trans ((h_old (w := ((w.alloc (.cells #[.int .i64 n, .slice ao k cap] 24)).alloc (.cells #[.int .i64 0, .bool false, .slice none 0 0, .slice none 0 0] 57))) (by simp <;> omega) _).trans ((h_old (w := (w.alloc (.cells #[.int .i64 n, .slice ao k cap] 24))) (by simp <;> omega) _).trans (h_new (w := w) (by simp) _))))
  have r1 : W5.heap[w.heap.size + 1]? = some (.cells #[.int .i64 0, .bool false, .slice none 0 0, .slice none 0 0] 57 (0, 0)) := by
    rw [← hW5]
    exact (h_old (w := ((((w.alloc (.cells #[.int .i64 n, .slice ao k cap] 24)).alloc (.cells #[.int .i64 0, .bool false, .slice none 0 0, .slice none 0 0] 57)).alloc (.map #[] 0)).alloc (.cells #[.int .i64 n, .map (some (w.heap.size + 2)), .slice none 0 0, .bool false] 66))) (by simp <;> omega) _).trans ((h_old (w := (((w.alloc (.cells #[.int .i64 n, .slice ao k cap] 24)).alloc (.cells #[.int .i64 0, .bool false, .slice none 0 0, .slice none 0 0] 57)).alloc (.map #[] 0))) (by simp <;> omega) _).trans ((h_old (w := ((w.alloc (.cells #[.int .i64 n, .slice ao k cap] 24)).alloc (.cells #[.int .i64 0, .bool false, .slice none 0 0, .slice none 0 0] 57))) (by simp <;> omega) _).trans (h_new (w := (w.alloc (.cells #[.int .i64 n, .slice ao k cap] 24))) (by simp) _)))
  have r2 : W5.heap[w.heap.size + 2]? = some (.map #[] 0) := by
    rw [← hW5]
    exact (h_old (w := ((((w.alloc (.cells #[.int .i64 n, .slice ao k cap] 24)).alloc (.cells #[.int .i64 0, .bool false, .slice none 0 0, .slice none 0 0] 57)).alloc (.map #[] 0)).alloc (.cells #[.int .i64 n, .map (some (w.heap.size + 2)), .slice none 0 0, .bool false] 66))) (by simp <;> omega) _).trans ((h_old (w := (((w.alloc (.cells #[.int .i64 n, .slice ao k cap] 24)).alloc (.cells #[.int .i64 0, .bool false, .slice none 0 0, .slice none 0 0] 57)).alloc (.map #[] 0))) (by simp <;> omega) _).trans (h_new (w := ((w.alloc (.cells #[.int .i64 n, .slice ao k cap] 24)).alloc (.cells #[.int .i64 0, .bool false, .slice none 0 0, .slice none 0 0] 57))) (by simp) _))
  have r3 : W5.heap[w.heap.size + 3]? = some (.cells #[.int .i64 n, .map (some (w.heap.size + 2)), .slice none 0 0, .bool false] 66 (0, 0)) := by
    rw [← hW5]
    exact (h_old (w := ((((w.alloc (.cells #[.int .i64 n, .slice ao k cap] 24)).alloc (.cells #[.int .i64 0, .bool false, .slice none 0 0, .slice none 0 0] 57)).alloc (.map #[] 0)).alloc (.cells #[.int .i64 n, .map (some (w.heap.size + 2)), .slice none 0 0, .bool false] 66))) (by simp <;> omega) _).trans (h_new (w := (((w.alloc (.cells #[.int .i64 n, .slice ao k cap] 24)).alloc (.cells #[.int .i64 0, .bool false, .slice none 0 0, .slice none 0 0] 57)).alloc (.map #[] 0))) (by simp) _)
  have r4 : W5.heap[w.heap.size + 4]? = some (.cells #[.int .i64 0] 3 (0, 0)) := by
    rw [← hW5]
    exact h_new (w := ((((w.alloc (.cells #[.int .i64 n, .slice ao k cap] 24)).alloc (.cells #[.int .i64 0, .bool false, .slice none 0 0, .slice none 0 0] 57)).alloc (.map #[] 0)).alloc (.cells #[.int .i64 n, .map (some (w.heap.size + 2)), .slice none 0 0, .bool false] 66))) (by simp) _
  have hmap : W5.ownsMap Try.prog 9 (plainElem (H := Unit) Try.prog 4) (w.heap.size + 2) 0 (.map []) := by
    rw [← hW5]
    have := ((World.ownsMap_made ((w.alloc (.cells #[.int .i64 n, .slice ao k cap] 24)).alloc (.cells #[.int .i64 0, .bool false, .slice none 0 0, .slice none 0 0] 57)) Try.prog 9 (plainElem (H := Unit) Try.prog 4)).alloc (.cells #[.int .i64 n, .map (some (w.heap.size + 2)), .slice none 0 0, .bool false] 66)).alloc (.cells #[.int .i64 0] 3)
    rwa [show ((w.alloc (.cells #[.int .i64 n, .slice ao k cap] 24)).alloc (.cells #[.int .i64 0, .bool false, .slice none 0 0, .slice none 0 0] 57)).heap.size = w.heap.size + 2 by simp] at this
  have HE5 : Hid (EI w n k cap ao kn (0, none) W5) := lid ⟨g5, r0, r1, fun _ => ⟨r3, _, hmap, KnOf.nil⟩, fun x e => (by cases e), r4, Nat.zero_le _⟩
  rw [hW5]
  have hx0 := hz5
  have HR3 := lid r3
  clear hW5 r0 r1 r2 r3 r4 hmap
  refine ⟨trivial, (callsIn_wide.2 (HGA.out _ W5 _ _ _ HR3.out)).mono ?_⟩
  rintro e w2 ⟨rfl, hw2⟩
  rw [hw2]
  clear hw2
  have HZ5 := lid hz5
  clear hz5 hx0
  have lz5 : w.heap.size + 4 < W5.heap.size := by have := HZ5.out; omega
  gi_wp2_with fail
  refine wpIn_rf (pre := #[.pointer (some ⟨w.heap.size + 3, 0, none⟩)]) (lb := #[]) rfl GE swv (AX kn W5.heap.size) (AT kn) (EI w n k cap ao kn) (EX w kn) (fun s x => ?hx) (fun s => EI.ab (by omega)) (fun c s x => EX.ab (by omega)) (0, none) HE5.out 5 (FS kn n) (FX kn n) W5.heap.size ?call ?assign ?body ?done ?stop
  case hx => exact (Ab.pure _).and (Ab.ia.and ((Ab.pure _).and ((Ab.pure _).and ((Ab.pure _).and (Ab.pure _)))))
  case call =>
    intro l' m' rec W' hz hJ1 hJ2 hR hj
    have hz5 := HZ5.out
    have := HGI.out kn (w.heap.size + 3) (w.heap.size + 2) l' m' W5.heap.size _ _ W' ⟨hJ1, hJ2, fun u W h => h.1.sim rfl, fun u x W ⟨c, h, _⟩ => h.2.2.2.1, fun u x W h hx hf => ⟨h.1.done hx (fun b o e => by have := hf b o e; omega), row_other (row_other h.2.1 (by omega)) (by omega), row_other (row_other h.2.2 (by omega)) (by omega)⟩⟩ hR (by omega) hj
    rw [show (#[.pointer (some ⟨w.heap.size + 3, 0, none⟩)] ++ #[.func (.yield l') #[] #[]] ++ #[] : Array Value) = #[.pointer (some ⟨w.heap.size + 3, 0, none⟩), .func (.yield l') #[] #[]] from rfl]
    refine this.mono ?_
    rintro e W3 ⟨rfl, ⟨s, h1, h2⟩ | ⟨s, x, h1, h2⟩⟩
    · exact ⟨rfl, .inl ⟨s, h1, h2⟩⟩
    · exact ⟨rfl, .inr ⟨s, x, h1, h2⟩⟩
  case assign =>
    intro l' m' x W' K hK
    gi_wp2_with fail
    exact hK
  case body =>
    rintro l' m' ⟨u, ph⟩ x W' hi ⟨rfl, hxa, hxr, hx64, hxl, hxf⟩ hsz
    obtain ⟨kx, hkx⟩ : ∃ y, x.vs.length = y := ⟨_, rfl⟩
    rw [hkx] at hxa hx64
    have HXA := lid hxa
    have HXR := lid hxr
    have HXF := lid hxf
    have HXL := lid hxl
    have HKX := lid hkx
    have HIF := lid hi
    simp only [swv, hkx, List.setIfInBounds_toArray, List.set_cons_succ, List.set_cons_zero]
    have c1 := row_cell hi.srch 1
    have us := row_cell hi.used 0
    have uz := row_fz hi.used 0
    have l0 := row_lt hi.srch
    have l1 := row_lt hi.stat
    have l4 := row_lt hi.used
    have huk : u ≤ k := by have := hi.hu; rw [HKL.out] at this; exact this
    have s0 := row_cell hi.stat 0
    have z0 := row_fz hi.stat 0
    have s1 := row_cell hi.stat 1
    have z1 := row_fz hi.stat 1
    have s2 := row_cell hi.stat 2
    have z2 := row_fz hi.stat 2
    have s3 := row_cell hi.stat 3
    have z3 := row_fz hi.stat 3
    clear hxa hxr hxf hxl hkx hi
    by_cases he : u = k
    · subst he
      have dk : ((u : Int) == (u : Int)) = true := by simp
      gi_wp2_with fail
      have HB := lid HIF.out.b
      have HUK := lid HIF.out.hu
      exact ⟨set4_kf (by omega) (by omega), rfl, set4_below HB.out (by omega), HUK.out, fun b e => by
        have := (List.getElem?_eq_some_iff.1 e).1
        have h2 := HKL.out
        omega, by rw [HKX.out]; exact set4_ia HXA.out (fun b o e => by have := HXF.out b o e; omega), fun b o e => (by have := HXF.out b o e; omega), _, _, _, _, set4_row HIF.out.stat _ _ _ _, by unfold statV; simp [swv, HKX.out, HKL.out]⟩
    · have dk : ((u : Int) == (k : Int)) = false := by simp; omega
      have hlt : u < k := by omega
      have hul : u < l.length := by rw [HN.out]; exact hlt
      have HKA := lid (HK.out.below HIF.out.b)
      obtain ⟨b1, o1, rfl, hlb, hcell⟩ := HKA.out.sl.at_ hlt
      have x0 := hcell (u * 2 + 0) _ (kcells_at hul).1
      have x1 := hcell (u * 2 + 1) _ (kcells_at hul).2
      rw [← Nat.add_assoc] at x1
      rw [Nat.add_zero] at x0
      have HOK := lid (HKA.out.ok _ (List.getElem_mem hul))
      have HLE := lid (HL.out _ (List.getElem_mem hul))
      have HKU : Hid (kn[u]? = some (l[u].vs, l[u].bad)) := lid (by rw [← HKN.out, List.getElem?_map, List.getElem?_eq_getElem hul]; rfl)
      obtain ⟨r, hr⟩ : ∃ r, l[u] = r := ⟨_, rfl⟩
      rw [hr] at x0 x1 HOK HLE HKU
      obtain ⟨rk, hrk⟩ : ∃ y, r.vs.length = y := ⟨_, rfl⟩
      rw [hrk] at HOK HLE
      replace x0 : W'.cell? ⟨b1, o1 + u * 2, none⟩ = some (.slice r.ao rk r.cap) := by rw [x0, ← hrk]
      have CE := lid (Equal_any x.vs r.vs kx x.cap rk r.cap x.ao r.ao W' (by omega) (by have := HLE.out; omega) HXA.out HOK.out)
      clear hcell hr hrk
      gi_wp2_with fail
      refine ⟨trivial, (fun h => by cases h), CallsIn.inRound l' ((callsIn_wide.2 CE.out).mono ?_)⟩
      rintro e w3 ⟨rfl, hb3⟩
      have HB := lid (HIF.out.b.trans (hb3.mono HIF.out.b.size))
      have HUK := lid HIF.out.hu
      have h3 := hb3.size
      have hl3 := Nat.lt_of_lt_of_le l1 h3
      have hl0 := Nat.lt_of_lt_of_le l0 h3
      have hl4 := Nat.lt_of_lt_of_le l4 h3
      have hlb3 := Nat.lt_of_lt_of_le hlb h3
      have HST := lid ((hb3.block _ l1).trans HIF.out.stat)
      have HXA3 := lid (HXA.out.below hb3)
      have HG3 := lid hb3
      have HE3 := lid (EI.ab (B := W5.heap.size) (by omega) W' w3 none HIF.out ⟨hb3.os, hb3.tape, hb3.output, hb3.size, fun k hk _ => hb3.block k hk⟩ (fun r e => by cases e))
      have p0 := (bc hb3 l0 1).trans c1
      have p1 := (bc hb3 l4 0).trans us
      have p2 := (bc hb3 hlb (o1 + u * 2 + 1)).trans x1
      replace s0 := row_cell HST.out 0
      replace z0 := row_fz HST.out 0
      replace s1 := row_cell HST.out 1
      replace z1 := row_fz HST.out 1
      replace s2 := row_cell HST.out 2
      replace z2 := row_fz HST.out 2
      replace s3 := row_cell HST.out 3
      replace z3 := row_fz HST.out 3
      by_cases hxe : x.vs = r.vs
      · rw [decide_eq_true hxe]
        have HXE := lid hxe
        have HM3 := lid (HE3.out.sim rfl)
        have p3 := row_cell HM3.out.sim 1
        have hlm := row_lt HM3.out.sim
        clear c1 us uz x0 x1 hb3 CE hxe
        gi_wp2_with fail
        refine wpIn_region_seqL 10 (fun w' => ∃ s : Since w3.heap.size w3, w' = s.world) [(0, true), (1, true), (2, true), (4, true), (5, true), (6, true), (7, true), (8, true), (9, true), (3, false), (10, false)] (by kernel_rfl) (by kernel_rfl) (since (Below.refl _ _).drew) ?_
        repeat (first | (refine seqL_skip (by rfl) (by rfl) (by rfl) ?_; simp only [Act.put, List.setIfInBounds_toArray, List.set_cons_succ, List.set_cons_zero]) | (refine seqL_float (by rfl) (by rfl) (by rfl) (by rfl) ?_; intro K hK; go_big_quiet_op; go_big_quiet_on))
        refine seqL_chain (by rfl) ?_
        intro K hK
        go_wp2_with fail
        (with_reducible refine (text_any x.vs kx x.cap x.ao _ (by omega) (HXA3.out.below (Below.refl _ _).drew)).mono ?_); rintro e w4 ⟨rfl, hb4⟩
        have g4 : Below w3.heap.size w3 w4 := (Below.refl _ _).drew.trans hb4
        have HM4 := lid (HM3.out.below g4)
        have HE4 := lid (EI.ab (B := W5.heap.size) (by omega) w3 w4 none HE3.out ⟨g4.os, g4.tape, g4.output, g4.size, fun k hk _ => g4.block k hk⟩ (fun r e => by cases e))
        obtain ⟨D, hD, hKD⟩ := HM4.out.map
        have HKD := lid hKD
        have HD := lid hD
        have h4 := g4.size
        clear hb4 hD hKD
        go_wp2_with fail
        refine hK.out _ _ (since g4) ?_
        clear hK K
        repeat (first | (refine seqL_skip (by rfl) (by rfl) (by rfl) ?_; simp only [Act.put, List.setIfInBounds_toArray, List.set_cons_succ, List.set_cons_zero]) | (refine seqL_float (by rfl) (by rfl) (by rfl) (by rfl) ?_; intro K hK; go_big_quiet_op; go_big_quiet_on))
        refine seqL_last (by rfl) (by rfl) ?_
        intro K hK
        go_wp2_with (at_mapUpdate; go_must (refine wpList_mapUpdate_own _ rfl _ _ _ 64 rfl 9 4 kstr Try.underlying64 (plainElem Try.prog 4) (w.heap.size + 2) u D rfl HD.out (by simp only [maxLen]; omega) _ _ (keyT x.vs) rfl rfl (key_ofT (by rw [HKX.out]; omega)) (.lit (.bool r.bad)) [] (plainElem_bool Try.underlying4 r.bad) ?_))
        intro w6 hown6 hg6
        have HO6 := lid hown6
        have HG6 := lid hg6
        clear hown6 hg6
        have h6 := HG6.out.size
        have RU := lid ((HG6.out.block _ (row_lt HE4.out.used) (fun e => by have := Option.some.inj e; omega)).trans HE4.out.used)
        have RS := lid ((HG6.out.block _ (row_lt HE4.out.srch) (fun e => by have := Option.some.inj e; omega)).trans HE4.out.srch)
        have RT := lid ((HG6.out.block _ (row_lt HE4.out.stat) (fun e => by have := Option.some.inj e; omega)).trans HE4.out.stat)
        have RM := lid ((HG6.out.block _ (row_lt HM4.out.sim) (fun e => by have := Option.some.inj e; omega)).trans HM4.out.sim)
        have b6 := row_cell RU.out 0
        have y6 := row_fz RU.out 0
        have t6 := row_lt RU.out
        have hb64 : Below w.heap.size w w6 := HE4.out.b.grown HG6.out (by have := HE4.out.b.size; omega) (fun j hj => by cases hj; omega)
        have HB6 := lid hb64
        have HG4 := lid g4
        have hukl : u < kn.length := by rw [HKL.out]; exact hlt
        have HTK : Hid (kn.take (u + 1) = kn.take u ++ [(x.vs, r.bad)]) := lid (by
          rw [List.take_succ_eq_append_getElem hukl]
          have h := HKU.out
          rw [List.getElem?_eq_getElem hukl] at h
          rw [Option.some.inj h, HXE.out])
        clear hb64 p0 p1 p2 p3 s0 s1 s2 s3 z0 z1 z2 z3
        go_wp2_with fail
        refine hK.out _ _ ⟨rfl, ?_⟩
        clear hK K
        gi_wp2_with fail
        refine ⟨((KF.below HG3.out).trans (KF.below HG4.out)).trans ((KF.grown HG6.out (by omega) (by omega)).trans (KF.setCell _ _ _ (by show w.heap.size + 4 < _; omega) (by show w.heap.size + 4 < _; omega))), (u + 1, none), ⟨⟨r.bad, by rw [HKU.out, HXE.out]⟩, rfl⟩, ⟨HB6.out.setCell (p := ⟨w.heap.size + 4, 0, none⟩) (by show w.heap.size ≤ w.heap.size + 4; omega) _, row_other RS.out (by omega), row_other RT.out (by omega), fun _ => ⟨row_other RM.out (by omega), D.put (keyT x.vs) (.lit (.bool r.bad)), World.ownsMap.setCell HO6.out (by show w.heap.size + 2 ≠ w.heap.size + 4; omega) _, by show KnOf _ (kn.take (u + 1)); rw [HTK.out]; exact HKD.out.put HXR.out r.bad HXL.out⟩, fun y e => (by cases e), ?_, hukl⟩⟩
        · have := row_set RU.out 0 (.int .i64 ((u : Int) + 1))
          simpa using this
      · rw [decide_eq_false hxe]
        have HXE := lid hxe
        clear c1 us uz x0 x1 hb3 CE hxe
        gi_wp2_with fail
        exact ⟨(KF.below HG3.out).trans (set4_kf (by omega) (by omega)), rfl, set4_below HB.out (by omega), HUK.out, fun b e => by
          rw [HKU.out] at e
          exact HXE.out (congrArg Prod.fst (Option.some.inj e)).symm, by rw [HKX.out]; exact set4_ia HXA3.out (fun b o e => by have := HXF.out b o e; omega), fun b o e => (by have := HXF.out b o e; omega), _, _, _, _, set4_row HST.out _ _ _ _, by unfold statV; simp [HKL.out]; omega⟩
  case done =>
    rintro D ⟨u, ph⟩ W' hD ⟨x, rfl, hL⟩ hi hdef
    have hL : Leads kn n ⟨x.vs, true, u⟩ := hL
    obtain ⟨kx, hkx⟩ : ∃ y, x.vs.length = y := ⟨_, rfl⟩
    have HKX := lid hkx
    have HIF := lid hi
    have HLD := lid hL
    have HDE := lid hdef
    obtain ⟨f1, f2, f3⟩ := hi.fin x rfl
    rw [show swv x = .slice x.ao kx x.cap by simp only [swv, hkx]] at f1
    rw [hkx] at f2
    have HF2 := lid f2
    have HF3 := lid f3
    have c1 := row_cell hi.srch 1
    have us := row_cell hi.used 0
    have m2 := row_cell f1 2
    have m3 := row_cell f1 3
    have l0 := row_lt hi.srch
    have l1 := row_lt hi.stat
    have l3 := row_lt f1
    have l4 := row_lt hi.used
    have huk : u ≤ k := by have := hi.hu; rw [HKL.out] at this; exact this
    have s0 := row_cell hi.stat 0
    have z0 := row_fz hi.stat 0
    have s1 := row_cell hi.stat 1
    have z1 := row_fz hi.stat 1
    have s2 := row_cell hi.stat 2
    have z2 := row_fz hi.stat 2
    have s3 := row_cell hi.stat 3
    have z3 := row_fz hi.stat 3
    clear hi hL hdef f1 f2 f3 hkx
    by_cases he : u < k
    · have dk : decide ((u : Int) < (k : Int)) = true := by simp; omega
      gi_wp2_with fail
      refine ⟨by simp, .inl ⟨D, _, rfl, run_takeDeferred ((row_other (row_other (row_other (row_other HDE.out (by omega)) (by omega)) (by omega)) (by omega))), ?_⟩⟩
      refine ⟨_, res_stat rfl _ _ (w.heap.size + 1) _ _ _ _ _ _ _ _ _ _ _ _ rfl rfl rfl rfl rfl ((World.putObj_heap_other (by omega)).trans (set4_row HIF.out.stat _ _ _ _)), ⟨x.vs, true, u⟩, x.ao, kx, x.cap, HLD.out, by unfold statV; rw [if_pos (by show u ≠ k; omega)], ?_, ?_, fun b o e => (by have := HF3.out b o e; omega)⟩
      · exact Ab.ia (B := 0) _ _ _ (set4_ia HF2.out (fun b o e => by have := HF3.out b o e; omega)) (grownBy_putObj' _ D _) (fun r e => by cases e; exact ⟨Nat.zero_le _, _, row_other (row_other (row_other (row_other HDE.out (by omega)) (by omega)) (by omega)) (by omega), rfl⟩)
      · exact (set4_below HIF.out.b (by omega)).grown (grownBy_putObj' _ D _) (by simp; have := HIF.out.b.size; omega) (fun j e => by cases e; omega)
    · obtain rfl : u = k := by omega
      have dk : decide ((u : Int) < (u : Int)) = false := by simp
      gi_wp2_with fail
      refine ⟨by simp, .inl ⟨D, _, rfl, run_takeDeferred ((row_other (row_other (row_other (row_other HDE.out (by omega)) (by omega)) (by omega)) (by omega))), ?_⟩⟩
      refine ⟨_, res_stat rfl _ _ (w.heap.size + 1) _ _ _ _ _ _ _ _ _ _ _ _ rfl rfl rfl rfl rfl ((World.putObj_heap_other (by omega)).trans (set4_row HIF.out.stat _ _ _ _)), ⟨x.vs, true, u⟩, x.ao, kx, x.cap, HLD.out, by unfold statV; simp, ?_, ?_, fun b o e => (by have := HF3.out b o e; omega)⟩
      · exact Ab.ia (B := 0) _ _ _ (set4_ia HF2.out (fun b o e => by have := HF3.out b o e; omega)) (grownBy_putObj' _ D _) (fun r e => by cases e; exact ⟨Nat.zero_le _, _, row_other (row_other (row_other (row_other HDE.out (by omega)) (by omega)) (by omega)) (by omega), rfl⟩)
      · exact (set4_below HIF.out.b (by omega)).grown (grownBy_putObj' _ D _) (by simp; have := HIF.out.b.size; omega) (fun j e => by cases e; omega)
  case stop =>
    rintro D c ⟨u, ph⟩ x W' hD ⟨hph, hL⟩ ⟨rfl, hbw, hu, hno, hia, hfr, e, n1, c1, a1, hst, heq⟩ hdef
    obtain ⟨kx, hkx⟩ : ∃ y, x.vs.length = y := ⟨_, rfl⟩
    have hL : Leads kn n ⟨x.vs, false, u⟩ := hL
    have HLD := lid hL
    have HBW := lid hbw
    have HIA := lid hia
    have HFR := lid hfr
    have HST := lid hst
    have HEQ := lid heq
    have HDE := lid hdef
    clear hL hbw hu hno hia hst heq hdef hph hfr
    gi_wp2_with fail
    refine ⟨by simp, .inl ⟨D, _, rfl, run_takeDeferred HDE.out, ?_⟩⟩
    refine ⟨_, res_stat rfl _ _ (w.heap.size + 1) _ _ _ _ _ _ _ _ _ _ _ _ rfl rfl rfl rfl rfl ((World.putObj_heap_other (by omega)).trans HST.out), ⟨x.vs, false, u⟩, x.ao, x.vs.length, x.cap, HLD.out, by rw [HEQ.out, HKL.out], ?_, ?_, HFR.out⟩
    · exact Ab.ia (B := 0) _ _ _ HIA.out (grownBy_putObj' _ D _) (fun r e => by cases e; exact ⟨Nat.zero_le _, _, HDE.out, rfl⟩)
    · exact HBW.out.grown (grownBy_putObj' _ D _) HBW.out.size (fun j e => by cases e; omega)
end Go.Proofs.Ytnjcoejnknpfoaa
