/-
  few of a simulation: all sets but the whole one, in order.
-/
import Derived.Test.YtnjcoejnknpfoaaMinAsk
namespace Go.Proofs.Ytnjcoejnknpfoaa
open Go.RowKit Go.Shelf
attribute [local go_sem] Oper.semAt_some
/-- The marks that the loops of a frame have left. -/
structure Mk (hi : Nat) (Ds : List Nat) (W : World) : Prop where
  nodup : Ds.Nodup
  ok : ∀ D ∈ Ds, D < hi ∧ W.heap[D]? = some (.deferred (some []))
def mks (Ds : List Nat) : List Deferred := Ds.map fun D => { target := .collected D, args := #[] }
theorem Mk.kf {hi B0 B : Nat} {Ds : List Nat} {W W' : World} (h : Mk hi Ds W) (k : KF B0 B W W') (hb : ∀ D ∈ Ds, B ≤ D) : Mk hi Ds W' :=
  ⟨h.nodup, fun D hD => ⟨(h.ok D hD).1, (k.same D (hb D hD) (Array.getElem?_eq_some_iff.1 (h.ok D hD).2).1).trans (h.ok D hD).2⟩⟩
theorem Mk.below {hi : Nat} {Ds : List Nat} {W W' : World} (h : Mk hi Ds W) (k : Below W.heap.size W W') : Mk hi Ds W' :=
  ⟨h.nodup, fun D hD => ⟨(h.ok D hD).1, (k.block D (Array.getElem?_eq_some_iff.1 (h.ok D hD).2).1).trans (h.ok D hD).2⟩⟩
theorem Mk.mono {hi hi' : Nat} {Ds : List Nat} {W : World} (h : Mk hi Ds W) (k : hi ≤ hi') : Mk hi' Ds W := ⟨h.nodup, fun D hD => ⟨Nat.lt_of_lt_of_le (h.ok D hD).1 k, (h.ok D hD).2⟩⟩
theorem Mk.ab {hi B : Nat} {Ds : List Nat} (k : hi ≤ B) : Ab B (Mk hi Ds) := fun W W' row hs hg hr => ⟨hs.nodup, fun D hD => ⟨(hs.ok D hD).1, by
  have h := (hs.ok D hD).2
  refine (hg.block D (Array.getElem?_eq_some_iff.1 h).1 (fun e => ?_)).trans h
  have := (hr D e.symm).1
  have := (hs.ok D hD).1
  omega⟩⟩
theorem Mk.cons {hi D : Nat} {Ds : List Nat} {W : World} (h : Mk hi Ds W) (h2 : hi ≤ D) (hD : W.heap[D]? = some (.deferred (some []))) : Mk (D + 1) (D :: Ds) W :=
  ⟨List.nodup_cons.2 ⟨fun hm => (by have := (h.ok D hm).1; omega), h.nodup⟩, fun E hE => by
    rcases List.mem_cons.1 hE with rfl | hE
    · exact ⟨by omega, hD⟩
    · exact ⟨by have := (h.ok E hE).1; omega, (h.ok E hE).2⟩⟩
theorem leaves_marks {n : Nat} {P : Program} {fn : Func} {tmps : Array Value} {R : Ending → World → Prop} {v : Value} {B : Nat} (hres : ∀ W, (results fn tmps).run P W = .ok v W) (hR : Ab B (R (.returned v))) :
    ∀ (Ds : List Nat) (W : World), Ds.Nodup → (∀ D ∈ Ds, B ≤ D ∧ W.heap[D]? = some (.deferred (some []))) → R (.returned v) W → LeavesInM Fence.wide n P fn tmps R (mks Ds) .returning W
  | [], W, _, _, h => ⟨v, hres W, h⟩
  | D :: Ds, W, hn, hd, h => by
    obtain ⟨hB, hD⟩ := hd D (by simp)
    refine ⟨by simp, .inl ⟨D, _, rfl, run_takeDeferred hD, ?_⟩⟩
    refine leaves_marks hres hR Ds _ (List.nodup_cons.1 hn).2 (fun E hE => ?_) (hR.putObj _ h hB hD rfl)
    have hne : E ≠ D := fun e => (List.nodup_cons.1 hn).1 (e ▸ hE)
    exact ⟨(hd E (by simp [hE])).1, (World.putObj_heap_other hne).trans (hd E (by simp [hE])).2⟩
/-- As SinceKF; besides, one cell is kept. -/
def SinceKM (B0 B mb : Nat) (W : World) : Type := { w' : World // KF B0 B W w' ∧ w'.cell? ⟨mb, 0, none⟩ = W.cell? ⟨mb, 0, none⟩ }
instance {B0 B mb : Nat} {W : World} : Nonempty (SinceKM B0 B mb W) := ⟨⟨W, KF.refl _ _ _, rfl⟩⟩
def SinceKM.world {B0 B mb : Nat} {W : World} (x : SinceKM B0 B mb W) : World := x.1
theorem sincekm {B0 B mb : Nat} {W w' : World} (h : KF B0 B W w') (h2 : w'.cell? ⟨mb, 0, none⟩ = W.cell? ⟨mb, 0, none⟩) : ∃ x : SinceKM B0 B mb W, w' = x.world := ⟨⟨w', h, h2⟩, rfl⟩
theorem SinceKM.cell {B0 B mb : Nat} {W : World} (b o : Nat) (hb : B0 ≤ b) {v : Value} (hv : W.cell? ⟨b, o, none⟩ = some v) : ∀ x : SinceKM B0 B mb W, x.world.cell? ⟨b, o, none⟩ = some v := fun x => by
  obtain ⟨ob, ho, hcl⟩ := cells_of_cell hv
  cases ob <;> first | (cases hcl; done) | skip
  rw [← hv]
  exact World.cell?_of_block (w := W) (a := ⟨b, o, none⟩) ((x.2.1.cells b _ _ _ hb ho).trans ho.symm)
theorem SinceKM.cellm {B0 B mb : Nat} {W : World} {v : Option Value} (hv : W.cell? ⟨mb, 0, none⟩ = v) : ∀ x : SinceKM B0 B mb W, x.world.cell? ⟨mb, 0, none⟩ = v := fun x => x.2.2.trans hv
/-- A region that does not panic. -/
theorem wp_ends {P : Program} {c : Code} {Q : Exit → Act → World → Prop} {a : Act} {w : World} (h : c.wp P (Ends Q) a w) : c.wp P Q a w := Code.wp_mono (fun _ _ _ q => q.2) h
/-- How a search ends, or stops. -/
def FS (kn : List Kn) (n : Nat) (s : Fs) : Prop := ∃ x, s.2 = some x ∧ Leads kn n ⟨x.vs, true, s.1⟩
def FX (kn : List Kn) (n : Nat) (s : Fs) (x : Sw) : Prop := s.2 = none ∧ Leads kn n ⟨x.vs, false, s.1⟩
def Fin (kn : List Kn) (n : Nat) (J : Fs → World → Prop) (Jx : Fs → Sw → World → Prop) (W : World) : Prop := (∃ s, FS kn n s ∧ J s W) ∨ (∃ s x, FX kn n s x ∧ Jx s x W)
theorem Fin.ab {kn : List Kn} {n B : Nat} {J : Fs → World → Prop} {Jx : Fs → Sw → World → Prop} (hJ : ∀ s, Ab B (J s)) (hJx : ∀ s x, Ab B (Jx s x)) : Ab B (Fin kn n J Jx) := fun W W' row hs hg hr => by
  rcases hs with ⟨s, h1, h2⟩ | ⟨s, x, h1, h2⟩
  · exact .inl ⟨s, h1, hJ s W W' row h2 hg hr⟩
  · exact .inr ⟨s, x, h1, hJx s x W W' row h2 hg hr⟩
theorem setsL_inR (n : Nat) : ∀ k low, ∀ s ∈ setsL n k low, ∀ x ∈ s, 0 ≤ x ∧ x < (n : Int)
  | 0, low, s, hs, x, hx => by
    simp only [setsL, List.mem_singleton] at hs
    subst hs
    cases hx
  | k + 1, low, s, hs, x, hx => by
    simp only [setsL, List.mem_flatMap, List.mem_map, List.mem_range'_1] at hs
    obtain ⟨i, ⟨h1, h2⟩, t, ht, rfl⟩ := hs
    rcases List.mem_cons.1 hx with rfl | hx
    · omega
    · exact setsL_inR n k (i + 1) t ht x hx
theorem upto_inR {n : Nat} (hn : n ≤ 64) : InR (upto n) := by
  intro x hx
  simp only [upto, List.mem_map, List.mem_range] at hx
  obtain ⟨i, hi, rfl⟩ := hx
  omega

/-- What a round of few keeps: the sets of this size that are still to come. -/
structure FI (kn : List Kn) (n mb l k e0 e1 hi : Nat) (Ds : List Nat) (J : Fs → World → Prop) (rest : List (List Int)) (W : World) : Prop where
  q : ∃ u, J (u, none) W ∧ runF kn n (rest ++ fromK n (k + 1)) u = runF kn n (fromK n 0) 0
  b1 : W.heap[e0]? = some (.cells #[.pointer (some ⟨mb, 0, none⟩)] 74 (0, 0))
  b2 : W.heap[e0 + 1]? = some (.cells #[.func (.yield l) #[] #[]] 78 (0, 0))
  b3 : W.heap[e1]? = some (.cells #[.int .i64 n] 3 (0, 0))
  b4 : W.heap[e1 + 1]? = some (.cells #[.int .i64 k] 3 (0, 0))
  mr : Mk hi Ds W
  hr : ∀ t ∈ rest, InR t ∧ t.length ≤ 64
theorem FI.ab {kn : List Kn} {n mb l k e0 e1 hi B : Nat} {Ds : List Nat} {J : Fs → World → Prop} {rest : List (List Int)} (hJ : ∀ s, Ab B (J s)) (h1 : e0 + 1 < B) (h2 : e1 + 1 < B) (h3 : hi ≤ B) : Ab B (FI kn n mb l k e0 e1 hi Ds J rest) := fun W W' row hs hg hr => by
  obtain ⟨u, hj, ht⟩ := hs.q
  exact ⟨⟨u, hJ _ W W' row hj hg hr, ht⟩, Ab.blk (B := B) (by omega) _ rfl W W' row hs.b1 hg hr, Ab.blk (B := B) h1 _ rfl W W' row hs.b2 hg hr, Ab.blk (B := B) (by omega) _ rfl W W' row hs.b3 hg hr, Ab.blk (B := B) h2 _ rfl W W' row hs.b4 hg hr, Mk.ab h3 W W' row hs.mr hg hr, hs.hr⟩
def FIx (kn : List Kn) (n hi : Nat) (Ds : List Nat) (J : Fs → World → Prop) (Jx : Fs → Sw → World → Prop) (c : Code) (W : World) : Prop := c = .ret ∧ Fin kn n J Jx W ∧ Mk hi Ds W

set_option maxRecDepth 100000 in
set_option maxHeartbeats 8000000 in
theorem few_any (kn : List Kn) (n mb bm l m B0 : Nat) (hn : n ≤ 5) (J : Fs → World → Prop) (Jx : Fs → Sw → World → Prop) (W : World) (hI : Inv kn n mb bm W.heap.size J Jx)
    (hY : RoundC Try.prog m l B0 W.heap.size swv (AX kn B0) (AT kn) J Jx) (hB0 : B0 ≤ W.heap.size) (hJ0 : J (0, none) W) :
    Calls Try.prog 41 #[.pointer (some ⟨mb, 0, none⟩), .func (.yield l) #[] #[]] W fun e W' => e = .returned (.tuple #[]) ∧ Fin kn n J Jx W' := by
  have HI := lid hI
  have HJ0 := lid hJ0
  have hM := hI.ms _ _ hJ0
  have k0 := row_cell hM.sim 0
  have hmb := row_lt hM.sim
  have HMB := lid hmb
  have HFA : Hid (Ab W.heap.size (Fin kn n J Jx)) := lid (Fin.ab hI.j hI.jx)
  clear hI hJ0 hM
  refine (callsIn_wide (n := m + 1)).1 ?_
  refine callsIn_of_wp_marks Try.func41 rfl trivial ?_ rfl
  simp only [Try.ntmps41, List.size_toArray, List.length_cons, List.length_nil, Nat.reduceAdd, Nat.reduceSub, Array.replicate_succ, Array.replicate_zero, List.push_toArray, List.append_toArray, List.nil_append, List.cons_append]
  gi_wp2_with fail
  refine wpIn_loop (fun a w => ∃ (k : Nat) (Ds : List Nat) (x4 x5 x6 x7 x13 x14 x15 x16 x17 x18 x19 x20 x21 x22 x23 x24 x25 x26 x27 x28 x29 x30 x31 x32 x33 x34 x35 x36 x37 x38 x39 x40 x41 x42 : Value), a = { tmps := #[.pointer (some ⟨mb, 0, none⟩), .func (.yield l) #[] #[], .pointer (some ⟨W.heap.size, 0, none⟩), .pointer (some ⟨W.heap.size + 1, 0, none⟩), x4, x5, x6, x7, .pointer (some ⟨mb, 0, none⟩), .pointer (some ⟨mb, 0, none⟩), .pointer (some ⟨mb, 0, none⟩), .int .i64 n, .int .i64 k, x13, x14, x15, x16, x17, x18, x19, x20, x21, x22, x23, x24, x25, x26, x27, x28, x29, x30, x31, x32, x33, x34, x35, x36, x37, x38, x39, x40, x41, x42], defers := mks Ds } ∧ k ≤ n ∧
      Hid (w.heap[W.heap.size]? = some (.cells #[.pointer (some ⟨mb, 0, none⟩)] 74 (0, 0))) ∧ Hid (w.heap[W.heap.size + 1]? = some (.cells #[.func (.yield l) #[] #[]] 78 (0, 0))) ∧
      Hid (Mk w.heap.size Ds w ∧ ∀ D ∈ Ds, W.heap.size ≤ D) ∧ ∃ u, Hid (J (u, none) w) ∧ Hid (runF kn n (fromK n k) u = runF kn n (fromK n 0) 0)) (fun a _ => n - (intOf (a.tmps[12]!)).toNat) ?_ ?_
  · refine ⟨0, [], _, _, _, _, _, _, _, _, _, _, _, _, _, _, _, _, _, _, _, _, _, _, _, _, _, _, _, _, _, _, _, _, _, _, rfl, Nat.zero_le _, lid ?_, lid ?_, lid ⟨⟨List.nodup_nil, fun D h => (by cases h)⟩, fun D h => (by cases h)⟩, 0, lid ?_, lid rfl⟩
    · exact (Below.heap_alloc _ _ _ (by simp)).trans (World.alloc_heap_new W _)
    · have := World.alloc_heap_new (W.alloc (.cells #[.pointer (some ⟨mb, 0, none⟩)] 74)) (.cells #[.func (.yield l) #[] #[]] 78)
      rwa [World.size_alloc] at this
    · exact (HI.out.j _).alloc _ ((HI.out.j _).alloc _ HJ0.out)
  · rintro a w ⟨k, Ds, x4, x5, x6, x7, x13, x14, x15, x16, x17, x18, x19, x20, x21, x22, x23, x24, x25, x26, x27, x28, x29, x30, x31, x32, x33, x34, x35, x36, x37, x38, x39, x40, x41, x42, rfl, hk, HB1, HB2, HMk, u, HJ, HT⟩
    have b2 := row_cell HB1.out 0
    have b3 := row_cell HB2.out 0
    have HM1 := lid (HI.out.ms _ _ HJ.out)
    have q0 := row_cell HM1.out.sim 0
    have hq := row_lt HM1.out.sim
    have hl2 := row_lt HB1.out
    have hl3 := row_lt HB2.out
    by_cases hlt : k < n
    · have dk : decide ((k : Int) < (n : Int)) = true := by simp; omega
      gi_wp2_with fail
      refine ⟨trivial, (callsIn_wide.2 (subsets_fn n k _)).mono ?_⟩
      rintro e w2 ⟨rfl, hw2⟩
      have g2 : Below w.heap.size w w2 := by rw [hw2]; exact (ba _ _).alloc (by simp) _
      have hz2 : w2.heap.size = w.heap.size + 2 := by rw [hw2]; simp
      have e0 : w2.heap[w.heap.size]? = some (.cells #[.int .i64 n] 3 (0, 0)) := by
        rw [hw2]
        exact (Below.heap_alloc _ _ _ (by simp)).trans (World.alloc_heap_new w _)
      have e1 : w2.heap[w.heap.size + 1]? = some (.cells #[.int .i64 k] 3 (0, 0)) := by
        rw [hw2]
        have := World.alloc_heap_new (w.alloc (.cells #[.int .i64 n] 3)) (.cells #[.int .i64 k] 3)
        rwa [World.size_alloc] at this
      clear hw2
      have HE0 := lid e0
      have HE1 := lid e1
      have hx2 := Nat.lt_of_lt_of_le hl2 g2.size
      have hx3 := Nat.lt_of_lt_of_le hl3 g2.size
      have HB1' := lid ((g2.block _ hl2).trans HB1.out)
      have HB2' := lid ((g2.block _ hl3).trans HB2.out)
      have HJ2 := lid ((HI.out.j _).below HJ.out g2)
      have HMk2 := lid (HMk.out.1.below g2)
      clear e0 e1 b2 b3 q0
      gi_wp2_with fail
      refine wpIn_rf (pre := #[]) (lb := #[.pointer (some ⟨w.heap.size + 1, 0, none⟩), .pointer (some ⟨w.heap.size, 0, none⟩)]) rfl (enters_of Try.func51 (by kernel_rfl) rfl)
        swv (SwX W.heap.size) SwT (FI kn n mb l k W.heap.size w.heap.size w2.heap.size Ds J) (fun c _ _ => FIx kn n w2.heap.size Ds J Jx c) (fun s x => (Ab.ia.and ((Ab.pure _).and (Ab.pure _)))) (fun s => FI.ab (fun s => (HI.out.j s).mono (by omega)) (by omega) (by omega) (Nat.le_refl _))
        (fun c s x => (Ab.pure _).and ((HFA.out.mono (Nat.le_of_lt hx2)).and (Mk.ab (Nat.le_refl _)))) (setsL n k 0) ⟨⟨u, HJ2.out, by rw [← fromK_step hlt]; exact HT.out⟩, HB1'.out, HB2'.out, HE0.out, HE1.out, HMk2.out.mono g2.size, ?hr0⟩ 5 (fun s => s = []) (fun _ _ => True) W.heap.size ?call ?assign ?body ?done ?stop
      case hr0 =>
        intro t ht
        refine ⟨fun y hy => ?_, ?_⟩
        · have := setsL_inR n k 0 t ht y hy
          omega
        · have := sets_len n (by omega) k (by omega) 0 (by omega) t ht
          omega
      case call =>
        intro l' m' rec W' hz hJ1 hJ2 hR hj
        have := subs_any k n l' m' W.heap.size W'.heap.size (w.heap.size + 1) w.heap.size (by omega) hn _ _ hJ1 hR W' hj.1.b4 hj.1.b3 (by omega) (by omega) (by omega) hj
        rw [show (#[] ++ #[.func (.yield l') #[] #[]] ++ #[.pointer (some ⟨w.heap.size + 1, 0, none⟩), .pointer (some ⟨w.heap.size, 0, none⟩)] : Array Value) = #[.func (.yield l') #[] #[], .pointer (some ⟨w.heap.size + 1, 0, none⟩), .pointer (some ⟨w.heap.size, 0, none⟩)] from rfl]
        refine this.mono ?_
        rintro e W3 ⟨rfl, h | ⟨s, x, h⟩⟩
        · exact ⟨rfl, .inl ⟨[], rfl, h⟩⟩
        · exact ⟨rfl, .inr ⟨s, x, trivial, h⟩⟩
      case assign =>
        intro l' m' x W' K hK
        gi_wp2_with fail
        exact hK
      case body =>
        intro l' m' s x W' hi hx hsz
        obtain ⟨hxa, hxf, t, rfl⟩ := hx
        obtain ⟨v, hJv, hTv⟩ := hi.q
        obtain ⟨hxr, hx64⟩ := hi.hr _ (List.mem_cons_self)
        obtain ⟨kx, hkx⟩ : ∃ y, x.vs.length = y := ⟨_, rfl⟩
        rw [hkx] at hxa hx64
        have HXA := lid hxa
        have HXF := lid hxf
        have HXR := lid hxr
        have HKX := lid hkx
        have HIF := lid hi
        have HJV := lid hJv
        have HTV := lid hTv
        have c2 := row_cell hi.b1 0
        have c3 := row_cell hi.b2 0
        have hi2 := row_lt hi.b1
        have hi3 := row_lt hi.b2
        simp only [swv, hkx, List.setIfInBounds_toArray, List.set_cons_succ, List.set_cons_zero]
        clear hxa hxf hxr hkx hi hJv hTv
        gi_wp2_with fail
        refine ⟨trivial, (fun h => by cases h), CallsIn.inRound l' ((callsIn_wide.2 (ask_any kn n mb bm l m B0 W.heap.size J Jx HI.out hY x kx HKX.out hx64 v W' HXA.out HXR.out (fun b o e => by have := HXF.out b o e; omega) HJV.out)).mono ?_)⟩
        rintro e W3 ⟨hk3, hp⟩
        have hk3' : KF W.heap.size W.heap.size W' W3 := hk3.mono hB0 (Nat.le_refl _)
        have HB3 := lid (hk3'.cells _ _ _ _ (Nat.le_refl _) HIF.out.b1)
        have HB4 := lid (hk3'.cells _ _ _ _ (by omega) HIF.out.b2)
        have HMD := lid HMk.out.2
        have HM3 := lid (HIF.out.mr.kf hk3' HMD.out)
        have h3 : W'.heap.size ≤ W3.heap.size := hk3.size
        have HK3 := lid hk3'
        unfold askPost at hp
        cases ha : ask1 kn v x.vs with
        | none =>
          rw [ha] at hp
          obtain ⟨rfl, hjx⟩ := hp
          have HFN : Hid (Fin kn n J Jx W3) := lid (.inr ⟨(v, none), x, ⟨rfl, by
            unfold Leads
            rw [if_pos hn, ← HTV.out, List.cons_append, runF, ha]⟩, hjx⟩)
          clear ha hjx hk3 hk3'
          gi_wp2_with fail
          exact ⟨HK3.out.mono (Nat.le_refl _) (Nat.le_of_lt hx2), rfl, HFN.out, HM3.out⟩
        | some r =>
          obtain ⟨b, u'⟩ := r
          rw [ha] at hp
          obtain ⟨rfl, hj⟩ := hp
          have HJ3 := lid hj
          have HA1 := lid ha
          have HS3 := lid (HI.out.ms _ _ hj).sim
          have HIA := lid (HK3.out.ia HXA.out HXF.out)
          clear ha hj hk3 hk3'
          cases b with
          | true =>
            have d2 := row_cell HB3.out 0
            have hd2 := row_lt HB3.out
            gi_wp2_with fail
            refine ⟨trivial, (fun h => by cases h), CallsIn.inRound l' ((callsIn_wide.2 (finish_any mb _ _ _ _ x.ao kx x.cap W3 HS3.out)).mono ?_)⟩
            rintro e W4 ⟨rfl, hW4⟩
            have HFN : Hid (Fin kn n J Jx W4) := lid (.inl ⟨(u', some x), ⟨x, rfl, by
              unfold Leads
              rw [if_pos hn, ← HTV.out, List.cons_append, runF, HA1.out]⟩, by
              rw [hW4]
              have := HI.out.fin u' x W3 HJ3.out (by rw [HKX.out]; exact HIA.out) HXF.out
              rwa [show swv x = .slice x.ao kx x.cap by simp only [swv, HKX.out]] at this⟩)
            have hk4 : KF W.heap.size W.heap.size W3 W4 := by
              rw [hW4]
              exact (KF.setCell _ _ _ HMB.out HMB.out).trans (KF.setCell _ _ _ HMB.out HMB.out)
            have HK4 := lid (HK3.out.trans hk4)
            have HM4 := lid (HM3.out.kf hk4 HMD.out)
            clear hW4 hk4
            gi_wp2_with fail
            exact ⟨HK4.out.mono (Nat.le_refl _) (Nat.le_of_lt hx2), rfl, HFN.out, HM4.out⟩
          | false =>
            have HTN : Hid (runF kn n (t ++ fromK n (k + 1)) u' = runF kn n (fromK n 0) 0) := lid (by
              have := HTV.out
              rw [List.cons_append, runF, HA1.out] at this
              exact this)
            gi_wp2_with fail
            exact ⟨HK3.out.mono (Nat.le_refl _) (Nat.le_of_lt hx2), t, rfl, ⟨u', HJ3.out, HTN.out⟩, HB3.out, HB4.out, HK3.out.cells _ _ _ _ (Nat.le_of_lt hl2) HIF.out.b3, HK3.out.cells _ _ _ _ (by omega) HIF.out.b4, HM3.out, fun y hy => HIF.out.hr y (List.mem_cons_of_mem _ hy)⟩
      case done =>
        rintro D s W' hD rfl hi hdef
        obtain ⟨v, hJv, hTv⟩ := hi.q
        have HJV := lid hJv
        have HTV := lid hTv
        have HIF := lid hi
        have HDE := lid hdef
        clear hi hJv hTv hdef
        gi_wp2_with fail
        refine ⟨⟨k + 1, D :: Ds, _, _, _, _, _, _, _, _, _, _, _, _, _, _, _, _, _, _, _, _, _, _, _, _, _, _, _, _, _, _, _, _, _, _, by simp only [Int.natCast_add, Int.natCast_one]; rfl, by omega, lid HIF.out.b1, lid HIF.out.b2, lid ⟨(HIF.out.mr.cons hD HDE.out).mono ?_, ?_⟩, v, lid HJV.out, lid (by simpa using HTV.out)⟩, ?_⟩
        · have := (Array.getElem?_eq_some_iff.1 HDE.out).1
          omega
        · intro E hE
          rcases List.mem_cons.1 hE with rfl | hE
          · omega
          · exact HMk.out.2 E hE
        · simp [intOf]
          omega
      case stop =>
        rintro D c s x W' hD _ ⟨rfl, hfin, hmk⟩ hdef
        have HFN := lid hfin
        have HMR := lid (hmk.cons hD hdef)
        clear hfin hmk hdef
        gi_wp2_with fail
        exact leaves_marks (B := W.heap.size) (R := fun e W' => e = .returned (.tuple #[]) ∧ Fin kn n J Jx W') (fun W => results_none rfl _ _ _) ((Ab.pure _).and HFA.out) (D :: Ds) W' HMR.out.nodup (fun E hE => ⟨by
          rcases List.mem_cons.1 hE with rfl | hE
          · omega
          · exact HMk.out.2 E hE, (HMR.out.ok E hE).2⟩) ⟨rfl, HFN.out⟩
    · obtain rfl : k = n := by omega
      have dk : decide ((k : Int) < (k : Int)) = false := by simp
      have HMD := lid HMk.out.2
      have HMR := lid HMk.out.1
      have HTV : Hid (runF kn k (fromK k 0) 0 = ⟨upto k, true, u⟩) := lid (by
        have := HT.out
        rw [fromK_none (Nat.le_refl _)] at this
        exact this.symm)
      gi_wp2_with fail
      have K2 := SinceKM.cell (B0 := W.heap.size) (B := W.heap.size) (mb := mb) (W := w) W.heap.size 0 (Nat.le_refl _) b2
      have Q0 := SinceKM.cellm (B0 := W.heap.size) (B := W.heap.size) (mb := mb) (W := w) q0
      clear b2 q0
      refine wpIn_wide.2 (wp_ends ?_)
      refine wp_region_seq (fun w' => ∃ s : SinceKM W.heap.size W.heap.size mb w, w' = s.world) [(0, true), (1, true), (2, true), (3, true), (4, true), (5, false), (6, false)] (by kernel_rfl) (by kernel_rfl) (by intro c d v a w h; cases h.1) (sincekm (KF.below (Below.refl _ _).drew) rfl) ?_
      repeat (first | (refine seq_skip (by rfl) (by rfl) ?_; simp only [Act.put, List.setIfInBounds_toArray, List.set_cons_succ, List.set_cons_zero]) | (refine seq_float (by rfl) (by rfl) (by rfl) ?_; intro K hK; go_big_quiet_op; go_big_quiet_on))
      refine seq_chain (by rfl) ?_
      intro K hK
      go_wp2_with fail
      (with_reducible refine (whole_any k w.drew (by omega)).mono ?_); rintro e w1 ⟨v1, rfl, hown1, hb1⟩
      have g1 : Below w.heap.size w w1 := (Below.refl _ _).drew.trans hb1
      obtain ⟨ao1, cap1, rfl, hA1⟩ := IA.of_own hown1
      have HFR1 : Hid (∀ b o, ao1 = some ⟨b, o, none⟩ → W.heap.size ≤ b) := lid (fun b o e => by have h := ownsRow_row hown1 b (by subst e; rfl); have h2 : w.drew.heap.size = w.heap.size := rfl; omega)
      have HA1 := lid hA1
      have HJ1 := lid ((HI.out.j _).below HJ.out g1)
      have HS1 := lid (HI.out.ms _ _ HJ1.out).sim
      have HM2 := lid (HMR.out.below g1)
      have HKF : Hid (KF W.heap.size W.heap.size w1 ((w1.setCell ⟨mb, 2, none⟩ (.slice ao1 k cap1)).setCell ⟨mb, 3, none⟩ (.bool true))) := lid ((KF.setCell _ _ _ HMB.out HMB.out).trans (KF.setCell _ _ _ HMB.out HMB.out))
      have HG1 := lid (bc g1 hq 0)
      clear hown1 hA1 hb1
      go_wp2_with fail
      refine hK.out _ _ (sincekm (KF.below g1) HG1.out) ?_
      clear hK K
      repeat (first | (refine seq_skip (by rfl) (by rfl) ?_; simp only [Act.put, List.setIfInBounds_toArray, List.set_cons_succ, List.set_cons_zero]) | (refine seq_float (by rfl) (by rfl) (by rfl) ?_; intro K hK; go_big_quiet_op; go_big_quiet_on))
      refine seq_chain (by rfl) ?_
      intro K hK
      go_wp2_with fail
      (with_reducible refine (finish_any mb _ _ _ _ ao1 k cap1 w1 HS1.out).mono ?_); rintro e w3 ⟨rfl, hw3⟩
      have HFN : Hid (Fin kn k J Jx w3) := lid (.inl ⟨(u, some ⟨upto k, ao1, cap1⟩), ⟨_, rfl, by
        unfold Leads
        rw [if_pos hn, HTV.out]⟩, by
        rw [hw3]
        have := HI.out.fin u ⟨upto k, ao1, cap1⟩ w1 HJ1.out (by rw [show (⟨upto k, ao1, cap1⟩ : Sw).vs.length = k from upto_length k]; exact HA1.out) HFR1.out
        rwa [show swv ⟨upto k, ao1, cap1⟩ = .slice ao1 k cap1 by simp only [swv, upto_length]] at this⟩)
      have HM3 : Hid (Mk w.heap.size Ds w3) := lid (by rw [hw3]; exact HM2.out.kf HKF.out HMD.out)
      have HK3 : Hid (KF W.heap.size W.heap.size w w3) := lid (by rw [hw3]; exact (KF.below g1).trans HKF.out)
      have HC3 : Hid (w3.cell? ⟨mb, 0, none⟩ = w.cell? ⟨mb, 0, none⟩) := lid (by
        rw [hw3, World.cell?_setCell_other _ _ _ _ (by intro e; cases e), World.cell?_setCell_other _ _ _ _ (by intro e; cases e)]
        exact HG1.out)
      clear hw3 HKF
      go_wp2_with fail
      refine hK.out _ _ (sincekm HK3.out HC3.out) ?_
      clear hK K
      refine seq_nil ⟨rfl, ?_⟩
      gi_wp2_with fail
      exact leaves_marks (B := W.heap.size) (R := fun e W' => e = .returned (.tuple #[]) ∧ Fin kn k J Jx W') (fun W => results_none rfl _ _ _) ((Ab.pure _).and HFA.out) Ds w3 HM3.out.nodup (fun E hE => ⟨HMD.out E hE, (HM3.out.ok E hE).2⟩) ⟨rfl, HFN.out⟩
end Go.Proofs.Ytnjcoejnknpfoaa
