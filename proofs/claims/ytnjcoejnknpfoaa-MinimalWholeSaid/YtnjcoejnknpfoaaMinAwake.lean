/-
  The examples of the chapter.
-/
import Derived.Test.YtnjcoejnknpfoaaMinRun
namespace Go.Proofs.Ytnjcoejnknpfoaa
open Go.RowKit Go.Shelf
theorem orc_lit (L : List Sw) (n : Nat) (s : List Int) : orcF L 0 0 n s = (decide ((s.length : Int) = n) || (L.map Sw.vs).any fun b => contI s b) := by
  unfold orcF badB
  rw [oddB_zero]
  simp
theorem trc_three (x : Sw) (h : x.vs = [1, 2]) : ∃ T R, Trc (orcF [x] 0 0 3) 3 T R ∧ T.length = 7 ∧ R = [1, 2] := by
  have e : orcF [x] 0 0 3 = fun s => (decide ((s.length : Int) = 3) || contI s [1, 2]) := by
    funext s
    rw [orc_lit]
    simp [h]
  rw [e]
  refine ⟨(trF (fun s => (decide ((s.length : Int) = 3) || contI s [1, 2])) 3 (fromK 3 0) []).1, (trF (fun s => (decide ((s.length : Int) = 3) || contI s [1, 2])) 3 (fromK 3 0) []).2, ?_, ?_, ?_⟩
  · unfold Trc
    rw [if_pos (by decide)]
  · decide +kernel
  · decide +kernel
/-- The trace computed. -/
def trOf (f : List Int → Bool) : Nat → List Int → Bool → List Int → List (List Int) → Option (List (List Int) × List Int)
  | 0, _, _, _, _ => none
  | k + 1, now, true, [], A => trOf f k now false now A
  | _ + 1, now, false, [], A => some (A, now)
  | k + 1, now, ch, x :: r, A => if f (lessI now x) then trOf f k (lessI now x) true r (memA A (lessI now x)) else trOf f k now ch r (memA A (lessI now x))
theorem trOf_sound (f : List Int → Bool) : ∀ (k : Nat) (now : List Int) (ch : Bool) (r : List Int) (A T : List (List Int)) (R : List Int), trOf f k now ch r A = some (T, R) → TrO f now ch r A T R
  | 0, _, _, _, _, _, _, h => by cases h
  | k + 1, now, true, [], A, T, R, h => TrO.again (trOf_sound f k now false now A T R h)
  | k + 1, now, false, [], A, T, R, h => by
    cases h
    exact TrO.fin
  | k + 1, now, ch, x :: r, A, T, R, h => by
    have h' : (if f (lessI now x) then trOf f k (lessI now x) true r (memA A (lessI now x)) else trOf f k now ch r (memA A (lessI now x))) = some (T, R) := by
      cases ch <;> exact h
    split at h'
    · rename_i hf
      exact TrO.bad hf (trOf_sound f k _ true r _ T R h')
    · rename_i hf
      exact TrO.good (by simpa using hf) (trOf_sound f k now ch r _ T R h')
theorem trc_six (x : Sw) (h : x.vs = [2, 4]) : ∃ T R, Trc (orcF [x] 0 0 6) 6 T R ∧ T.length = 8 ∧ R = [2, 4] := by
  have e : orcF [x] 0 0 6 = fun s => (decide ((s.length : Int) = 6) || contI s [2, 4]) := by
    funext s
    rw [orc_lit]
    simp [h]
  rw [e]
  have h1 : (trOf (fun s => (decide ((s.length : Int) = 6) || contI s [2, 4])) 100 (upto 6) true [] []).map (fun p => (p.1.length, p.2)) = some (8, [2, 4]) := by decide +kernel
  obtain ⟨⟨T, R⟩, h2, h3⟩ := Option.map_eq_some_iff.1 h1
  refine ⟨T, R, ?_, congrArg Prod.fst h3, congrArg Prod.snd h3⟩
  unfold Trc
  rw [if_neg (by decide)]
  exact trOf_sound _ _ _ _ _ _ _ _ h2
/-- A literal of one set of two numbers. -/
theorem lit_ga (w : World) (x y : Int) : GA ((w.alloc (.cells #[.int .i64 x, .int .i64 y] 3)).alloc (.cells #[.slice (some ⟨w.heap.size, 0, none⟩) 2 2] 30)) (some ⟨w.heap.size + 1, 0, none⟩) 1 1 [⟨[x, y], some ⟨w.heap.size, 0, none⟩, 2⟩] := by
  have h1 := World.ownsRow_lit (base := w.heap.size) (e := 3) (size := 1) w #[.int .i64 x, .int .i64 y] 2 (Nat.le_refl _) (by simp [maxLen]) rfl
  have h2 := World.ownsRow_lit (base := w.heap.size) (e := 30) (size := 1) (w.alloc (.cells #[.int .i64 x, .int .i64 y] 3)) #[.slice (some ⟨w.heap.size, 0, none⟩) 2 2] 1 (by simp) (by simp [maxLen]) rfl
  obtain ⟨a1, c1, e1, hI⟩ := IA.of_own (l := [x, y]) (ownsRow_below h1 (ba _ (.cells #[.slice (some ⟨w.heap.size, 0, none⟩) 2 2] 30)))
  cases e1
  rw [show (w.alloc (.cells #[.int .i64 x, .int .i64 y] 3)).heap.size = w.heap.size + 1 by simp] at h2
  obtain ⟨a2, c2, e2, hG⟩ := GA.of_own (l := [⟨[x, y], some ⟨w.heap.size, 0, none⟩, 2⟩]) h2 (fun r hr => by
    rw [List.mem_singleton.1 hr]
    exact hI)
  cases e2
  exact hG
theorem lit_ia (w : World) (x y : Int) : IA (w.alloc (.cells #[.int .i64 x, .int .i64 y] 3)) (some ⟨w.heap.size, 0, none⟩) 2 2 [x, y] := by
  have h1 := World.ownsRow_lit (base := w.heap.size) (e := 3) (size := 1) w #[.int .i64 x, .int .i64 y] 2 (Nat.le_refl _) (by simp [maxLen]) rfl
  obtain ⟨a1, c1, e1, hI⟩ := IA.of_own (l := [x, y]) h1
  cases e1
  exact hI
set_option maxRecDepth 100000 in
set_option maxHeartbeats 4000000 in
theorem awake_any (w : World) : Calls Try.prog 12 #[] w fun e w' => e = .returned (.bool true) ∧ Below w.heap.size w w' := by
  have C3 : Hid (∀ W : World, ∃ T : List (List Int), T.length = 7 ∧ Calls Try.prog 26 #[.int .i64 3, .agg #[.slice (some ⟨W.heap.size + 1, 0, none⟩) 1 1, .int .u64 0, .int .u8 0]] ((W.alloc (.cells #[.int .i64 1, .int .i64 2] 3)).alloc (.cells #[.slice (some ⟨W.heap.size, 0, none⟩) 2 2] 30)) (RnP ((W.alloc (.cells #[.int .i64 1, .int .i64 2] 3)).alloc (.cells #[.slice (some ⟨W.heap.size, 0, none⟩) 2 2] 30)) T [1, 2])) := lid (fun W => by
    obtain ⟨T, R, hT, hl, rfl⟩ := trc_three ⟨[1, 2], some ⟨W.heap.size, 0, none⟩, 2⟩ rfl
    exact ⟨T, hl, run_any 3 (by decide) _ 1 1 _ 0 0 _ (lit_ga W 1 2) (by decide) (by decide) (fun s hs => by rw [List.mem_singleton.1 hs]; show 2 ≤ 1000; omega) T _ hT⟩)
  have C6 : Hid (∀ W : World, ∃ T : List (List Int), T.length = 8 ∧ Calls Try.prog 26 #[.int .i64 6, .agg #[.slice (some ⟨W.heap.size + 1, 0, none⟩) 1 1, .int .u64 0, .int .u8 0]] ((W.alloc (.cells #[.int .i64 2, .int .i64 4] 3)).alloc (.cells #[.slice (some ⟨W.heap.size, 0, none⟩) 2 2] 30)) (RnP ((W.alloc (.cells #[.int .i64 2, .int .i64 4] 3)).alloc (.cells #[.slice (some ⟨W.heap.size, 0, none⟩) 2 2] 30)) T [2, 4])) := lid (fun W => by
    obtain ⟨T, R, hT, hl, rfl⟩ := trc_six ⟨[2, 4], some ⟨W.heap.size, 0, none⟩, 2⟩ rfl
    exact ⟨T, hl, run_any 6 (by decide) _ 1 1 _ 0 0 _ (lit_ga W 2 4) (by decide) (by decide) (fun s hs => by rw [List.mem_singleton.1 hs]; show 2 ≤ 1000; omega) T _ hT⟩)
  go_enter Try.func12, Try.ntmps12
  go_wp2_with fail
  obtain ⟨T3, hT3, CC3⟩ := C3.out w
  (with_reducible refine (CC3).mono ?_); rintro e w2 ⟨a1, n1, c1, vo, base, rs, rfl, hI, hrs, hO, hb⟩
  obtain rfl : 2 = n1 := hI.len
  have HI := lid hI
  have HB := lid (((ba w (.cells #[.int .i64 1, .int .i64 2] 3)).alloc (by simp) (.cells #[.slice (some ⟨w.heap.size, 0, none⟩) 2 2] 30)).trans (hb.mono (by simp <;> omega)))
  obtain ⟨a2, c2, rfl, _⟩ := hO.ga
  have hlen : rs.length = 7 := by
    have := congrArg List.length hrs
    rw [List.length_map] at this
    omega
  rw [hlen]
  clear CC3 hT3 hI hrs hO hb hlen
  go_wp2_with fail
  obtain ⟨T6, hT6, CC6⟩ := C6.out w2
  (with_reducible refine (CC6).mono ?_); rintro e w3 ⟨a6, n6, c6, vo6, base6, rs6, rfl, hI, hrs, hO, hb⟩
  obtain rfl : 2 = n6 := hI.len
  have HI6 := lid hI
  have hb3 : Below w2.heap.size w2 w3 := ((ba w2 (.cells #[.int .i64 2, .int .i64 4] 3)).alloc (by simp) (.cells #[.slice (some ⟨w2.heap.size, 0, none⟩) 2 2] 30)).trans (hb.mono (by simp <;> omega))
  have HB3 := lid (HB.out.trans (hb3.mono HB.out.size))
  have HI3 := lid (HI.out.below hb3)
  obtain ⟨a5, c5, rfl, _⟩ := hO.ga
  have hlen : rs6.length = 8 := by
    have := congrArg List.length hrs
    rw [List.length_map] at this
    omega
  rw [hlen]
  clear CC6 hT6 hI hrs hO hb hb3 hlen
  go_wp2_with fail
  (with_reducible refine (SameSet_any [1, 2] [1, 2] 2 c1 2 2 a1 _ _ (by omega) (by omega) (HI3.out.below (ba _ _)) (lit_ia w3 1 2)).mono ?_); rintro e w4 ⟨rfl, hb4⟩
  have h34 := (ba w3 (.cells #[.int .i64 1, .int .i64 2] 3)).trans (hb4.mono (by simp))
  have HB4 := lid (HB3.out.trans (h34.mono HB3.out.size))
  have HI64 := lid (HI6.out.below h34)
  clear hb4 h34
  simp only [decide_true]
  go_wp2_with fail
  (with_reducible refine (SameSet_any [2, 4] [2, 4] 2 c6 2 2 a6 _ _ (by omega) (by omega) (HI64.out.below (ba _ _)) (lit_ia w4 2 4)).mono ?_); rintro e w5 ⟨rfl, hb5⟩
  have h45 := (ba w4 (.cells #[.int .i64 2, .int .i64 4] 3)).trans (hb5.mono (by simp))
  have HB5 := lid (HB4.out.trans (h45.mono HB4.out.size))
  clear hb5 h45
  simp only [decide_true]
  go_wp2_with fail
  go_ret
  exact ⟨ret_bool (by rfl), HB5.out⟩
end Go.Proofs.Ytnjcoejnknpfoaa
