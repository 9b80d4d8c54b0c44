/-
  The law: the extreme cases.
-/
import Derived.Test.YtnjcoejnknpfoaaMinLawBase
namespace Go.Proofs.Ytnjcoejnknpfoaa
open Go.RowKit Go.Shelf
theorem asc_full : ∀ {n : Nat} {l : List Int}, Asc n l → l.length = n → l = upto n := by
  intro n l h hl
  have hlow : ∀ i (hi : i < l.length), (i : Int) ≤ l[i] := by
    intro i
    induction i with
    | zero => exact fun hi => (h.2 _ (List.getElem_mem hi)).1
    | succ i ih =>
      intro hi
      have h1 := ih (by omega)
      have h2 := (List.pairwise_iff_getElem.1 h.1) i (i + 1) (by omega) hi (by omega)
      omega
  have hup : ∀ d i (hi : i < l.length), i + d + 1 = n → l[i] ≤ (i : Int) := by
    intro d
    induction d with
    | zero =>
      intro i hi e
      have := (h.2 _ (List.getElem_mem hi)).2
      omega
    | succ d ih =>
      intro i hi e
      have h1 := ih (i + 1) (by omega) (by omega)
      have h2 := (List.pairwise_iff_getElem.1 h.1) i (i + 1) hi (by omega) (by omega)
      omega
  refine List.ext_getElem (by rw [upto_length, hl]) (fun i h1 h2 => ?_)
  have h3 := hlow i h1
  have h4 := hup (n - i - 1) i h1 (by omega)
  have h5 : (upto n)[i] = (i : Int) := by simp [upto]
  omega
/-- If no other set is bad, the result is the whole set. -/
theorem whole_none {n : Nat} {T : List (List Int)} {R : List Int} (h : Trc (orcF [] 0 0 n) n T R) : R = upto n := by
  have h1 := h.hit (orc_whole [] 0 0 n)
  rw [orc_lit] at h1
  simp only [List.map_nil, List.any_nil, Bool.or_false, decide_eq_true_eq] at h1
  have h2 := h.asc
  have hR : R.length = n := by omega
  -- an ascending list of n numbers from 0 to n - 1
  refine asc_full h2 hR
/-- If all sets are bad, it is the empty one, and questions are few. -/
theorem TrO.all {f : List Int → Bool} (hf : ∀ s, f s = true) {now r : List Int} {ch : Bool} {A T : List (List Int)} {R : List Int} (h : TrO f now ch r A T R) : (∀ y ∈ now, y ∈ r) → R = [] ∧ T.length ≤ A.length + r.length := by
  induction h with
  | @bad now ch x r A T R _ h ih =>
    intro hin
    obtain ⟨h1, h2⟩ := ih (fun y hy => by
      obtain ⟨hy1, hy2⟩ := mem_lessI.1 hy
      rcases List.mem_cons.1 (hin y hy1) with rfl | h3
      · exact absurd rfl hy2
      · exact h3)
    have h3 := memA_len A (lessI now x)
    refine ⟨h1, ?_⟩
    rw [List.length_cons]
    omega
  | @good now ch x r A T R hg _ _ =>
    rw [hf] at hg
    cases hg
  | @again now A T R h ih =>
    intro hin
    have hn : now = [] := List.eq_nil_iff_forall_not_mem.2 (fun y hy => by cases hin y hy)
    obtain ⟨h1, h2⟩ := ih (fun y hy => hy)
    rw [hn] at h2
    exact ⟨h1, h2⟩
  | @fin now A =>
    intro hin
    exact ⟨List.eq_nil_iff_forall_not_mem.2 (fun y hy => by cases hin y hy), by simp⟩
theorem few_all : ∀ n < 6, trF (fun _ => true) n (fromK n 0) [] = if n = 0 then ([], []) else ([[]], []) := by decide +kernel
theorem whole_all {n : Nat} {T : List (List Int)} {R : List Int} {x : Sw} (hx : x.vs = []) (h : Trc (orcF [x] 0 0 n) n T R) : R = [] ∧ T.length ≤ if 5 < n then n else 1 := by
  have e : orcF [x] 0 0 n = fun _ => true := by
    funext s
    rw [orc_lit]
    simp [hx, contI]
  rw [e] at h
  unfold Trc at h
  by_cases h5 : n ≤ 5
  · rw [if_pos h5] at h
    rw [few_all n (by omega)] at h
    rw [if_neg (by omega)]
    split at h
    · cases h; exact ⟨rfl, Nat.zero_le _⟩
    · cases h; exact ⟨rfl, Nat.le_refl _⟩
  · rw [if_neg h5] at h
    rw [if_pos (by omega)]
    cases h with
    | again h =>
      have := h.all (fun _ => rfl) (fun y hy => hy)
      rw [upto_length] at this
      simpa using this
/-- A literal of one empty set. -/
theorem lit_ga0 (w : World) : GA ((w.alloc (.cells #[] 3)).alloc (.cells #[.slice (some ⟨w.heap.size, 0, none⟩) 0 0] 30)) (some ⟨w.heap.size + 1, 0, none⟩) 1 1 [⟨[], some ⟨w.heap.size, 0, none⟩, 0⟩] := by
  have h2 := World.ownsRow_lit (base := w.heap.size) (e := 30) (size := 1) (w.alloc (.cells #[] 3)) #[.slice (some ⟨w.heap.size, 0, none⟩) 0 0] 1 (by simp) (by simp [maxLen]) rfl
  rw [show (w.alloc (.cells #[] 3)).heap.size = w.heap.size + 1 by simp] at h2
  obtain ⟨a2, c2, e2, hG⟩ := GA.of_own (l := [⟨[], some ⟨w.heap.size, 0, none⟩, 0⟩]) h2 (fun r hr => by
    rw [List.mem_singleton.1 hr]
    exact ⟨rfl, Sl.nil, Nat.le_refl _, by simp [maxLen], fun e => (by cases e)⟩)
  cases e2
  exact hG
theorem ga_nil (w : World) : GA w none 0 0 [] := ⟨rfl, Sl.nil, Nat.le_refl _, by simp [maxLen], (fun _ => rfl), (fun r hr => by cases hr)⟩
set_option maxRecDepth 100000 in
set_option maxHeartbeats 8000000 in
theorem LawWhole_any (m : Nat) (hm : m < 256) (w : World) :
    Calls Try.prog 10 #[.int .u8 m] w fun e w' => e = .returned (.bool true) ∧ Below w.heap.size w w' := by
  obtain ⟨n, hn⟩ : ∃ n, m % 11 = n := ⟨_, rfl⟩
  have hn10 : n ≤ 10 := by omega
  have hnI : (m : Int) % 11 = (n : Int) := by omega
  have hm0 : (0 : Int) ≤ (m : Int) := Int.natCast_nonneg m
  have C1 : Hid (∀ W : World, ∃ T : List (List Int), Calls Try.prog 26 #[.int .i64 n, .agg #[.slice none 0 0, .int .u64 0, .int .u8 0]] W (RnP W T (upto n))) := lid (fun W => by
    obtain ⟨T, R, hT⟩ := trc_ex (orcF [] 0 0 n) n
    obtain rfl := whole_none hT
    exact ⟨T, run_any n hn10 [] 0 0 none 0 0 W (ga_nil W) (by decide) (by decide) (fun s hs => by cases hs) T _ hT⟩)
  have C2 : Hid (∀ W : World, ∃ T : List (List Int), (T.length ≤ if 5 < n then n else 1) ∧ Calls Try.prog 26 #[.int .i64 n, .agg #[.slice (some ⟨W.heap.size + 1, 0, none⟩) 1 1, .int .u64 0, .int .u8 0]] ((W.alloc (.cells #[] 3)).alloc (.cells #[.slice (some ⟨W.heap.size, 0, none⟩) 0 0] 30)) (RnP ((W.alloc (.cells #[] 3)).alloc (.cells #[.slice (some ⟨W.heap.size, 0, none⟩) 0 0] 30)) T [])) := lid (fun W => by
    obtain ⟨T, R, hT⟩ := trc_ex (orcF [⟨[], some ⟨W.heap.size, 0, none⟩, 0⟩] 0 0 n) n
    obtain ⟨rfl, hl⟩ := whole_all rfl hT
    exact ⟨T, hl, run_any n hn10 _ 1 1 _ 0 0 _ (lit_ga0 W) (by decide) (by decide) (fun s hs => by rw [List.mem_singleton.1 hs]; exact Nat.zero_le _) T _ hT⟩)
  clear hn
  go_enter Try.func10, Try.ntmps10
  go_wp2_with fail
  obtain ⟨T1, CC1⟩ := C1.out w
  (with_reducible refine (CC1).mono ?_); rintro e w2 ⟨a1, n1, c1, vo, base, rs, rfl, hI, hrs, hO, hb2⟩
  have HI := lid hI
  have HLN : Hid (n1 = n) := lid (by have := hI.len; rw [upto_length] at this; exact this.symm)
  have HB2 := lid hb2
  clear CC1 hI hrs hO hb2
  go_wp2_with fail
  obtain ⟨T2, hT2, CC2⟩ := C2.out w2
  (with_reducible refine (CC2).mono ?_); rintro e w3 ⟨a2, n2, c2, vo2, base2, rs2, rfl, hI2, hrs2, hO2, hb3⟩
  obtain rfl : 0 = n2 := hI2.len
  obtain ⟨a5, c5, rfl, _⟩ := hO2.ga
  have h23 : Below w2.heap.size w2 w3 := ((ba w2 (.cells #[] 3)).alloc (by simp) (.cells #[.slice (some ⟨w2.heap.size, 0, none⟩) 0 0] 30)).trans (hb3.mono (by simp <;> omega))
  have HB3 := lid (HB2.out.trans (h23.mono HB2.out.size))
  have HI3 := lid (HI.out.below h23)
  obtain ⟨q, hq⟩ : ∃ q, rs2.length = q := ⟨_, rfl⟩
  have hqT : q = T2.length := by
    have := congrArg List.length hrs2
    rw [List.length_map] at this
    omega
  have HQ : Hid (q ≤ if 5 < n then n else 1) := lid (by rw [hqT]; exact hT2)
  rw [hq]
  clear CC2 hT2 hI2 hrs2 hO2 hb3 hqT hq h23
  by_cases h5 : 5 < n
  · have d5 : decide ((5 : Int) < (n : Int)) = true := by simp; omega
    have d51 : decide (5 < n) = true := by simp; omega
    have hqn : q ≤ n := by have := HQ.out; rw [if_pos h5] at this; exact this
    have dq : decide ((q : Int) ≤ (n : Int)) = true := by simp; omega
    have dq1 : decide (q ≤ n) = true := by simp; omega
    clear h5 HQ
    go_wp2_with fail
    (with_reducible refine (Whole_any n w3 (by omega)).mono ?_); rintro e w4 ⟨v4, rfl, hown4, hb4⟩
    obtain ⟨a4, c4, rfl, hI4⟩ := IA.of_own hown4
    have HB4 := lid (HB3.out.trans (hb4.mono HB3.out.size))
    have CQ := lid (SameSet_any (upto n) (upto n) n1 c1 n c4 a1 a4 w4 (by have := HLN.out; omega) (by omega) (HI3.out.below hb4) hI4)
    clear hown4 hI4 hb4
    go_wp2_with fail
    (with_reducible refine (CQ.out).mono ?_); rintro e w5 ⟨rfl, hb5⟩
    simp only [decide_true]
    have HB5 := lid (HB4.out.trans (hb5.mono HB4.out.size))
    clear hb5 CQ
    go_wp2_with fail
    (with_reducible refine (awake_any w5).mono ?_); rintro e w6 ⟨rfl, hb6⟩
    go_wp2_with fail
    go_ret
    exact ⟨ret_bool rfl, HB5.out.trans (hb6.mono HB5.out.size)⟩
  · have d5 : decide ((5 : Int) < (n : Int)) = false := by simp; omega
    have d51 : decide (5 < n) = false := by simp; omega
    have hqn : q ≤ 1 := by have := HQ.out; rw [if_neg h5] at this; exact this
    have dq : decide ((q : Int) ≤ 1) = true := by simp; omega
    have dq1 : decide (q ≤ 1) = true := by simp; omega
    clear h5 HQ
    go_wp2_with fail
    (with_reducible refine (Whole_any n w3 (by omega)).mono ?_); rintro e w4 ⟨v4, rfl, hown4, hb4⟩
    obtain ⟨a4, c4, rfl, hI4⟩ := IA.of_own hown4
    have HB4 := lid (HB3.out.trans (hb4.mono HB3.out.size))
    have CQ := lid (SameSet_any (upto n) (upto n) n1 c1 n c4 a1 a4 w4 (by have := HLN.out; omega) (by omega) (HI3.out.below hb4) hI4)
    clear hown4 hI4 hb4
    go_wp2_with fail
    (with_reducible refine (CQ.out).mono ?_); rintro e w5 ⟨rfl, hb5⟩
    simp only [decide_true]
    have HB5 := lid (HB4.out.trans (hb5.mono HB4.out.size))
    clear hb5 CQ
    go_wp2_with fail
    (with_reducible refine (awake_any w5).mono ?_); rintro e w6 ⟨rfl, hb6⟩
    go_wp2_with fail
    go_ret
    exact ⟨ret_bool rfl, HB5.out.trans (hb6.mono HB5.out.size)⟩
end Go.Proofs.Ytnjcoejnknpfoaa
