/-
  The subsets in order: Sets of the reference.
-/
import Derived.Test.YtnjcoejnknpfoaaCells
import Derived.Test.YtnjcoejnknpfoaaMinGA
namespace Go.Proofs.Ytnjcoejnknpfoaa
open Go.RowKit
/-- The numbers from low to n - 1. -/
def setsL : (n : Nat) → (k : Nat) → (low : Nat) → List (List Int)
  | _, 0, _ => [[]]
  | n, k + 1, low => (List.range' low (n - low)).flatMap fun i => (setsL n k (i + 1)).map fun s => (i : Int) :: s
def setsTo (n k low i : Nat) : List (List Int) := (List.range' low (i - low)).flatMap fun i => (setsL n k (i + 1)).map fun s => (i : Int) :: s
theorem setsTo_succ {n k low i : Nat} (h : low ≤ i) : setsTo n k low (i + 1) = setsTo n k low i ++ (setsL n k (i + 1)).map fun s => (i : Int) :: s := by
  unfold setsTo
  rw [show i + 1 - low = (i - low) + 1 by omega, List.range'_1_concat, List.flatMap_append, show low + (i - low) = i by omega]
  simp
theorem sets_bound : ∀ n < 6, ∀ k < 6, ∀ low < 7, (setsL n k low).length ≤ 32 := by decide +kernel
theorem setsTo_bound : ∀ n < 6, ∀ k < 6, ∀ low < 7, ∀ i < 6, (setsTo n k low i).length ≤ 32 ∨ n < i := by decide +kernel
theorem sets_len : ∀ n < 6, ∀ k < 6, ∀ low < 7, ∀ s ∈ setsL n k low, s.length = k := by decide +kernel
theorem setsTo_end {n k low i : Nat} (h1 : low ≤ i) (h2 : i ≤ n ∨ i = low) (h3 : n ≤ i) : setsTo n k low i = setsL n (k + 1) low := by
  unfold setsTo
  rw [setsL, show i - low = n - low by omega]
theorem setsTo_zero (n k low : Nat) : setsTo n k low low = [] := by simp [setsTo]
theorem one_ints {w : World} {v : Value} {base : Nat} {e : TypeId} {m : Nat} {i : Int} {l : List Int} (h : w.ownsRow base e 1 v (1 + m) (#[Value.int .i64 i].toList ++ ivals l)) (hm : l.length = m) : ∃ ao cap, v = .slice ao (i :: l).length cap ∧ w.ownsRow base e 1 v (i :: l).length (ivals (i :: l)) ∧ IA w ao (i :: l).length cap (i :: l) := by
  have h' : w.ownsRow base e 1 v (i :: l).length (ivals (i :: l)) := by
    rw [List.length_cons, hm, Nat.add_comm]
    simpa [ivals] using h
  obtain ⟨ao, cap, e1, h2⟩ := IA.of_own h'
  exact ⟨ao, cap, e1, h', h2⟩

/-- The same; the sets lie in blocks of the call's own. -/
structure OutF (w : World) (base : Nat) (vo : Value) (rs : List Sw) : Prop where
  g : OutG w base vo rs
  fr : ∀ r ∈ rs, ∀ b o, r.ao = some ⟨b, o, none⟩ → base ≤ b ∧ b < w.heap.size
theorem OutF.below {w w' : World} {base : Nat} {vo : Value} {rs : List Sw} (h : OutF w base vo rs) (hb : Below w.heap.size w w') : OutF w' base vo rs := ⟨h.g.below hb, fun r hr b o e => ⟨(h.fr r hr b o e).1, Nat.lt_of_lt_of_le (h.fr r hr b o e).2 hb.size⟩⟩
theorem OutF.keep {w w' : World} {base : Nat} {vo : Value} {rs : List Sw} {tmp : Obj} {row : Option Nat} (h : OutF w base vo rs) (hg : (w.alloc tmp).grownBy w' row) (h1 : ∀ g, vo.ownBlock = some g → row ≠ some g) (h2 : ∀ r ∈ rs, ∀ b o, r.ao = some ⟨b, o, none⟩ → row ≠ some b) : OutF w' base vo rs := by
  have hsz : w.heap.size ≤ w'.heap.size := Nat.le_trans (by simp) hg.size
  refine ⟨⟨(h.g.own.alloc tmp).kept hg ?_, fun r hr => ?_, h.g.far⟩, fun r hr b o e => ⟨(h.fr r hr b o e).1, Nat.lt_of_lt_of_le (h.fr r hr b o e).2 hsz⟩⟩
  · cases hv : vo.ownBlock with
    | none => exact .inl rfl
    | some g => exact .inr (fun e => h1 g hv e.symm)
  · have hV1 := (h.g.ok r hr).below (ba w tmp)
    refine ⟨hV1.len, ⟨hV1.sl.1, ?_⟩, hV1.le, hV1.max, hV1.z⟩
    rcases hV1.sl.2 with h0 | ⟨b, o, e, hb, hc⟩
    · exact .inl h0
    · refine .inr ⟨b, o, e, Nat.lt_of_lt_of_le hb hg.size, fun j u hu => ?_⟩
      rw [← hc j u hu]
      exact World.cell?_of_block (w := w.alloc tmp) (a := ⟨b, o + j, none⟩) (hg.block b hb (fun e2 => h2 r hr b o e e2.symm))

set_option maxRecDepth 100000 in
set_option maxHeartbeats 8000000 in
theorem Sets_any (n : Nat) (hn : n ≤ 5) : ∀ (k : Nat), k ≤ 5 → ∀ (low : Nat), low ≤ 6 → ∀ w : World,
    Calls Try.prog 28 #[.int .i64 low, .int .i64 n, .int .i64 k] w fun e w' => ∃ (rs : List Sw) (vo : Value), e = .returned vo ∧ rs.map Sw.vs = setsL n k low ∧ OutF w' w.heap.size vo rs ∧ Below w.heap.size w w' := by
  intro k
  induction k with
  | zero =>
    intro _ low hlow w
    go_enter Try.func28, Try.ntmps28
    go_wp2_with fail
    go_ret
    have hz : (w.alloc (.cells #[] 3)).heap.size = w.heap.size + 1 := by simp
    refine ⟨[⟨[], some ⟨w.heap.size, 0, none⟩, 0⟩], .slice (some ⟨w.heap.size + 1, 0, none⟩) 1 1, rfl, rfl, ⟨⟨?_, ?_, ?_⟩, ?_⟩, ?_⟩
    · have := World.ownsRow_lit (base := w.heap.size) (e := 30) (size := 1) (w.alloc (.cells #[] 3)) #[.slice (some ⟨w.heap.size, 0, none⟩) 0 0] 1 (by simp) (by simp [maxLen]) rfl
      rw [hz] at this
      exact this
    · intro r hr
      rw [List.mem_singleton.1 hr]
      exact ⟨rfl, Sl.nil, Nat.le_refl _, by simp [maxLen], fun e => (by cases e)⟩
    · intro r hr b o e
      rw [List.mem_singleton.1 hr]
      exact .inr rfl
    · intro r hr b o e
      rw [List.mem_singleton.1 hr] at e
      cases e
      exact ⟨Nat.le_refl _, by simp <;> omega⟩
    · exact (ba _ _).alloc (by simp) _
  | succ k ih =>
    intro hk low hlow w
    have IH := lid (ih (by omega))
    clear ih
    have dk0 : (((k + 1 : Nat) : Int) == 0) = false := by simp; omega
    have ek : ((k + 1 : Nat) : Int) - 1 = (k : Int) := by omega
    obtain ⟨K, hK⟩ : ∃ K : Int, ((k + 1 : Nat) : Int) = K := ⟨_, rfl⟩
    rw [hK] at dk0 ek ⊢
    have hK6 : 0 ≤ K ∧ K ≤ 6 := by omega
    clear hK
    go_enter Try.func28, Try.ntmps28
    go_wp2_with fail
    go_loopw [7, 8, 9, 10] (fun vo i _ _ wr => ∃ (j : Nat) (rs : List Sw), low ≤ j ∧ (j ≤ n ∨ j = low) ∧ i = .int .i64 j ∧ Hid (rs.map Sw.vs = setsTo n k low j) ∧ Hid (OutF wr w.heap.size vo rs) ∧ Below w.heap.size w wr) (fun _ i _ _ _ => n - (intOf i).toNat)
    case atStart => exact ⟨low, [], Nat.le_refl _, .inr rfl, rfl, lid (setsTo_zero n k low).symm, lid ⟨⟨ownsRow_empty rfl (Nat.le_refl _), (fun r hr => by cases hr), (fun r hr => by cases hr)⟩, (fun r hr => by cases hr)⟩, ba _ _⟩
    case round =>
      obtain ⟨j, rs, hlj, hjn, rfl, HM, HO, hb⟩ := hrel
      obtain ⟨wq, rfl⟩ : ∃ y, y = wr := ⟨_, rfl⟩
      by_cases hlt : j < n
      · have dj : decide ((j : Int) < (n : Int)) = true := by simp; omega
        have CI : Hid (Calls Try.prog 28 #[.int .i64 ((j : Int) + 1), .int .i64 n, .int .i64 k] wq fun e w' => ∃ (rs : List Sw) (vo : Value), e = .returned vo ∧ rs.map Sw.vs = setsL n k (j + 1) ∧ OutF w' wq.heap.size vo rs ∧ Below wq.heap.size wq w') := lid (by
          have := IH.out (j + 1) (by omega) wq
          rwa [show ((j + 1 : Nat) : Int) = (j : Int) + 1 by omega] at this)
        go_wp2_with fail
        (with_reducible refine (CI.out).mono ?_); rintro e w2 ⟨r2, v2, rfl, hM2, hG2, hb2⟩
        obtain ⟨a2, c2, rfl, _⟩ := hG2.g.ga
        have HM2 := lid hM2
        have HG2 := lid hG2
        have HO2 := lid (HO.out.below hb2)
        have HLQ := lid (fun g e => (HO.out.g.own.lt g e).2)
        have HL2 := lid (fun g e => And.intro (ownsRow_row hG2.g.own g e) (hG2.g.own.lt g e).2)
        have HF2 := lid hG2.fr
        have hq2 := hb2.size
        have hb02 := hb.trans (hb2.mono hb.size)
        have HB1 : Hid (rs.length ≤ 32) := lid (by
          have h1 := congrArg List.length HM.out
          rw [List.length_map] at h1
          rcases setsTo_bound n (by omega) k (by omega) low (by omega) j (by omega) with h | h
          · omega
          · omega)
        have HB2 : Hid (r2.length ≤ 32) := lid (by
          have h1 := congrArg List.length HM2.out
          rw [List.length_map] at h1
          have := sets_bound n (by omega) k (by omega) (j + 1) (by omega)
          omega)
        clear CI hM2 hG2 hb2
        go_wp2_with fail
        go_loopw [7, 10] (fun vo i wr => ∃ (p : Nat) (rx : List Sw), p ≤ r2.length ∧ i = .int .i64 p ∧ rx.length = rs.length + p ∧ Hid (rx.map Sw.vs = setsTo n k low j ++ ((setsL n k (j + 1)).take p).map fun s => (j : Int) :: s) ∧ Hid (OutF wr w.heap.size vo rx) ∧ Hid (OutF wr wq.heap.size (.slice a2 r2.length c2) r2) ∧ Hid (∀ g, vo.ownBlock = some g → g < wq.heap.size ∨ w2.heap.size ≤ g) ∧ w2.heap.size ≤ wr.heap.size ∧ Below w.heap.size w wr) (fun _ i _ => r2.length - (intOf i).toNat)
        case atStart => exact ⟨0, rs, Nat.zero_le _, rfl, rfl, lid (by rw [HM.out]; simp), HO2, HG2, lid (fun g e => .inl (HLQ.out g e)), Nat.le_refl _, hb02⟩
        case round =>
          obtain ⟨p, rx, hp, rfl, hrx, HMX, HOX, HGX, HSP, h2r, hb0x⟩ := hrel
          have hpx : rx.length ≤ 70 := by have := HB1.out; have := HB2.out; omega
          have HRX := lid hrx
          clear hrx
          obtain ⟨aoX, capX, eX, _⟩ := HOX.out.g.ga
          subst eX
          have hr32 : r2.length ≤ 32 := HB2.out
          by_cases hpl : p < r2.length
          · have dp : decide ((p : Int) < (r2.length : Int)) = true := by simp; omega
            obtain ⟨b1, o1, rfl, hlb, hcell⟩ := (own_sl HGX.out.g.own).at_ hpl
            have x0 := hcell p _ (gcells_at hpl)
            have HTK : Hid ((setsL n k (j + 1)).take (p + 1) = (setsL n k (j + 1)).take p ++ [(r2[p]).vs]) := lid (by
              have hpl' : p < (setsL n k (j + 1)).length := by rw [← HM2.out, List.length_map]; exact hpl
              rw [List.take_succ_eq_append_getElem hpl']
              congr 2
              simp only [← HM2.out, List.getElem_map])
            have HI := lid (HGX.out.g.ok _ (List.getElem_mem hpl))
            have HL5 : Hid ((r2[p]).vs.length = k) := lid (sets_len n (by omega) k (by omega) (j + 1) (by omega) _ (by rw [← HM2.out]; exact List.mem_map.2 ⟨_, List.getElem_mem hpl, rfl⟩))
            obtain ⟨x, hx⟩ : ∃ x, r2[p] = x := ⟨_, rfl⟩
            rw [hx] at x0 HTK HI HL5
            obtain ⟨m, hm⟩ : ∃ m, x.vs.length = m := ⟨_, rfl⟩
            have HLM := lid hm
            rw [hm] at HI HL5
            replace x0 : wr.cell? ⟨b1, o1 + p, none⟩ = some (.slice x.ao m x.cap) := by rw [x0, ← hm]
            have hm5 : m ≤ 5 := by rw [HL5.out]; omega
            clear hcell hx hm
            go_wp2_with (at_builtin; go_must (refine wpList_append_slg rfl _ _ 30 rfl wr.heap.size 3 (.int .i64 0) 1 8 info_int Try.underlying30 rfl (by decide) _ 1 #[.int .i64 j].toList (World.ownsRow_lit wr #[.int .i64 j] 1 (Nat.le_refl _) (by simp [maxLen]) rfl) rfl x.ao m x.cap (ivals x.vs) rfl (HI.out.below (ba _ _)).sl HI.out.z (ivals_one _) (by simp only [maxLen]; omega) (by omega) (by simp) ?_))
            intro v5 w5 hown5 hb5 _
            obtain ⟨ao5, cap5, rfl, hown6, hIA⟩ := one_ints hown5 HLM.out
            have hb05 : Below wr.heap.size wr w5 := (ba _ _).trans (hb5.mono (Nat.le_refl _))
            have HOW := lid hown6
            have HIA := lid hIA
            have HO5 := lid (HOX.out.below hb05)
            have hb0w : Below w.heap.size w w5 := hb0x.trans (hb05.mono hb0x.size)
            have HG5 := lid (HGX.out.below hb05)
            have h5r := hb05.size
            have HOB := lid (fun (g : Nat) (e : (Value.slice aoX rx.length capX).ownBlock = some g) => (HOX.out.g.own.lt g e).2)
            obtain ⟨q, hq⟩ : ∃ q, (((j : Int)) :: x.vs).length = q := ⟨_, rfl⟩
            have HQ := lid hq
            rw [hq] at HOW HIA
            clear hown5 hown6 hIA hb5 x0
            rw [hq]
            go_wp2_with (at_builtin; go_must (refine wpList_append_new_at (w := w5) #[.slice ao5 q cap5] rfl _ _ 39 rfl w.heap.size 30 (.slice none 0 0) 1 24 info_ints Try.underlying39 rfl (by decide) _ rx.length _ HO5.out.g.own rfl rfl rfl (by intro u hu; simp only [List.mem_cons, List.not_mem_nil, or_false] at hu; rw [hu]; rfl) (by simp only [maxLen]; omega) (by omega) hb0w.size ?_))
            intro v9 w9 hown9 hg9 hat9
            have HOG9 : Hid (OutG w9 w.heap.size v9 (rx ++ [⟨(j : Int) :: x.vs, ao5, cap5⟩])) := lid (HO5.out.g.app (x := ⟨(j : Int) :: x.vs, ao5, cap5⟩) (by
                show w9.ownsRow _ _ _ _ _ (gcells rx ++ [.slice ao5 (((j : Int)) :: x.vs).length cap5])
                rw [HQ.out]
                exact hown9) hg9 hat9 (by
                show IA w5 ao5 (((j : Int)) :: x.vs).length cap5 ((j : Int) :: x.vs)
                rw [HQ.out]
                exact HIA.out) (fun b o e => by
                refine .inl fun e2 => ?_
                have h1 := HOB.out b e2.symm
                have h2 : (Value.slice ao5 q cap5).ownBlock = some b := by
                  have e' : ao5 = some ⟨b, o, none⟩ := e
                  rw [e']
                  rfl
                have h3 := ownsRow_row HOW.out b h2
                omega))
            have h59 : w5.heap.size ≤ w9.heap.size := Nat.le_trans (by simp) hg9.size
            have HO9 : Hid (OutF w9 w.heap.size v9 (rx ++ [⟨(j : Int) :: x.vs, ao5, cap5⟩])) := lid ⟨HOG9.out, fun r hr b o e => by
              rcases List.mem_append.1 hr with hr | hr
              · have := HO5.out.fr r hr b o e
                exact ⟨this.1, by omega⟩
              · rw [List.mem_singleton.1 hr] at e
                have h2 : (Value.slice ao5 q cap5).ownBlock = some b := by
                  have e' : ao5 = some ⟨b, o, none⟩ := e
                  rw [e']
                  rfl
                have h3 := HOW.out.lt b h2
                have h4 := hb0x.size
                exact ⟨by omega, by omega⟩⟩
            have HG9 : Hid (OutF w9 wq.heap.size (.slice _ r2.length c2) r2) := lid (HG5.out.keep hg9 (fun g e e2 => by
                have h1 := HL2.out g e
                rcases HSP.out g e2 with h | h <;> omega) (fun r hr b o e e2 => by
                have h1 := HF2.out r hr b o e
                rcases HSP.out b e2 with h | h <;> omega))
            have HSP9 : Hid (∀ g, v9.ownBlock = some g → g < wq.heap.size ∨ w2.heap.size ≤ g) := lid (fun g e => by
              rcases hat9 with h | h
              · exact HSP.out g (h ▸ e)
              · rw [e] at h
                have := Option.some.inj h
                omega)
            have hb9 : Below w.heap.size w w9 := (hb0w.alloc hb0w.size _).grown hg9 (by have := hb0w.size; simp; omega) (fun g e => ownsRow_row HO5.out.g.own g e)
            have h29 : w2.heap.size ≤ w9.heap.size := by omega
            clear hown9 hg9 hat9
            go_wp2_with fail
            go_roundw
            case rel => exact ⟨p + 1, _, by omega, by go_num, by rw [List.length_append, HRX.out]; rfl, lid (by rw [List.map_append, HMX.out, HTK.out]; simp), HO9, HG9, HSP9, h29, hb9⟩
            case measure => simp [intOf]; omega
          · obtain rfl : p = r2.length := by omega
            have dp : decide ((r2.length : Int) < (r2.length : Int)) = false := by simp
            have HF : Hid (rx.map Sw.vs = setsTo n k low (j + 1)) := lid (by
              rw [HMX.out, setsTo_succ hlj, List.take_of_length_le]
              rw [← HM2.out, List.length_map]
              exact Nat.le_refl _)
            go_wp2_with fail
            go_roundw
            case rel => exact ⟨j + 1, rx, by omega, .inl (by omega), by go_num, HF, HOX, hb0x⟩
            case measure => simp [intOf]; omega
      · have hnj : n ≤ j := by omega
        have HE : Hid (setsTo n k low j = setsL n (k + 1) low) := lid (setsTo_end hlj hjn hnj)
        have dj : decide ((j : Int) < (n : Int)) = false := by simp; omega
        go_wp2_with fail
        go_ret
        exact ⟨rs, _, rfl, HM.out.trans HE.out, HO.out, hb⟩
end Go.Proofs.Ytnjcoejnknpfoaa
