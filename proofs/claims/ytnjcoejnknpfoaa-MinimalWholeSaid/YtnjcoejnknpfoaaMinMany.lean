/-
  many of a simulation: one element after the other is left out.
-/
import Derived.Test.YtnjcoejnknpfoaaMinFew
namespace Go.Proofs.Ytnjcoejnknpfoaa
open Go.RowKit Go.Shelf
def lenOf : Value → Nat
  | .slice _ n _ => n
  | _ => 0
def boolN : Value → Nat
  | .bool true => 1
  | _ => 0
theorem lessI_lt {l : List Int} {x : Int} (h : x ∈ l) : (lessI l x).length < l.length := by
  unfold lessI
  exact List.length_filter_lt_length_iff_exists.2 ⟨x, h, by simp⟩
theorem mem_lessI {l : List Int} {x y : Int} : y ∈ lessI l x ↔ y ∈ l ∧ y ≠ x := by simp [lessI]
theorem lessI_inR {l : List Int} {x : Int} (h : InR l) : InR (lessI l x) := fun y hy => h y (mem_lessI.1 hy).1
theorem lessI_nodup {l : List Int} {x : Int} (h : l.Nodup) : (lessI l x).Nodup := h.filter _
theorem upto_nodup (n : Nat) : (upto n).Nodup := by
  unfold upto
  exact List.pairwise_map.2 (List.nodup_range.imp (fun h e => h (by omega)))
/-- Where the rest of a pass leads, the whole search leads. -/
def To (kn : List Kn) (n : Nat) (now : List Int) (ch : Bool) (r : List Int) (u : Nat) : Prop := ∀ st, OutR kn now ch r u st → OutR kn (upto n) true [] 0 st
/-- The current set as it lies. -/
structure Cur (W : World) (e0 : Nat) (ao : Option Addr) (k cap : Nat) (now : List Int) : Prop where
  a : IA W ao k cap now
  f : ∀ b o, ao = some ⟨b, o, none⟩ → e0 ≤ b
  d : now.Nodup
  r : InR now
theorem Cur.kf {W W' : World} {e0 B : Nat} {ao : Option Addr} {k cap : Nat} {now : List Int} (h : Cur W e0 ao k cap now) (hk : KF e0 B W W') : Cur W' e0 ao k cap now := ⟨hk.ia h.a h.f, h.f, h.d, h.r⟩

set_option maxRecDepth 100000 in
set_option maxHeartbeats 8000000 in
theorem many_any (kn : List Kn) (n mb bm l m B0 : Nat) (hn : 5 < n) (hn10 : n ≤ 10) (J : Fs → World → Prop) (Jx : Fs → Sw → World → Prop) (W : World) (hI : Inv kn n mb bm W.heap.size J Jx)
    (hY : RoundC Try.prog m l B0 W.heap.size swv (AX kn B0) (AT kn) J Jx) (hB0 : B0 ≤ W.heap.size) (hJ0 : J (0, none) W) :
    Calls Try.prog 42 #[.pointer (some ⟨mb, 0, none⟩), .func (.yield l) #[] #[]] W fun e W' => e = .returned (.tuple #[]) ∧ Fin kn n J Jx W' := by
  have HI := lid hI
  have HJ0 := lid hJ0
  have hM := hI.ms _ _ hJ0
  have k0 := row_cell hM.sim 0
  have hmb := row_lt hM.sim
  have HLD : Hid (∀ st, OutR kn (upto n) true [] 0 st → Leads kn n st) := lid (fun st h => by unfold Leads; rw [if_neg (by omega)]; exact h)
  clear hI hJ0 hM
  go_enter Try.func42, Try.ntmps42
  go_wp2_with fail
  (with_reducible refine (whole_any n W (by omega)).mono ?_); rintro e w1 ⟨v1, rfl, hown1, hb1⟩
  obtain ⟨ao1, cap1, rfl, hA1⟩ := IA.of_own hown1
  have HC1 : Hid (Cur w1 W.heap.size ao1 n cap1 (upto n)) := lid ⟨hA1, fun b o e => ownsRow_row hown1 b (by subst e; rfl), upto_nodup n, upto_inR (by omega)⟩
  have HJ1 := lid ((HI.out.j _).below HJ0.out hb1)
  have h1 := hb1.size
  clear hown1 hA1 hb1 k0
  go_wp2_with fail
  go_loopw [4, 5] (fun vc vch wr => ∃ (k cap : Nat) (ao : Option Addr) (now : List Int) (ch : Bool) (u : Nat), vc = .slice ao k cap ∧ vch = .bool ch ∧ k ≤ n ∧ Hid (Cur wr W.heap.size ao k cap now) ∧ Hid (J (u, none) wr) ∧ W.heap.size ≤ wr.heap.size ∧ Hid (To kn n now ch [] u)) (fun vc vch _ => 2 * lenOf vc + boolN vch)
  case atStart => exact ⟨n, cap1, ao1, upto n, true, 0, rfl, rfl, Nat.le_refl _, HC1, HJ1, h1, lid (fun st h => h)⟩
  case round =>
    obtain ⟨k, cap, ao, now, ch, u, rfl, rfl, hk, HC, HJ, hWr, HT⟩ := hrel
    obtain ⟨wq, rfl⟩ : ∃ y, y = wr := ⟨_, rfl⟩
    cases ch with
    | false =>
      have HS := lid (HI.out.ms _ _ HJ.out).sim
      have HL := lid (HC.out.a.len)
      go_wp2_with fail
      (with_reducible refine (finish_any mb _ _ _ _ ao k cap wq HS.out).mono ?_); rintro e w3 ⟨rfl, hw3⟩
      have HFN : Hid (Fin kn n J Jx w3) := lid (.inl ⟨(u, some ⟨now, ao, cap⟩), ⟨_, rfl, HLD.out _ (HT.out _ OutR.fin)⟩, by
        rw [hw3]
        have := HI.out.fin u ⟨now, ao, cap⟩ wq HJ.out (by rw [show (⟨now, ao, cap⟩ : Sw).vs.length = k from HL.out]; exact HC.out.a) HC.out.f
        rwa [show swv ⟨now, ao, cap⟩ = .slice ao k cap by simp only [swv, HL.out]] at this⟩)
      clear hw3
      go_wp2_with fail
      go_end0
      exact ⟨rfl, HFN.out⟩
    | true =>
      have HLN := lid (HC.out.a.len)
      have HDN := lid (HC.out.d)
      go_wp2_with fail
      go_loopw [4, 5, 19] (fun vc vch vi wr => ∃ (k2 cap2 : Nat) (ao2 : Option Addr) (now2 : List Int) (ch2 : Bool) (u2 j : Nat), vc = .slice ao2 k2 cap2 ∧ vch = .bool ch2 ∧ vi = .int .i64 j ∧ j ≤ k ∧ k2 ≤ k ∧ (ch2 = true → k2 < k) ∧ Hid (Cur wr W.heap.size ao2 k2 cap2 now2) ∧ Hid (Cur wr W.heap.size ao k cap now) ∧ Hid (J (u2, none) wr) ∧ W.heap.size ≤ wr.heap.size ∧ Hid (∀ y ∈ now.drop j, y ∈ now2) ∧ Hid (To kn n now2 ch2 (now.drop j) u2)) (fun _ _ vi _ => k - (intOf vi).toNat)
      case atStart => exact ⟨k, cap, ao, now, false, u, 0, rfl, rfl, rfl, Nat.zero_le _, Nat.le_refl _, fun h => (by cases h), HC, HC, HJ, hWr, lid (fun y h => by simpa using h), lid (fun st h => HT.out st (OutR.again (by simpa using h)))⟩
      case round =>
        obtain ⟨k2, cap2, ao2, now2, ch2, u2, j, rfl, rfl, rfl, hj, hk2, hch, HC2, HP, HJ2, hWr2, HIN, HT2⟩ := hrel
        obtain ⟨wz, rfl⟩ : ∃ y, y = wr := ⟨_, rfl⟩
        have HCH := lid hch
        clear hch
        by_cases hlt : j < k
        · have dj : decide ((j : Int) < (k : Int)) = true := by simp; omega
          have hjl : j < now.length := by rw [HLN.out]; exact hlt
          obtain ⟨b1, o1, rfl, hlb, hcell⟩ := HP.out.a.sl.at_ hlt
          have x0 := hcell j _ (ivals_at hjl)
          have HDR : Hid (now.drop j = now[j] :: now.drop (j + 1)) := lid (List.drop_eq_getElem_cons hjl)
          obtain ⟨y, hy⟩ : ∃ y, now[j] = y := ⟨_, rfl⟩
          rw [hy] at x0 HDR
          have HM2 : Hid (y ∈ now2) := lid (HIN.out y (by rw [HDR.out]; exact List.mem_cons_self))
          have HND : Hid (∀ z ∈ now.drop (j + 1), z ≠ y) := lid (by
            have h := HDN.out.sublist (List.drop_sublist j now)
            rw [HDR.out] at h
            intro z hz e
            subst e
            exact (List.nodup_cons.1 h).1 hz)
          have HL2 := lid (HC2.out.a.len)
          clear hcell hy
          go_wp2_with fail
          obtain ⟨wa, hwa⟩ : ∃ q, wz.alloc (.cells #[.int .i64 y] 3) = q := ⟨_, rfl⟩
          have ga : Below wz.heap.size wz wa := by rw [← hwa]; exact ba _ _
          have hra : wa.heap[wz.heap.size]? = some (.cells #[.int .i64 y] 3 (0, 0)) := by rw [← hwa]; exact World.alloc_heap_new wz _
          rw [hwa]
          have HRA := lid hra
          have hza := ga.size
          have hla := row_lt hra
          clear hwa hra x0
          (with_reducible refine (Clone_int now2 k2 cap2 ao2 wa HL2.out (HC2.out.a.below ga).sl HC2.out.a.z (by omega)).mono ?_); rintro e w3 ⟨v3, rfl, hown3, hb3⟩
          have g3 := ga.trans (hb3.mono ga.size)
          have HO3 := lid hown3
          have h3 := hb3.size
          have HRA3 := lid ((hb3.block _ hla).trans HRA.out)
          have CD := lid (DeleteFuncI now2 v3 k2 wz.heap.size (fun v => decide (v = y)) wa.heap.size w3 HL2.out (by omega) HO3.out h3 (fun w' hb => many_asks wz.heap.size y w' ((hb.block _ hla).trans HRA3.out)))
          clear hown3 hb3
          go_wp2_with fail
          (with_reducible refine (CD.out).mono ?_); rintro e w5 ⟨v5, rfl, hown5, hb5⟩
          have g5 := g3.trans (hb5.mono hza)
          obtain ⟨k5, hk5⟩ : ∃ q, (lessI now2 y).length = q := ⟨_, rfl⟩
          have hown5' : w5.ownsRow wa.heap.size 3 1 v5 k5 (ivals (lessI now2 y)) := by rw [← hk5]; exact hown5
          obtain ⟨ao5, cap5, rfl, hA5⟩ := IA.of_own hown5'
          have HC5 : Hid (Cur w5 W.heap.size ao5 k5 cap5 (lessI now2 y)) := lid ⟨hA5, fun b o e => by
            have := ownsRow_row hown5' b (by subst e; rfl)
            omega, lessI_nodup HC2.out.d, lessI_inR HC2.out.r⟩
          have h52 : k5 < k2 := by rw [← hk5, ← HL2.out]; exact lessI_lt HM2.out
          have HK5 := lid hk5
          have HJ5 := lid ((HI.out.j _).below HJ2.out g5)
          have HG5 := lid (KF.below (B0 := W.heap.size) (B := W.heap.size) g5)
          have h5 := g5.size
          have hB5 : B0 ≤ w5.heap.size := by omega
          clear hown5 hown5' hA5 hb5 CD hk5 HO3 HRA3 HRA
          have CA := lid (ask_any kn n mb bm l m B0 W.heap.size J Jx HI.out hY ⟨lessI now2 y, ao5, cap5⟩ k5 HK5.out (by omega) u2 w5 HC5.out.a HC5.out.r (fun b o e => by have := HC5.out.f b o e; omega) HJ5.out)
          simp only at CA
          go_wp2_with fail
          (with_reducible refine CA.out.mono ?_)
          rintro e w7 ⟨hk7, hp⟩
          have HK7 := lid (hk7.mono hB0 (Nat.le_refl W.heap.size))
          have h7 := hk7.size
          unfold askPost at hp
          simp only at hp
          have HCN := lid (HC2.out.kf (HG5.out.trans HK7.out))
          have HPN := lid (HP.out.kf (HG5.out.trans HK7.out))
          have HC7 := lid (HC5.out.kf HK7.out)
          clear hk7 CA
          cases ha : ask1 kn u2 (lessI now2 y) with
          | none =>
            rw [ha] at hp
            obtain ⟨rfl, hjx⟩ := hp
            have HFN : Hid (Fin kn n J Jx w7) := lid (.inr ⟨(u2, none), ⟨lessI now2 y, ao5, cap5⟩, ⟨rfl, HLD.out _ (HT2.out _ (by rw [HDR.out]; exact OutR.stop ha))⟩, hjx⟩)
            clear ha hjx
            go_wp2_with fail
            exact bodyPost_ret (results_none rfl _ _ _) rfl ⟨rfl, HFN.out⟩
          | some r =>
            obtain ⟨b, u'⟩ := r
            rw [ha] at hp
            obtain ⟨rfl, hj7⟩ := hp
            have HA7 := lid ha
            have HJ7 := lid hj7
            clear ha hj7
            cases b with
            | true =>
              go_wp2_with fail
              go_roundw
              case rel => exact ⟨k5, cap5, ao5, lessI now2 y, true, u', j + 1, rfl, rfl, by go_num, by omega, by omega, fun _ => by omega, HC7, HPN, HJ7, by omega, lid (fun z hz => mem_lessI.2 ⟨HIN.out z (by rw [HDR.out]; exact List.mem_cons_of_mem _ hz), HND.out z hz⟩), lid (fun st h => HT2.out st (by rw [HDR.out]; exact OutR.bad HA7.out h))⟩
              case measure => simp [intOf]; omega
            | false =>
              go_wp2_with fail
              go_roundw
              case rel => exact ⟨k2, cap2, ao2, now2, ch2, u', j + 1, rfl, rfl, by go_num, by omega, by omega, HCH.out, HCN, HPN, HJ7, by omega, lid (fun z hz => HIN.out z (by rw [HDR.out]; exact List.mem_cons_of_mem _ hz)), lid (fun st h => HT2.out st (by rw [HDR.out]; exact OutR.good HA7.out h))⟩
              case measure => simp [intOf]; omega
        · obtain rfl : j = k := by omega
          have dj : decide ((j : Int) < (j : Int)) = false := by simp
          have HT3 : Hid (To kn n now2 ch2 [] u2) := lid (by
            have := HT2.out
            rwa [List.drop_of_length_le (by rw [HLN.out]; exact Nat.le_refl _)] at this)
          go_wp2_with fail
          go_roundw
          case rel => exact ⟨k2, cap2, ao2, now2, ch2, u2, rfl, rfl, by omega, HC2, HJ2, hWr2, HT3⟩
          case measure =>
            have := HCH.out
            cases ch2 with
            | true =>
              have := this rfl
              simp only [lenOf, boolN]
              omega
            | false =>
              simp only [lenOf, boolN]
              omega
end Go.Proofs.Ytnjcoejnknpfoaa
