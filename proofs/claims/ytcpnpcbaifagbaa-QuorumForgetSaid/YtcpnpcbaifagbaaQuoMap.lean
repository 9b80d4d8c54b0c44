/-
  Ballots: the votes counted by a map; Decide, Missing, Against of quorum.
-/
import Derived.Maps.OwnOps
import Derived.Maps.Views
import Derived.Maps.RangeWalk
import Derived.Test.YtcpnpcbaifagbaaQuoRef3
namespace Go.Proofs.Ytcpnpcbaifagbaa
open Go.RowKit

def keyS (c : ByteArray) : Lit := .string c.data.toList
theorem keyS_inj {a b : ByteArray} (h : keyS a = keyS b) : a = b := by
  have h1 : a.data.toList = b.data.toList := by simpa [keyS] using h
  apply ba_ext
  rw [ByteArray.toList_eq, ByteArray.toList_eq, h1]
theorem kstr : Maps.Keyed Try.prog 9 := Maps.string_keyed Try.underlying9
theorem zero_int (w : World) : (zeroValue 3).run Try.prog w = .ok (.int .i64 0) w := by kernel_rfl
theorem keyS_key (s : ByteArray) : WideAt.IsKeyLit (keyS s) := by exact True.intro
theorem key_of {s : ByteArray} (h : s.size ≤ maxLen) : keyOf Try.prog 9 (.string s) = some (keyS s) := WideMaps.keyOf_string_mk Try.underlying9 h
theorem key_inv {key : Value} {kl : Lit} (h : keyOf Try.prog 9 key = some kl) : ∃ s, key = .string s ∧ kl = keyS s := by
  have hk := Try.underlying9
  cases key <;> simp [keyOf, hk, mapKey] at h
  obtain ⟨_, rfl⟩ := h
  exact ⟨_, rfl, rfl⟩
/-- What the map of counts holds. -/
structure CntOf (D : DataW Unit) (l : List Vt) : Prop where
  map : Maps.IsMap D
  at_ : ∀ s, D.atKey (keyS s) (.lit (.int .i64 0)) = .lit (.int .i64 (cntV l s : Nat))
  has : ∀ s, Maps.has D (keyS s) = true ↔ ∃ v ∈ l, v.2 = s
theorem CntOf.nil : CntOf (.map []) [] := ⟨Maps.isMap_empty, fun _ => rfl, fun s => ⟨fun h => (by simp [Maps.has] at h), fun ⟨v, h, _⟩ => (by cases h)⟩⟩
theorem CntOf.put {D : DataW Unit} {l : List Vt} (h : CntOf D l) (v : Vt) : CntOf (D.put (keyS v.2) (.lit (.int .i64 ((cntV l v.2 : Nat) + 1)))) (l ++ [v]) := by
  have hc : ∀ s, cntV (l ++ [v]) s = cntV l s + (if v.2 = s then 1 else 0) := fun s => by
    unfold cntV
    rw [List.filter_append, List.length_append]
    by_cases e : v.2 = s <;> simp [e]
  refine ⟨h.map.put _ _, fun s => ?_, fun s => ?_⟩
  · by_cases e : v.2 = s
    · subst e
      rw [Maps.atKey_put_same h.map (keyS_key _), hc, if_pos rfl]
      rfl
    · have hk : keyS s ≠ keyS v.2 := fun hh => e (keyS_inj hh).symm
      rw [Maps.atKey_put_other hk, h.at_, hc, if_neg e]
      rfl
  · by_cases e : v.2 = s
    · subst e
      rw [Maps.has_put_same h.map (keyS_key _)]
      exact ⟨fun _ => ⟨v, by simp, rfl⟩, fun _ => rfl⟩
    · have hk : keyS s ≠ keyS v.2 := fun hh => e (keyS_inj hh).symm
      rw [Maps.has_put_other hk, h.has]
      constructor
      · rintro ⟨u, hu, eu⟩
        exact ⟨u, List.mem_append.2 (.inl hu), eu⟩
      · rintro ⟨u, hu, eu⟩
        rcases List.mem_append.1 hu with hu | hu
        · exact ⟨u, hu, eu⟩
        · rw [List.mem_singleton.1 hu] at eu
          exact absurd eu e
theorem wf_small {n : Nat} (h : n ≤ 9000000) : (Lit.int .i64 (n : Int)).wf = true := by
  simp [Lit.wf, IntKind.min, IntKind.max, IntKind.bits, IntKind.signed]
  omega

set_option maxRecDepth 100000 in
set_option maxHeartbeats 8000000 in
theorem count_any (l : List Vt) (n cap : Nat) (ao : Option Addr) (w : World) (hm : n ≤ 1000000) (h : VA w ao n cap l) :
    Calls Try.prog 50 #[.slice ao n cap] w fun e w' => ∃ D : DataW Unit, e = .returned (.map (some w.heap.size)) ∧ w'.ownsMap Try.prog 9 (plainElem Try.prog 3) w.heap.size n D ∧ CntOf D l ∧ Below w.heap.size w w' := by
  have HN := lid h.len
  have HS := lid h.sl
  have HZ := lid h.sz
  have HM := lid (World.ownsMap_made (H := Unit) w Try.prog 9 (plainElem Try.prog 3))
  have hmm := @run_makeMap Try.prog
  clear h
  go_enter Try.func50, Try.ntmps50
  go_wp2_with fail
  go_loopw [5, 9] (fun _ i wr => ∃ (k : Nat) (D : DataW Unit), k ≤ n ∧ i = .int .i64 k ∧ Hid (wr.ownsMap Try.prog 9 (plainElem Try.prog 3) w.heap.size k D) ∧ Hid (CntOf D (l.take k)) ∧ Below w.heap.size w wr) (fun _ i _ => n - (intOf i).toNat)
  case atStart => exact ⟨0, .map [], Nat.zero_le _, rfl, HM, lid CntOf.nil, ba _ _⟩
  case round =>
    obtain ⟨k, D, hk, rfl, HO, HD, hb⟩ := hrel
    by_cases hlt : k < n
    · have hkl : k < l.length := by rw [HN.out]; exact hlt
      obtain ⟨b1, o1, rfl, hlb, hcell⟩ := (HS.out.below hb).at_ hlt
      have x0 := hcell (k * 2 + 0) _ (vcells_at hkl).1
      have x1 := hcell (k * 2 + 1) _ (vcells_at hkl).2
      rw [← Nat.add_assoc] at x1
      rw [Nat.add_zero] at x0
      have HT : Hid (l.take (k + 1) = l.take k ++ [l[k]]) := lid (List.take_succ_eq_append_getElem hkl)
      have HSZ := lid (HZ.out _ (List.getElem_mem hkl)).2
      have dk : decide ((k : Int) < (n : Int)) = true := by simp; omega
      obtain ⟨x, hx⟩ : ∃ x, l[k] = x := ⟨_, rfl⟩
      rw [hx] at x0 x1 HT HSZ
      have HP := lid (HD.out.put x)
      have HA := lid (HD.out.at_ x.2)
      have hcn : cntV (l.take k) x.2 ≤ k := Nat.le_trans (cnt_le _ _) (List.length_take_le _ _)
      obtain ⟨q, hq⟩ : ∃ q, cntV (l.take k) x.2 = q := ⟨_, rfl⟩
      rw [hq] at HP HA hcn
      clear hcell hx hq
      go_wp2_with (at_lookup; go_must (refine wpList_lookup_own_int _ rfl _ _ 76 rfl 9 3 .i64 kstr Try.underlying76 Try.underlying3 (zero_int _) w.heap.size k D rfl (HO.out.alloc _) _ (keyS x.2) rfl (key_of HSZ.out) ?_))
      intro c hat hwc
      obtain rfl : c = (q : Int) := by
        rw [HA.out] at hat
        simpa using hat.symm
      clear hat hwc
      have hq1 : IntKind.i64.wrap ((q : Int) + 1) = (q : Int) + 1 := by rw [IntKind.wrap_i64]; omega
      go_wp2_with (at_mapUpdate; go_must (refine wpList_mapUpdate_own _ rfl _ _ _ 76 rfl 9 3 kstr Try.underlying76 (plainElem Try.prog 3) w.heap.size k D rfl (HO.out.alloc _) (by simp only [maxLen]; omega) _ _ (keyS x.2) rfl rfl (key_of HSZ.out) (.lit (.int .i64 ((q : Int) + 1))) [] (plainElem_int Try.underlying3 (by have := wf_small (n := q + 1) (by omega); simpa using this)) ?_))
      intro w3 hown3 hg3
      have HO3 := lid hown3
      have HD3 : Hid (CntOf (D.put (keyS x.2) (.lit (.int .i64 ((q : Int) + 1)))) (l.take (k + 1))) := lid (by rw [HT.out]; exact HP.out)
      have hb3 := ((hb.alloc hb.size _).grown hg3 (by have := hb.size; simp; omega) (fun j hj => by cases hj; exact Nat.le_refl _))
      clear hown3 hg3 x0 x1
      go_wp2_with fail
      go_roundw
      case rel => exact ⟨k + 1, _, by omega, by go_num, HO3, HD3, hb3⟩
      case measure => simp [intOf]; omega
    · obtain rfl : k = n := by omega
      have HTK : Hid (l.take k = l) := lid (List.take_of_length_le (Nat.le_of_eq HN.out))
      rw [HTK.out] at HD
      have dk : decide ((k : Int) < (k : Int)) = false := by simp
      go_wp2_with fail
      go_ret
      exact ⟨D, rfl, HO.out, HD.out, hb⟩

/-- The least output of enough votes, of those that have been seen. -/
structure DecOn (L : List Vt) (n : Int) (P : ByteArray → Prop) (r : ByteArray × Bool) : Prop where
  yes : r.2 = true → P r.1 ∧ n ≤ cntV L r.1 ∧ ∀ s, P s → n ≤ cntV L s → ltB s r.1 = false
  no : r.2 = false → r.1 = ⟨#[]⟩ ∧ ∀ s, P s → ¬ n ≤ cntV L s
theorem DecOn.take {L : List Vt} {n : Int} {P P' : ByteArray → Prop} {r : ByteArray × Bool} {x : ByteArray} (h : DecOn L n P r) (hP : ∀ s, P' s ↔ P s ∨ s = x) (h1 : n ≤ cntV L x) (h2 : r.2 = false ∨ ltB x r.1 = true) : DecOn L n P' (x, true) := by
  refine ⟨fun _ => ⟨(hP x).2 (.inr rfl), h1, fun s hs hn => ?_⟩, fun e => by cases e⟩
  rcases (hP s).1 hs with hs | rfl
  · cases hr : r.2 with
    | false => exact absurd hn ((h.no hr).2 s hs)
    | true =>
      have h3 := (h.yes hr).2.2 s hs hn
      rw [hr] at h2
      rcases h2 with h2 | h2
      · cases h2
      · cases hc : ltB s x with
        | false => rfl
        | true =>
          have := ltB_trans hc h2
          rw [h3] at this
          cases this
  · exact ltB_irrefl s
theorem DecOn.skip {L : List Vt} {n : Int} {P P' : ByteArray → Prop} {r : ByteArray × Bool} {x : ByteArray} (h : DecOn L n P r) (hP : ∀ s, P' s ↔ P s ∨ s = x) (h1 : ¬ (n ≤ cntV L x ∧ (r.2 = false ∨ ltB x r.1 = true))) : DecOn L n P' r := by
  refine ⟨fun hr => ?_, fun hr => ?_⟩
  · obtain ⟨a, b, c⟩ := h.yes hr
    refine ⟨(hP _).2 (.inl a), b, fun s hs hn => ?_⟩
    rcases (hP s).1 hs with hs | rfl
    · exact c s hs hn
    · cases hc : ltB s r.1 with
      | false => rfl
      | true => exact absurd ⟨hn, .inr hc⟩ h1
  · obtain ⟨a, c⟩ := h.no hr
    refine ⟨a, fun s hs hn => ?_⟩
    rcases (hP s).1 hs with hs | rfl
    · exact c s hs hn
    · exact h1 ⟨hn, .inl hr⟩
theorem DecOn.unique {L : List Vt} {n : Int} {P P' : ByteArray → Prop} {r r' : ByteArray × Bool} (h : DecOn L n P r) (h' : DecOn L n P' r') (hP : ∀ s, P s ↔ P' s) : r = r' := by
  obtain ⟨a, b⟩ := r
  obtain ⟨a', b'⟩ := r'
  cases b with
  | false =>
    obtain ⟨e, hn⟩ := h.no rfl
    cases b' with
    | false =>
      obtain ⟨e', _⟩ := h'.no rfl
      simp only at e e'
      rw [e, e']
    | true =>
      obtain ⟨p, q, _⟩ := h'.yes rfl
      exact absurd q (hn _ ((hP _).2 p))
  | true =>
    obtain ⟨p, q, c⟩ := h.yes rfl
    cases b' with
    | false =>
      obtain ⟨_, hn⟩ := h'.no rfl
      exact absurd q (hn _ ((hP _).1 p))
    | true =>
      obtain ⟨p', q', c'⟩ := h'.yes rfl
      have h1 := c a' ((hP _).2 p') q'
      have h2 := c' a ((hP _).1 p) q
      simp only at h1 h2
      rcases ltB_total a a' with h3 | h3 | h3
      · rw [h3] at h2; cases h2
      · rw [h3]
      · rw [h3] at h1; cases h1
theorem decGo_on {L : List Vt} {n : Int} (hn : 1 ≤ n) : ∀ (m : List Vt) (P : ByteArray → Prop) (r : ByteArray × Bool), DecOn L n P r → DecOn L n (fun s => P s ∨ ∃ v ∈ m, v.2 = s) (decGo L n m r)
  | [], P, r, h => by
    have : (fun s => P s ∨ ∃ v ∈ ([] : List Vt), v.2 = s) = P := by
      funext s
      simp
    rw [this]
    exact h
  | v :: m, P, r, h => by
    have e : (fun s => P s ∨ ∃ u ∈ v :: m, u.2 = s) = (fun s => (P s ∨ s = v.2) ∨ ∃ u ∈ m, u.2 = s) := by
      funext s
      apply propext
      constructor
      · rintro (h | ⟨u, hu, e⟩)
        · exact .inl (.inl h)
        · rcases List.mem_cons.1 hu with rfl | hu
          · exact .inl (.inr e.symm)
          · exact .inr ⟨u, hu, e⟩
      · rintro ((h | e) | ⟨u, hu, e⟩)
        · exact .inl h
        · exact .inr ⟨v, by simp, e.symm⟩
        · exact .inr ⟨u, List.mem_cons_of_mem _ hu, e⟩
    rw [e]
    by_cases hc : n ≤ cntV L v.2 ∧ (r.2 = false ∨ ltB v.2 r.1 = true)
    · rw [dec_take ⟨hn, hc⟩]
      exact decGo_on hn m _ _ (h.take (fun _ => Iff.rfl) hc.1 hc.2)
    · rw [dec_skip (fun h' => hc h'.2)]
      exact decGo_on hn m _ _ (h.skip (fun _ => Iff.rfl) hc)
theorem decB_on {L : List Vt} {n : Int} (hn : 1 ≤ n) : DecOn L n (fun s => ∃ v ∈ L, v.2 = s) (decB L n) := by
  have h0 : DecOn L n (fun _ => False) noneR := ⟨fun e => (by cases e), fun _ => ⟨rfl, fun _ h => h.elim⟩⟩
  have := decGo_on hn L _ _ h0
  unfold decB
  simpa using this
theorem decB_less {L : List Vt} {n : Int} (hn : n < 1) : decB L n = noneR := by
  unfold decB
  have : ∀ (m : List Vt) (r : ByteArray × Bool), decGo L n m r = r := by
    intro m
    induction m with
    | nil => intro r; rfl
    | cons v m ih => intro r; rw [dec_skip (fun h => by omega), ih]
  exact this _ _
/-- The most that an output has, of those that have been seen. -/
structure MostOn (L : List Vt) (P : ByteArray → Prop) (k : Nat) : Prop where
  le : ∀ s, P s → cntV L s ≤ k
  is : k = 0 ∨ ∃ s, P s ∧ cntV L s = k
theorem MostOn.step {L : List Vt} {P P' : ByteArray → Prop} {k : Nat} {x : ByteArray} (h : MostOn L P k) (hP : ∀ s, P' s ↔ P s ∨ s = x) : MostOn L P' (max k (cntV L x)) := by
  refine ⟨fun s hs => ?_, ?_⟩
  · rcases (hP s).1 hs with hs | rfl
    · have := h.le s hs; omega
    · omega
  · rcases Nat.le_total k (cntV L x) with hc | hc
    · refine .inr ⟨x, (hP x).2 (.inr rfl), by omega⟩
    · rcases h.is with h0 | ⟨s, hs, e⟩
      · exact .inl (by omega)
      · exact .inr ⟨s, (hP s).2 (.inl hs), by omega⟩
theorem MostOn.unique {L : List Vt} {P P' : ByteArray → Prop} {k k' : Nat} (h : MostOn L P k) (h' : MostOn L P' k') (hP : ∀ s, P s ↔ P' s) : k = k' := by
  have a : k ≤ k' := by
    rcases h.is with h0 | ⟨s, hs, e⟩
    · omega
    · have := h'.le s ((hP s).1 hs); omega
  have b : k' ≤ k := by
    rcases h'.is with h0 | ⟨s, hs, e⟩
    · omega
    · have := h.le s ((hP s).2 hs); omega
  omega
theorem mostGo_on {L : List Vt} : ∀ (m : List Vt) (P : ByteArray → Prop) (k : Nat), MostOn L P k → MostOn L (fun s => P s ∨ ∃ v ∈ m, v.2 = s) (mostGo L m k)
  | [], P, k, h => by
    have : (fun s => P s ∨ ∃ v ∈ ([] : List Vt), v.2 = s) = P := by
      funext s
      simp
    rw [this]
    exact h
  | v :: m, P, k, h => by
    have e : (fun s => P s ∨ ∃ u ∈ v :: m, u.2 = s) = (fun s => (P s ∨ s = v.2) ∨ ∃ u ∈ m, u.2 = s) := by
      funext s
      apply propext
      constructor
      · rintro (h | ⟨u, hu, e⟩)
        · exact .inl (.inl h)
        · rcases List.mem_cons.1 hu with rfl | hu
          · exact .inl (.inr e.symm)
          · exact .inr ⟨u, hu, e⟩
      · rintro ((h | e) | ⟨u, hu, e⟩)
        · exact .inl h
        · exact .inr ⟨v, by simp, e.symm⟩
        · exact .inr ⟨u, List.mem_cons_of_mem _ hu, e⟩
    rw [e, mostGo]
    exact mostGo_on m _ _ (h.step (fun _ => Iff.rfl))
theorem mostB_on (L : List Vt) : MostOn L (fun s => ∃ v ∈ L, v.2 = s) (mostB L) := by
  have h0 : MostOn L (fun _ => False) 0 := ⟨fun _ h => h.elim, .inl rfl⟩
  have := mostGo_on L _ _ h0
  unfold mostB
  simpa using this

/-- What has been seen. -/
def Seen (D : DataW Unit) (left : Lit → Bool) (s : ByteArray) : Prop := Maps.has D (keyS s) = true ∧ left (keyS s) = false
theorem seen_step {D : DataW Unit} {left : Lit → Bool} {x : ByteArray} (hx : Maps.has D (keyS x) = true) : ∀ s, Seen D (fun z => left z && !z.sameKey (keyS x)) s ↔ Seen D left s ∨ s = x := by
  intro s
  unfold Seen
  by_cases e : s = x
  · subst e
    simp [hx, WideAt.sameKey_self (keyS_key s)]
  · have hk : keyS s ≠ keyS x := fun h => e (keyS_inj h)
    simp [Maps.sameKey_ne hk, e]

theorem key_inv' : ∀ key kl, keyOf Try.prog 9 key = some kl → ∃ x, key = Value.string x := fun key kl h => by
  obtain ⟨s, rfl, _⟩ := key_inv h
  exact ⟨s, rfl⟩
theorem int_inv' : ∀ (v : Value) (y : DataW Unit × List MemPlace), plainElem Try.prog 3 v = some y → ∃ c, v = Value.int .i64 c := fun v y h => by
  obtain ⟨c, rfl, _⟩ := plainElem_int_inv Try.underlying3 h
  exact ⟨c, rfl⟩
set_option maxRecDepth 100000 in
set_option maxHeartbeats 8000000 in
theorem Decide_any (l : List Rw) (n cap : Nat) (ao : Option Addr) (k : Dg) (q : Int) (w : World) (hm : n ≤ 1000000) (h : BA w ao n cap l) (hv : ∀ r ∈ l, r.vs.length ≤ 1000000) (hsort : SrtR l) :
    Calls Try.prog 22 #[.slice ao n cap, dv k, .int .i64 q] w fun e w' => e = .returned (.tuple #[.string (decB (aboutB (l.map Rw.bal) k) q).1, .bool (decB (aboutB (l.map Rw.bal) k) q).2]) ∧ Below w.heap.size w w' := by
  by_cases hq : q < 1
  · have HV := lid (decB_less (L := aboutB (l.map Rw.bal) k) hq)
    have d1 : decide (q < 1) = true := by simpa using hq
    clear h hv hq hsort
    unfold dv
    go_enter Try.func22, Try.ntmps22
    go_wp2_with fail
    go_ret2
    exact ⟨by rw [HV.out]; rfl, ba _ _⟩
  have HU := lid (decB_on (L := aboutB (l.map Rw.bal) k) (show 1 ≤ q by omega))
  have d1 : decide (q < 1) = false := by simpa using hq
  clear hq
  have CA := lid (votesAbout_any l n cap ao k (w.alloc (.cells #[.int .u64 k.1.toNat, .int .u64 k.2.toNat] 25)) hm (h.below (ba _ _)) hsort)
  have HLN := lid (about_len (k := k) hv)
  obtain ⟨L0, hAB⟩ : ∃ y, aboutB (l.map Rw.bal) k = y := ⟨_, rfl⟩
  rw [hAB] at CA HLN HU ⊢
  clear h hv hAB hsort
  unfold dv
  go_enter Try.func22, Try.ntmps22
  go_wp2_with fail
  (with_reducible refine (CA.out).mono ?_); rintro e w1 ⟨L, aoL, nL, capL, rfl, hL, hVL, hb1⟩
  subst hL
  have hnL : nL ≤ 1000000 := by have := hVL.len; have := HLN.out; omega
  have CC := lid (count_any L nL capL aoL w1 hnL hVL)
  have hb := (ba w (.cells #[.int .u64 k.1.toNat, .int .u64 k.2.toNat] 25)).trans (hb1.mono (by simp))
  clear CA hVL hb1 HLN
  go_wp2_with fail
  (with_reducible refine (CC.out).mono ?_); rintro e w2 ⟨D, rfl, hM, hCN, hb2⟩
  have HCN := lid hCN
  have h12 := hb2.size
  have h01 := hb.size
  have h02 : w.heap.size ≤ w2.heap.size := by omega
  have hb02 := hb.trans (hb2.mono hb.size)
  clear CC hCN hb hb2
  go_wp2_with (at_range; go_must (refine wpList_range_own _ rfl _ 76 rfl 9 3 kstr Try.underlying76 _ w1.heap.size nL D rfl hM ?_))
  intro w3 hrg3 hg3 hs3
  have HRG := lid hrg3
  have hb3 := hb02.grown hg3 hb02.size (fun j hj => by cases hj)
  clear hM hrg3 hg3 hs3 hb02
  go_wp2_with fail
  go_loopw [8, 9, 10, 11] (fun o f _ _ wr => ∃ (left : Lit → Bool) (cnt : Nat) (r : ByteArray × Bool), o = .string r.1 ∧ f = .bool r.2 ∧ Hid (wr.ranges Try.prog 9 (plainElem Try.prog 3) w1.heap.size w2.heap.size nL D left cnt) ∧ Hid (DecOn L q (Seen D left) r) ∧ Below w.heap.size w wr) (fun _ _ _ _ wr => wr.rangeLeft w1.heap.size w2.heap.size)
  case atStart => exact ⟨_, _, noneR, rfl, rfl, HRG, lid ⟨fun e => (by cases e), fun _ => ⟨rfl, fun s hs => by have := hs.1; rw [hs.2] at this; cases this⟩⟩, hb3⟩
  case round =>
    clear HRG hb3
    obtain ⟨left, cnt, r, rfl, rfl, HRG, HD, hb⟩ := hrel
    go_wp2_with (at_next; go_must (refine wpList_next_ranges _ rfl _ rfl 9 kstr _ Value.string (Value.int .i64) key_inv' int_inv' w1.heap.size w2.heap.size nL D left cnt rfl HRG.out ?_ ?_))
    · intro hc0 hl0
      have HV := lid (HU.out.unique HD.out (fun s => by
        rw [← HCN.out.has s]
        exact ⟨fun h => ⟨h, hl0 _⟩, fun h => h.1⟩))
      clear hl0
      go_wp2_with fail
      go_ret2
      exact ⟨by rw [HV.out]; rfl, hb⟩
    · intro x c kl yd yp w4 cnt1 hkey hlx hv4 hat hrg4 hlt hg4 hs4 hen
      obtain ⟨x', ex, ekl⟩ := key_inv hkey
      cases ex
      subst ekl
      obtain ⟨c', ec, ey, _⟩ := plainElem_int_inv Try.underlying3 hv4
      cases ec
      have hhas : Maps.has D (keyS x) = true := Maps.has_true_of_atKey hat
      have hcx : c = (cntV L x : Nat) := by
        have h1 := hat (.lit (.int .i64 0))
        rw [HCN.out.at_] at h1
        simp only [Prod.mk.injEq] at ey
        rw [ey.1] at h1
        simpa using h1.symm
      have HTK := lid (fun h1 h2 => HD.out.take (seen_step (left := left) hhas) h1 h2)
      have HSK := lid (fun h1 => HD.out.skip (seen_step (left := left) hhas) h1)
      have HR4 := lid hrg4
      have HLT := lid (show w4.rangeLeft w1.heap.size w2.heap.size < wr.rangeLeft w1.heap.size w2.heap.size by rw [hrg4.left_eq, HRG.out.left_eq]; exact hlt)
      have hb4 := hb.grown hg4 hb.size (fun j hj => by cases hj; exact h02)
      subst hcx
      obtain ⟨m, hmx⟩ : ∃ m, cntV L x = m := ⟨_, rfl⟩
      rw [hmx] at HTK HSK hen ⊢
      clear hkey hlx hv4 hat hrg4 hlt hg4 hs4 ey hhas hmx hb
      by_cases h2 : q ≤ (m : Int)
      case neg =>
        have HV := lid (HSK.out (fun h => h2 h.1))
        have d2 : decide (q ≤ (m : Int)) = false := by simpa using h2
        clear h2 HSK HTK
        go_wp2_with fail
        go_roundw
        case rel => exact ⟨_, cnt1, r, rfl, rfl, HR4, HV, hb4⟩
        case measure => exact HLT.out
      have d2 : decide (q ≤ (m : Int)) = true := by simpa using h2
      obtain ⟨ro, rf⟩ := r
      cases rf with
      | false =>
        have HV := lid (HTK.out h2 (.inl rfl))
        clear h2 HSK HTK
        go_wp2_with fail
        go_roundw
        case rel => exact ⟨_, cnt1, (x, true), rfl, rfl, HR4, HV, hb4⟩
        case measure => exact HLT.out
      | true =>
        cases hl : ltB x ro with
        | true =>
          have HV := lid (HTK.out h2 (.inr hl))
          have d3 : Op.bytesLess x.toList ro.toList = true := hl
          clear h2 HSK HTK hl
          go_wp2_with fail
          go_roundw
          case rel => exact ⟨_, cnt1, (x, true), rfl, rfl, HR4, HV, hb4⟩
          case measure => exact HLT.out
        | false =>
          have HV := lid (HSK.out (fun h => by
            rcases h.2 with h | h
            · cases h
            · simp only at h; rw [hl] at h; cases h))
          have d3 : Op.bytesLess x.toList ro.toList = false := hl
          clear h2 HSK HTK hl
          go_wp2_with fail
          go_roundw
          case rel => exact ⟨_, cnt1, (ro, true), rfl, rfl, HR4, HV, hb4⟩
          case measure => exact HLT.out

set_option maxRecDepth 100000 in
set_option maxHeartbeats 8000000 in
theorem Missing_any (l : List Rw) (n cap : Nat) (ao : Option Addr) (k : Dg) (q : Int) (w : World) (hm : n ≤ 1000000) (h : BA w ao n cap l) (hv : ∀ r ∈ l, r.vs.length ≤ 1000000) (hsort : SrtR l) (hq : -9223372036854775808 ≤ q) (hq2 : q ≤ 9223372036854775807) :
    Calls Try.prog 23 #[.slice ao n cap, dv k, .int .i64 q] w fun e w' => e = .returned (.int .i64 (missB (aboutB (l.map Rw.bal) k) q)) ∧ Below w.heap.size w w' := by
  have HU := lid (mostB_on (aboutB (l.map Rw.bal) k))
  have CA := lid (votesAbout_any l n cap ao k (w.alloc (.cells #[.int .u64 k.1.toNat, .int .u64 k.2.toNat] 25)) hm (h.below (ba _ _)) hsort)
  have HLN := lid (about_len (k := k) hv)
  obtain ⟨L0, hAB⟩ : ∃ y, aboutB (l.map Rw.bal) k = y := ⟨_, rfl⟩
  rw [hAB] at CA HLN HU ⊢
  clear h hv hAB hsort
  unfold dv
  go_enter Try.func23, Try.ntmps23
  go_wp2_with fail
  (with_reducible refine (CA.out).mono ?_); rintro e w1 ⟨L, aoL, nL, capL, rfl, hL, hVL, hb1⟩
  subst hL
  have hnL : nL ≤ 1000000 := by have := hVL.len; have := HLN.out; omega
  have CC := lid (count_any L nL capL aoL w1 hnL hVL)
  have HLL := lid hVL.len
  have hb := (ba w (.cells #[.int .u64 k.1.toNat, .int .u64 k.2.toNat] 25)).trans (hb1.mono (by simp))
  clear CA hVL hb1 HLN
  go_wp2_with fail
  (with_reducible refine (CC.out).mono ?_); rintro e w2 ⟨D, rfl, hM, hCN, hb2⟩
  have HCN := lid hCN
  have h12 := hb2.size
  have h01 := hb.size
  have h02 : w.heap.size ≤ w2.heap.size := by omega
  have hb02 := hb.trans (hb2.mono hb.size)
  clear CC hCN hb hb2
  go_wp2_with (at_range; go_must (refine wpList_range_own _ rfl _ 76 rfl 9 3 kstr Try.underlying76 _ w1.heap.size nL D rfl hM ?_))
  intro w3 hrg3 hg3 hs3
  have HRG := lid hrg3
  have hb3 := hb02.grown hg3 hb02.size (fun j hj => by cases hj)
  clear hM hrg3 hg3 hs3 hb02
  go_wp2_with fail
  go_loopw [7, 9] (fun m _ wr => ∃ (left : Lit → Bool) (cnt p : Nat), m = .int .i64 p ∧ p ≤ nL ∧ Hid (wr.ranges Try.prog 9 (plainElem Try.prog 3) w1.heap.size w2.heap.size nL D left cnt) ∧ Hid (MostOn L (Seen D left) p) ∧ Below w.heap.size w wr) (fun _ _ wr => wr.rangeLeft w1.heap.size w2.heap.size)
  case atStart => exact ⟨_, _, 0, rfl, Nat.zero_le _, HRG, lid ⟨fun s hs => (by have := hs.1; rw [hs.2] at this; cases this), .inl rfl⟩, hb3⟩
  case round =>
    clear HRG hb3
    obtain ⟨left, cnt, p, rfl, hp, HRG, HD, hb⟩ := hrel
    go_wp2_with (at_next; go_must (refine wpList_next_ranges _ rfl _ rfl 9 kstr _ Value.string (Value.int .i64) key_inv' int_inv' w1.heap.size w2.heap.size nL D left cnt rfl HRG.out ?_ ?_))
    · intro hc0 hl0
      have HV := lid (HU.out.unique HD.out (fun s => by
        rw [← HCN.out.has s]
        exact ⟨fun h => ⟨h, hl0 _⟩, fun h => h.1⟩))
      clear hl0
      by_cases hqp : q ≤ (p : Int)
      · have HM : Hid (missB L q = 0) := lid (by unfold missB; rw [HV.out, if_pos hqp])
        have d1 : decide (q ≤ (p : Int)) = true := by simpa using hqp
        clear hqp
        go_wp2_with fail
        go_ret
        exact ⟨ret_i64 HM.out.symm, hb⟩
      · have HM : Hid (missB L q = q - p) := lid (by unfold missB; rw [HV.out, if_neg hqp])
        have d1 : decide (q ≤ (p : Int)) = false := by simpa using hqp
        go_wp2_with fail
        go_ret
        exact ⟨ret_i64 HM.out.symm, hb⟩
    · intro x c kl yd yp w4 cnt1 hkey hlx hv4 hat hrg4 hlt hg4 hs4 hen
      obtain ⟨x', ex, ekl⟩ := key_inv hkey
      cases ex
      subst ekl
      obtain ⟨c', ec, ey, _⟩ := plainElem_int_inv Try.underlying3 hv4
      cases ec
      have hhas : Maps.has D (keyS x) = true := Maps.has_true_of_atKey hat
      have hcx : c = (cntV L x : Nat) := by
        have h1 := hat (.lit (.int .i64 0))
        rw [HCN.out.at_] at h1
        simp only [Prod.mk.injEq] at ey
        rw [ey.1] at h1
        simpa using h1.symm
      have HV := lid (HD.out.step (seen_step (left := left) hhas))
      have hcn : cntV L x ≤ nL := by have := cnt_le L x; rw [HLL.out] at this; exact this
      have HR4 := lid hrg4
      have HLT := lid (show w4.rangeLeft w1.heap.size w2.heap.size < wr.rangeLeft w1.heap.size w2.heap.size by rw [hrg4.left_eq, HRG.out.left_eq]; exact hlt)
      have hb4 := hb.grown hg4 hb.size (fun j hj => by cases hj; exact h02)
      subst hcx
      obtain ⟨m, hmx⟩ : ∃ m, cntV L x = m := ⟨_, rfl⟩
      rw [hmx] at HV hen hcn ⊢
      clear hkey hlx hv4 hat hrg4 hlt hg4 hs4 ey hhas hmx hb
      go_wp2_with fail
      go_roundw
      case rel => exact ⟨_, cnt1, max p m, by congr 1; omega, by omega, HR4, HV, hb4⟩
      case measure => exact HLT.out

set_option maxRecDepth 100000 in
set_option maxHeartbeats 8000000 in
theorem Against_any (l : List Rw) (n cap : Nat) (ao : Option Addr) (k : Dg) (o : ByteArray) (w : World) (hm : n ≤ 1000000) (h : BA w ao n cap l) (hv : ∀ r ∈ l, r.vs.length ≤ 1000000) (hsort : SrtR l) :
    Calls Try.prog 21 #[.slice ao n cap, dv k, .string o] w fun e w' => ∃ (S : List ByteArray) (ao' : Option Addr) (n' cap' : Nat), e = .returned (.slice ao' n' cap') ∧ S = againstB (aboutB (l.map Rw.bal) k) o ∧ SA w' ao' n' cap' S ∧ Below w.heap.size w w' := by
  have CA := lid (votesAbout_any l n cap ao k (w.alloc (.cells #[.int .u64 k.1.toNat, .int .u64 k.2.toNat] 25)) hm (h.below (ba _ _)) hsort)
  have HLN := lid (about_len (k := k) hv)
  obtain ⟨L0, hAB⟩ : ∃ y, aboutB (l.map Rw.bal) k = y := ⟨_, rfl⟩
  rw [hAB] at CA HLN ⊢
  clear h hv hAB hsort
  unfold dv
  go_enter Try.func21, Try.ntmps21
  go_wp2_with fail
  (with_reducible refine (CA.out).mono ?_); rintro e w1 ⟨L, aoL, nL, capL, rfl, hL, hVL, hb1⟩
  subst hL
  have HVL := lid hVL
  have hnL : nL ≤ 1000000 := by have := hVL.len; have := HLN.out; omega
  have hb := (ba w (.cells #[.int .u64 k.1.toNat, .int .u64 k.2.toNat] 25)).trans (hb1.mono (by simp))
  clear CA hVL hb1 HLN
  go_wp2_with fail
  have hs1 := hb.size
  go_loopw [7, 9, 14] (fun vo _ i wr => ∃ j m : Nat, j ≤ nL ∧ i = .int .i64 j ∧ m ≤ j ∧ Hid (wr.ownsRow w1.heap.size 9 1 vo m (svals (againstB (L.take j) o))) ∧ Below w1.heap.size w1 wr) (fun _ _ i _ => nL - (intOf i).toNat)
  case atStart => exact ⟨0, 0, Nat.zero_le _, rfl, Nat.le_refl _, lid (World.ownsRow_nil _ _ _ _), Below.refl _ _⟩
  case round =>
    obtain ⟨j, m, hj, rfl, hmj, HO, hb1⟩ := hrel
    obtain ⟨aoO, capO, rfl⟩ := own_slice HO.out
    by_cases hlt : j < nL
    · have hkl : j < L.length := by rw [HVL.out.len]; exact hlt
      obtain ⟨b1, o1, rfl, hlb, hcell⟩ := (HVL.out.below hb1).sl.at_ hlt
      have x0 := hcell (j * 2 + 0) _ (vcells_at hkl).1
      have x1 := hcell (j * 2 + 1) _ (vcells_at hkl).2
      rw [← Nat.add_assoc] at x1
      rw [Nat.add_zero] at x0
      have HC := lid (against_snoc (o := o) hkl)
      have dk : decide ((j : Int) < (nL : Int)) = true := by simp; omega
      obtain ⟨x, hx⟩ : ∃ x, L[j] = x := ⟨_, rfl⟩
      rw [hx] at x0 x1 HC
      clear hcell hx
      have hb12 : Below w1.heap.size w1 (wr.alloc (Obj.cells (vtc x) 27)) := hb1.alloc hb1.size _
      by_cases he : x.2 = o
      · rw [if_pos he, List.append_nil] at HC
        have d := str_eq he
        clear he
        go_wp2_with fail
        go_roundw
        case rel => exact ⟨j + 1, m, by omega, by go_num, by omega, lid (by rw [HC.out]; exact HO.out.alloc _), hb12⟩
        case measure => simp [intOf]; omega
      · rw [if_neg he] at HC
        have d := str_ne he
        clear he
        go_wp2_with (at_builtin; go_must (refine wpList_append_new (w := wr.alloc (Obj.cells (vtc x) 27)) #[.string x.1] rfl _ _ 43 rfl w1.heap.size 9 (.string ⟨#[]⟩) 1 16 info_str Try.underlying43 rfl (by decide) _ m _ (HO.out.alloc _) rfl (by simp [Act.eval]) rfl (by intro u hu; simp only [List.mem_cons, List.not_mem_nil, or_false] at hu; rw [hu]; rfl) (by simp only [maxLen]; omega) (by omega) hb12.size ?_))
        intro v9 w9 hown9 hb9 _
        have HO9 : Hid (w9.ownsRow w1.heap.size 9 1 v9 (m + 1) (svals (againstB (L.take (j + 1)) o))) := lid (by rw [HC.out]; unfold svals; rw [List.map_append]; exact hown9)
        have hb19 := hb12.trans hb9
        clear hown9 hb9
        go_wp2_with fail
        go_roundw
        case rel => exact ⟨j + 1, m + 1, by omega, by go_num, by omega, HO9, hb19⟩
        case measure => simp [intOf]; omega
    · obtain rfl : j = nL := by omega
      have HTK : Hid (L.take j = L) := lid (List.take_of_length_le (Nat.le_of_eq HVL.out.len))
      rw [HTK.out] at HO
      have dk : decide ((j : Int) < (j : Int)) = false := by simp
      go_wp2_with fail
      go_ret
      obtain ⟨ao9, cap9, e9, h9⟩ := SA.of_own HO.out (fun s hs => by obtain ⟨v, hv, rfl⟩ := against_mem hs; exact (HVL.out.sz v hv).1)
      exact ⟨_, _, _, _, congrArg Ending.returned e9, rfl, h9, hb.trans (hb1.mono hs1)⟩
end Go.Proofs.Ytcpnpcbaifagbaa
