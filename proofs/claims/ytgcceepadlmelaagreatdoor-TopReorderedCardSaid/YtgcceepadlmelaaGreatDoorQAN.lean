import Derived.Test.YtgcceepadlmelaaGreatDoorEdSwap
import Derived.Test.YtgcceepadlmelaaGreatDoorQAK
namespace Go.Proofs.YtgcceepadlmelaaGreatDoor
open Go.RowKit
theorem flat5 {l : List Kw} {m : Nat} (h : m < l.length * 5) : ∃ hk : m / 5 < l.length, (kcs l)[m]? = (kce l[m / 5])[m % 5]? := by
 have hk : m / 5 < l.length := by omega
 refine ⟨hk, ?_⟩
 have := kcs_cell (l := l) (k := m / 5) (j := m % 5) hk (Nat.mod_lt _ (by omega))
 rw [show m / 5 * 5 + m % 5 = m by omega] at this
 exact this
theorem kcs_set {l : List Kw} {i m : Nat} {x : Kw} (_hi : i < l.length) (h : m < l.length * 5) : (kcs (l.set i x))[m]? = if i * 5 ≤ m ∧ m < i * 5 + 5 then (kce x)[m - i * 5]? else (kcs l)[m]? := by
 obtain ⟨hk, e1⟩ := flat5 (l := l.set i x) (m := m) (by rw [List.length_set]; exact h)
 obtain ⟨hk2, e2⟩ := flat5 (l := l) (m := m) h
 rw [e1, List.getElem_set]
 by_cases e : i = m / 5
 ·rw [if_pos e, if_pos ⟨by omega, by omega⟩, show m % 5 = m - i * 5 by omega]
 ·rw [if_neg e, if_neg (by omega), e2]
theorem own_set {w : World} {base g n cap i : Nat} {L : List Kw} {x : Kw} (h : w.ownsRow base 52 5 (.slice (some ⟨g, 0, none⟩) n cap) n (kcs L)) (hl : L.length = n) (hi : i < n) :
  w.there g (i * 5) 5 ∧ base ≤ g ∧ (w.setCells g (i * 5) (kce x)).ownsRow base 52 5 (.slice (some ⟨g, 0, none⟩) n cap) n (kcs (L.set i x)) := by
 obtain ⟨cur, h1, h2, h3, h4, h5, h6⟩ := own_formK h
 have hi5 : (i + 1) * 5 ≤ cap * 5 := Nat.mul_le_mul_right _ (by omega)
 have hn5 : n * 5 ≤ cap * 5 := Nat.mul_le_mul_right _ h3
 refine ⟨there_row h2 (by omega), h1, ⟨by rw [kcs_length, List.length_set, hl], .inr ⟨g, cap, layAt cur (i * 5) (kce x), rfl, h1, row_setCells _ _ _ _ h2, h3, h4, by rw [layAt_size, h5], ?_⟩⟩⟩
 refine List.ext_getElem? fun m => ?_
 rw [List.getElem?_take]
 by_cases hm : m < n * 5
 ·rw [if_pos hm, Array.getElem?_toList, layAt_get? _ _ _ _ (by show i * 5 + 5 ≤ _; omega), kcs_set (by omega) (by omega)]
  show (if i * 5 ≤ m ∧ m < i * 5 + 5 then _ else _) = _
  by_cases e : i * 5 ≤ m ∧ m < i * 5 + 5
  ·rw [if_pos e, if_pos e]
  ·rw [if_neg e, if_neg e, ← h6, List.getElem?_take, if_pos hm, Array.getElem?_toList]
 ·rw [if_neg hm, List.getElem?_eq_none (by rw [kcs_length, List.length_set, hl]; omega)]
inductive Sw : List Kw → List Kw → Prop
 | refl (K : List Kw) : Sw K K
 | step {K p q : List Kw} {a b : Kw} : Sw K (p ++ a :: b :: q) → indK a b = true → Sw K (p ++ b :: a :: q)
theorem set_two {L : List Kw} {i : Nat} {a b : Kw} (ha : L[i]? = some a) (hb : L[i + 1]? = some b) : ∃ p q, L = p ++ a :: b :: q ∧ (L.set i b).set (i + 1) a = p ++ b :: a :: q := by
 obtain ⟨hi, e1⟩ := List.getElem?_eq_some_iff.1 ha
 obtain ⟨hi2, e2⟩ := List.getElem?_eq_some_iff.1 hb
 refine ⟨L.take i, L.drop (i + 2), ?_, ?_⟩
 ·rw [← e1, ← e2, List.getElem_cons_drop, List.getElem_cons_drop, List.take_append_drop]
 ·refine List.ext_getElem? fun m => ?_
  rw [List.getElem?_set, List.getElem?_set, List.length_set]
  by_cases h1 : i + 1 = m
  ·subst h1
   rw [if_pos rfl, if_pos hi2, List.getElem?_append_right (by rw [List.length_take]; omega), List.length_take, Nat.min_eq_left (by omega), show i + 1 - i = 1 by omega]
   rfl
  ·rw [if_neg h1]
   by_cases h2 : i = m
   ·subst h2
    rw [if_pos rfl, if_pos hi, List.getElem?_append_right (by rw [List.length_take]; omega), List.length_take, Nat.min_eq_left (by omega), Nat.sub_self]
    rfl
   ·rw [if_neg h2]
    by_cases h3 : m < i
    ·rw [List.getElem?_append_left (by rw [List.length_take]; omega), List.getElem?_take, if_pos h3]
    ·rw [List.getElem?_append_right (by rw [List.length_take]; omega), List.length_take, Nat.min_eq_left (by omega)]
     obtain ⟨d, rfl⟩ : ∃ d, m = i + 2 + d := ⟨m - (i + 2), by omega⟩
     rw [show i + 2 + d - i = d + 1 + 1 by omega, List.getElem?_cons_succ, List.getElem?_cons_succ, List.getElem?_drop]
theorem Sw.mem {K L : List Kw} (h : Sw K L) : L.length = K.length ∧ ∀ x, x ∈ L ↔ x ∈ K := by
 induction h with
 | refl => exact ⟨rfl, fun _ => Iff.rfl⟩
 | step _ _ ih =>
  refine ⟨by rw [← ih.1]; simp, fun x => ?_⟩
  rw [← ih.2]
  simp only [List.mem_append, List.mem_cons]
  constructor <;> (intro h; rcases h with h | h | h | h <;> simp [h])
end Go.Proofs.YtgcceepadlmelaaGreatDoor
namespace Go.Proofs.YtgcceepadlmelaaGreatDoor
open Go.RowKit
def mixFB (md : Region.Mode) (ops : Array Oper) (cs fs : List (Nat × List Nat)) (fin : Array Bool → Bool) : Nat → Array Bool → Bool
 | 0, listed => (cs.all fun c => listed.getD c.1 false) && ((fs.all fun c => listed.getD c.1 false) && fin listed)
 | n + 1, listed =>
  match fs.find? (fun f => (!listed.getD f.1 false && f.2.all fun d => listed.getD d false) && ((Region.ready md ops listed).contains f.1 && Region.free md ops listed f.1)) with
  | some f => mixFB md ops cs fs fin n (listed.setIfInBounds f.1 true)
  | none => !(Region.ready md ops listed).isEmpty && (Region.ready md ops listed).all fun i => (cs.any fun c => c.1 == i && c.2.all fun d => listed.getD d false) && mixFB md ops cs fs fin n (listed.setIfInBounds i true)
section
variable {P : Program} {ops : Array Oper} {Q : Exit → Act → World → Prop} {md : Region.Mode} {C : World → Prop}
theorem upd_listed {listed : Array Bool} {s : Nat → Bool} {i : Nat} (hs : ∀ k, s k = listed.getD k false) (h0 : i ∈ Region.ready md ops listed) : listed.getD i false = false ∧ ∀ k, upd s i k = (listed.setIfInBounds i true).getD k false := by
 have h0' : listed.getD i true = false := (mem_ready.1 h0).1
 have hlt : i < listed.size := by
  rcases Nat.lt_or_ge i listed.size with h | h
  ·exact h
  ·rw [Array.getD_eq_getD_getElem?, Array.getElem?_eq_none h] at h0'
   cases h0'
 refine ⟨?_, fun k => ?_⟩
 ·rw [Array.getD_eq_getD_getElem?, Array.getElem?_eq_getElem hlt] at h0' ⊢
  exact h0'
 ·by_cases e : k = i
  ·subst e
   rw [upd_same, Array.getD_eq_getD_getElem?, Array.getElem?_setIfInBounds_self_of_lt hlt]
   rfl
  ·rw [upd_ne s e, getD_set_ne false (Ne.symm e)]
   exact hs k
theorem wpAnyH_mixF (hns : Region.noSelect ops = true) (hQ : ∀ c d v a w, Q (.panic c) (Act.put a d v) w → Q (.panic c) a w) {cs fs : List (Nat × List Nat)} {fin : Array Bool → Bool} {fuel0 : Nat} {I : (Nat → Bool) → Act → World → Prop}
  (hstep : ∀ c ∈ cs, ∀ s a w, s c.1 = false → (∀ d ∈ c.2, s d = true) → C w → I s a w → wpOp P ops Q c.1 (fun a' w' => C w' ∧ I (upd s c.1) a' w') a w)
  (hfloat : ∀ c ∈ fs, ∀ s a w, s c.1 = false → (∀ d ∈ c.2, s d = true) → C w → I s a w → ∃ o, ops[c.1]? = some o ∧ ∃ v, YieldsIf P ops C o v a ∧ I (upd s c.1) (a.put o.dst v) w)
  (hend : ∀ listed s a w, fin listed = true → (∀ c ∈ cs, s c.1 = true) → (∀ c ∈ fs, s c.1 = true) → C w → I s a w → wpAnyH P md ops Q C fuel0 listed a w) :
  ∀ (n : Nat) (listed : Array Bool) (s : Nat → Bool) (a : Act) (w : World), (∀ k, s k = listed.getD k false) → mixFB md ops cs fs fin n listed = true → C w → I s a w → wpAnyH P md ops Q C (n + fuel0) listed a w
 | 0, listed, s, a, w, hs, hB, hC, hI => by
  simp only [mixFB, Bool.and_eq_true, List.all_eq_true] at hB
  rw [Nat.zero_add]
  exact hend listed s a w hB.2.2 (fun c hc => by rw [hs]; exact hB.1 c hc) (fun c hc => by rw [hs]; exact hB.2.1 c hc) hC hI
 | n + 1, listed, s, a, w, hs, hB, hC, hI => by
  rw [mixFB] at hB
  rw [show n + 1 + fuel0 = n + fuel0 + 1 by omega]
  split at hB
  ·rename_i f hf
   have hm := List.mem_of_find?_eq_some hf
   have hp := List.find?_some hf
   simp only [Bool.and_eq_true, List.all_eq_true] at hp
   obtain ⟨⟨h0, hd⟩, hr, hfree⟩ := hp
   have hmem : f.1 ∈ Region.ready md ops listed := by simpa using hr
   obtain ⟨h1, hu⟩ := upd_listed hs hmem
   obtain ⟨o, ho, v, hy, hI'⟩ := hfloat f hm s a w (by rw [hs]; exact h1) (fun d hdd => by rw [hs]; exact hd d hdd) hC hI
   exact wpAnyH_take ho hns hfree hr (fun c a w hq => hQ c _ _ a w hq) hy hC (wpAnyH_mixF hns hQ hstep hfloat hend n _ (upd s f.1) _ w hu hB hC hI')
  ·simp only [Bool.and_eq_true, List.all_eq_true, List.any_eq_true, beq_iff_eq] at hB
   obtain ⟨hne, hall⟩ := hB
   refine wpAnyH_all rfl (by intro e; rw [e] at hne; simp at hne) (fun i hi => ?_)
   obtain ⟨⟨c, hc, rfl, hd⟩, hB'⟩ := hall i hi
   obtain ⟨h1, hu⟩ := upd_listed hs hi
   exact wpOp_mono (fun a' w' hh => ⟨hh.1, wpAnyH_mixF hns hQ hstep hfloat hend n _ (upd s c.1) a' w' hu hB' hh.1 hh.2⟩) (hstep c hc s a w (by rw [hs]; exact h1) (fun d hdd => by rw [hs]; exact hd d hdd) hC hI)
def MixFGo (P : Program) (ops : Array Oper) (C : World → Prop) (Q : Exit → Act → World → Prop) (cs fs : List (Nat × List Nat)) (post : List (Nat × Bool)) (a : Act) (w : World) : Prop :=
 ∃ I : (Nat → Bool) → Act → World → Prop, (∀ s, (∀ c ∈ cs, s c.1 = false) → (∀ c ∈ fs, s c.1 = false) → I s a w) ∧
  (∀ c ∈ cs, ∀ s a w, s c.1 = false → (∀ d ∈ c.2, s d = true) → C w → I s a w → wpOp P ops Q c.1 (fun a' w' => C w' ∧ I (upd s c.1) a' w') a w) ∧
  (∀ c ∈ fs, ∀ s a w, s c.1 = false → (∀ d ∈ c.2, s d = true) → C w → I s a w → ∃ o, ops[c.1]? = some o ∧ ∃ v, YieldsIf P ops C o v a ∧ I (upd s c.1) (a.put o.dst v) w) ∧
  (∀ s a w, (∀ c ∈ cs, s c.1 = true) → (∀ c ∈ fs, s c.1 = true) → C w → I s a w → seqRun P ops C Q (fun a w => Q .normal a w) post a w)
theorem wp_region_mixF {id : Nat} {a : Act} {w : World} {l : List Oper} (C : World → Prop) (pre : List (Nat × Bool)) (cs fs : List (Nat × List Nat)) (post : List (Nat × Bool)) (hm : P.follows .mixedOrders = true)
  (hB : (Region.noSelect l.toArray && decide (pre.length + (cs.length + fs.length + post.length) = l.length) && (match seqB .any l.toArray pre (Array.replicate l.length false) with
   | some listed => (cs.all fun c => !listed.getD c.1 false) && ((fs.all fun c => !listed.getD c.1 false) && mixFB .any l.toArray cs fs (fun l1 => match seqB .any l.toArray post l1 with | some l2 => (Region.ready .any l.toArray l2).isEmpty | none => false) (cs.length + fs.length) listed)
   | none => false)) = true)
  (hQ : ∀ c d v a w, Q (.panic c) (Act.put a d v) w → Q (.panic c) a w) (hC : C w.drew)
  (h : seqRun P l.toArray C Q (MixFGo P l.toArray C Q cs fs post) pre a w.drew) : (Code.region id l.toArray true).wp P Q a w := by
 simp only [Bool.and_eq_true, decide_eq_true_eq] at hB
 obtain ⟨⟨hs, hl⟩, hB⟩ := hB
 split at hB
 ·rename_i listed hsq
  simp only [Bool.and_eq_true, List.all_eq_true] at hB
  obtain ⟨hfresh, hfresh2, hmix⟩ := hB
  refine wp_region_held (S := C) hm ?_
  have := wpAnyH_of_seq (md := .any) (P := P) (fuel := cs.length + fs.length + post.length) hs hQ pre _ listed a w.drew hC hsq (fun a w hCw hq => ?_) h
  ·rw [hl] at this
   simpa using this
  ·obtain ⟨I, h0, h1, h1f, h2⟩ := hq
   refine wpAnyH_mixF hs hQ h1 h1f ?_ (cs.length + fs.length) listed (fun k => listed.getD k false) a w (fun _ => rfl) hmix hCw (h0 _ (fun c hc => by have := hfresh c hc; revert this; cases listed.getD c.1 false <;> simp) (fun c hc => by have := hfresh2 c hc; revert this; cases listed.getD c.1 false <;> simp))
   intro l1 s a w hfin hall hallf hCw hI
   split at hfin
   ·rename_i l2 hl2
    have := wpAnyH_of_seq (md := .any) (P := P) (fuel := 0) hs hQ post _ l2 a w hCw hl2 (fun a w _ hq => ⟨by simpa using hfin, hq⟩) (h2 s a w hall hallf hCw hI)
    simpa using this
   ·cases hfin
 ·cases hB
def MixReads (P : Program) (l : List Oper) (C : World → Prop) (a : Act) (slots : List Nat) (R : (Nat → Bool) → List Value → World → Prop) : List (Nat × List Nat) → Prop
 | [] => True
 | c :: cs => (∀ s vs w, vs.length = slots.length → s c.1 = false → (∀ d ∈ c.2, s d = true) → C w → R s vs w →
   ∃ o, l.toArray[c.1]? = some o ∧ ∃ v, YieldsIf P l.toArray C o v (putAll a slots vs) ∧ ∃ vs', vs'.length = slots.length ∧ (putAll a slots vs).put o.dst v = putAll a slots vs' ∧ R (upd s c.1) vs' w) ∧ MixReads P l C a slots R cs
theorem mix_read {i : Nat} {o : Oper} {l : List Oper} {a : Act} {slots : List Nat} {R : (Nat → Bool) → List Value → World → Prop} {s : Nat → Bool} {vs : List Value} {w : World} (hi : l[i]? = some o) (hf : floatB o = true) (hw : Region.wanted o (yielded l.toArray (putAll a slots vs).tmps) = true)
  (h : ∀ K : Act → Prop, (∀ a', (∃ vs', vs'.length = slots.length ∧ a' = putAll a slots vs' ∧ R (upd s i) vs' w) → K a') → o.quiet P (putAll a slots vs) C K) :
  ∃ o, l.toArray[i]? = some o ∧ ∃ v, YieldsIf P l.toArray C o v (putAll a slots vs) ∧ ∃ vs', vs'.length = slots.length ∧ (putAll a slots vs).put o.dst v = putAll a slots vs' ∧ R (upd s i) vs' w := by
 obtain ⟨v, hy, hk⟩ := yieldsIf_of_quiet hf hw (h _ (fun _ h => h))
 exact ⟨o, by simpa using hi, v, hy, hk⟩
theorem mixReads_mem {l : List Oper} {a : Act} {slots : List Nat} {R : (Nat → Bool) → List Value → World → Prop} : ∀ {cs : List (Nat × List Nat)}, MixReads P l C a slots R cs → ∀ c ∈ cs, ∀ s vs w, vs.length = slots.length → s c.1 = false → (∀ d ∈ c.2, s d = true) → C w → R s vs w →
   ∃ o, l.toArray[c.1]? = some o ∧ ∃ v, YieldsIf P l.toArray C o v (putAll a slots vs) ∧ ∃ vs', vs'.length = slots.length ∧ (putAll a slots vs).put o.dst v = putAll a slots vs' ∧ R (upd s c.1) vs' w
 | [], _, _, hc => by cases hc
 | c0 :: cs, h, c, hc => by
  rcases List.mem_cons.1 hc with rfl | hc
  ·exact h.1
  ·exact mixReads_mem h.2 c hc
theorem mixF_go {l : List Oper} {cs fs : List (Nat × List Nat)} {post : List (Nat × Bool)} {a : Act} {w : World} (slots : List Nat) (vs0 : List Value) (R : (Nat → Bool) → List Value → World → Prop) (hl : vs0.length = slots.length) (h0 : a = putAll a slots vs0)
  (hi : ∀ s : Nat → Bool, (∀ c ∈ cs, s c.1 = false) → (∀ c ∈ fs, s c.1 = false) → R s vs0 w) (hs : MixSteps P l C Q a slots R cs) (hr : MixReads P l C a slots R fs)
  (he : ∀ s vs w', vs.length = slots.length → (∀ c ∈ cs, s c.1 = true) → (∀ c ∈ fs, s c.1 = true) → C w' → R s vs w' → seqRun P l.toArray C Q (fun a w => Q .normal a w) post (putAll a slots vs) w') : MixFGo P l.toArray C Q cs fs post a w := by
 refine ⟨fun s a' w' => ∃ vs, vs.length = slots.length ∧ a' = putAll a slots vs ∧ R s vs w', fun s hs0 hs1 => ⟨vs0, hl, h0, hi s hs0 hs1⟩, ?_, ?_, ?_⟩
 ·rintro c hc s a' w' h1 h2 hC ⟨vs, hvl, rfl, hR⟩
  exact mixSteps_mem hs c hc s vs w' hvl h1 h2 hC hR
 ·rintro c hc s a' w' h1 h2 hC ⟨vs, hvl, rfl, hR⟩
  exact mixReads_mem hr c hc s vs w' hvl h1 h2 hC hR
 ·rintro s a' w' hall hallf hC ⟨vs, hvl, rfl, hR⟩
  exact he s vs w' hvl hall hallf hC hR
end
end Go.Proofs.YtgcceepadlmelaaGreatDoor
