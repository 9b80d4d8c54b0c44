/-
  As XMix; reads that become ready within the mix are taken at once.
-/
import Derived.Test.YtbghpjedldhnhaaMix
namespace Go.Proofs.Ytbghpjedldhnhaa
open Go.RowKit

def mixFB (md : Region.Mode) (ops : Array Oper) (cs fs : List (Nat × List Nat)) (fin : Array Bool → Bool) : Nat → Array Bool → Bool
  | 0, listed => (cs.all fun c => listed.getD c.1 false) && ((fs.all fun c => listed.getD c.1 false) && fin listed)
  | n + 1, listed =>
    match fs.find? (fun f => (!listed.getD f.1 false && f.2.all fun d => listed.getD d false) && ((Region.ready md ops listed).contains f.1 && Region.free md ops listed f.1)) with
    | some f => mixFB md ops cs fs fin n (listed.setIfInBounds f.1 true)
    | none => !(Region.ready md ops listed).isEmpty && (Region.ready md ops listed).all fun i => (cs.any fun c => c.1 == i && c.2.all fun d => listed.getD d false) && mixFB md ops cs fs fin n (listed.setIfInBounds i true)

section
variable {P : Program} {ops : Array Oper} {Q : Exit → Act → World → Prop} {md : Region.Mode} {C : World → Prop}
theorem upd_listed {listed : Array Bool} {s : Nat → Bool} {i : Nat} (hs : ∀ k, s k = listed.getD k false) (h0 : i ∈ Region.ready md ops listed) : listed.getD i false = false ∧ ∀ k, upd s i k = (listed.setIfInBounds i true).getD k false := by
  have h0' : listed.getD i true = false := (mem_ready.1 h0).1
  have hlt : i < listed.size := by
    rcases Nat.lt_or_ge i listed.size with h | h
    · exact h
    · rw [Array.getD_eq_getD_getElem?, Array.getElem?_eq_none h] at h0'
      cases h0'
  refine ⟨?_, fun k => ?_⟩
  · rw [Array.getD_eq_getD_getElem?, Array.getElem?_eq_getElem hlt] at h0' ⊢
    exact h0'
  · by_cases e : k = i
    · subst e
      rw [upd_same, Array.getD_eq_getD_getElem?, Array.getElem?_setIfInBounds_self_of_lt hlt]
      rfl
    · rw [upd_ne s e, getD_set_ne false (Ne.symm e)]
      exact hs k

theorem wpAnyH_mixF (hns : Region.noSelect ops = true) (hQ : ∀ c d v a w, Q (.panic c) (Act.put a d v) w → Q (.panic c) a w) {cs fs : List (Nat × List Nat)} {fin : Array Bool → Bool} {fuel0 : Nat} {I : (Nat → Bool) → Act → World → Prop}
    (hstep : ∀ c ∈ cs, ∀ s a w, s c.1 = false → (∀ d ∈ c.2, s d = true) → C w → I s a w → wpOp P ops Q c.1 (fun a' w' => C w' ∧ I (upd s c.1) a' w') a w)
    (hfloat : ∀ c ∈ fs, ∀ s a w, s c.1 = false → (∀ d ∈ c.2, s d = true) → C w → I s a w → ∃ o, ops[c.1]? = some o ∧ ∃ v, YieldsIf P ops C o v a ∧ I (upd s c.1) (a.put o.dst v) w)
    (hend : ∀ listed s a w, fin listed = true → (∀ c ∈ cs, s c.1 = true) → (∀ c ∈ fs, s c.1 = true) → C w → I s a w → wpAnyH P md ops Q C fuel0 listed a w) :
    ∀ (n : Nat) (listed : Array Bool) (s : Nat → Bool) (a : Act) (w : World), (∀ k, s k = listed.getD k false) → mixFB md ops cs fs fin n listed = true → C w → I s a w → wpAnyH P md ops Q C (n + fuel0) listed a w
  | 0, listed, s, a, w, hs, hB, hC, hI => by
    simp only [mixFB, Bool.and_eq_true, List.all_eq_true] at hB
    rw [Nat.zero_add]
    exact hend listed s a w hB.2.2 (fun c hc => by rw [hs]; exact hB.1 c hc) (fun c hc => by rw [hs]; exact hB.2.1 c hc) hC hI
  | n + 1, listed, s, a, w, hs, hB, hC, hI => by
    rw [mixFB] at hB
    rw [show n + 1 + fuel0 = n + fuel0 + 1 by omega]
    split at hB
    · rename_i f hf
      have hm := List.mem_of_find?_eq_some hf
      have hp := List.find?_some hf
      simp only [Bool.and_eq_true, List.all_eq_true] at hp
      obtain ⟨⟨h0, hd⟩, hr, hfree⟩ := hp
      have hmem : f.1 ∈ Region.ready md ops listed := by simpa using hr
      obtain ⟨h1, hu⟩ := upd_listed hs hmem
      obtain ⟨o, ho, v, hy, hI'⟩ := hfloat f hm s a w (by rw [hs]; exact h1) (fun d hdd => by rw [hs]; exact hd d hdd) hC hI
      exact wpAnyH_take ho hns hfree hr (fun c a w hq => hQ c _ _ a w hq) hy hC (wpAnyH_mixF hns hQ hstep hfloat hend n _ (upd s f.1) _ w hu hB hC hI')
    · simp only [Bool.and_eq_true, List.all_eq_true, List.any_eq_true, beq_iff_eq] at hB
      obtain ⟨hne, hall⟩ := hB
      refine wpAnyH_all rfl (by intro e; rw [e] at hne; simp at hne) (fun i hi => ?_)
      obtain ⟨⟨c, hc, rfl, hd⟩, hB'⟩ := hall i hi
      obtain ⟨h1, hu⟩ := upd_listed hs hi
      exact wpOp_mono (fun a' w' hh => ⟨hh.1, wpAnyH_mixF hns hQ hstep hfloat hend n _ (upd s c.1) a' w' hu hB' hh.1 hh.2⟩) (hstep c hc s a w (by rw [hs]; exact h1) (fun d hdd => by rw [hs]; exact hd d hdd) hC hI)

/-- What is to be shown where the mix begins. -/
def MixFGo (P : Program) (ops : Array Oper) (C : World → Prop) (Q : Exit → Act → World → Prop) (cs fs : List (Nat × List Nat)) (post : List (Nat × Bool)) (a : Act) (w : World) : Prop :=
  ∃ I : (Nat → Bool) → Act → World → Prop, (∀ s, (∀ c ∈ cs, s c.1 = false) → (∀ c ∈ fs, s c.1 = false) → I s a w) ∧
    (∀ c ∈ cs, ∀ s a w, s c.1 = false → (∀ d ∈ c.2, s d = true) → C w → I s a w → wpOp P ops Q c.1 (fun a' w' => C w' ∧ I (upd s c.1) a' w') a w) ∧
    (∀ c ∈ fs, ∀ s a w, s c.1 = false → (∀ d ∈ c.2, s d = true) → C w → I s a w → ∃ o, ops[c.1]? = some o ∧ ∃ v, YieldsIf P ops C o v a ∧ I (upd s c.1) (a.put o.dst v) w) ∧
    (∀ s a w, (∀ c ∈ cs, s c.1 = true) → (∀ c ∈ fs, s c.1 = true) → C w → I s a w → seqRun P ops C Q (fun a w => Q .normal a w) post a w)

/-- THE BEGINNING. -/
theorem wp_region_mixF {id : Nat} {a : Act} {w : World} {l : List Oper} (C : World → Prop) (pre : List (Nat × Bool)) (cs fs : List (Nat × List Nat)) (post : List (Nat × Bool)) (hm : P.follows .mixedOrders = true)
    (hB : (Region.noSelect l.toArray && decide (pre.length + (cs.length + fs.length + post.length) = l.length) && (match seqB .any l.toArray pre (Array.replicate l.length false) with
      | some listed => (cs.all fun c => !listed.getD c.1 false) && ((fs.all fun c => !listed.getD c.1 false) && mixFB .any l.toArray cs fs (fun l1 => match seqB .any l.toArray post l1 with | some l2 => (Region.ready .any l.toArray l2).isEmpty | none => false) (cs.length + fs.length) listed)
      | none => false)) = true)
    (hQ : ∀ c d v a w, Q (.panic c) (Act.put a d v) w → Q (.panic c) a w) (hC : C w.drew)
    (h : seqRun P l.toArray C Q (MixFGo P l.toArray C Q cs fs post) pre a w.drew) : (Code.region id l.toArray true).wp P Q a w := by
  simp only [Bool.and_eq_true, decide_eq_true_eq] at hB
  obtain ⟨⟨hs, hl⟩, hB⟩ := hB
  split at hB
  · rename_i listed hsq
    simp only [Bool.and_eq_true, List.all_eq_true] at hB
    obtain ⟨hfresh, hfresh2, hmix⟩ := hB
    refine wp_region_held (S := C) hm ?_
    have := wpAnyH_of_seq (md := .any) (P := P) (fuel := cs.length + fs.length + post.length) hs hQ pre _ listed a w.drew hC hsq (fun a w hCw hq => ?_) h
    · rw [hl] at this
      simpa using this
    · obtain ⟨I, h0, h1, h1f, h2⟩ := hq
      refine wpAnyH_mixF hs hQ h1 h1f ?_ (cs.length + fs.length) listed (fun k => listed.getD k false) a w (fun _ => rfl) hmix hCw (h0 _ (fun c hc => by have := hfresh c hc; revert this; cases listed.getD c.1 false <;> simp) (fun c hc => by have := hfresh2 c hc; revert this; cases listed.getD c.1 false <;> simp))
      intro l1 s a w hfin hall hallf hCw hI
      split at hfin
      · rename_i l2 hl2
        have := wpAnyH_of_seq (md := .any) (P := P) (fuel := 0) hs hQ post _ l2 a w hCw hl2 (fun a w _ hq => ⟨by simpa using hfin, hq⟩) (h2 s a w hall hallf hCw hI)
        simpa using this
      · cases hfin
  · cases hB

/-- One read. -/
theorem mix_float {i : Nat} {o : Oper} {l : List Oper} (hi : l[i]? = some o) {a : Act} {G : Act → Prop} (hf : floatB o = true) (hw : Region.wanted o (yielded l.toArray a.tmps) = true)
    (h : ∀ K : Act → Prop, (∀ a, G a → K a) → o.quiet P a C K) : ∃ o, l.toArray[i]? = some o ∧ ∃ v, YieldsIf P l.toArray C o v a ∧ G (a.put o.dst v) := by
  obtain ⟨v, hy, hk⟩ := yieldsIf_of_quiet hf hw (h _ (fun _ h => h))
  exact ⟨o, by simpa using hi, v, hy, hk⟩

/-- The reads of the mix. -/
def MixReads (P : Program) (l : List Oper) (C : World → Prop) (a : Act) (slots : List Nat) (R : (Nat → Bool) → List Value → World → Prop) : List (Nat × List Nat) → Prop
  | [] => True
  | c :: cs => (∀ s vs w, vs.length = slots.length → s c.1 = false → (∀ d ∈ c.2, s d = true) → C w → R s vs w →
      ∃ o, l.toArray[c.1]? = some o ∧ ∃ v, YieldsIf P l.toArray C o v (putAll a slots vs) ∧ ∃ vs', vs'.length = slots.length ∧ (putAll a slots vs).put o.dst v = putAll a slots vs' ∧ R (upd s c.1) vs' w) ∧ MixReads P l C a slots R cs
theorem mix_read {i : Nat} {o : Oper} {l : List Oper} {a : Act} {slots : List Nat} {R : (Nat → Bool) → List Value → World → Prop} {s : Nat → Bool} {vs : List Value} {w : World} (hi : l[i]? = some o) (hf : floatB o = true) (hw : Region.wanted o (yielded l.toArray (putAll a slots vs).tmps) = true)
    (h : ∀ K : Act → Prop, (∀ a', (∃ vs', vs'.length = slots.length ∧ a' = putAll a slots vs' ∧ R (upd s i) vs' w) → K a') → o.quiet P (putAll a slots vs) C K) :
    ∃ o, l.toArray[i]? = some o ∧ ∃ v, YieldsIf P l.toArray C o v (putAll a slots vs) ∧ ∃ vs', vs'.length = slots.length ∧ (putAll a slots vs).put o.dst v = putAll a slots vs' ∧ R (upd s i) vs' w := by
  obtain ⟨v, hy, hk⟩ := yieldsIf_of_quiet hf hw (h _ (fun _ h => h))
  exact ⟨o, by simpa using hi, v, hy, hk⟩
theorem mixReads_mem {l : List Oper} {a : Act} {slots : List Nat} {R : (Nat → Bool) → List Value → World → Prop} : ∀ {cs : List (Nat × List Nat)}, MixReads P l C a slots R cs → ∀ c ∈ cs, ∀ s vs w, vs.length = slots.length → s c.1 = false → (∀ d ∈ c.2, s d = true) → C w → R s vs w →
      ∃ o, l.toArray[c.1]? = some o ∧ ∃ v, YieldsIf P l.toArray C o v (putAll a slots vs) ∧ ∃ vs', vs'.length = slots.length ∧ (putAll a slots vs).put o.dst v = putAll a slots vs' ∧ R (upd s c.1) vs' w
  | [], _, _, hc => by cases hc
  | c0 :: cs, h, c, hc => by
    rcases List.mem_cons.1 hc with rfl | hc
    · exact h.1
    · exact mixReads_mem h.2 c hc
theorem mixF_go {l : List Oper} {cs fs : List (Nat × List Nat)} {post : List (Nat × Bool)} {a : Act} {w : World} (slots : List Nat) (vs0 : List Value) (R : (Nat → Bool) → List Value → World → Prop) (hl : vs0.length = slots.length) (h0 : a = putAll a slots vs0)
    (hi : ∀ s : Nat → Bool, (∀ c ∈ cs, s c.1 = false) → (∀ c ∈ fs, s c.1 = false) → R s vs0 w) (hs : MixSteps P l C Q a slots R cs) (hr : MixReads P l C a slots R fs)
    (he : ∀ s vs w', vs.length = slots.length → (∀ c ∈ cs, s c.1 = true) → (∀ c ∈ fs, s c.1 = true) → C w' → R s vs w' → seqRun P l.toArray C Q (fun a w => Q .normal a w) post (putAll a slots vs) w') : MixFGo P l.toArray C Q cs fs post a w := by
  refine ⟨fun s a' w' => ∃ vs, vs.length = slots.length ∧ a' = putAll a slots vs ∧ R s vs w', fun s hs0 hs1 => ⟨vs0, hl, h0, hi s hs0 hs1⟩, ?_, ?_, ?_⟩
  · rintro c hc s a' w' h1 h2 hC ⟨vs, hvl, rfl, hR⟩
    exact mixSteps_mem hs c hc s vs w' hvl h1 h2 hC hR
  · rintro c hc s a' w' h1 h2 hC ⟨vs, hvl, rfl, hR⟩
    exact mixReads_mem hr c hc s vs w' hvl h1 h2 hC hR
  · rintro s a' w' hall hallf hC ⟨vs, hvl, rfl, hR⟩
    exact he s vs w' hvl hall hallf hC hR
end
end Go.Proofs.Ytbghpjedldhnhaa
