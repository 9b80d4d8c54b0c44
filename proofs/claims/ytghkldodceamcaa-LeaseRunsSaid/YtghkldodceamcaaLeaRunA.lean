/-
  LeaseRuns: a step of a run, what a run keeps.
-/
import Derived.Test.YtghkldodceamcaaMix
import Derived.Test.YtghkldodceamcaaLeaLawOne
import Derived.Test.YtghkldodceamcaaLeaPlain
namespace Go.Proofs.Ytghkldodceamcaa
open Go.RowKit

def mixFB (md : Region.Mode) (ops : Array Oper) (cs fs : List (Nat × List Nat)) (fin : Array Bool → Bool) : Nat → Array Bool → Bool
  | 0, listed => (cs.all fun c => listed.getD c.1 false) && ((fs.all fun c => listed.getD c.1 false) && fin listed)
  | n + 1, listed =>
    match fs.find? (fun f => (!listed.getD f.1 false && f.2.all fun d => listed.getD d false) && ((Region.ready md ops listed).contains f.1 && Region.free md ops listed f.1)) with
    | some f => mixFB md ops cs fs fin n (listed.setIfInBounds f.1 true)
    | none => !(Region.ready md ops listed).isEmpty && (Region.ready md ops listed).all fun i => (cs.any fun c => c.1 == i && c.2.all fun d => listed.getD d false) && mixFB md ops cs fs fin n (listed.setIfInBounds i true)

section
variable {P : Program} {ops : Array Oper} {Q : Exit → Act → World → Prop} {md : Region.Mode} {C : World → Prop}
theorem upd_listed {listed : Array Bool} {s : Nat → Bool} {i : Nat} (hs : ∀ k, s k = listed.getD k false) (h0 : i ∈ Region.ready md ops listed) : listed.getD i false = false ∧ ∀ k, upd s i k = (listed.setIfInBounds i true).getD k false := by
  have h0' : listed.getD i true = false := (mem_ready.1 h0).1
  have hlt : i < listed.size := by
    rcases Nat.lt_or_ge i listed.size with h | h
    · exact h
    · rw [Array.getD_eq_getD_getElem?, Array.getElem?_eq_none h] at h0'
      cases h0'
  refine ⟨?_, fun k => ?_⟩
  · rw [Array.getD_eq_getD_getElem?, Array.getElem?_eq_getElem hlt] at h0' ⊢
    exact h0'
  · by_cases e : k = i
    · subst e
      rw [upd_same, Array.getD_eq_getD_getElem?, Array.getElem?_setIfInBounds_self_of_lt hlt]
      rfl
    · rw [upd_ne s e, getD_set_ne false (Ne.symm e)]
      exact hs k

theorem wpAnyH_mixF (hns : Region.noSelect ops = true) (hQ : ∀ c d v a w, Q (.panic c) (Act.put a d v) w → Q (.panic c) a w) {cs fs : List (Nat × List Nat)} {fin : Array Bool → Bool} {fuel0 : Nat} {I : (Nat → Bool) → Act → World → Prop}
    (hstep : ∀ c ∈ cs, ∀ s a w, s c.1 = false → (∀ d ∈ c.2, s d = true) → C w → I s a w → wpOp P ops Q c.1 (fun a' w' => C w' ∧ I (upd s c.1) a' w') a w)
    (hfloat : ∀ c ∈ fs, ∀ s a w, s c.1 = false → (∀ d ∈ c.2, s d = true) → C w → I s a w → ∃ o, ops[c.1]? = some o ∧ ∃ v, YieldsIf P ops C o v a ∧ I (upd s c.1) (a.put o.dst v) w)
    (hend : ∀ listed s a w, fin listed = true → (∀ c ∈ cs, s c.1 = true) → (∀ c ∈ fs, s c.1 = true) → C w → I s a w → wpAnyH P md ops Q C fuel0 listed a w) :
    ∀ (n : Nat) (listed : Array Bool) (s : Nat → Bool) (a : Act) (w : World), (∀ k, s k = listed.getD k false) → mixFB md ops cs fs fin n listed = true → C w → I s a w → wpAnyH P md ops Q C (n + fuel0) listed a w
  | 0, listed, s, a, w, hs, hB, hC, hI => by
    simp only [mixFB, Bool.and_eq_true, List.all_eq_true] at hB
    rw [Nat.zero_add]
    exact hend listed s a w hB.2.2 (fun c hc => by rw [hs]; exact hB.1 c hc) (fun c hc => by rw [hs]; exact hB.2.1 c hc) hC hI
  | n + 1, listed, s, a, w, hs, hB, hC, hI => by
    rw [mixFB] at hB
    rw [show n + 1 + fuel0 = n + fuel0 + 1 by omega]
    split at hB
    · rename_i f hf
      have hm := List.mem_of_find?_eq_some hf
      have hp := List.find?_some hf
      simp only [Bool.and_eq_true, List.all_eq_true] at hp
      obtain ⟨⟨h0, hd⟩, hr, hfree⟩ := hp
      have hmem : f.1 ∈ Region.ready md ops listed := by simpa using hr
      obtain ⟨h1, hu⟩ := upd_listed hs hmem
      obtain ⟨o, ho, v, hy, hI'⟩ := hfloat f hm s a w (by rw [hs]; exact h1) (fun d hdd => by rw [hs]; exact hd d hdd) hC hI
      exact wpAnyH_take ho hns hfree hr (fun c a w hq => hQ c _ _ a w hq) hy hC (wpAnyH_mixF hns hQ hstep hfloat hend n _ (upd s f.1) _ w hu hB hC hI')
    · simp only [Bool.and_eq_true, List.all_eq_true, List.any_eq_true, beq_iff_eq] at hB
      obtain ⟨hne, hall⟩ := hB
      refine wpAnyH_all rfl (by intro e; rw [e] at hne; simp at hne) (fun i hi => ?_)
      obtain ⟨⟨c, hc, rfl, hd⟩, hB'⟩ := hall i hi
      obtain ⟨h1, hu⟩ := upd_listed hs hi
      exact wpOp_mono (fun a' w' hh => ⟨hh.1, wpAnyH_mixF hns hQ hstep hfloat hend n _ (upd s c.1) a' w' hu hB' hh.1 hh.2⟩) (hstep c hc s a w (by rw [hs]; exact h1) (fun d hdd => by rw [hs]; exact hd d hdd) hC hI)

/-- What is to be shown where the mix begins. -/
def MixFGo (P : Program) (ops : Array Oper) (C : World → Prop) (Q : Exit → Act → World → Prop) (cs fs : List (Nat × List Nat)) (post : List (Nat × Bool)) (a : Act) (w : World) : Prop :=
  ∃ I : (Nat → Bool) → Act → World → Prop, (∀ s, (∀ c ∈ cs, s c.1 = false) → (∀ c ∈ fs, s c.1 = false) → I s a w) ∧
    (∀ c ∈ cs, ∀ s a w, s c.1 = false → (∀ d ∈ c.2, s d = true) → C w → I s a w → wpOp P ops Q c.1 (fun a' w' => C w' ∧ I (upd s c.1) a' w') a w) ∧
    (∀ c ∈ fs, ∀ s a w, s c.1 = false → (∀ d ∈ c.2, s d = true) → C w → I s a w → ∃ o, ops[c.1]? = some o ∧ ∃ v, YieldsIf P ops C o v a ∧ I (upd s c.1) (a.put o.dst v) w) ∧
    (∀ s a w, (∀ c ∈ cs, s c.1 = true) → (∀ c ∈ fs, s c.1 = true) → C w → I s a w → seqRun P ops C Q (fun a w => Q .normal a w) post a w)

/-- THE BEGINNING. -/
theorem wp_region_mixF {id : Nat} {a : Act} {w : World} {l : List Oper} (C : World → Prop) (pre : List (Nat × Bool)) (cs fs : List (Nat × List Nat)) (post : List (Nat × Bool)) (hm : P.follows .mixedOrders = true)
    (hB : (Region.noSelect l.toArray && decide (pre.length + (cs.length + fs.length + post.length) = l.length) && (match seqB .any l.toArray pre (Array.replicate l.length false) with
      | some listed => (cs.all fun c => !listed.getD c.1 false) && ((fs.all fun c => !listed.getD c.1 false) && mixFB .any l.toArray cs fs (fun l1 => match seqB .any l.toArray post l1 with | some l2 => (Region.ready .any l.toArray l2).isEmpty | none => false) (cs.length + fs.length) listed)
      | none => false)) = true)
    (hQ : ∀ c d v a w, Q (.panic c) (Act.put a d v) w → Q (.panic c) a w) (hC : C w.drew)
    (h : seqRun P l.toArray C Q (MixFGo P l.toArray C Q cs fs post) pre a w.drew) : (Code.region id l.toArray true).wp P Q a w := by
  simp only [Bool.and_eq_true, decide_eq_true_eq] at hB
  obtain ⟨⟨hs, hl⟩, hB⟩ := hB
  split at hB
  · rename_i listed hsq
    simp only [Bool.and_eq_true, List.all_eq_true] at hB
    obtain ⟨hfresh, hfresh2, hmix⟩ := hB
    refine wp_region_held (S := C) hm ?_
    have := wpAnyH_of_seq (md := .any) (P := P) (fuel := cs.length + fs.length + post.length) hs hQ pre _ listed a w.drew hC hsq (fun a w hCw hq => ?_) h
    · rw [hl] at this
      simpa using this
    · obtain ⟨I, h0, h1, h1f, h2⟩ := hq
      refine wpAnyH_mixF hs hQ h1 h1f ?_ (cs.length + fs.length) listed (fun k => listed.getD k false) a w (fun _ => rfl) hmix hCw (h0 _ (fun c hc => by have := hfresh c hc; revert this; cases listed.getD c.1 false <;> simp) (fun c hc => by have := hfresh2 c hc; revert this; cases listed.getD c.1 false <;> simp))
      intro l1 s a w hfin hall hallf hCw hI
      split at hfin
      · rename_i l2 hl2
        have := wpAnyH_of_seq (md := .any) (P := P) (fuel := 0) hs hQ post _ l2 a w hCw hl2 (fun a w _ hq => ⟨by simpa using hfin, hq⟩) (h2 s a w hall hallf hCw hI)
        simpa using this
      · cases hfin
  · cases hB

/-- One read. -/
theorem mix_float {i : Nat} {o : Oper} {l : List Oper} (hi : l[i]? = some o) {a : Act} {G : Act → Prop} (hf : floatB o = true) (hw : Region.wanted o (yielded l.toArray a.tmps) = true)
    (h : ∀ K : Act → Prop, (∀ a, G a → K a) → o.quiet P a C K) : ∃ o, l.toArray[i]? = some o ∧ ∃ v, YieldsIf P l.toArray C o v a ∧ G (a.put o.dst v) := by
  obtain ⟨v, hy, hk⟩ := yieldsIf_of_quiet hf hw (h _ (fun _ h => h))
  exact ⟨o, by simpa using hi, v, hy, hk⟩

/-- The reads of the mix. -/
def MixReads (P : Program) (l : List Oper) (C : World → Prop) (a : Act) (slots : List Nat) (R : (Nat → Bool) → List Value → World → Prop) : List (Nat × List Nat) → Prop
  | [] => True
  | c :: cs => (∀ s vs w, vs.length = slots.length → s c.1 = false → (∀ d ∈ c.2, s d = true) → C w → R s vs w →
      ∃ o, l.toArray[c.1]? = some o ∧ ∃ v, YieldsIf P l.toArray C o v (putAll a slots vs) ∧ ∃ vs', vs'.length = slots.length ∧ (putAll a slots vs).put o.dst v = putAll a slots vs' ∧ R (upd s c.1) vs' w) ∧ MixReads P l C a slots R cs
theorem mix_read {i : Nat} {o : Oper} {l : List Oper} {a : Act} {slots : List Nat} {R : (Nat → Bool) → List Value → World → Prop} {s : Nat → Bool} {vs : List Value} {w : World} (hi : l[i]? = some o) (hf : floatB o = true) (hw : Region.wanted o (yielded l.toArray (putAll a slots vs).tmps) = true)
    (h : ∀ K : Act → Prop, (∀ a', (∃ vs', vs'.length = slots.length ∧ a' = putAll a slots vs' ∧ R (upd s i) vs' w) → K a') → o.quiet P (putAll a slots vs) C K) :
    ∃ o, l.toArray[i]? = some o ∧ ∃ v, YieldsIf P l.toArray C o v (putAll a slots vs) ∧ ∃ vs', vs'.length = slots.length ∧ (putAll a slots vs).put o.dst v = putAll a slots vs' ∧ R (upd s i) vs' w := by
  obtain ⟨v, hy, hk⟩ := yieldsIf_of_quiet hf hw (h _ (fun _ h => h))
  exact ⟨o, by simpa using hi, v, hy, hk⟩
theorem mixReads_mem {l : List Oper} {a : Act} {slots : List Nat} {R : (Nat → Bool) → List Value → World → Prop} : ∀ {cs : List (Nat × List Nat)}, MixReads P l C a slots R cs → ∀ c ∈ cs, ∀ s vs w, vs.length = slots.length → s c.1 = false → (∀ d ∈ c.2, s d = true) → C w → R s vs w →
      ∃ o, l.toArray[c.1]? = some o ∧ ∃ v, YieldsIf P l.toArray C o v (putAll a slots vs) ∧ ∃ vs', vs'.length = slots.length ∧ (putAll a slots vs).put o.dst v = putAll a slots vs' ∧ R (upd s c.1) vs' w
  | [], _, _, hc => by cases hc
  | c0 :: cs, h, c, hc => by
    rcases List.mem_cons.1 hc with rfl | hc
    · exact h.1
    · exact mixReads_mem h.2 c hc
theorem mixF_go {l : List Oper} {cs fs : List (Nat × List Nat)} {post : List (Nat × Bool)} {a : Act} {w : World} (slots : List Nat) (vs0 : List Value) (R : (Nat → Bool) → List Value → World → Prop) (hl : vs0.length = slots.length) (h0 : a = putAll a slots vs0)
    (hi : ∀ s : Nat → Bool, (∀ c ∈ cs, s c.1 = false) → (∀ c ∈ fs, s c.1 = false) → R s vs0 w) (hs : MixSteps P l C Q a slots R cs) (hr : MixReads P l C a slots R fs)
    (he : ∀ s vs w', vs.length = slots.length → (∀ c ∈ cs, s c.1 = true) → (∀ c ∈ fs, s c.1 = true) → C w' → R s vs w' → seqRun P l.toArray C Q (fun a w => Q .normal a w) post (putAll a slots vs) w') : MixFGo P l.toArray C Q cs fs post a w := by
  refine ⟨fun s a' w' => ∃ vs, vs.length = slots.length ∧ a' = putAll a slots vs ∧ R s vs w', fun s hs0 hs1 => ⟨vs0, hl, h0, hi s hs0 hs1⟩, ?_, ?_, ?_⟩
  · rintro c hc s a' w' h1 h2 hC ⟨vs, hvl, rfl, hR⟩
    exact mixSteps_mem hs c hc s vs w' hvl h1 h2 hC hR
  · rintro c hc s a' w' h1 h2 hC ⟨vs, hvl, rfl, hR⟩
    exact mixReads_mem hr c hc s vs w' hvl h1 h2 hC hR
  · rintro s a' w' hall hallf hC ⟨vs, hvl, rfl, hR⟩
    exact he s vs w' hvl hall hallf hC hR
end
end Go.Proofs.Ytghkldodceamcaa

namespace Go.Proofs.Ytghkldodceamcaa
open Go.RowKit

/-- What a deed may do. -/
def Step (t : Ls) (L : List Lz) (T : Ls) (M G : List Lz) (E : Int) : Prop :=
  (∃ job wk m, wk.size ≤ 3 ∧ T = grantL t job wk m ∧ M = L ++ [grantX t job wk m] ∧ G = [] ∧ E = grantE t job wk m) ∨
  (∃ c, T = advL t c ∧ M = L ∧ G = advG t c ∧ E = advE t c) ∨
  (∃ x ∈ L, T = releaseL t x ∧ M = L ∧ G = [x] ∧ E = releaseE t x) ∨
  (∃ x ∈ L, ∃ m, T = renewL t x m ∧ M = L ++ [renewX t x m] ∧ G = [x] ∧ E = renewE t x m)
/-- Not in block X. -/
def NA (X : Nat) (ao : Option Addr) : Prop := ∀ a, ao = some a → a.block ≠ X
theorem NA.lo {X b : Nat} {ao : Option Addr} (h : ∀ a, ao = some a → b ≤ a.block) (hX : X < b) : NA X ao := fun a e => by have := h a e; omega
/-- What 'do' returns. -/
def DoR (t : Ls) (L : List Lz) (n nl : Nat) (ao al : Option Addr) (w : World) (e : Ending) (w' : World) : Prop :=
  ∃ T M G E aT nT cT aM nM cM aG nG cG, e = .returned (.tuple #[.agg (tcells T aT nT cT), .slice aM nM cM, .slice aG nG cG, .int .i64 E]) ∧ Step t L T M G E ∧ LsB w' 0 aT nT cT T ∧ LzB w' 0 aM nM cM M ∧ LzB w' 0 aG nG cG G ∧ (∀ X, X < w.heap.size → (n = 0 ∨ NA X ao) → (nl = 0 ∨ NA X al) → (nT = 0 ∨ NA X aT) ∧ (nM = 0 ∨ NA X aM)) ∧ Below w.heap.size w w'
theorem LsB.zero {w : World} {b n cap : Nat} {ao : Option Addr} {T : Ls} (h : LsB w b ao n cap T) : LsB w 0 ao n cap T := ⟨h.A, h.le, h.z, fun _ _ => Nat.zero_le _⟩
theorem LzB.zero {w : World} {b n cap : Nat} {ao : Option Addr} {T : List Lz} (h : LzB w b ao n cap T) : LzB w 0 ao n cap T := ⟨h.len, h.sl, h.le, h.z, h.max, fun _ _ => Nat.zero_le _⟩
theorem Sl.set0 {w : World} {sz X o n : Nat} {ao : Option Addr} {xs : List Value} {u : Value} (h : Sl w sz ao n xs) (hX : n = 0 ∨ NA X ao) : Sl (w.setCell ⟨X, o, none⟩ u) sz ao n xs := by
  rcases hX with h0 | hX
  · exact ⟨h.1, .inl h0⟩
  · exact h.set fun a e => (hX a e).symm
theorem Sl.keptY {W w : World} {B X sz n : Nat} {ao : Option Addr} {xs : List Value} (h : Sl W sz ao n xs) (hk : KeptY B X W w) (hs : B ≤ w.heap.size) (hn : n = 0 ∨ ∀ a, ao = some a → a.block < B ∧ a.block ≠ X ∧ a.block ≠ X + 1) : Sl w sz ao n xs := by
  rcases hn with h0 | hn
  · exact ⟨h.1, .inl h0⟩
  · refine ⟨h.1, h.2.imp id ?_⟩
    rintro ⟨b, o, e, hlt, hc⟩
    have h3 := hn _ e
    refine ⟨b, o, e, Nat.lt_of_lt_of_le h3.1 hs, fun j u hu => ?_⟩
    rw [← hc j u hu]
    exact World.cell?_of_block (w := W) (a := ⟨b, o + j, none⟩) (hk b h3.1 h3.2.1 h3.2.2)
theorem LsB.set0 {w : World} {b n cap X o : Nat} {ao : Option Addr} {T : Ls} {u : Value} (h : LsB w b ao n cap T) (hX : n = 0 ∨ NA X ao) : LsB (w.setCell ⟨X, o, none⟩ u) b ao n cap T := ⟨⟨h.A.len, h.A.sl.set0 hX, h.A.max, h.A.sz⟩, h.le, h.z, h.lo⟩
theorem LsB.keptY {W w : World} {B X b n cap : Nat} {ao : Option Addr} {T : Ls} (h : LsB W b ao n cap T) (hk : KeptY B X W w) (hs : B ≤ w.heap.size) (hn : n = 0 ∨ ∀ a, ao = some a → a.block < B ∧ a.block ≠ X ∧ a.block ≠ X + 1) : LsB w b ao n cap T := ⟨⟨h.A.len, h.A.sl.keptY hk hs hn, h.A.max, h.A.sz⟩, h.le, h.z, h.lo⟩
theorem LzB.keptY {W w : World} {B X b n cap : Nat} {ao : Option Addr} {T : List Lz} (h : LzB W b ao n cap T) (hk : KeptY B X W w) (hs : B ≤ w.heap.size) (hn : n = 0 ∨ ∀ a, ao = some a → a.block < B ∧ a.block ≠ X ∧ a.block ≠ X + 1) : LzB w b ao n cap T := ⟨h.len, h.sl.keptY hk hs hn, h.le, h.z, h.max, h.lo⟩
theorem LzB.set0 {w : World} {b n cap X o : Nat} {ao : Option Addr} {T : List Lz} {u : Value} (h : LzB w b ao n cap T) (hX : n = 0 ∨ NA X ao) : LzB (w.setCell ⟨X, o, none⟩ u) b ao n cap T := ⟨h.len, h.sl.set0 hX, h.le, h.z, h.max, h.lo⟩
abbrev annB : ByteArray := ⟨#[97, 110, 110]⟩
abbrev bobB : ByteArray := ⟨#[98, 111, 98]⟩
abbrev cidB : ByteArray := ⟨#[99, 105, 100]⟩
def nameAt (j : Nat) : ByteArray := if j = 0 then annB else if j = 1 then bobB else cidB
theorem nameAt_size (j : Nat) : (nameAt j).size = 3 := by unfold nameAt; split <;> (try split) <;> rfl
abbrev nrow (k : Nat) (w : World) : Prop := w.heap[k]? = some (.cells #[.string annB, .string bobB, .string cidB] 9 (0, 0))
theorem nrow_at {k j : Nat} {w : World} (h : nrow k w) (hj : j < 3) : w.cell? ⟨k, j, none⟩ = some (.string (nameAt j)) := by
  rw [row_cell h]
  match j, hj with
  | 0, _ => rfl
  | 1, _ => rfl
  | 2, _ => rfl

/-- 'append(out, xs..)', and where the new slice lies. -/
theorem wpList_append_slat {P : Program} {ops : Array Oper} {rest : List Oper} {o : Oper} {a : Act} {Q : Exit → Act → World → Prop} {w : World} (hgd : o.guard = none) (s x : Operand) (t : TypeId)
    (ho : o.op = .call { callee := .builtin .append, args := #[s, x], argTypes := #[t, t] })
    (base : Nat) (e : TypeId) (z : Value) (size bytes : Nat) (hinfo : (P.info? e).map (fun i => (i.zero, i.size, i.bytes)) = some (some z, size, bytes)) (ht : P.underlying t = some (.slice e)) (hzs : z.cells.size = size) (hsz : 0 < size)
    (v : Value) (n : Nat) (xs : List Value) (hown : w.ownsRow base e size v n xs) (hs : a.eval s = v)
    (ao : Option Addr) (m c : Nat) (us : List Value) (hx : a.eval x = .slice ao m c) (hsl : Sl w size ao m us) (hz : ao = none → c = 0) (h1 : ∀ u ∈ us, u.oneCell' = true)
    (h63 : n + m ≤ maxLen) (hbytes : (n + m) * bytes ≤ 140737488355328) (hbase : base ≤ w.heap.size)
    (h : ∀ v' w', w'.ownsRow base e size v' (n + m) (xs ++ us) → Below base w w' → w.grownBy w' v.ownBlock → (v'.ownBlock = v.ownBlock ∨ v'.ownBlock = some w.heap.size) → wpList P ops Q rest (a.put o.dst v') w') : wpList P ops Q (o :: rest) a w := by
  obtain ⟨i, hi, hz0, hz1, hz2⟩ := info_parts hinfo
  cases ao with
  | none =>
    obtain rfl := hz rfl
    obtain rfl : m = 0 := by
      rcases hsl.2 with h0 | ⟨b, o, e', _⟩
      · exact h0
      · cases e'
    obtain rfl : us = [] := List.eq_nil_of_length_eq_zero (by rw [hsl.1]; simp)
    refine wpList_append_own_none hgd s x t ho base e i size ht hi v n xs hs hown hx ?_
    exact h v w (by simpa using hown) (Below.refl _ _) ⟨rfl, rfl, rfl, Nat.le_refl _, fun _ _ _ => rfl⟩ (.inl rfl)
  | some ad =>
    refine wpList_append_own_at _ hgd s x t ho base e i z size bytes ht hi hz0 hz1 hz2 hzs hsz v n xs hs hown ad m c us hx hsl.1 ?_ h1 h63 hbytes hbase ?_
    · intro j u hu
      rcases hsl.2 with h0 | ⟨b, o', e', hlt, hc⟩
      · have := hsl.1
        rw [h0, Nat.zero_mul] at this
        rw [List.eq_nil_of_length_eq_zero this] at hu
        simp at hu
      · cases e'
        rw [Addr.add_lit]
        exact hc j u hu
    · intro v' w' hown' hg hn hat
      exact h v' w' hown' ((Below.refl _ _).grown hg hbase (fun k hk => ownsRow_row hown k hk)) hg hat

/-- What is known in the region of a grant, in any order. -/
def R3 (T : Ls) (X : Lz) (E : Int) (j B0 : Nat) (W : World) (s : Nat → Bool) (vs : List Value) (w : World) : Prop :=
  ∃ v0 v1 v2 v3 v4 v5 v6 v7 v8 v9 ao n cap, vs = [v0, v1, v2, v3, v4, v5, v6, v7, v8, v9] ∧ B0 ≤ w.heap.size ∧ Below B0 W w ∧ (s 6 = true → ∃ k, v0 = .slice (some ⟨k, 0, none⟩) 3 3 ∧ nrow k w) ∧ (s 10 = true → ∃ k, v1 = .pointer (some ⟨k, j, none⟩) ∧ nrow k w) ∧ (s 11 = true → v2 = .string (nameAt j)) ∧ (s 13 = true → v3 = .tuple #[.agg (tcells T ao n cap), .agg (lzc X), .int .i64 E] ∧ LsB w B0 ao n cap T) ∧ (s 14 = true → s 13 = true ∧ v4 = .tuple #[.agg (tcells T ao n cap), .agg (lzc X), .int .i64 E]) ∧ (s 15 = true → s 14 = true ∧ v5 = .agg (tcells T ao n cap)) ∧ (s 16 = true → s 14 = true ∧ v6 = .agg (lzc X)) ∧ (s 17 = true → s 14 = true ∧ v7 = .int .i64 E) ∧ (s 18 = true → ∃ k, v8 = .pointer (some ⟨k, 0, none⟩) ∧ B0 ≤ k ∧ tzRow k w ∧ (s 13 = true → n = 0 ∨ NA k ao)) ∧ (s 19 = true → ∃ k, v9 = .pointer (some ⟨k, 0, none⟩) ∧ B0 ≤ k ∧ lzRow k w ∧ (s 13 = true → n = 0 ∨ NA k ao))
section
variable {T : Ls} {X : Lz} {E : Int} {j B0 : Nat} {W w w' : World} {s : Nat → Bool} {v0 v1 v2 v3 v4 v5 v6 v7 v8 v9 : Value}
theorem R3.ten {vs : List Value} (h : R3 T X E j B0 W s vs w) : ∃ v0 v1 v2 v3 v4 v5 v6 v7 v8 v9, vs = [v0, v1, v2, v3, v4, v5, v6, v7, v8, v9] := by
  obtain ⟨v0, v1, v2, v3, v4, v5, v6, v7, v8, v9, _, _, _, e, _⟩ := h
  exact ⟨_, _, _, _, _, _, _, _, _, _, e⟩
theorem R3.old {vs : List Value} (h : R3 T X E j B0 W s vs w) : Below B0 W w := by
  obtain ⟨v0, v1, v2, v3, v4, v5, v6, v7, v8, v9, _, _, _, e, _, h1, _⟩ := h
  exact h1
theorem R3.lo {vs : List Value} (h : R3 T X E j B0 W s vs w) : B0 ≤ w.heap.size := by
  obtain ⟨v0, v1, v2, v3, v4, v5, v6, v7, v8, v9, _, _, _, e, h0, _⟩ := h
  exact h0
theorem R3.start (hB : B0 ≤ W.heap.size) (h6 : s 6 = false) (h10 : s 10 = false) (h11 : s 11 = false) (h13 : s 13 = false) (h14 : s 14 = false) (h15 : s 15 = false) (h16 : s 16 = false) (h17 : s 17 = false) (h18 : s 18 = false) (h19 : s 19 = false) : R3 T X E j B0 W s [v0, v1, v2, v3, v4, v5, v6, v7, v8, v9] W.drew := by
  refine ⟨_, _, _, _, _, _, _, _, _, _, none, 0, 0, rfl, hB, (Below.refl _ _).drew, ?_, ?_, ?_, ?_, ?_, ?_, ?_, ?_, ?_, ?_⟩ <;> simp [h6, h10, h11, h13, h14, h15, h16, h17, h18, h19]
theorem R3.next (h : R3 T X E j B0 W s [v0, v1, v2, v3, v4, v5, v6, v7, v8, v9] w) (hb : Below w.heap.size w w') : R3 T X E j B0 W s [v0, v1, v2, v3, v4, v5, v6, v7, v8, v9] w' := by
  obtain ⟨_, _, _, _, _, _, _, _, _, _, ao, n, cap, e, h0, h1, i6, i10, i11, i13, i14, i15, i16, i17, i18, i19⟩ := h
  cases e
  refine ⟨_, _, _, _, _, _, _, _, _, _, ao, n, cap, rfl, Nat.le_trans h0 hb.size, h1.trans (hb.mono h0), fun hs => ?_, fun hs => ?_, i11, fun hs => ⟨(i13 hs).1, (i13 hs).2.below hb⟩, i14, i15, i16, i17, fun hs => ?_, fun hs => ?_⟩
  · obtain ⟨k, e, hk⟩ := i6 hs
    exact ⟨k, e, (hb.block k (row_lt hk)).trans hk⟩
  · obtain ⟨k, e, hk⟩ := i10 hs
    exact ⟨k, e, (hb.block k (row_lt hk)).trans hk⟩
  · obtain ⟨k, e, hl, hk, hn⟩ := i18 hs
    exact ⟨k, e, hl, (hb.block k (row_lt hk)).trans hk, hn⟩
  · obtain ⟨k, e, hl, hk, hn⟩ := i19 hs
    exact ⟨k, e, hl, (hb.block k (row_lt hk)).trans hk, hn⟩
theorem R3.set6 (h : R3 T X E j B0 W s [v0, v1, v2, v3, v4, v5, v6, v7, v8, v9] w) {k : Nat} (hk : nrow k w) : R3 T X E j B0 W (upd s 6) [.slice (some ⟨k, 0, none⟩) 3 3, v1, v2, v3, v4, v5, v6, v7, v8, v9] w := by
  obtain ⟨_, _, _, _, _, _, _, _, _, _, ao, n, cap, e, h0, h1, i6, i10, i11, i13, i14, i15, i16, i17, i18, i19⟩ := h
  cases e
  exact ⟨_, _, _, _, _, _, _, _, _, _, ao, n, cap, rfl, h0, h1, fun _ => ⟨k, rfl, hk⟩, fun hs => i10 (by simpa [upd] using hs), fun hs => i11 (by simpa [upd] using hs), fun hs => i13 (by simpa [upd] using hs), fun hs => (by have := i14 (by simpa [upd] using hs); simpa [upd] using this), fun hs => (by have := i15 (by simpa [upd] using hs); simpa [upd] using this), fun hs => (by have := i16 (by simpa [upd] using hs); simpa [upd] using this), fun hs => (by have := i17 (by simpa [upd] using hs); simpa [upd] using this), fun hs => (by have := i18 (by simpa [upd] using hs); simpa [upd] using this), fun hs => (by have := i19 (by simpa [upd] using hs); simpa [upd] using this)⟩
theorem R3.set10 (h : R3 T X E j B0 W s [v0, v1, v2, v3, v4, v5, v6, v7, v8, v9] w) {k : Nat} (hk : nrow k w) : R3 T X E j B0 W (upd s 10) [v0, .pointer (some ⟨k, j, none⟩), v2, v3, v4, v5, v6, v7, v8, v9] w := by
  obtain ⟨_, _, _, _, _, _, _, _, _, _, ao, n, cap, e, h0, h1, i6, i10, i11, i13, i14, i15, i16, i17, i18, i19⟩ := h
  cases e
  exact ⟨_, _, _, _, _, _, _, _, _, _, ao, n, cap, rfl, h0, h1, fun hs => i6 (by simpa [upd] using hs), fun _ => ⟨k, rfl, hk⟩, fun hs => i11 (by simpa [upd] using hs), fun hs => i13 (by simpa [upd] using hs), fun hs => (by have := i14 (by simpa [upd] using hs); simpa [upd] using this), fun hs => (by have := i15 (by simpa [upd] using hs); simpa [upd] using this), fun hs => (by have := i16 (by simpa [upd] using hs); simpa [upd] using this), fun hs => (by have := i17 (by simpa [upd] using hs); simpa [upd] using this), fun hs => (by have := i18 (by simpa [upd] using hs); simpa [upd] using this), fun hs => (by have := i19 (by simpa [upd] using hs); simpa [upd] using this)⟩
theorem R3.set11 (h : R3 T X E j B0 W s [v0, v1, v2, v3, v4, v5, v6, v7, v8, v9] w) : R3 T X E j B0 W (upd s 11) [v0, v1, .string (nameAt j), v3, v4, v5, v6, v7, v8, v9] w := by
  obtain ⟨_, _, _, _, _, _, _, _, _, _, ao, n, cap, e, h0, h1, i6, i10, i11, i13, i14, i15, i16, i17, i18, i19⟩ := h
  cases e
  exact ⟨_, _, _, _, _, _, _, _, _, _, ao, n, cap, rfl, h0, h1, fun hs => i6 (by simpa [upd] using hs), fun hs => i10 (by simpa [upd] using hs), fun _ => rfl, fun hs => i13 (by simpa [upd] using hs), fun hs => (by have := i14 (by simpa [upd] using hs); simpa [upd] using this), fun hs => (by have := i15 (by simpa [upd] using hs); simpa [upd] using this), fun hs => (by have := i16 (by simpa [upd] using hs); simpa [upd] using this), fun hs => (by have := i17 (by simpa [upd] using hs); simpa [upd] using this), fun hs => (by have := i18 (by simpa [upd] using hs); simpa [upd] using this), fun hs => (by have := i19 (by simpa [upd] using hs); simpa [upd] using this)⟩
theorem R3.call (h : R3 T X E j B0 W s [v0, v1, v2, v3, v4, v5, v6, v7, v8, v9] w) (h13 : s 13 = false) (hb : Below w.heap.size w w') {ao : Option Addr} {n cap : Nat} (hA : LsB w' w.heap.size ao n cap T) : R3 T X E j B0 W (upd s 13) [v0, v1, v2, .tuple #[.agg (tcells T ao n cap), .agg (lzc X), .int .i64 E], v4, v5, v6, v7, v8, v9] w' := by
  obtain ⟨_, _, _, _, _, _, _, _, _, _, _, _, _, e, h0, h1, i6, i10, i11, i13, i14, i15, i16, i17, i18, i19⟩ := h
  cases e
  have n14 : ¬ s 14 = true := fun hs => by have := (i14 hs).1; rw [h13] at this; cases this
  refine ⟨_, _, _, _, _, _, _, _, _, _, ao, n, cap, rfl, Nat.le_trans h0 hb.size, h1.trans (hb.mono h0), fun hs => ?_, fun hs => ?_, fun hs => i11 (by simpa [upd] using hs), fun _ => ⟨rfl, ⟨hA.A, hA.le, hA.z, fun a e => Nat.le_trans h0 (hA.lo a e)⟩⟩, fun hs => absurd (by simpa [upd] using hs) n14, fun hs => absurd (i15 (by simpa [upd] using hs)).1 n14, fun hs => absurd (i16 (by simpa [upd] using hs)).1 n14, fun hs => absurd (i17 (by simpa [upd] using hs)).1 n14, fun hs => ?_, fun hs => ?_⟩
  · obtain ⟨k, e, hk⟩ := i6 (by simpa [upd] using hs)
    exact ⟨k, e, (hb.block k (row_lt hk)).trans hk⟩
  · obtain ⟨k, e, hk⟩ := i10 (by simpa [upd] using hs)
    exact ⟨k, e, (hb.block k (row_lt hk)).trans hk⟩
  · obtain ⟨k, e, hl, hk, hn⟩ := i18 (by simpa [upd] using hs)
    exact ⟨k, e, hl, (hb.block k (row_lt hk)).trans hk, fun _ => .inr (NA.lo hA.lo (row_lt hk))⟩
  · obtain ⟨k, e, hl, hk, hn⟩ := i19 (by simpa [upd] using hs)
    exact ⟨k, e, hl, (hb.block k (row_lt hk)).trans hk, fun _ => .inr (NA.lo hA.lo (row_lt hk))⟩
theorem R3.at13 (h : R3 T X E j B0 W s [v0, v1, v2, v3, v4, v5, v6, v7, v8, v9] w) (hs : s 13 = true) : ∃ ao n cap, v3 = .tuple #[.agg (tcells T ao n cap), .agg (lzc X), .int .i64 E] ∧ R3 T X E j B0 W (upd s 14) [v0, v1, v2, v3, .tuple #[.agg (tcells T ao n cap), .agg (lzc X), .int .i64 E], v5, v6, v7, v8, v9] w := by
  obtain ⟨_, _, _, _, _, _, _, _, _, _, ao, n, cap, e, h0, h1, i6, i10, i11, i13, i14, i15, i16, i17, i18, i19⟩ := h
  cases e
  refine ⟨ao, n, cap, (i13 hs).1, _, _, _, _, _, _, _, _, _, _, ao, n, cap, rfl, h0, h1, fun hs => i6 (by simpa [upd] using hs), fun hs => i10 (by simpa [upd] using hs), fun hs => i11 (by simpa [upd] using hs), fun hs => i13 (by simpa [upd] using hs), fun _ => ⟨by simpa [upd] using hs, rfl⟩, fun hs => ?_, fun hs => ?_, fun hs => ?_, fun hs => (by have := i18 (by simpa [upd] using hs); simpa [upd] using this), fun hs => (by have := i19 (by simpa [upd] using hs); simpa [upd] using this)⟩
  · exact ⟨by simp [upd], (i15 (by simpa [upd] using hs)).2⟩
  · exact ⟨by simp [upd], (i16 (by simpa [upd] using hs)).2⟩
  · exact ⟨by simp [upd], (i17 (by simpa [upd] using hs)).2⟩
theorem R3.get15 (h : R3 T X E j B0 W s [v0, v1, v2, v3, v4, v5, v6, v7, v8, v9] w) (hs : s 14 = true) : ∃ ao n cap, v4 = .tuple #[.agg (tcells T ao n cap), .agg (lzc X), .int .i64 E] ∧ R3 T X E j B0 W (upd s 15) [v0, v1, v2, v3, v4, .agg (tcells T ao n cap), v6, v7, v8, v9] w := by
  obtain ⟨_, _, _, _, _, _, _, _, _, _, ao, n, cap, e, h0, h1, i6, i10, i11, i13, i14, i15, i16, i17, i18, i19⟩ := h
  cases e
  exact ⟨ao, n, cap, (i14 hs).2, _, _, _, _, _, _, _, _, _, _, ao, n, cap, rfl, h0, h1, fun hs => i6 (by simpa [upd] using hs), fun hs => i10 (by simpa [upd] using hs), fun hs => i11 (by simpa [upd] using hs), fun hs => i13 (by simpa [upd] using hs), fun hs => (by have := i14 (by simpa [upd] using hs); simpa [upd] using this), fun _ => ⟨by simpa [upd] using hs, rfl⟩, fun hs => (by have := i16 (by simpa [upd] using hs); simpa [upd] using this), fun hs => (by have := i17 (by simpa [upd] using hs); simpa [upd] using this), fun hs => (by have := i18 (by simpa [upd] using hs); simpa [upd] using this), fun hs => (by have := i19 (by simpa [upd] using hs); simpa [upd] using this)⟩
theorem R3.get16 (h : R3 T X E j B0 W s [v0, v1, v2, v3, v4, v5, v6, v7, v8, v9] w) (hs : s 14 = true) : ∃ ao n cap, v4 = .tuple #[.agg (tcells T ao n cap), .agg (lzc X), .int .i64 E] ∧ R3 T X E j B0 W (upd s 16) [v0, v1, v2, v3, v4, v5, .agg (lzc X), v7, v8, v9] w := by
  obtain ⟨_, _, _, _, _, _, _, _, _, _, ao, n, cap, e, h0, h1, i6, i10, i11, i13, i14, i15, i16, i17, i18, i19⟩ := h
  cases e
  exact ⟨ao, n, cap, (i14 hs).2, _, _, _, _, _, _, _, _, _, _, ao, n, cap, rfl, h0, h1, fun hs => i6 (by simpa [upd] using hs), fun hs => i10 (by simpa [upd] using hs), fun hs => i11 (by simpa [upd] using hs), fun hs => i13 (by simpa [upd] using hs), fun hs => (by have := i14 (by simpa [upd] using hs); simpa [upd] using this), fun hs => (by have := i15 (by simpa [upd] using hs); simpa [upd] using this), fun _ => ⟨by simpa [upd] using hs, rfl⟩, fun hs => (by have := i17 (by simpa [upd] using hs); simpa [upd] using this), fun hs => (by have := i18 (by simpa [upd] using hs); simpa [upd] using this), fun hs => (by have := i19 (by simpa [upd] using hs); simpa [upd] using this)⟩
theorem R3.get17 (h : R3 T X E j B0 W s [v0, v1, v2, v3, v4, v5, v6, v7, v8, v9] w) (hs : s 14 = true) : ∃ ao n cap, v4 = .tuple #[.agg (tcells T ao n cap), .agg (lzc X), .int .i64 E] ∧ R3 T X E j B0 W (upd s 17) [v0, v1, v2, v3, v4, v5, v6, .int .i64 E, v8, v9] w := by
  obtain ⟨_, _, _, _, _, _, _, _, _, _, ao, n, cap, e, h0, h1, i6, i10, i11, i13, i14, i15, i16, i17, i18, i19⟩ := h
  cases e
  exact ⟨ao, n, cap, (i14 hs).2, _, _, _, _, _, _, _, _, _, _, ao, n, cap, rfl, h0, h1, fun hs => i6 (by simpa [upd] using hs), fun hs => i10 (by simpa [upd] using hs), fun hs => i11 (by simpa [upd] using hs), fun hs => i13 (by simpa [upd] using hs), fun hs => (by have := i14 (by simpa [upd] using hs); simpa [upd] using this), fun hs => (by have := i15 (by simpa [upd] using hs); simpa [upd] using this), fun hs => (by have := i16 (by simpa [upd] using hs); simpa [upd] using this), fun _ => ⟨by simpa [upd] using hs, rfl⟩, fun hs => (by have := i18 (by simpa [upd] using hs); simpa [upd] using this), fun hs => (by have := i19 (by simpa [upd] using hs); simpa [upd] using this)⟩
theorem R3.new18 (h : R3 T X E j B0 W s [v0, v1, v2, v3, v4, v5, v6, v7, v8, v9] w) (o : Obj) (ho : ∀ u : World, tzRow u.heap.size (u.alloc o)) : R3 T X E j B0 W (upd s 18) [v0, v1, v2, v3, v4, v5, v6, v7, .pointer (some ⟨w.heap.size, 0, none⟩), v9] (w.alloc o) := by
  have hlo := h.lo
  have hhi : s 13 = true → ∀ ao n cap, v3 = .tuple #[.agg (tcells T ao n cap), .agg (lzc X), .int .i64 E] → n = 0 ∨ NA w.heap.size ao := by
    obtain ⟨_, _, _, _, _, _, _, _, _, _, ao, n, cap, e, h0, h1, i6, i10, i11, i13, i14, i15, i16, i17, i18, i19⟩ := h
    cases e
    intro hs ao' n' cap' e
    have h2 := (i13 hs).2.hi
    rw [(i13 hs).1] at e
    simp at e
    obtain ⟨rfl, rfl, rfl⟩ := e
    exact h2.imp id fun h3 a e => by have := h3 a e; omega
  have h13 : s 13 = true → ∃ ao n cap, v3 = .tuple #[.agg (tcells T ao n cap), .agg (lzc X), .int .i64 E] := by
    intro hs
    obtain ⟨ao, n, cap, e, _⟩ := h.at13 hs
    exact ⟨ao, n, cap, e⟩
  obtain ⟨_, _, _, _, _, _, _, _, _, _, ao, n, cap, e, h0, h1, i6, i10, i11, i13, i14, i15, i16, i17, i18, i19⟩ := h.next (ba w o)
  cases e
  exact ⟨_, _, _, _, _, _, _, _, _, _, ao, n, cap, rfl, h0, h1, fun hs => i6 (by simpa [upd] using hs), fun hs => i10 (by simpa [upd] using hs), fun hs => i11 (by simpa [upd] using hs), fun hs => i13 (by simpa [upd] using hs), fun hs => (by have := i14 (by simpa [upd] using hs); simpa [upd] using this), fun hs => (by have := i15 (by simpa [upd] using hs); simpa [upd] using this), fun hs => (by have := i16 (by simpa [upd] using hs); simpa [upd] using this), fun hs => (by have := i17 (by simpa [upd] using hs); simpa [upd] using this), fun _ => ⟨_, rfl, hlo, ho w, fun hs => hhi (by simpa [upd] using hs) ao n cap (i13 (by simpa [upd] using hs)).1⟩, fun hs => (by have := i19 (by simpa [upd] using hs); simpa [upd] using this)⟩
theorem R3.new19 (h : R3 T X E j B0 W s [v0, v1, v2, v3, v4, v5, v6, v7, v8, v9] w) (o : Obj) (ho : ∀ u : World, lzRow u.heap.size (u.alloc o)) : R3 T X E j B0 W (upd s 19) [v0, v1, v2, v3, v4, v5, v6, v7, v8, .pointer (some ⟨w.heap.size, 0, none⟩)] (w.alloc o) := by
  have hlo := h.lo
  have hhi : s 13 = true → ∀ ao n cap, v3 = .tuple #[.agg (tcells T ao n cap), .agg (lzc X), .int .i64 E] → n = 0 ∨ NA w.heap.size ao := by
    obtain ⟨_, _, _, _, _, _, _, _, _, _, ao, n, cap, e, h0, h1, i6, i10, i11, i13, i14, i15, i16, i17, i18, i19⟩ := h
    cases e
    intro hs ao' n' cap' e
    have h2 := (i13 hs).2.hi
    rw [(i13 hs).1] at e
    simp at e
    obtain ⟨rfl, rfl, rfl⟩ := e
    exact h2.imp id fun h3 a e => by have := h3 a e; omega
  have h13 : s 13 = true → ∃ ao n cap, v3 = .tuple #[.agg (tcells T ao n cap), .agg (lzc X), .int .i64 E] := by
    intro hs
    obtain ⟨ao, n, cap, e, _⟩ := h.at13 hs
    exact ⟨ao, n, cap, e⟩
  obtain ⟨_, _, _, _, _, _, _, _, _, _, ao, n, cap, e, h0, h1, i6, i10, i11, i13, i14, i15, i16, i17, i18, i19⟩ := h.next (ba w o)
  cases e
  exact ⟨_, _, _, _, _, _, _, _, _, _, ao, n, cap, rfl, h0, h1, fun hs => i6 (by simpa [upd] using hs), fun hs => i10 (by simpa [upd] using hs), fun hs => i11 (by simpa [upd] using hs), fun hs => i13 (by simpa [upd] using hs), fun hs => (by have := i14 (by simpa [upd] using hs); simpa [upd] using this), fun hs => (by have := i15 (by simpa [upd] using hs); simpa [upd] using this), fun hs => (by have := i16 (by simpa [upd] using hs); simpa [upd] using this), fun hs => (by have := i17 (by simpa [upd] using hs); simpa [upd] using this), fun hs => (by have := i18 (by simpa [upd] using hs); simpa [upd] using this), fun _ => ⟨_, rfl, hlo, ho w, fun hs => hhi (by simpa [upd] using hs) ao n cap (i13 (by simpa [upd] using hs)).1⟩⟩
theorem R3.at6 (h : R3 T X E j B0 W s [v0, v1, v2, v3, v4, v5, v6, v7, v8, v9] w) (hs : s 6 = true) : ∃ k, v0 = .slice (some ⟨k, 0, none⟩) 3 3 ∧ nrow k w := by
  obtain ⟨_, _, _, _, _, _, _, _, _, _, ao, n, cap, e, h0, h1, i6, i10, i11, i13, i14, i15, i16, i17, i18, i19⟩ := h
  cases e
  exact i6 hs
theorem R3.at10 (h : R3 T X E j B0 W s [v0, v1, v2, v3, v4, v5, v6, v7, v8, v9] w) (hs : s 10 = true) : ∃ k, v1 = .pointer (some ⟨k, j, none⟩) ∧ nrow k w := by
  obtain ⟨_, _, _, _, _, _, _, _, _, _, ao, n, cap, e, h0, h1, i6, i10, i11, i13, i14, i15, i16, i17, i18, i19⟩ := h
  cases e
  exact i10 hs
theorem R3.at11 (h : R3 T X E j B0 W s [v0, v1, v2, v3, v4, v5, v6, v7, v8, v9] w) (hs : s 11 = true) : v2 = .string (nameAt j) := by
  obtain ⟨_, _, _, _, _, _, _, _, _, _, ao, n, cap, e, h0, h1, i6, i10, i11, i13, i14, i15, i16, i17, i18, i19⟩ := h
  cases e
  exact i11 hs
theorem R3.all {vs : List Value} (h : R3 T X E j B0 W s vs w) (g13 : s 13 = true) (g15 : s 15 = true) (g16 : s 16 = true) (g17 : s 17 = true) (g18 : s 18 = true) (g19 : s 19 = true) : ∃ v0 v1 v2 v3 v4 k8 k9 ao n cap, vs = [v0, v1, v2, v3, v4, .agg (tcells T ao n cap), .agg (lzc X), .int .i64 E, .pointer (some ⟨k8, 0, none⟩), .pointer (some ⟨k9, 0, none⟩)] ∧ LsB w B0 ao n cap T ∧ B0 ≤ k8 ∧ B0 ≤ k9 ∧ tzRow k8 w ∧ lzRow k9 w ∧ (n = 0 ∨ NA k8 ao) ∧ (n = 0 ∨ NA k9 ao) := by
  obtain ⟨_, _, _, _, _, _, _, _, _, _, ao, n, cap, e, h0, h1, i6, i10, i11, i13, i14, i15, i16, i17, i18, i19⟩ := h
  obtain ⟨k8, e8, b8, r8, n8⟩ := i18 g18
  obtain ⟨k9, e9, b9, r9, n9⟩ := i19 g19
  rw [(i15 g15).2, (i16 g16).2, (i17 g17).2, e8, e9] at e
  exact ⟨_, _, _, _, _, k8, k9, ao, n, cap, e, (i13 g13).2, b8, b9, r8, r9, n8 g13, n9 g13⟩
end

/-- What is known in the regions that copy a list, append to it, store the result's cells (block X + 1) and make a list of one, in any order. -/
def RD (l : List Lz) (y x : Lz) (U : Array Value) (n B0 X : Nat) (W : World) (e a q b p g : Bool) (vs : List Value) (w : World) : Prop :=
  ∃ u0 u1 u2 u3 u4, vs = [u0, u1, u2, u3, u4] ∧ B0 ≤ w.heap.size ∧ (KeptY B0 X W w ∧ Below X W w) ∧ w.heap[X + 1]? = some (.cells (if p = true then U else tz) 24 (0, 0)) ∧ (e = true → ∃ k, u0 = .slice (some ⟨k, 0, none⟩) 0 0 ∧ B0 ≤ k ∧ (a = false → w.heap[k]? = some (.cells #[] 31 (0, 0)))) ∧ (a = true → b = false → w.ownsRow B0 31 5 u1 n (lzcells l)) ∧ (q = true → b = false → ∃ k, u2 = .slice (some ⟨k, 0, none⟩) 1 1 ∧ B0 ≤ k ∧ w.heap[k]? = some (.cells (lzc y) 31 (0, 0))) ∧ (b = true → a = true ∧ q = true ∧ w.ownsRow B0 31 5 u3 (n + 1) (lzcells (l ++ [y]))) ∧ (g = true → ∃ k, u4 = .slice (some ⟨k, 0, none⟩) 1 1 ∧ B0 ≤ k ∧ w.heap[k]? = some (.cells (lzc x) 31 (0, 0)) ∧ (a = true → b = false → u1.ownBlock ≠ some k))
section
variable {l : List Lz} {y x : Lz} {U : Array Value} {n B0 X : Nat} {W w w' : World} {e a q b p g : Bool} {u0 u1 u2 u3 u4 : Value}
theorem RD.five {vs : List Value} (h : RD l y x U n B0 X W e a q b p g vs w) : ∃ u0 u1 u2 u3 u4, vs = [u0, u1, u2, u3, u4] := by
  obtain ⟨_, _, _, _, _, e, _⟩ := h
  exact ⟨_, _, _, _, _, e⟩
theorem RD.kept {vs : List Value} (h : RD l y x U n B0 X W e a q b p g vs w) : KeptY B0 X W w := by
  obtain ⟨_, _, _, _, _, e, h0, h1, _⟩ := h
  exact h1.1
theorem RD.bel {vs : List Value} (h : RD l y x U n B0 X W e a q b p g vs w) : Below X W w := by
  obtain ⟨_, _, _, _, _, e, h0, h1, _⟩ := h
  exact h1.2
theorem RD.to {vs : List Value} (h : RD l y x U n B0 X W e a q b p g vs w) {e' a' q' b' p' g' : Bool} (h1 : e' = e) (h2 : a' = a) (h3 : q' = q) (h4 : b' = b) (h5 : p' = p) (h6 : g' = g) : RD l y x U n B0 X W e' a' q' b' p' g' vs w := by
  subst h1 h2 h3 h4 h5 h6
  exact h
theorem RD.lo {vs : List Value} (h : RD l y x U n B0 X W e a q b p g vs w) : B0 ≤ w.heap.size := by
  obtain ⟨_, _, _, _, _, e, h0, h1, _⟩ := h
  exact h0
theorem RD.start (hB : B0 ≤ W.heap.size) (hX : tzRow (X + 1) W) : RD l y x U n B0 X W false false false false false false [u0, u1, u2, u3, u4] W.drew := by
  refine ⟨_, _, _, _, _, rfl, hB, ⟨(KeptY.refl _ _ _).drew, (Below.refl _ _).drew⟩, hX, ?_, ?_, ?_, ?_, ?_⟩ <;> simp
theorem RD.next (h : RD l y x U n B0 X W e a q b p g [u0, u1, u2, u3, u4] w) (hb : Below w.heap.size w w') : RD l y x U n B0 X W e a q b p g [u0, u1, u2, u3, u4] w' := by
  obtain ⟨_, _, _, _, _, e0, h0, h1, h2, i1, i2, i3, i4, i5⟩ := h
  cases e0
  have hbB := hb.mono h0
  refine ⟨_, _, _, _, _, rfl, Nat.le_trans h0 hb.size, ⟨h1.1.below hbB, h1.2.trans (hb.mono (by have := row_lt h2; omega))⟩, (hb.block _ (row_lt h2)).trans h2, fun hs => ?_, fun hs hbf => ownsRow_below (i2 hs hbf) hb, fun hs hbf => ?_, fun hs => ⟨(i4 hs).1, (i4 hs).2.1, ownsRow_below (i4 hs).2.2 hb⟩, fun hs => ?_⟩
  · obtain ⟨k, e, hl, hk⟩ := i1 hs
    exact ⟨k, e, hl, fun ha => (hb.block k (row_lt (hk ha))).trans (hk ha)⟩
  · obtain ⟨k, e, hl, hk⟩ := i3 hs hbf
    exact ⟨k, e, hl, (hb.block k (row_lt hk)).trans hk⟩
  · obtain ⟨k, e, hl, hk, hne⟩ := i5 hs
    exact ⟨k, e, hl, (hb.block k (row_lt hk)).trans hk, hne⟩
theorem RD.setE (h : RD l y x U n B0 X W e a q b p g [u0, u1, u2, u3, u4] w) {k : Nat} (hk : B0 ≤ k) (hr : w.heap[k]? = some (.cells #[] 31 (0, 0))) : RD l y x U n B0 X W true a q b p g [.slice (some ⟨k, 0, none⟩) 0 0, u1, u2, u3, u4] w := by
  obtain ⟨_, _, _, _, _, e0, h0, h1, h2, i1, i2, i3, i4, i5⟩ := h
  cases e0
  exact ⟨_, _, _, _, _, rfl, h0, h1, h2, fun _ => ⟨k, rfl, hk, fun _ => hr⟩, i2, i3, i4, i5⟩
theorem RD.setL (h : RD l y x U n B0 X W e a false b p g [u0, u1, u2, u3, u4] w) {k : Nat} (hk : B0 ≤ k) (hr : w.heap[k]? = some (.cells (lzc y) 31 (0, 0))) : RD l y x U n B0 X W e a true b p g [u0, u1, .slice (some ⟨k, 0, none⟩) 1 1, u3, u4] w := by
  obtain ⟨_, _, _, _, _, e0, h0, h1, h2, i1, i2, i3, i4, i5⟩ := h
  cases e0
  exact ⟨_, _, _, _, _, rfl, h0, h1, h2, i1, i2, fun _ _ => ⟨k, rfl, hk, hr⟩, fun hs => absurd (i4 hs).2.1 (by simp), i5⟩
theorem RD.setG (h : RD l y x U n B0 X W e a q b p g [u0, u1, u2, u3, u4] w) {k : Nat} (hk : B0 ≤ k) (hr : w.heap[k]? = some (.cells (lzc x) 31 (0, 0))) (hne : a = true → b = false → u1.ownBlock ≠ some k) : RD l y x U n B0 X W e a q b p true [u0, u1, u2, u3, .slice (some ⟨k, 0, none⟩) 1 1] w := by
  obtain ⟨_, _, _, _, _, e0, h0, h1, h2, i1, i2, i3, i4, i5⟩ := h
  cases e0
  exact ⟨_, _, _, _, _, rfl, h0, h1, h2, i1, i2, i3, i4, fun _ => ⟨k, rfl, hk, hr, hne⟩⟩
theorem RD.row1 (h : RD l y x U n B0 X W e a q b p g [u0, u1, u2, u3, u4] w) (ha : a = true) (hb : b = false) : w.ownsRow B0 31 5 u1 n (lzcells l) := by
  obtain ⟨_, _, _, _, _, e0, h0, h1, h2, i1, i2, i3, i4, i5⟩ := h
  cases e0
  exact i2 ha hb
theorem RD.emp (h : RD l y x U n B0 X W true false q b p g [u0, u1, u2, u3, u4] w) : ∃ k, u0 = .slice (some ⟨k, 0, none⟩) 0 0 ∧ B0 ≤ k ∧ w.heap[k]? = some (.cells #[] 31 (0, 0)) := by
  obtain ⟨_, _, _, _, _, e0, h0, h1, h2, i1, i2, i3, i4, i5⟩ := h
  cases e0
  obtain ⟨k, e, hk, hr⟩ := i1 rfl
  exact ⟨k, e, hk, hr rfl⟩
theorem RD.lit (h : RD l y x U n B0 X W e a true false p g [u0, u1, u2, u3, u4] w) : ∃ k, u2 = .slice (some ⟨k, 0, none⟩) 1 1 ∧ B0 ≤ k ∧ w.heap[k]? = some (.cells (lzc y) 31 (0, 0)) := by
  obtain ⟨_, _, _, _, _, e0, h0, h1, h2, i1, i2, i3, i4, i5⟩ := h
  cases e0
  exact i3 rfl rfl
theorem own_lt {w : World} {B : Nat} {e : TypeId} {sz m k : Nat} {v : Value} {xs : List Value} (h : w.ownsRow B e sz v m xs) (hk : v.ownBlock = some k) : B ≤ k ∧ k < w.heap.size := h.lt k hk
theorem RD.res (h : RD l y x U n B0 X W e a q b p g [u0, u1, u2, u3, u4] w) : w.heap[X + 1]? = some (.cells (if p = true then U else tz) 24 (0, 0)) := by
  obtain ⟨_, _, _, _, _, e0, h0, h1, h2, i1, i2, i3, i4, i5⟩ := h
  cases e0
  exact h2
theorem RD.setA {k : Nat} (h : RD l y x U n B0 X W true false q b p g [.slice (some ⟨k, 0, none⟩) 0 0, u1, u2, u3, u4] w) (hX : X + 1 < B0) (hk : B0 ≤ k) (hr : w.heap[k]? = some (.cells #[] 31 (0, 0))) {v : Value} (hown : w'.ownsRow B0 31 5 v n (lzcells l)) (hb : Below B0 w w') (hg : w.grownBy w' (some k)) (hat : v.ownBlock = some k ∨ v.ownBlock = some w.heap.size) : RD l y x U n B0 X W true true q b p g [.slice (some ⟨k, 0, none⟩) 0 0, v, u2, u3, u4] w' := by
  obtain ⟨_, _, _, _, _, e0, h0, h1, h2, i1, i2, i3, i4, i5⟩ := h
  cases e0
  refine ⟨_, _, _, _, _, rfl, Nat.le_trans h0 hb.size, ⟨h1.1.below hb, h1.2.trans (hb.mono (by omega))⟩, (hb.block _ hX).trans h2, fun _ => ⟨k, rfl, hk, fun ha => by cases ha⟩, fun _ _ => hown, fun hs hbf => ?_, fun hs => absurd (i4 hs).1 (by simp), fun hs => ?_⟩
  · obtain ⟨k2, e2, hl, hr2⟩ := i3 hs hbf
    refine ⟨k2, e2, hl, (hg.block k2 (row_lt hr2) (fun e => two_rows hr hr2 (Option.some.inj e).symm)).trans hr2⟩
  · obtain ⟨k2, e2, hl, hr2, _⟩ := i5 hs
    have hne : k ≠ k2 := fun e => two_rows hr hr2 e
    refine ⟨k2, e2, hl, (hg.block k2 (row_lt hr2) (fun e => hne (Option.some.inj e).symm)).trans hr2, fun _ _ e3 => ?_⟩
    have hl2 := row_lt hr2
    rcases hat with h4 | h4
    · rw [h4] at e3; exact hne (Option.some.inj e3)
    · rw [h4] at e3; have := Option.some.inj e3; omega
theorem RD.setB (h : RD l y x U n B0 X W e true true false p g [u0, u1, u2, u3, u4] w) (hX : X + 1 < B0) {v : Value} (hown : w'.ownsRow B0 31 5 v (n + 1) (lzcells (l ++ [y]))) (hb : Below B0 w w') (hg : w.grownBy w' u1.ownBlock) : RD l y x U n B0 X W e true true true p g [u0, u1, u2, v, u4] w' := by
  obtain ⟨_, _, _, _, _, e0, h0, h1, h2, i1, i2, i3, i4, i5⟩ := h
  cases e0
  refine ⟨_, _, _, _, _, rfl, Nat.le_trans h0 hb.size, ⟨h1.1.below hb, h1.2.trans (hb.mono (by omega))⟩, (hb.block _ hX).trans h2, fun hs => ?_, fun _ hbf => (by cases hbf), fun _ hbf => (by cases hbf), fun _ => ⟨rfl, rfl, hown⟩, fun hs => ?_⟩
  · obtain ⟨k, e, hk, _⟩ := i1 hs
    exact ⟨k, e, hk, fun ha => by cases ha⟩
  · obtain ⟨k2, e2, hl, hr2, hne⟩ := i5 hs
    exact ⟨k2, e2, hl, (hg.block k2 (row_lt hr2) (fun e => hne rfl rfl e.symm)).trans hr2, fun _ hbf => by cases hbf⟩
theorem RD.setS (h : RD l y x U n B0 X W e a q b false g [u0, u1, u2, u3, u4] w) (hX : X + 1 < B0) (hbx : Below X w w') (hw : ∀ k, k ≠ X + 1 → w'.heap[k]? = w.heap[k]?) (hz : w'.heap.size = w.heap.size) (hr : w'.heap[X + 1]? = some (.cells U 24 (0, 0))) (hown : ∀ v m xs, w.ownsRow B0 31 5 v m xs → w'.ownsRow B0 31 5 v m xs) : RD l y x U n B0 X W e a q b true g [u0, u1, u2, u3, u4] w' := by
  obtain ⟨_, _, _, _, _, e0, h0, h1, h2, i1, i2, i3, i4, i5⟩ := h
  cases e0
  refine ⟨_, _, _, _, _, rfl, by rw [hz]; exact h0, ⟨fun k hk hk1 hk2 => (hw k hk2).trans (h1.1 k hk hk1 hk2), h1.2.trans hbx⟩, by simpa using hr, fun hs => ?_, fun hs hbf => hown _ _ _ (i2 hs hbf), fun hs hbf => ?_, fun hs => ⟨(i4 hs).1, (i4 hs).2.1, hown _ _ _ (i4 hs).2.2⟩, fun hs => ?_⟩
  · obtain ⟨k, e, hk, hr1⟩ := i1 hs
    exact ⟨k, e, hk, fun ha => (hw k (by omega)).trans (hr1 ha)⟩
  · obtain ⟨k, e, hk, hr1⟩ := i3 hs hbf
    exact ⟨k, e, hk, (hw k (by omega)).trans hr1⟩
  · obtain ⟨k, e, hk, hr1, hne⟩ := i5 hs
    exact ⟨k, e, hk, (hw k (by omega)).trans hr1, hne⟩
theorem RD.allB (h : RD l y x U n B0 X W e a q true p g [u0, u1, u2, u3, u4] w) : w.ownsRow B0 31 5 u3 (n + 1) (lzcells (l ++ [y])) := by
  obtain ⟨_, _, _, _, _, e0, h0, h1, h2, i1, i2, i3, i4, i5⟩ := h
  cases e0
  exact (i4 rfl).2.2
theorem RD.allG (h : RD l y x U n B0 X W e a q b p true [u0, u1, u2, u3, u4] w) : ∃ k, u4 = .slice (some ⟨k, 0, none⟩) 1 1 ∧ B0 ≤ k ∧ w.heap[k]? = some (.cells (lzc x) 31 (0, 0)) := by
  obtain ⟨_, _, _, _, _, e0, h0, h1, h2, i1, i2, i3, i4, i5⟩ := h
  cases e0
  obtain ⟨k, e, hk, hr, _⟩ := i5 rfl
  exact ⟨k, e, hk, hr⟩
end
/-- The same with one more slot, to which the list is assigned. -/
def RE (l : List Lz) (y x : Lz) (U : Array Value) (n B0 X : Nat) (W : World) (e a q b p g z : Bool) (vs : List Value) (w : World) : Prop :=
  ∃ u0 u1 u2 u3 u4 u5, vs = [u0, u1, u2, u3, u4, u5] ∧ RD l y x U n B0 X W e a q b p g [u0, u1, u2, u3, u4] w ∧ (z = true → b = true ∧ u5 = u3)
theorem RE.start {l : List Lz} {y x : Lz} {U : Array Value} {n B0 X : Nat} {W w : World} {e a q b p g z : Bool} {u0 u1 u2 u3 u4 u5 : Value} (h : RD l y x U n B0 X W e a q b p g [u0, u1, u2, u3, u4] w) (hz : z = false) : RE l y x U n B0 X W e a q b p g z [u0, u1, u2, u3, u4, u5] w :=
  ⟨_, _, _, _, _, _, rfl, h, fun h => by rw [hz] at h; cases h⟩
def RF (V : Value) (l : List Lz) (y x : Lz) (U : Array Value) (n B0 X : Nat) (W : World) (e a q b p g z : Bool) (vs : List Value) (w : World) : Prop :=
  ∃ u0 u1 u2 u3 u4 u5, vs = [u0, u1, u2, u3, u4, u5] ∧ RD l y x U n B0 X W e a q b p g [u0, u1, u2, u3, u4] w ∧ (z = true → u5 = V)
theorem RF.start {V : Value} {l : List Lz} {y x : Lz} {U : Array Value} {n B0 X : Nat} {W w : World} {e a q b p g z : Bool} {u0 u1 u2 u3 u4 u5 : Value} (h : RD l y x U n B0 X W e a q b p g [u0, u1, u2, u3, u4] w) (hz : z = false) : RF V l y x U n B0 X W e a q b p g z [u0, u1, u2, u3, u4, u5] w :=
  ⟨_, _, _, _, _, _, rfl, h, fun h => by rw [hz] at h; cases h⟩
end Go.Proofs.Ytghkldodceamcaa

namespace Go.Proofs.Ytghkldodceamcaa
open Go.RowKit

def put3 (k : Nat) (T : Ls) (ao : Option Addr) (n cap : Nat) (w : World) : World := ((w.setCell ⟨k, 0, none⟩ (.int .i64 T.clock)).setCell ⟨k, 1, none⟩ (.int .i64 T.epoch)).setCell ⟨k, 2, none⟩ (.slice ao n cap)
theorem put3_row {k n cap : Nat} {ao : Option Addr} {T : Ls} {w : World} (h : tzRow k w) : (put3 k T ao n cap w).heap[k]? = some (.cells (tcells T ao n cap) 24 (0, 0)) := row_set (row_set (row_set h 0 (.int .i64 T.clock)) 1 (.int .i64 T.epoch)) 2 (.slice ao n cap)
theorem put3_other {k n cap j : Nat} {ao : Option Addr} {T : Ls} {w : World} {o : Option Obj} (h : w.heap[j]? = o) (hj : j ≠ k) : (put3 k T ao n cap w).heap[j]? = o := row_other (row_other (row_other h hj) hj) hj
theorem put3_below {k B n cap : Nat} {ao : Option Addr} {T : Ls} {w0 w : World} (h : Below B w0 w) (hk : B ≤ k) : Below B w0 (put3 k T ao n cap w) :=
  ((h.setCell (p := ⟨k, 0, none⟩) hk _).setCell (p := ⟨k, 1, none⟩) hk _).setCell (p := ⟨k, 2, none⟩) hk _
theorem put3_size {k n cap : Nat} {ao : Option Addr} {T : Ls} {w : World} : (put3 k T ao n cap w).heap.size = w.heap.size := by unfold put3; simp only [World.size_setCell]
theorem put3_own {k n cap B sz m : Nat} {e : TypeId} {ao : Option Addr} {T : Ls} {w : World} {v : Value} {xs : List Value} (h : w.ownsRow B e sz v m xs) (hk : k < B) : (put3 k T ao n cap w).ownsRow B e sz v m xs := own_set (own_set (own_set h hk) hk) hk
def putL (k : Nat) (x : Lz) (w : World) : World := ((((w.setCell ⟨k, 0, none⟩ (.int .u64 x.1.1.toNat)).setCell ⟨k, 1, none⟩ (.int .u64 x.1.2.toNat)).setCell ⟨k, 2, none⟩ (.string x.2.1)).setCell ⟨k, 3, none⟩ (.int .i64 x.2.2.1)).setCell ⟨k, 4, none⟩ (.int .i64 x.2.2.2)
theorem putL_row {k : Nat} {x : Lz} {w : World} (h : lzRow k w) : (putL k x w).heap[k]? = some (.cells (lzc x) 31 (0, 0)) := row_set (row_set (row_set (row_set (row_set h 0 (.int .u64 x.1.1.toNat)) 1 (.int .u64 x.1.2.toNat)) 2 (.string x.2.1)) 3 (.int .i64 x.2.2.1)) 4 (.int .i64 x.2.2.2)
theorem putL_other {k j : Nat} {x : Lz} {w : World} {o : Option Obj} (h : w.heap[j]? = o) (hj : j ≠ k) : (putL k x w).heap[j]? = o := row_other (row_other (row_other (row_other (row_other h hj) hj) hj) hj) hj
theorem putL_below {k B : Nat} {x : Lz} {w0 w : World} (h : Below B w0 w) (hk : B ≤ k) : Below B w0 (putL k x w) :=
  ((((h.setCell (p := ⟨k, 0, none⟩) hk _).setCell (p := ⟨k, 1, none⟩) hk _).setCell (p := ⟨k, 2, none⟩) hk _).setCell (p := ⟨k, 3, none⟩) hk _).setCell (p := ⟨k, 4, none⟩) hk _
theorem LsB.na {w : World} {b n cap : Nat} {ao : Option Addr} {T : Ls} (h : LsB w b ao n cap T) {X : Nat} (hX : X < b) : NA X ao := NA.lo h.lo hX
theorem LzB.na {w : World} {b n cap : Nat} {ao : Option Addr} {T : List Lz} (h : LzB w b ao n cap T) {X : Nat} (hX : X < b) : NA X ao := NA.lo h.lo hX
theorem LsB.put3 {k n cap m b c : Nat} {ao bo : Option Addr} {T U : Ls} {w : World} (h : LsB w b bo m c U) (hk : m = 0 ∨ NA k bo) : LsB (put3 k T ao n cap w) b bo m c U := ((h.set0 hk).set0 hk).set0 hk
theorem LzB.put3 {k n cap m b c : Nat} {ao bo : Option Addr} {T : Ls} {U : List Lz} {w : World} (h : LzB w b bo m c U) (hk : m = 0 ∨ NA k bo) : LzB (put3 k T ao n cap w) b bo m c U := ((h.set0 hk).set0 hk).set0 hk
theorem LsB.putL {k m b c : Nat} {bo : Option Addr} {U : Ls} {x : Lz} {w : World} (h : LsB w b bo m c U) (hk : m = 0 ∨ NA k bo) : LsB (putL k x w) b bo m c U := ((((h.set0 hk).set0 hk).set0 hk).set0 hk).set0 hk
/-- The results as read. -/
theorem res_do {fn : Func} (hf : fn.results = #[.cell 6 24, .tmp 7, .tmp 8, .tmp 9]) (t : Array Value) (w : World) (k : Nat) (a b c g h i : Value) (h6 : t.getD 6 undef = .pointer (some ⟨k, 0, none⟩)) (h7 : t.getD 7 undef = g) (h8 : t.getD 8 undef = h) (h9 : t.getD 9 undef = i)
    (e0 : w.cell? ⟨k, 0, none⟩ = some a) (e1 : w.cell? ⟨k, 1, none⟩ = some b) (e2 : w.cell? ⟨k, 2, none⟩ = some c) :
    (results fn t).run Try.prog w = .ok (.tuple #[.agg #[a, b, c], g, h, i]) w := by
  rw [Array.getD_eq_getD_getElem?] at h6 h7 h8 h9
  unfold results
  rw [hf]
  simp [go_sem, h6, h7, h8, h9, e0, e1, e2, asAddr]

set_option linter.unusedSimpArgs false in
set_option maxRecDepth 100000 in
set_option maxHeartbeats 16000000 in
theorem do_any (t : Ls) (ao : Option Addr) (n cap : Nat) (l : List Lz) (al : Option Addr) (nl cl : Nat) (d0 d1 d2 d3 d4 : Nat) (w : World) (h : LsA w ao n t) (hcap : n ≤ cap) (hz : ao = none → cap = 0) (hl : LzB w 0 al nl cl l) (hn : nl ≤ 1000) (hs : ∀ x ∈ l, x.2.1.size ≤ maxLen) (hc0 : 0 ≤ t.clock) (hc1 : t.clock ≤ 1099511627776) (h0 : d0 < 256) (h1 : d1 < 256) (h2 : d2 < 256) (h3 : d3 < 256) (h4 : d4 < 256) :
    Calls Try.prog 26 #[.agg (tcells t ao n cap), .agg #[.int .u8 d0, .int .u8 d1, .int .u8 d2, .int .u8 d3, .int .u8 d4], .slice al nl cl] w fun e w' => DoR t l n nl ao al w e w' := by
  have hnl0 := hl.hi
  have hb : Below w.heap.size w w := Below.refl _ _
  have HA := lid (show LsB w 0 ao n cap t from ⟨h, hcap, hz, fun _ _ => Nat.zero_le _⟩)
  have HL := lid hl
  clear h hcap hz hl
  obtain ⟨m, e3⟩ : ∃ m : Nat, (d3 : Int) % 8 = (m : Int) := ⟨d3 % 8, by omega⟩
  have hm : m < 8 := by omega
  obtain ⟨g, e1⟩ : ∃ g : UInt64, (d1 : Int) % 3 = (g.toNat : Int) := ⟨UInt64.ofNat (d1 % 3), by rw [show (UInt64.ofNat (d1 % 3)).toNat = d1 % 3 from by rw [UInt64.toNat_ofNat']; omega]; omega⟩
  have hg : g.toNat < 3 := by omega
  obtain ⟨j, e2⟩ : ∃ j : Nat, (d2 : Int) % 3 = (j : Int) := ⟨d2 % 3, by omega⟩
  have hj : j < 3 := by omega
  by_cases k0 : d0 % 4 = 0
  case pos =>
    have e0 : (d0 : Int) % 4 = 0 := by omega
    go_enter Try.func26, Try.ntmps26
    go_wp2_with fail
    have bw : w.heap.size ≤ w.heap.size := hb.size
    obtain ⟨W0, hW⟩ : ∃ y, ((w.alloc (.cells (tcells t ao n cap) 24)).alloc (.cells #[.int .u8 d0, .int .u8 d1, .int .u8 d2, .int .u8 d3, .int .u8 d4] 51)).alloc (.cells tz 24) = y := ⟨_, rfl⟩
    rw [hW]
    have hbW : Below w.heap.size w W0 := by rw [← hW]; exact ((((Below.refl w.heap.size w).alloc (Nat.le_refl _) _).alloc (by simp only [World.size_alloc]; omega) _).alloc (by simp only [World.size_alloc]; omega) _)
    have gW0 : w.heap.size + 2 < W0.heap.size := by rw [← hW]; simp only [World.size_alloc]; omega
    have BT : Hid (W0.heap[w.heap.size]? = some (.cells (tcells t ao n cap) 24 (0, 0))) := lid (by
      rw [← hW]
      iterate 2 rw [Below.heap_alloc _ _ _ (by simp only [World.size_alloc]; omega)]
      have := heap_alloc_new w (.cells (tcells t ao n cap) 24)
      exact this)
    have BD : Hid (W0.heap[w.heap.size + 1]? = some (.cells #[.int .u8 d0, .int .u8 d1, .int .u8 d2, .int .u8 d3, .int .u8 d4] 51 (0, 0))) := lid (by
      rw [← hW]
      iterate 1 rw [Below.heap_alloc _ _ _ (by simp only [World.size_alloc]; omega)]
      have := heap_alloc_new (w.alloc (.cells (tcells t ao n cap) 24)) (.cells #[.int .u8 d0, .int .u8 d1, .int .u8 d2, .int .u8 d3, .int .u8 d4] 51)
      simp only [World.size_alloc] at this
      exact this)
    have BP : Hid (W0.heap[w.heap.size + 1 + 1]? = some (.cells tz 24 (0, 0))) := lid (by
      rw [← hW]
      have := heap_alloc_new ((w.alloc (.cells (tcells t ao n cap) 24)).alloc (.cells #[.int .u8 d0, .int .u8 d1, .int .u8 d2, .int .u8 d3, .int .u8 d4] 51)) (.cells tz 24)
      simp only [World.size_alloc] at this
      exact this)
    clear hW
    replace HA := lid (HA.out.below hbW)
    replace HL := lid (HL.out.below hbW)
    replace hb := hb.trans (hbW.mono hb.size)
    have mW0 := hbW.size
    clear hbW
    have q1 := row_cell BT.out 0
    have q2 := row_cell BT.out 1
    have q3 := row_cell BT.out 2
    have q4 := row_cell BD.out 0
    have q5 := row_cell BD.out 1
    have q6 := row_cell BD.out 2
    have q7 := row_cell BD.out 3
    have q8 := row_cell BD.out 4
    have q9 := row_lt BT.out
    have q10 := row_lt BD.out
    have lw := W0.heap.size
    clear lw
    have CG := lid (fun w' (hb' : Below W0.heap.size W0 w') => grant_any t ao n cap (0, g) (nameAt j) m w' (HA.out.below hb').A HA.out.le HA.out.z (by rw [nameAt_size]; decide))
    rw [show dv ((0 : UInt64), g) = .agg #[.int .u64 0, .int .u64 g.toNat] from rfl] at CG
    obtain ⟨T, hT⟩ : ∃ y, grantL t (0, g) (nameAt j) m = y := ⟨_, rfl⟩
    obtain ⟨X, hX⟩ : ∃ y, grantX t (0, g) (nameAt j) m = y := ⟨_, rfl⟩
    obtain ⟨E, hE⟩ : ∃ y, grantE t (0, g) (nameAt j) m = y := ⟨_, rfl⟩
    have HST : Hid (Step t l T (l ++ [X]) [] E) := lid (.inl ⟨(0, g), nameAt j, m, by rw [nameAt_size]; exact Nat.le_refl _, hT.symm, by rw [hX], rfl, hE.symm⟩)
    rw [hT, hX, hE] at CG
    clear hT hX hE
    refine wp_region_mixF (fun w' => ∃ s : Since W0.heap.size W0, w' = s.world) [(0, true), (1, true), (2, true), (3, true), (7, true), (8, true), (9, true), (12, true), (4, true), (5, true)] [(6, []), (10, [6]), (11, [10]), (13, [11]), (18, []), (19, [])] [(14, [13]), (15, [14]), (16, [14]), (17, [14])] [(20, false), (21, false), (22, false)] (by kernel_rfl) (by kernel_rfl) (by intro c d v a w h; cases d <;> exact h) (since (Below.refl _ _).drew) ?_
    repeat (first | (refine seq_skip (by rfl) (by rfl) ?_; simp only [Act.put, List.setIfInBounds_toArray, List.set_cons_succ, List.set_cons_zero]) | (refine seq_float (by rfl) (by rfl) (by rfl) ?_; intro K hK; go_big_quiet_op; go_big_quiet_on))
    simp only [e0, e1, e2, e3]
    clear q1 q2 q3 q4 q5 q6 q7 q8 q9 q10
    refine seq_nil (mixF_go [49, 53, 54, 56, 42, 57, 58, 59, 11, 12] [undef, undef, undef, undef, undef, undef, undef, undef, undef, undef] (R3 T X E j W0.heap.size W0) rfl (by simp only [putAll, Act.put, List.setIfInBounds_toArray, List.set_cons_succ, List.set_cons_zero]) (fun s h h2 => R3.start (Nat.le_refl _) (h (6, []) (by simp)) (h (10, [6]) (by simp)) (h (11, [10]) (by simp)) (h (13, [11]) (by simp)) (h2 (14, [13]) (by simp)) (h2 (15, [14]) (by simp)) (h2 (16, [14]) (by simp)) (h2 (17, [14]) (by simp)) (h (18, []) (by simp)) (h (19, []) (by simp))) ⟨?_, ?_, ?_, ?_, ?_, ?_, trivial⟩ ⟨?_, ?_, ?_, ?_, trivial⟩ ?_)
    · intro s vs wv _ S0 SD _ hR
      have hR' := lid hR
      obtain ⟨x0, x1, x2, x3, x4, x5, x6, x7, x8, x9, rfl⟩ := hR.ten
      simp only [putAll, Act.put, List.setIfInBounds_toArray, List.set_cons_succ, List.set_cons_zero]
      refine mix_op (by rfl) ?_
      intro K hK
      go_wp2_with fail
      exact hK.out _ _ ⟨since (hR'.out.old.trans ((ba _ _).mono hR'.out.lo)), [.slice (some ⟨wv.heap.size, 0, none⟩) 3 3, x1, x2, x3, x4, x5, x6, x7, x8, x9], rfl, by simp only [putAll, Act.put, List.setIfInBounds_toArray, List.set_cons_succ, List.set_cons_zero], (hR'.out.next (ba _ _)).set6 (heap_alloc_new wv _)⟩
    · intro s vs wv _ S0 SD _ hR
      have hR' := lid hR
      obtain ⟨x0, x1, x2, x3, x4, x5, x6, x7, x8, x9, rfl⟩ := hR.ten
      simp only [putAll, Act.put, List.setIfInBounds_toArray, List.set_cons_succ, List.set_cons_zero]
      obtain ⟨k, rfl, hk⟩ := hR.at6 (SD 6 (by simp))
      have hjz : (0 : Int) ≤ (j : Int) := by omega
      refine mix_op (by rfl) ?_
      intro K hK
      go_wp2_with fail
      exact hK.out _ _ ⟨since hR'.out.old, [_, .pointer (some ⟨k, j, none⟩), x2, x3, x4, x5, x6, x7, x8, x9], rfl, by simp only [putAll, Act.put, List.setIfInBounds_toArray, List.set_cons_succ, List.set_cons_zero], hR'.out.set10 hk⟩
    · intro s vs wv _ S0 SD _ hR
      have hR' := lid hR
      obtain ⟨x0, x1, x2, x3, x4, x5, x6, x7, x8, x9, rfl⟩ := hR.ten
      simp only [putAll, Act.put, List.setIfInBounds_toArray, List.set_cons_succ, List.set_cons_zero]
      obtain ⟨k, rfl, hk⟩ := hR.at10 (SD 10 (by simp))
      have hc := nrow_at hk hj
      refine mix_op (by rfl) ?_
      intro K hK
      go_wp2_with fail
      exact hK.out _ _ ⟨since hR'.out.old, [x0, _, .string (nameAt j), x3, x4, x5, x6, x7, x8, x9], rfl, by simp only [putAll, Act.put, List.setIfInBounds_toArray, List.set_cons_succ, List.set_cons_zero], hR'.out.set11⟩
    · intro s vs wv _ S0 SD _ hR
      have hR' := lid hR
      obtain ⟨x0, x1, x2, x3, x4, x5, x6, x7, x8, x9, rfl⟩ := hR.ten
      simp only [putAll, Act.put, List.setIfInBounds_toArray, List.set_cons_succ, List.set_cons_zero]
      obtain rfl := hR.at11 (SD 11 (by simp))
      have CGW := lid (CG.out wv hR.old)
      refine mix_op (by rfl) ?_
      intro K hK
      go_wp2_with fail
      (with_reducible refine (CGW.out).mono ?_); rintro e wc ⟨_, rfl, ⟨aT, nT, cT, rfl, hA⟩, hbc⟩
      go_wp2_with fail
      exact hK.out _ _ ⟨since (hR'.out.old.trans (hbc.mono hR'.out.lo)), [x0, x1, _, .tuple #[.agg (tcells T aT nT cT), .agg (lzc X), .int .i64 E], x4, x5, x6, x7, x8, x9], rfl, by simp only [putAll, Act.put, List.setIfInBounds_toArray, List.set_cons_succ, List.set_cons_zero], hR'.out.call S0 hbc hA⟩
    · intro s vs wv _ S0 SD _ hR
      have hR' := lid hR
      obtain ⟨x0, x1, x2, x3, x4, x5, x6, x7, x8, x9, rfl⟩ := hR.ten
      simp only [putAll, Act.put, List.setIfInBounds_toArray, List.set_cons_succ, List.set_cons_zero]
      refine mix_op (by rfl) ?_
      intro K hK
      go_wp2_with fail
      exact hK.out _ _ ⟨since (hR'.out.old.trans ((ba _ _).mono hR'.out.lo)), [x0, x1, x2, x3, x4, x5, x6, x7, .pointer (some ⟨wv.heap.size, 0, none⟩), x9], rfl, by simp only [putAll, Act.put, List.setIfInBounds_toArray, List.set_cons_succ, List.set_cons_zero], hR'.out.new18 _ (fun u => heap_alloc_new u _)⟩
    · intro s vs wv _ S0 SD _ hR
      have hR' := lid hR
      obtain ⟨x0, x1, x2, x3, x4, x5, x6, x7, x8, x9, rfl⟩ := hR.ten
      simp only [putAll, Act.put, List.setIfInBounds_toArray, List.set_cons_succ, List.set_cons_zero]
      refine mix_op (by rfl) ?_
      intro K hK
      go_wp2_with fail
      exact hK.out _ _ ⟨since (hR'.out.old.trans ((ba _ _).mono hR'.out.lo)), [x0, x1, x2, x3, x4, x5, x6, x7, x8, .pointer (some ⟨wv.heap.size, 0, none⟩)], rfl, by simp only [putAll, Act.put, List.setIfInBounds_toArray, List.set_cons_succ, List.set_cons_zero], hR'.out.new19 _ (fun u => heap_alloc_new u _)⟩
    · intro s vs wv _ S0 SD _ hR
      have hR' := lid hR
      obtain ⟨x0, x1, x2, x3, x4, x5, x6, x7, x8, x9, rfl⟩ := hR.ten
      skip
      obtain ⟨aT, nT, cT, rfl, hR2⟩ := hR.at13 (SD 13 (by simp))
      have HR2 := lid hR2
      clear hR2
      refine mix_read (by rfl) (by rfl) (by rfl) ?_
      intro K hK
      simp only [putAll, Act.put, List.setIfInBounds_toArray, List.set_cons_succ, List.set_cons_zero]
      go_big_quiet_op
      go_big_quiet_on
      exact ⟨[x0, x1, x2, _, .tuple #[.agg (tcells T aT nT cT), .agg (lzc X), .int .i64 E], x5, x6, x7, x8, x9], rfl, by simp only [putAll, Act.put, List.setIfInBounds_toArray, List.set_cons_succ, List.set_cons_zero], HR2.out⟩
    · intro s vs wv _ S0 SD _ hR
      have hR' := lid hR
      obtain ⟨x0, x1, x2, x3, x4, x5, x6, x7, x8, x9, rfl⟩ := hR.ten
      skip
      obtain ⟨aT, nT, cT, rfl, hR2⟩ := hR.get15 (SD 14 (by simp))
      have HR2 := lid hR2
      clear hR2
      refine mix_read (by rfl) (by rfl) (by rfl) ?_
      intro K hK
      simp only [putAll, Act.put, List.setIfInBounds_toArray, List.set_cons_succ, List.set_cons_zero]
      go_big_quiet_op
      go_big_quiet_on
      exact ⟨[x0, x1, x2, x3, .tuple #[.agg (tcells T aT nT cT), .agg (lzc X), .int .i64 E], .agg (tcells T aT nT cT), x6, x7, x8, x9], rfl, by simp only [putAll, Act.put, List.setIfInBounds_toArray, List.set_cons_succ, List.set_cons_zero], HR2.out⟩
    · intro s vs wv _ S0 SD _ hR
      have hR' := lid hR
      obtain ⟨x0, x1, x2, x3, x4, x5, x6, x7, x8, x9, rfl⟩ := hR.ten
      skip
      obtain ⟨aT, nT, cT, rfl, hR2⟩ := hR.get16 (SD 14 (by simp))
      have HR2 := lid hR2
      clear hR2
      refine mix_read (by rfl) (by rfl) (by rfl) ?_
      intro K hK
      simp only [putAll, Act.put, List.setIfInBounds_toArray, List.set_cons_succ, List.set_cons_zero]
      go_big_quiet_op
      go_big_quiet_on
      exact ⟨[x0, x1, x2, x3, .tuple #[.agg (tcells T aT nT cT), .agg (lzc X), .int .i64 E], x5, .agg (lzc X), x7, x8, x9], rfl, by simp only [putAll, Act.put, List.setIfInBounds_toArray, List.set_cons_succ, List.set_cons_zero], HR2.out⟩
    · intro s vs wv _ S0 SD _ hR
      have hR' := lid hR
      obtain ⟨x0, x1, x2, x3, x4, x5, x6, x7, x8, x9, rfl⟩ := hR.ten
      skip
      obtain ⟨aT, nT, cT, rfl, hR2⟩ := hR.get17 (SD 14 (by simp))
      have HR2 := lid hR2
      clear hR2
      refine mix_read (by rfl) (by rfl) (by rfl) ?_
      intro K hK
      simp only [putAll, Act.put, List.setIfInBounds_toArray, List.set_cons_succ, List.set_cons_zero]
      go_big_quiet_op
      go_big_quiet_on
      exact ⟨[x0, x1, x2, x3, .tuple #[.agg (tcells T aT nT cT), .agg (lzc X), .int .i64 E], x5, x6, .int .i64 E, x8, x9], rfl, by simp only [putAll, Act.put, List.setIfInBounds_toArray, List.set_cons_succ, List.set_cons_zero], HR2.out⟩
    intro s vs w3 _ hall hallf _ hR
    have hB1 := hR.old
    obtain ⟨x0, x1, x2, x3, x4, kx, ky, aoT, nT, capT, rfl, hA, hkx, hky, rx, ry, hnx, hny⟩ := hR.all (hall (13, [11]) (by simp)) (hallf (15, [14]) (by simp)) (hallf (16, [14]) (by simp)) (hallf (17, [14]) (by simp)) (hall (18, []) (by simp)) (hall (19, []) (by simp))
    have hne : kx ≠ ky := by
      intro e
      rw [e] at rx
      have := rx.symm.trans ry
      simp at this
    have HT := lid hA
    have RX := lid rx
    have RY := lid ry
    clear rx ry hA hall hallf hR CG
    simp only [putAll, Act.put, List.setIfInBounds_toArray, List.set_cons_succ, List.set_cons_zero]
    have p0 := row_cell RX.out 0
    have z0 := row_fz RX.out 0
    have p1 := row_cell RX.out 1
    have z1 := row_fz RX.out 1
    have p2 := row_cell RX.out 2
    have z2 := row_fz RX.out 2
    refine seq_chain (by rfl) ?_
    intro K hK
    go_wp2_with fail
    clear p0 z0 p1 z1 p2 z2
    obtain ⟨w4, hw4⟩ : ∃ y, put3 kx T aoT nT capT w3 = y := ⟨_, rfl⟩
    have hB2 := put3_below (T := T) (ao := aoT) (n := nT) (cap := capT) hB1 hkx
    have RX1 := lid (put3_row (T := T) (ao := aoT) (n := nT) (cap := capT) RX.out)
    have RY1 := lid (put3_other (T := T) (ao := aoT) (n := nT) (cap := capT) RY.out hne.symm)
    have HT1 := lid (HT.out.put3 (T := T) (ao := aoT) (n := nT) (cap := capT) hnx)
    rw [hw4] at hB2 RX1 RY1 HT1
    unfold put3 at hw4
    rw [hw4]
    clear hw4 RX RY hB1 HT
    refine hK.out _ _ (since hB2) ?_
    clear hK K
    repeat (first | (refine seq_skip (by rfl) (by rfl) ?_; simp only [Act.put, List.setIfInBounds_toArray, List.set_cons_succ, List.set_cons_zero]) | (refine seq_float (by rfl) (by rfl) (by rfl) ?_; intro K hK; go_big_quiet_op; go_big_quiet_on))
    have p0 := row_cell RY1.out 0
    have z0 := row_fz RY1.out 0
    have p1 := row_cell RY1.out 1
    have z1 := row_fz RY1.out 1
    have p2 := row_cell RY1.out 2
    have z2 := row_fz RY1.out 2
    have p3 := row_cell RY1.out 3
    have z3 := row_fz RY1.out 3
    have p4 := row_cell RY1.out 4
    have z4 := row_fz RY1.out 4
    refine seq_chain (by rfl) ?_
    intro K hK
    go_wp2_with fail
    clear p0 z0 p1 z1 p2 z2 p3 z3 p4 z4
    obtain ⟨w5, hw5⟩ : ∃ z, putL ky X w4 = z := ⟨_, rfl⟩
    have hB3 := putL_below (x := X) hB2 hky
    have BX1 := lid (putL_row (x := X) RY1.out)
    have BT1 := lid (putL_other (x := X) RX1.out hne)
    have HT2 := lid (HT1.out.putL (x := X) hny)
    rw [hw5] at hB3 BX1 BT1 HT2
    unfold putL at hw5
    rw [hw5]
    clear hw5 RX1 RY1 hB2 HT1 hnx hny
    refine hK.out _ _ (since hB3) ?_
    clear hK K
    repeat (first | (refine seq_skip (by rfl) (by rfl) ?_; simp only [Act.put, List.setIfInBounds_toArray, List.set_cons_succ, List.set_cons_zero]) | (refine seq_float (by rfl) (by rfl) (by rfl) ?_; intro K hK; go_big_quiet_op; go_big_quiet_on))
    refine seq_chain (by rfl) ?_
    intro K hK
    go_wp2_with fail
    refine hK.out _ _ (since hB3) ?_
    clear hK K
    repeat (first | (refine seq_skip (by rfl) (by rfl) ?_; simp only [Act.put, List.setIfInBounds_toArray, List.set_cons_succ, List.set_cons_zero]) | (refine seq_float (by rfl) (by rfl) (by rfl) ?_; intro K hK; go_big_quiet_op; go_big_quiet_on))
    refine seq_nil ?_
    replace HL := lid (HL.out.below hB3)
    have HP := lid ((hB3.block _ (row_lt BP.out)).trans BP.out)
    have hb5 : Below w.heap.size w w5 := hb.trans (hB3.mono hb.size)
    have lkx := row_lt BT1.out
    have lky := row_lt BX1.out
    have hnl : nl = 0 ∨ ∀ a, al = some a → a.block < w5.heap.size ∧ a.block ≠ w.heap.size + 1 ∧ a.block ≠ w.heap.size + 1 + 1 := by
      have hg5 := hB3.size
      exact hnl0.imp id fun h a e => by have := h a e; omega
    have hnT : nT = 0 ∨ ∀ a, aoT = some a → a.block < w5.heap.size ∧ a.block ≠ w.heap.size + 1 ∧ a.block ≠ w.heap.size + 1 + 1 := HT2.out.hi.imp id fun h a e => by have := h a e; have := HT2.out.lo a e; omega
    clear hB3
    have a0 := SinceY.cell (B := w5.heap.size) (X := w.heap.size + 1) lkx (by omega) (by omega) (row_cell BT1.out 0)
    have a1 := SinceY.cell (B := w5.heap.size) (X := w.heap.size + 1) lkx (by omega) (by omega) (row_cell BT1.out 1)
    have a2 := SinceY.cell (B := w5.heap.size) (X := w.heap.size + 1) lkx (by omega) (by omega) (row_cell BT1.out 2)
    have b0 := SinceY.cell (B := w5.heap.size) (X := w.heap.size + 1) lky (by omega) (by omega) (row_cell BX1.out 0)
    have b1 := SinceY.cell (B := w5.heap.size) (X := w.heap.size + 1) lky (by omega) (by omega) (row_cell BX1.out 1)
    have b2 := SinceY.cell (B := w5.heap.size) (X := w.heap.size + 1) lky (by omega) (by omega) (row_cell BX1.out 2)
    have b3 := SinceY.cell (B := w5.heap.size) (X := w.heap.size + 1) lky (by omega) (by omega) (row_cell BX1.out 3)
    have b4 := SinceY.cell (B := w5.heap.size) (X := w.heap.size + 1) lky (by omega) (by omega) (row_cell BX1.out 4)
    go_wp2_with fail
    refine wp_region_mix (fun w' => ∃ s : SinceY w5.heap.size (w.heap.size + 1) w5, w' = s.world) [(0, true), (2, true), (4, true), (7, true)] [(1, []), (3, [1]), (5, []), (6, [3, 5]), (8, [6])] [(9, false), (10, false), (11, false)] (by kernel_rfl) (by kernel_rfl) (by intro c d v a w h; cases d <;> exact h) (sincey (KeptY.refl _ _ _).drew) ?_
    repeat (first | (refine seq_skip (by rfl) (by rfl) ?_; simp only [Act.put, List.setIfInBounds_toArray, List.set_cons_succ, List.set_cons_zero]) | (refine seq_float (by rfl) (by rfl) (by rfl) ?_; intro K hK; go_big_quiet_op; go_big_quiet_on))
    refine seq_nil (mix_go [61, 63, 65, 66, 131] [undef, undef, undef, undef, undef] (fun s => RD l X X (tcells T aoT nT capT) nl w5.heap.size (w.heap.size + 1) w5 (s 1) (s 3) (s 5) (s 6) (s 8) false) rfl (by simp only [putAll, Act.put, List.setIfInBounds_toArray, List.set_cons_succ, List.set_cons_zero]) (fun s h => (RD.start (Nat.le_refl _) HP.out).to (h (1, []) (by simp)) (h (3, [1]) (by simp)) (h (5, []) (by simp)) (h (6, [3, 5]) (by simp)) (h (8, [6]) (by simp)) rfl) ⟨?_, ?_, ?_, ?_, ?_, trivial⟩ ?_)
    · intro s vs wv _ S0 SD _ hR
      replace hR : RD l X X (tcells T aoT nT capT) nl w5.heap.size (w.heap.size + 1) w5 (s 1) (s 3) (s 5) (s 6) (s 8) false vs wv := hR
      obtain ⟨x0, x1, x2, x3, x4, rfl⟩ := hR.five
      have g0 : s 1 = false := S0
      have hR' := lid hR
      have hlo := hR.lo
      have hlx : w.heap.size + 1 + 1 < w5.heap.size := row_lt HP.out
      simp only [putAll, Act.put, List.setIfInBounds_toArray, List.set_cons_succ, List.set_cons_zero]
      refine mix_op (by rfl) ?_
      intro K hK
      go_wp2_with fail
      exact hK.out _ _ ⟨sincey (hR'.out.kept.below ((ba _ _).mono hlo)), [.slice (some ⟨wv.heap.size, 0, none⟩) 0 0, x1, x2, x3, x4], rfl, by simp only [putAll, Act.put, List.setIfInBounds_toArray, List.set_cons_succ, List.set_cons_zero], ((hR'.out.next (ba _ _)).setE hlo (heap_alloc_new wv _)).to (by simp [upd]) (by simp [upd]) (by simp [upd]) (by simp [upd]) (by simp [upd]) (by simp [upd])⟩
    · intro s vs wv _ S0 SD _ hR
      replace hR : RD l X X (tcells T aoT nT capT) nl w5.heap.size (w.heap.size + 1) w5 (s 1) (s 3) (s 5) (s 6) (s 8) false vs wv := hR
      obtain ⟨x0, x1, x2, x3, x4, rfl⟩ := hR.five
      have g0 : s 3 = false := S0
      have hR' := lid hR
      have hlo := hR.lo
      have hlx : w.heap.size + 1 + 1 < w5.heap.size := row_lt HP.out
      simp only [putAll, Act.put, List.setIfInBounds_toArray, List.set_cons_succ, List.set_cons_zero]
      have g1 : s 1 = true := SD 1 (by simp)
      rw [g1, g0] at hR
      obtain ⟨k, rfl, hk, hr⟩ := hR.emp
      have HS := lid (HL.out.sl.keptY hR.kept hlo hnl)
      have hlo' := hlo
      refine mix_op (by rfl) ?_
      intro K hK
      go_wp2_with (at_builtin; go_must (refine wpList_append_slat rfl _ _ 22 rfl w5.heap.size 31 (.agg #[.int .u64 0, .int .u64 0, .string ⟨#[]⟩, .int .i64 0, .int .i64 0]) 5 48 info_lz Try.underlying22 rfl (by decide) _ 0 [] (own_empty5 hr hk) rfl al nl cl (lzcells l) rfl HS.out HL.out.z (lzcells_one l) (by simp only [maxLen]; omega) (by omega) hlo ?_))
      intro v' w' hown' hb' hg' hat'
      have HN := lid (hR.setA (by omega) hk hr (by simpa using hown') hb' hg' hat')
      have hkn := hR'.out.kept.below hb'
      clear hown' hb' hg' hat'
      go_wp2_with fail
      exact hK.out _ _ ⟨sincey hkn, [_, v', x2, x3, x4], rfl, by simp only [putAll, Act.put, List.setIfInBounds_toArray, List.set_cons_succ, List.set_cons_zero], HN.out.to (by simp [upd, g1]) (by simp [upd, g1]) (by simp [upd, g1]) (by simp [upd, g1]) (by simp [upd, g1]) (by simp [upd, g1])⟩
    · intro s vs wv _ S0 SD _ hR
      replace hR : RD l X X (tcells T aoT nT capT) nl w5.heap.size (w.heap.size + 1) w5 (s 1) (s 3) (s 5) (s 6) (s 8) false vs wv := hR
      obtain ⟨x0, x1, x2, x3, x4, rfl⟩ := hR.five
      have g0 : s 5 = false := S0
      have hR' := lid hR
      have hlo := hR.lo
      have hlx : w.heap.size + 1 + 1 < w5.heap.size := row_lt HP.out
      simp only [putAll, Act.put, List.setIfInBounds_toArray, List.set_cons_succ, List.set_cons_zero]
      rw [g0] at hR
      have HR3 := lid (hR.next (ba wv (.cells (lzc X) 31)))
      refine mix_op (by rfl) ?_
      intro K hK
      go_wp2_with fail
      exact hK.out _ _ ⟨sincey (hR'.out.kept.below ((ba _ _).mono hlo)), [x0, x1, .slice (some ⟨wv.heap.size, 0, none⟩) 1 1, x3, x4], rfl, by simp only [putAll, Act.put, List.setIfInBounds_toArray, List.set_cons_succ, List.set_cons_zero], (HR3.out.setL hlo (heap_alloc_new wv _)).to (by simp [upd]) (by simp [upd]) (by simp [upd]) (by simp [upd]) (by simp [upd]) (by simp [upd])⟩
    · intro s vs wv _ S0 SD _ hR
      replace hR : RD l X X (tcells T aoT nT capT) nl w5.heap.size (w.heap.size + 1) w5 (s 1) (s 3) (s 5) (s 6) (s 8) false vs wv := hR
      obtain ⟨x0, x1, x2, x3, x4, rfl⟩ := hR.five
      have g0 : s 6 = false := S0
      have hR' := lid hR
      have hlo := hR.lo
      have hlx : w.heap.size + 1 + 1 < w5.heap.size := row_lt HP.out
      simp only [putAll, Act.put, List.setIfInBounds_toArray, List.set_cons_succ, List.set_cons_zero]
      have g1 : s 3 = true := SD 3 (by simp)
      have g2 : s 5 = true := SD 5 (by simp)
      rw [g1, g2, g0] at hR
      obtain ⟨k, rfl, hk, hr⟩ := hR.lit
      have hrow := hR.row1 rfl rfl
      refine mix_op (by rfl) ?_
      intro K hK
      go_wp2_with (at_builtin; go_must (refine wpList_append_slat rfl _ _ 22 rfl w5.heap.size 31 (.agg #[.int .u64 0, .int .u64 0, .string ⟨#[]⟩, .int .i64 0, .int .i64 0]) 5 48 info_lz Try.underlying22 rfl (by decide) _ nl _ hrow rfl _ 1 1 (lzc X).toList rfl (sl_one5 hr rfl) (by intro h; cases h) (by simp [Value.oneCell']) (by simp only [maxLen]; omega) (by omega) hlo ?_))
      intro v' w' hown' hb' hg' _
      have HN := lid (hR.setB (by omega) (by rw [lzcells_snoc]; exact hown') hb' hg')
      have hkn := hR'.out.kept.below hb'
      clear hown' hb' hg' hrow
      go_wp2_with fail
      exact hK.out _ _ ⟨sincey hkn, [x0, x1, _, v', x4], rfl, by simp only [putAll, Act.put, List.setIfInBounds_toArray, List.set_cons_succ, List.set_cons_zero], HN.out.to (by simp [upd, g1, g2]) (by simp [upd, g1, g2]) (by simp [upd, g1, g2]) (by simp [upd, g1, g2]) (by simp [upd, g1, g2]) (by simp [upd, g1, g2])⟩
    · intro s vs wv _ S0 SD _ hR
      replace hR : RD l X X (tcells T aoT nT capT) nl w5.heap.size (w.heap.size + 1) w5 (s 1) (s 3) (s 5) (s 6) (s 8) false vs wv := hR
      obtain ⟨x0, x1, x2, x3, x4, rfl⟩ := hR.five
      have g0 : s 8 = false := S0
      have hR' := lid hR
      have hlo := hR.lo
      have hlx : w.heap.size + 1 + 1 < w5.heap.size := row_lt HP.out
      simp only [putAll, Act.put, List.setIfInBounds_toArray, List.set_cons_succ, List.set_cons_zero]
      rw [g0] at hR
      have hres := hR.res
      rw [if_neg (by simp)] at hres
      have p0 := row_cell hres 0
      have p1 := row_cell hres 1
      have p2 := row_cell hres 2
      have z0 := row_fz hres 0
      have z1 := row_fz hres 1
      have z2 := row_fz hres 2
      obtain ⟨w', hw'⟩ : ∃ y, put3 (w.heap.size + 1 + 1) T aoT nT capT wv = y := ⟨_, rfl⟩
      have HN := lid (hR.setS (w' := put3 (w.heap.size + 1 + 1) T aoT nT capT wv) (by omega) (put3_below (Below.refl _ _) (by omega)) (fun k hk => put3_other rfl hk) put3_size (put3_row hres) (fun v m xs h => put3_own h (by omega)))
      rw [hw'] at HN
      unfold put3 at hw'
      have HW := lid hw'
      clear hw' hres
      refine mix_op (by rfl) ?_
      intro K hK
      go_wp2_with fail
      rw [HW.out]
      exact hK.out _ _ ⟨sincey HN.out.kept, [x0, x1, x2, x3, x4], rfl, by simp only [putAll, Act.put, List.setIfInBounds_toArray, List.set_cons_succ, List.set_cons_zero], HN.out.to (by simp [upd]) (by simp [upd]) (by simp [upd]) (by simp [upd]) (by simp [upd]) (by simp [upd])⟩
    intro s vs w6 _ hall _ hR
    replace hR : RD l X X (tcells T aoT nT capT) nl w5.heap.size (w.heap.size + 1) w5 (s 1) (s 3) (s 5) (s 6) (s 8) false vs w6 := hR
    obtain ⟨x0, x1, x2, x3, x4, rfl⟩ := hR.five
    have t1 : s 1 = true := hall (1, []) (by simp)
    have t3 : s 3 = true := hall (3, [1]) (by simp)
    have t5 : s 5 = true := hall (5, []) (by simp)
    have t6 : s 6 = true := hall (6, [3, 5]) (by simp)
    have t8 : s 8 = true := hall (8, [6]) (by simp)
    rw [t1, t3, t5, t6, t8] at hR
    have hres := hR.res
    rw [if_pos rfl] at hres
    have hk6 := hR.kept
    have hb6 := hR.bel
    have hlo6 := hR.lo
    have hrow := hR.allB
    obtain ⟨aM, nM, cM, rfl, hM⟩ := LzV.own (G := l ++ [X]) hrow (Nat.le_refl _) (by simp [HL.out.len]) (by simp only [maxLen]; omega)
    have HM := lid hM
    clear hrow hM
    clear t1 t3 t5 t6 t8 hall hR
    have HT6 := lid (HT2.out.keptY hk6 hlo6 hnT)
    simp only [putAll, Act.put, List.setIfInBounds_toArray, List.set_cons_succ, List.set_cons_zero]
    have c0 := row_cell hres 0
    have c1 := row_cell hres 1
    have c2 := row_cell hres 2
    clear hres
    refine seq_chain (by rfl) ?_
    intro K hK
    go_wp2_with fail
    refine hK.out _ _ (sincey hk6) ?_
    clear hK K
    repeat (first | (refine seq_skip (by rfl) (by rfl) ?_; simp only [Act.put, List.setIfInBounds_toArray, List.set_cons_succ, List.set_cons_zero]) | (refine seq_float (by rfl) (by rfl) (by rfl) ?_; intro K hK; go_big_quiet_op; go_big_quiet_on))
    refine seq_chain (by rfl) ?_
    intro K hK
    go_wp2_with fail
    refine hK.out _ _ (sincey hk6) ?_
    clear hK K
    repeat (first | (refine seq_skip (by rfl) (by rfl) ?_; simp only [Act.put, List.setIfInBounds_toArray, List.set_cons_succ, List.set_cons_zero]) | (refine seq_float (by rfl) (by rfl) (by rfl) ?_; intro K hK; go_big_quiet_op; go_big_quiet_on))
    refine seq_chain (by rfl) ?_
    intro K hK
    go_wp2_with fail
    refine hK.out _ _ (sincey hk6) ?_
    clear hK K
    repeat (first | (refine seq_skip (by rfl) (by rfl) ?_; simp only [Act.put, List.setIfInBounds_toArray, List.set_cons_succ, List.set_cons_zero]) | (refine seq_float (by rfl) (by rfl) (by rfl) ?_; intro K hK; go_big_quiet_op; go_big_quiet_on))
    refine seq_nil ?_
    go_wp2_with fail
    exact bodyPost_ret (res_do Try.results26 _ _ (w.heap.size + 1 + 1) _ _ _ _ _ _ rfl rfl rfl rfl c0 c1 c2) rfl ⟨T, l ++ [X], [], E, aoT, nT, capT, aM, nM, cM, none, 0, 0, rfl, HST.out, HT6.out.zero, HM.out.zero, ⟨rfl, Sl.nil, Nat.le_refl _, fun _ => rfl, by simp [maxLen], fun _ _ => Nat.zero_le _⟩, fun Y hY _ _ => ⟨.inr (HT6.out.na (by omega)), .inr (HM.out.na (by omega))⟩, hb5.trans (hb6.mono (by omega))⟩
  by_cases k3 : d0 % 4 = 3
  case pos =>
    have e0 : (d0 : Int) % 4 = 3 := by omega
    have CV := lid (fun w' (hb' : Below w.heap.size w w') => advance_any t ao n cap (t.clock + m) w' (HA.out.below hb').A HA.out.le HA.out.z)
    obtain ⟨T, hT⟩ : ∃ y, advL t (t.clock + m) = y := ⟨_, rfl⟩
    obtain ⟨G, hG⟩ : ∃ y, advG t (t.clock + m) = y := ⟨_, rfl⟩
    obtain ⟨E, hE⟩ : ∃ y, advE t (t.clock + m) = y := ⟨_, rfl⟩
    have HST : Hid (Step t l T l G E) := lid (.inr (.inl ⟨t.clock + m, hT.symm, rfl, hG.symm, hE.symm⟩))
    rw [hT, hG, hE] at CV
    clear hT hG hE
    go_enter Try.func26, Try.ntmps26
    go_wp2_with fail
    have bw : w.heap.size ≤ w.heap.size := hb.size
    obtain ⟨W0, hW⟩ : ∃ y, ((w.alloc (.cells (tcells t ao n cap) 24)).alloc (.cells #[.int .u8 d0, .int .u8 d1, .int .u8 d2, .int .u8 d3, .int .u8 d4] 51)).alloc (.cells tz 24) = y := ⟨_, rfl⟩
    rw [hW]
    have hbW : Below w.heap.size w W0 := by rw [← hW]; exact ((((Below.refl w.heap.size w).alloc (Nat.le_refl _) _).alloc (by simp only [World.size_alloc]; omega) _).alloc (by simp only [World.size_alloc]; omega) _)
    have gW0 : w.heap.size + 2 < W0.heap.size := by rw [← hW]; simp only [World.size_alloc]; omega
    have BT : Hid (W0.heap[w.heap.size]? = some (.cells (tcells t ao n cap) 24 (0, 0))) := lid (by
      rw [← hW]
      iterate 2 rw [Below.heap_alloc _ _ _ (by simp only [World.size_alloc]; omega)]
      have := heap_alloc_new w (.cells (tcells t ao n cap) 24)
      exact this)
    have BD : Hid (W0.heap[w.heap.size + 1]? = some (.cells #[.int .u8 d0, .int .u8 d1, .int .u8 d2, .int .u8 d3, .int .u8 d4] 51 (0, 0))) := lid (by
      rw [← hW]
      iterate 1 rw [Below.heap_alloc _ _ _ (by simp only [World.size_alloc]; omega)]
      have := heap_alloc_new (w.alloc (.cells (tcells t ao n cap) 24)) (.cells #[.int .u8 d0, .int .u8 d1, .int .u8 d2, .int .u8 d3, .int .u8 d4] 51)
      simp only [World.size_alloc] at this
      exact this)
    have BP : Hid (W0.heap[w.heap.size + 1 + 1]? = some (.cells tz 24 (0, 0))) := lid (by
      rw [← hW]
      have := heap_alloc_new ((w.alloc (.cells (tcells t ao n cap) 24)).alloc (.cells #[.int .u8 d0, .int .u8 d1, .int .u8 d2, .int .u8 d3, .int .u8 d4] 51)) (.cells tz 24)
      simp only [World.size_alloc] at this
      exact this)
    clear hW
    replace HA := lid (HA.out.below hbW)
    replace HL := lid (HL.out.below hbW)
    replace hb := hb.trans (hbW.mono hb.size)
    have mW0 := hbW.size
    clear hbW
    (with_reducible refine (CV.out W0 hb).mono ?_); rintro e w3 ⟨_, _, rfl, ⟨aoT, nT, capT, rfl, hA⟩, ⟨aog, ng, capg, rfl, hG⟩, hb1⟩
    clear CV
    replace HA := lid (HA.out.below hb1)
    replace HL := lid (HL.out.below hb1)
    replace BT := lid ((hb1.block _ (row_lt BT.out)).trans BT.out)
    replace BP := lid ((hb1.block _ (row_lt BP.out)).trans BP.out)
    replace hb := hb.trans (hb1.mono hb.size)
    have mw3 := hb1.size
    clear hb1
    have HT := lid hA
    have HG := lid hG
    clear hA hG
    have q1 := row_cell BP.out 0
    have q2 := row_cell BP.out 1
    have q3 := row_cell BP.out 2
    have q4 := row_fz BP.out 0
    have q5 := row_fz BP.out 1
    have q6 := row_fz BP.out 2
    have q7 := row_lt BP.out
    go_wp2_with fail
    clear q1 q2 q3 q4 q5 q6 q7
    obtain ⟨w6, hw6⟩ : ∃ y, put3 (w.heap.size + 1 + 1) T aoT nT capT w3 = y := ⟨_, rfl⟩
    have hres := put3_row (T := T) (ao := aoT) (n := nT) (cap := capT) BP.out
    have hb6 := put3_below (T := T) (ao := aoT) (n := nT) (cap := capT) hb (show w.heap.size ≤ w.heap.size + 1 + 1 by omega)
    have hlT := HT.out.lo
    have hnT : nT = 0 ∨ NA (w.heap.size + 1 + 1) aoT := .inr (NA.lo hlT (by omega))
    have hnl : nl = 0 ∨ NA (w.heap.size + 1 + 1) al := hnl0.imp id fun h a e => by have := h a e; omega
    have HT6 := lid (HT.out.put3 (T := T) (ao := aoT) (n := nT) (cap := capT) hnT)
    have HL6 := lid (HL.out.put3 (T := T) (ao := aoT) (n := nT) (cap := capT) hnl)
    have hng : ng = 0 ∨ NA (w.heap.size + 1 + 1) aog := .inr (NA.lo HG.out.lo (by omega))
    have HG6 := lid (HG.out.put3 (T := T) (ao := aoT) (n := nT) (cap := capT) hng)
    rw [hw6] at hres hb6 HT6 HL6 HG6
    unfold put3 at hw6
    have HW6 := lid hw6
    clear hw6
    rw [HW6.out]
    obtain ⟨w7, hw7⟩ : ∃ y, w6.alloc (.cells (tcells T aoT nT capT) 24) = y := ⟨_, rfl⟩
    have hb7 : Below w6.heap.size w6 w7 := by rw [← hw7]; exact ba _ _
    rw [hw7]
    have hres7 := (hb7.block _ (row_lt hres)).trans hres
    have hb8 := hb6.trans (hb7.mono hb6.size)
    replace HT6 := lid (HT6.out.below hb7)
    replace HL6 := lid (HL6.out.below hb7)
    replace HG6 := lid (HG6.out.below hb7)
    clear hw7 hb6 hb7 hres
    have c0 := row_cell hres7 0
    have c1 := row_cell hres7 1
    have c2 := row_cell hres7 2
    exact bodyPost_ret (res_do Try.results26 _ _ (w.heap.size + 1 + 1) _ _ _ _ _ _ rfl rfl rfl rfl c0 c1 c2) rfl ⟨T, l, G, E, aoT, nT, capT, al, nl, cl, aog, ng, capg, rfl, HST.out, HT6.out.zero, HL6.out.zero, HG6.out.zero, fun Y hY _ h2 => ⟨.inr (HT6.out.na (by omega)), h2⟩, hb8⟩
  by_cases hl0 : nl = 0
  case pos =>
    have dl : ((nl : Int) == 0) = true := by simp; omega
    clear hl0
    by_cases k1 : d0 % 4 = 1
    case pos =>
      have e0 : (d0 : Int) % 4 = 1 := by omega
      go_enter Try.func26, Try.ntmps26
      go_wp2_with fail
      have bw : w.heap.size ≤ w.heap.size := hb.size
      obtain ⟨W0, hW⟩ : ∃ y, ((w.alloc (.cells (tcells t ao n cap) 24)).alloc (.cells #[.int .u8 d0, .int .u8 d1, .int .u8 d2, .int .u8 d3, .int .u8 d4] 51)).alloc (.cells tz 24) = y := ⟨_, rfl⟩
      rw [hW]
      have hbW : Below w.heap.size w W0 := by rw [← hW]; exact ((((Below.refl w.heap.size w).alloc (Nat.le_refl _) _).alloc (by simp only [World.size_alloc]; omega) _).alloc (by simp only [World.size_alloc]; omega) _)
      have gW0 : w.heap.size + 2 < W0.heap.size := by rw [← hW]; simp only [World.size_alloc]; omega
      have BT : Hid (W0.heap[w.heap.size]? = some (.cells (tcells t ao n cap) 24 (0, 0))) := lid (by
        rw [← hW]
        iterate 2 rw [Below.heap_alloc _ _ _ (by simp only [World.size_alloc]; omega)]
        have := heap_alloc_new w (.cells (tcells t ao n cap) 24)
        exact this)
      have BD : Hid (W0.heap[w.heap.size + 1]? = some (.cells #[.int .u8 d0, .int .u8 d1, .int .u8 d2, .int .u8 d3, .int .u8 d4] 51 (0, 0))) := lid (by
        rw [← hW]
        iterate 1 rw [Below.heap_alloc _ _ _ (by simp only [World.size_alloc]; omega)]
        have := heap_alloc_new (w.alloc (.cells (tcells t ao n cap) 24)) (.cells #[.int .u8 d0, .int .u8 d1, .int .u8 d2, .int .u8 d3, .int .u8 d4] 51)
        simp only [World.size_alloc] at this
        exact this)
      have BP : Hid (W0.heap[w.heap.size + 1 + 1]? = some (.cells tz 24 (0, 0))) := lid (by
        rw [← hW]
        have := heap_alloc_new ((w.alloc (.cells (tcells t ao n cap) 24)).alloc (.cells #[.int .u8 d0, .int .u8 d1, .int .u8 d2, .int .u8 d3, .int .u8 d4] 51)) (.cells tz 24)
        simp only [World.size_alloc] at this
        exact this)
      clear hW
      replace HA := lid (HA.out.below hbW)
      replace HL := lid (HL.out.below hbW)
      replace hb := hb.trans (hbW.mono hb.size)
      have mW0 := hbW.size
      clear hbW
      have q1 := row_cell BT.out 0
      have q2 := row_cell BT.out 1
      have q3 := row_cell BT.out 2
      have q4 := row_cell BD.out 0
      have q5 := row_cell BD.out 1
      have q6 := row_cell BD.out 2
      have q7 := row_cell BD.out 3
      have q8 := row_cell BD.out 4
      have q9 := row_lt BT.out
      have q10 := row_lt BD.out
      have lw := W0.heap.size
      clear lw
      have CG := lid (fun w' (hb' : Below W0.heap.size W0 w') => grant_any t ao n cap (0, g) (nameAt j) m w' (HA.out.below hb').A HA.out.le HA.out.z (by rw [nameAt_size]; decide))
      rw [show dv ((0 : UInt64), g) = .agg #[.int .u64 0, .int .u64 g.toNat] from rfl] at CG
      obtain ⟨T, hT⟩ : ∃ y, grantL t (0, g) (nameAt j) m = y := ⟨_, rfl⟩
      obtain ⟨X, hX⟩ : ∃ y, grantX t (0, g) (nameAt j) m = y := ⟨_, rfl⟩
      obtain ⟨E, hE⟩ : ∃ y, grantE t (0, g) (nameAt j) m = y := ⟨_, rfl⟩
      have HST : Hid (Step t l T (l ++ [X]) [] E) := lid (.inl ⟨(0, g), nameAt j, m, by rw [nameAt_size]; exact Nat.le_refl _, hT.symm, by rw [hX], rfl, hE.symm⟩)
      rw [hT, hX, hE] at CG
      clear hT hX hE
      refine wp_region_mixF (fun w' => ∃ s : Since W0.heap.size W0, w' = s.world) [(0, true), (1, true), (2, true), (3, true), (7, true), (8, true), (9, true), (12, true), (4, true), (5, true)] [(6, []), (10, [6]), (11, [10]), (13, [11]), (18, []), (19, [])] [(14, [13]), (15, [14]), (16, [14]), (17, [14])] [(20, false), (21, false), (22, false)] (by kernel_rfl) (by kernel_rfl) (by intro c d v a w h; cases d <;> exact h) (since (Below.refl _ _).drew) ?_
      repeat (first | (refine seq_skip (by rfl) (by rfl) ?_; simp only [Act.put, List.setIfInBounds_toArray, List.set_cons_succ, List.set_cons_zero]) | (refine seq_float (by rfl) (by rfl) (by rfl) ?_; intro K hK; go_big_quiet_op; go_big_quiet_on))
      simp only [e0, e1, e2, e3]
      clear q1 q2 q3 q4 q5 q6 q7 q8 q9 q10
      refine seq_nil (mixF_go [49, 53, 54, 56, 42, 57, 58, 59, 11, 12] [undef, undef, undef, undef, undef, undef, undef, undef, undef, undef] (R3 T X E j W0.heap.size W0) rfl (by simp only [putAll, Act.put, List.setIfInBounds_toArray, List.set_cons_succ, List.set_cons_zero]) (fun s h h2 => R3.start (Nat.le_refl _) (h (6, []) (by simp)) (h (10, [6]) (by simp)) (h (11, [10]) (by simp)) (h (13, [11]) (by simp)) (h2 (14, [13]) (by simp)) (h2 (15, [14]) (by simp)) (h2 (16, [14]) (by simp)) (h2 (17, [14]) (by simp)) (h (18, []) (by simp)) (h (19, []) (by simp))) ⟨?_, ?_, ?_, ?_, ?_, ?_, trivial⟩ ⟨?_, ?_, ?_, ?_, trivial⟩ ?_)
      · intro s vs wv _ S0 SD _ hR
        have hR' := lid hR
        obtain ⟨x0, x1, x2, x3, x4, x5, x6, x7, x8, x9, rfl⟩ := hR.ten
        simp only [putAll, Act.put, List.setIfInBounds_toArray, List.set_cons_succ, List.set_cons_zero]
        refine mix_op (by rfl) ?_
        intro K hK
        go_wp2_with fail
        exact hK.out _ _ ⟨since (hR'.out.old.trans ((ba _ _).mono hR'.out.lo)), [.slice (some ⟨wv.heap.size, 0, none⟩) 3 3, x1, x2, x3, x4, x5, x6, x7, x8, x9], rfl, by simp only [putAll, Act.put, List.setIfInBounds_toArray, List.set_cons_succ, List.set_cons_zero], (hR'.out.next (ba _ _)).set6 (heap_alloc_new wv _)⟩
      · intro s vs wv _ S0 SD _ hR
        have hR' := lid hR
        obtain ⟨x0, x1, x2, x3, x4, x5, x6, x7, x8, x9, rfl⟩ := hR.ten
        simp only [putAll, Act.put, List.setIfInBounds_toArray, List.set_cons_succ, List.set_cons_zero]
        obtain ⟨k, rfl, hk⟩ := hR.at6 (SD 6 (by simp))
        have hjz : (0 : Int) ≤ (j : Int) := by omega
        refine mix_op (by rfl) ?_
        intro K hK
        go_wp2_with fail
        exact hK.out _ _ ⟨since hR'.out.old, [_, .pointer (some ⟨k, j, none⟩), x2, x3, x4, x5, x6, x7, x8, x9], rfl, by simp only [putAll, Act.put, List.setIfInBounds_toArray, List.set_cons_succ, List.set_cons_zero], hR'.out.set10 hk⟩
      · intro s vs wv _ S0 SD _ hR
        have hR' := lid hR
        obtain ⟨x0, x1, x2, x3, x4, x5, x6, x7, x8, x9, rfl⟩ := hR.ten
        simp only [putAll, Act.put, List.setIfInBounds_toArray, List.set_cons_succ, List.set_cons_zero]
        obtain ⟨k, rfl, hk⟩ := hR.at10 (SD 10 (by simp))
        have hc := nrow_at hk hj
        refine mix_op (by rfl) ?_
        intro K hK
        go_wp2_with fail
        exact hK.out _ _ ⟨since hR'.out.old, [x0, _, .string (nameAt j), x3, x4, x5, x6, x7, x8, x9], rfl, by simp only [putAll, Act.put, List.setIfInBounds_toArray, List.set_cons_succ, List.set_cons_zero], hR'.out.set11⟩
      · intro s vs wv _ S0 SD _ hR
        have hR' := lid hR
        obtain ⟨x0, x1, x2, x3, x4, x5, x6, x7, x8, x9, rfl⟩ := hR.ten
        simp only [putAll, Act.put, List.setIfInBounds_toArray, List.set_cons_succ, List.set_cons_zero]
        obtain rfl := hR.at11 (SD 11 (by simp))
        have CGW := lid (CG.out wv hR.old)
        refine mix_op (by rfl) ?_
        intro K hK
        go_wp2_with fail
        (with_reducible refine (CGW.out).mono ?_); rintro e wc ⟨_, rfl, ⟨aT, nT, cT, rfl, hA⟩, hbc⟩
        go_wp2_with fail
        exact hK.out _ _ ⟨since (hR'.out.old.trans (hbc.mono hR'.out.lo)), [x0, x1, _, .tuple #[.agg (tcells T aT nT cT), .agg (lzc X), .int .i64 E], x4, x5, x6, x7, x8, x9], rfl, by simp only [putAll, Act.put, List.setIfInBounds_toArray, List.set_cons_succ, List.set_cons_zero], hR'.out.call S0 hbc hA⟩
      · intro s vs wv _ S0 SD _ hR
        have hR' := lid hR
        obtain ⟨x0, x1, x2, x3, x4, x5, x6, x7, x8, x9, rfl⟩ := hR.ten
        simp only [putAll, Act.put, List.setIfInBounds_toArray, List.set_cons_succ, List.set_cons_zero]
        refine mix_op (by rfl) ?_
        intro K hK
        go_wp2_with fail
        exact hK.out _ _ ⟨since (hR'.out.old.trans ((ba _ _).mono hR'.out.lo)), [x0, x1, x2, x3, x4, x5, x6, x7, .pointer (some ⟨wv.heap.size, 0, none⟩), x9], rfl, by simp only [putAll, Act.put, List.setIfInBounds_toArray, List.set_cons_succ, List.set_cons_zero], hR'.out.new18 _ (fun u => heap_alloc_new u _)⟩
      · intro s vs wv _ S0 SD _ hR
        have hR' := lid hR
        obtain ⟨x0, x1, x2, x3, x4, x5, x6, x7, x8, x9, rfl⟩ := hR.ten
        simp only [putAll, Act.put, List.setIfInBounds_toArray, List.set_cons_succ, List.set_cons_zero]
        refine mix_op (by rfl) ?_
        intro K hK
        go_wp2_with fail
        exact hK.out _ _ ⟨since (hR'.out.old.trans ((ba _ _).mono hR'.out.lo)), [x0, x1, x2, x3, x4, x5, x6, x7, x8, .pointer (some ⟨wv.heap.size, 0, none⟩)], rfl, by simp only [putAll, Act.put, List.setIfInBounds_toArray, List.set_cons_succ, List.set_cons_zero], hR'.out.new19 _ (fun u => heap_alloc_new u _)⟩
      · intro s vs wv _ S0 SD _ hR
        have hR' := lid hR
        obtain ⟨x0, x1, x2, x3, x4, x5, x6, x7, x8, x9, rfl⟩ := hR.ten
        skip
        obtain ⟨aT, nT, cT, rfl, hR2⟩ := hR.at13 (SD 13 (by simp))
        have HR2 := lid hR2
        clear hR2
        refine mix_read (by rfl) (by rfl) (by rfl) ?_
        intro K hK
        simp only [putAll, Act.put, List.setIfInBounds_toArray, List.set_cons_succ, List.set_cons_zero]
        go_big_quiet_op
        go_big_quiet_on
        exact ⟨[x0, x1, x2, _, .tuple #[.agg (tcells T aT nT cT), .agg (lzc X), .int .i64 E], x5, x6, x7, x8, x9], rfl, by simp only [putAll, Act.put, List.setIfInBounds_toArray, List.set_cons_succ, List.set_cons_zero], HR2.out⟩
      · intro s vs wv _ S0 SD _ hR
        have hR' := lid hR
        obtain ⟨x0, x1, x2, x3, x4, x5, x6, x7, x8, x9, rfl⟩ := hR.ten
        skip
        obtain ⟨aT, nT, cT, rfl, hR2⟩ := hR.get15 (SD 14 (by simp))
        have HR2 := lid hR2
        clear hR2
        refine mix_read (by rfl) (by rfl) (by rfl) ?_
        intro K hK
        simp only [putAll, Act.put, List.setIfInBounds_toArray, List.set_cons_succ, List.set_cons_zero]
        go_big_quiet_op
        go_big_quiet_on
        exact ⟨[x0, x1, x2, x3, .tuple #[.agg (tcells T aT nT cT), .agg (lzc X), .int .i64 E], .agg (tcells T aT nT cT), x6, x7, x8, x9], rfl, by simp only [putAll, Act.put, List.setIfInBounds_toArray, List.set_cons_succ, List.set_cons_zero], HR2.out⟩
      · intro s vs wv _ S0 SD _ hR
        have hR' := lid hR
        obtain ⟨x0, x1, x2, x3, x4, x5, x6, x7, x8, x9, rfl⟩ := hR.ten
        skip
        obtain ⟨aT, nT, cT, rfl, hR2⟩ := hR.get16 (SD 14 (by simp))
        have HR2 := lid hR2
        clear hR2
        refine mix_read (by rfl) (by rfl) (by rfl) ?_
        intro K hK
        simp only [putAll, Act.put, List.setIfInBounds_toArray, List.set_cons_succ, List.set_cons_zero]
        go_big_quiet_op
        go_big_quiet_on
        exact ⟨[x0, x1, x2, x3, .tuple #[.agg (tcells T aT nT cT), .agg (lzc X), .int .i64 E], x5, .agg (lzc X), x7, x8, x9], rfl, by simp only [putAll, Act.put, List.setIfInBounds_toArray, List.set_cons_succ, List.set_cons_zero], HR2.out⟩
      · intro s vs wv _ S0 SD _ hR
        have hR' := lid hR
        obtain ⟨x0, x1, x2, x3, x4, x5, x6, x7, x8, x9, rfl⟩ := hR.ten
        skip
        obtain ⟨aT, nT, cT, rfl, hR2⟩ := hR.get17 (SD 14 (by simp))
        have HR2 := lid hR2
        clear hR2
        refine mix_read (by rfl) (by rfl) (by rfl) ?_
        intro K hK
        simp only [putAll, Act.put, List.setIfInBounds_toArray, List.set_cons_succ, List.set_cons_zero]
        go_big_quiet_op
        go_big_quiet_on
        exact ⟨[x0, x1, x2, x3, .tuple #[.agg (tcells T aT nT cT), .agg (lzc X), .int .i64 E], x5, x6, .int .i64 E, x8, x9], rfl, by simp only [putAll, Act.put, List.setIfInBounds_toArray, List.set_cons_succ, List.set_cons_zero], HR2.out⟩
      intro s vs w3 _ hall hallf _ hR
      have hB1 := hR.old
      obtain ⟨x0, x1, x2, x3, x4, kx, ky, aoT, nT, capT, rfl, hA, hkx, hky, rx, ry, hnx, hny⟩ := hR.all (hall (13, [11]) (by simp)) (hallf (15, [14]) (by simp)) (hallf (16, [14]) (by simp)) (hallf (17, [14]) (by simp)) (hall (18, []) (by simp)) (hall (19, []) (by simp))
      have hne : kx ≠ ky := by
        intro e
        rw [e] at rx
        have := rx.symm.trans ry
        simp at this
      have HT := lid hA
      have RX := lid rx
      have RY := lid ry
      clear rx ry hA hall hallf hR CG
      simp only [putAll, Act.put, List.setIfInBounds_toArray, List.set_cons_succ, List.set_cons_zero]
      have p0 := row_cell RX.out 0
      have z0 := row_fz RX.out 0
      have p1 := row_cell RX.out 1
      have z1 := row_fz RX.out 1
      have p2 := row_cell RX.out 2
      have z2 := row_fz RX.out 2
      refine seq_chain (by rfl) ?_
      intro K hK
      go_wp2_with fail
      clear p0 z0 p1 z1 p2 z2
      obtain ⟨w4, hw4⟩ : ∃ y, put3 kx T aoT nT capT w3 = y := ⟨_, rfl⟩
      have hB2 := put3_below (T := T) (ao := aoT) (n := nT) (cap := capT) hB1 hkx
      have RX1 := lid (put3_row (T := T) (ao := aoT) (n := nT) (cap := capT) RX.out)
      have RY1 := lid (put3_other (T := T) (ao := aoT) (n := nT) (cap := capT) RY.out hne.symm)
      have HT1 := lid (HT.out.put3 (T := T) (ao := aoT) (n := nT) (cap := capT) hnx)
      rw [hw4] at hB2 RX1 RY1 HT1
      unfold put3 at hw4
      rw [hw4]
      clear hw4 RX RY hB1 HT
      refine hK.out _ _ (since hB2) ?_
      clear hK K
      repeat (first | (refine seq_skip (by rfl) (by rfl) ?_; simp only [Act.put, List.setIfInBounds_toArray, List.set_cons_succ, List.set_cons_zero]) | (refine seq_float (by rfl) (by rfl) (by rfl) ?_; intro K hK; go_big_quiet_op; go_big_quiet_on))
      have p0 := row_cell RY1.out 0
      have z0 := row_fz RY1.out 0
      have p1 := row_cell RY1.out 1
      have z1 := row_fz RY1.out 1
      have p2 := row_cell RY1.out 2
      have z2 := row_fz RY1.out 2
      have p3 := row_cell RY1.out 3
      have z3 := row_fz RY1.out 3
      have p4 := row_cell RY1.out 4
      have z4 := row_fz RY1.out 4
      refine seq_chain (by rfl) ?_
      intro K hK
      go_wp2_with fail
      clear p0 z0 p1 z1 p2 z2 p3 z3 p4 z4
      obtain ⟨w5, hw5⟩ : ∃ z, putL ky X w4 = z := ⟨_, rfl⟩
      have hB3 := putL_below (x := X) hB2 hky
      have BX1 := lid (putL_row (x := X) RY1.out)
      have BT1 := lid (putL_other (x := X) RX1.out hne)
      have HT2 := lid (HT1.out.putL (x := X) hny)
      rw [hw5] at hB3 BX1 BT1 HT2
      unfold putL at hw5
      rw [hw5]
      clear hw5 RX1 RY1 hB2 HT1 hnx hny
      refine hK.out _ _ (since hB3) ?_
      clear hK K
      repeat (first | (refine seq_skip (by rfl) (by rfl) ?_; simp only [Act.put, List.setIfInBounds_toArray, List.set_cons_succ, List.set_cons_zero]) | (refine seq_float (by rfl) (by rfl) (by rfl) ?_; intro K hK; go_big_quiet_op; go_big_quiet_on))
      refine seq_chain (by rfl) ?_
      intro K hK
      go_wp2_with fail
      refine hK.out _ _ (since hB3) ?_
      clear hK K
      repeat (first | (refine seq_skip (by rfl) (by rfl) ?_; simp only [Act.put, List.setIfInBounds_toArray, List.set_cons_succ, List.set_cons_zero]) | (refine seq_float (by rfl) (by rfl) (by rfl) ?_; intro K hK; go_big_quiet_op; go_big_quiet_on))
      refine seq_nil ?_
      replace HL := lid (HL.out.below hB3)
      have HP := lid ((hB3.block _ (row_lt BP.out)).trans BP.out)
      have hb5 : Below w.heap.size w w5 := hb.trans (hB3.mono hb.size)
      have lkx := row_lt BT1.out
      have lky := row_lt BX1.out
      have hnl : nl = 0 ∨ ∀ a, al = some a → a.block < w5.heap.size ∧ a.block ≠ w.heap.size + 1 ∧ a.block ≠ w.heap.size + 1 + 1 := by
        have hg5 := hB3.size
        exact hnl0.imp id fun h a e => by have := h a e; omega
      have hnT : nT = 0 ∨ ∀ a, aoT = some a → a.block < w5.heap.size ∧ a.block ≠ w.heap.size + 1 ∧ a.block ≠ w.heap.size + 1 + 1 := HT2.out.hi.imp id fun h a e => by have := h a e; have := HT2.out.lo a e; omega
      clear hB3
      have a0 := SinceY.cell (B := w5.heap.size) (X := w.heap.size + 1) lkx (by omega) (by omega) (row_cell BT1.out 0)
      have a1 := SinceY.cell (B := w5.heap.size) (X := w.heap.size + 1) lkx (by omega) (by omega) (row_cell BT1.out 1)
      have a2 := SinceY.cell (B := w5.heap.size) (X := w.heap.size + 1) lkx (by omega) (by omega) (row_cell BT1.out 2)
      have b0 := SinceY.cell (B := w5.heap.size) (X := w.heap.size + 1) lky (by omega) (by omega) (row_cell BX1.out 0)
      have b1 := SinceY.cell (B := w5.heap.size) (X := w.heap.size + 1) lky (by omega) (by omega) (row_cell BX1.out 1)
      have b2 := SinceY.cell (B := w5.heap.size) (X := w.heap.size + 1) lky (by omega) (by omega) (row_cell BX1.out 2)
      have b3 := SinceY.cell (B := w5.heap.size) (X := w.heap.size + 1) lky (by omega) (by omega) (row_cell BX1.out 3)
      have b4 := SinceY.cell (B := w5.heap.size) (X := w.heap.size + 1) lky (by omega) (by omega) (row_cell BX1.out 4)
      go_wp2_with fail
      refine wp_region_mix (fun w' => ∃ s : SinceY w5.heap.size (w.heap.size + 1) w5, w' = s.world) [(0, true), (2, true), (4, true), (7, true)] [(1, []), (3, [1]), (5, []), (6, [3, 5]), (8, [6])] [(9, false), (10, false), (11, false)] (by kernel_rfl) (by kernel_rfl) (by intro c d v a w h; cases d <;> exact h) (sincey (KeptY.refl _ _ _).drew) ?_
      repeat (first | (refine seq_skip (by rfl) (by rfl) ?_; simp only [Act.put, List.setIfInBounds_toArray, List.set_cons_succ, List.set_cons_zero]) | (refine seq_float (by rfl) (by rfl) (by rfl) ?_; intro K hK; go_big_quiet_op; go_big_quiet_on))
      refine seq_nil (mix_go [61, 63, 65, 66, 131] [undef, undef, undef, undef, undef] (fun s => RD l X X (tcells T aoT nT capT) nl w5.heap.size (w.heap.size + 1) w5 (s 1) (s 3) (s 5) (s 6) (s 8) false) rfl (by simp only [putAll, Act.put, List.setIfInBounds_toArray, List.set_cons_succ, List.set_cons_zero]) (fun s h => (RD.start (Nat.le_refl _) HP.out).to (h (1, []) (by simp)) (h (3, [1]) (by simp)) (h (5, []) (by simp)) (h (6, [3, 5]) (by simp)) (h (8, [6]) (by simp)) rfl) ⟨?_, ?_, ?_, ?_, ?_, trivial⟩ ?_)
      · intro s vs wv _ S0 SD _ hR
        replace hR : RD l X X (tcells T aoT nT capT) nl w5.heap.size (w.heap.size + 1) w5 (s 1) (s 3) (s 5) (s 6) (s 8) false vs wv := hR
        obtain ⟨x0, x1, x2, x3, x4, rfl⟩ := hR.five
        have g0 : s 1 = false := S0
        have hR' := lid hR
        have hlo := hR.lo
        have hlx : w.heap.size + 1 + 1 < w5.heap.size := row_lt HP.out
        simp only [putAll, Act.put, List.setIfInBounds_toArray, List.set_cons_succ, List.set_cons_zero]
        refine mix_op (by rfl) ?_
        intro K hK
        go_wp2_with fail
        exact hK.out _ _ ⟨sincey (hR'.out.kept.below ((ba _ _).mono hlo)), [.slice (some ⟨wv.heap.size, 0, none⟩) 0 0, x1, x2, x3, x4], rfl, by simp only [putAll, Act.put, List.setIfInBounds_toArray, List.set_cons_succ, List.set_cons_zero], ((hR'.out.next (ba _ _)).setE hlo (heap_alloc_new wv _)).to (by simp [upd]) (by simp [upd]) (by simp [upd]) (by simp [upd]) (by simp [upd]) (by simp [upd])⟩
      · intro s vs wv _ S0 SD _ hR
        replace hR : RD l X X (tcells T aoT nT capT) nl w5.heap.size (w.heap.size + 1) w5 (s 1) (s 3) (s 5) (s 6) (s 8) false vs wv := hR
        obtain ⟨x0, x1, x2, x3, x4, rfl⟩ := hR.five
        have g0 : s 3 = false := S0
        have hR' := lid hR
        have hlo := hR.lo
        have hlx : w.heap.size + 1 + 1 < w5.heap.size := row_lt HP.out
        simp only [putAll, Act.put, List.setIfInBounds_toArray, List.set_cons_succ, List.set_cons_zero]
        have g1 : s 1 = true := SD 1 (by simp)
        rw [g1, g0] at hR
        obtain ⟨k, rfl, hk, hr⟩ := hR.emp
        have HS := lid (HL.out.sl.keptY hR.kept hlo hnl)
        have hlo' := hlo
        refine mix_op (by rfl) ?_
        intro K hK
        go_wp2_with (at_builtin; go_must (refine wpList_append_slat rfl _ _ 22 rfl w5.heap.size 31 (.agg #[.int .u64 0, .int .u64 0, .string ⟨#[]⟩, .int .i64 0, .int .i64 0]) 5 48 info_lz Try.underlying22 rfl (by decide) _ 0 [] (own_empty5 hr hk) rfl al nl cl (lzcells l) rfl HS.out HL.out.z (lzcells_one l) (by simp only [maxLen]; omega) (by omega) hlo ?_))
        intro v' w' hown' hb' hg' hat'
        have HN := lid (hR.setA (by omega) hk hr (by simpa using hown') hb' hg' hat')
        have hkn := hR'.out.kept.below hb'
        clear hown' hb' hg' hat'
        go_wp2_with fail
        exact hK.out _ _ ⟨sincey hkn, [_, v', x2, x3, x4], rfl, by simp only [putAll, Act.put, List.setIfInBounds_toArray, List.set_cons_succ, List.set_cons_zero], HN.out.to (by simp [upd, g1]) (by simp [upd, g1]) (by simp [upd, g1]) (by simp [upd, g1]) (by simp [upd, g1]) (by simp [upd, g1])⟩
      · intro s vs wv _ S0 SD _ hR
        replace hR : RD l X X (tcells T aoT nT capT) nl w5.heap.size (w.heap.size + 1) w5 (s 1) (s 3) (s 5) (s 6) (s 8) false vs wv := hR
        obtain ⟨x0, x1, x2, x3, x4, rfl⟩ := hR.five
        have g0 : s 5 = false := S0
        have hR' := lid hR
        have hlo := hR.lo
        have hlx : w.heap.size + 1 + 1 < w5.heap.size := row_lt HP.out
        simp only [putAll, Act.put, List.setIfInBounds_toArray, List.set_cons_succ, List.set_cons_zero]
        rw [g0] at hR
        have HR3 := lid (hR.next (ba wv (.cells (lzc X) 31)))
        refine mix_op (by rfl) ?_
        intro K hK
        go_wp2_with fail
        exact hK.out _ _ ⟨sincey (hR'.out.kept.below ((ba _ _).mono hlo)), [x0, x1, .slice (some ⟨wv.heap.size, 0, none⟩) 1 1, x3, x4], rfl, by simp only [putAll, Act.put, List.setIfInBounds_toArray, List.set_cons_succ, List.set_cons_zero], (HR3.out.setL hlo (heap_alloc_new wv _)).to (by simp [upd]) (by simp [upd]) (by simp [upd]) (by simp [upd]) (by simp [upd]) (by simp [upd])⟩
      · intro s vs wv _ S0 SD _ hR
        replace hR : RD l X X (tcells T aoT nT capT) nl w5.heap.size (w.heap.size + 1) w5 (s 1) (s 3) (s 5) (s 6) (s 8) false vs wv := hR
        obtain ⟨x0, x1, x2, x3, x4, rfl⟩ := hR.five
        have g0 : s 6 = false := S0
        have hR' := lid hR
        have hlo := hR.lo
        have hlx : w.heap.size + 1 + 1 < w5.heap.size := row_lt HP.out
        simp only [putAll, Act.put, List.setIfInBounds_toArray, List.set_cons_succ, List.set_cons_zero]
        have g1 : s 3 = true := SD 3 (by simp)
        have g2 : s 5 = true := SD 5 (by simp)
        rw [g1, g2, g0] at hR
        obtain ⟨k, rfl, hk, hr⟩ := hR.lit
        have hrow := hR.row1 rfl rfl
        refine mix_op (by rfl) ?_
        intro K hK
        go_wp2_with (at_builtin; go_must (refine wpList_append_slat rfl _ _ 22 rfl w5.heap.size 31 (.agg #[.int .u64 0, .int .u64 0, .string ⟨#[]⟩, .int .i64 0, .int .i64 0]) 5 48 info_lz Try.underlying22 rfl (by decide) _ nl _ hrow rfl _ 1 1 (lzc X).toList rfl (sl_one5 hr rfl) (by intro h; cases h) (by simp [Value.oneCell']) (by simp only [maxLen]; omega) (by omega) hlo ?_))
        intro v' w' hown' hb' hg' _
        have HN := lid (hR.setB (by omega) (by rw [lzcells_snoc]; exact hown') hb' hg')
        have hkn := hR'.out.kept.below hb'
        clear hown' hb' hg' hrow
        go_wp2_with fail
        exact hK.out _ _ ⟨sincey hkn, [x0, x1, _, v', x4], rfl, by simp only [putAll, Act.put, List.setIfInBounds_toArray, List.set_cons_succ, List.set_cons_zero], HN.out.to (by simp [upd, g1, g2]) (by simp [upd, g1, g2]) (by simp [upd, g1, g2]) (by simp [upd, g1, g2]) (by simp [upd, g1, g2]) (by simp [upd, g1, g2])⟩
      · intro s vs wv _ S0 SD _ hR
        replace hR : RD l X X (tcells T aoT nT capT) nl w5.heap.size (w.heap.size + 1) w5 (s 1) (s 3) (s 5) (s 6) (s 8) false vs wv := hR
        obtain ⟨x0, x1, x2, x3, x4, rfl⟩ := hR.five
        have g0 : s 8 = false := S0
        have hR' := lid hR
        have hlo := hR.lo
        have hlx : w.heap.size + 1 + 1 < w5.heap.size := row_lt HP.out
        simp only [putAll, Act.put, List.setIfInBounds_toArray, List.set_cons_succ, List.set_cons_zero]
        rw [g0] at hR
        have hres := hR.res
        rw [if_neg (by simp)] at hres
        have p0 := row_cell hres 0
        have p1 := row_cell hres 1
        have p2 := row_cell hres 2
        have z0 := row_fz hres 0
        have z1 := row_fz hres 1
        have z2 := row_fz hres 2
        obtain ⟨w', hw'⟩ : ∃ y, put3 (w.heap.size + 1 + 1) T aoT nT capT wv = y := ⟨_, rfl⟩
        have HN := lid (hR.setS (w' := put3 (w.heap.size + 1 + 1) T aoT nT capT wv) (by omega) (put3_below (Below.refl _ _) (by omega)) (fun k hk => put3_other rfl hk) put3_size (put3_row hres) (fun v m xs h => put3_own h (by omega)))
        rw [hw'] at HN
        unfold put3 at hw'
        have HW := lid hw'
        clear hw' hres
        refine mix_op (by rfl) ?_
        intro K hK
        go_wp2_with fail
        rw [HW.out]
        exact hK.out _ _ ⟨sincey HN.out.kept, [x0, x1, x2, x3, x4], rfl, by simp only [putAll, Act.put, List.setIfInBounds_toArray, List.set_cons_succ, List.set_cons_zero], HN.out.to (by simp [upd]) (by simp [upd]) (by simp [upd]) (by simp [upd]) (by simp [upd]) (by simp [upd])⟩
      intro s vs w6 _ hall _ hR
      replace hR : RD l X X (tcells T aoT nT capT) nl w5.heap.size (w.heap.size + 1) w5 (s 1) (s 3) (s 5) (s 6) (s 8) false vs w6 := hR
      obtain ⟨x0, x1, x2, x3, x4, rfl⟩ := hR.five
      have t1 : s 1 = true := hall (1, []) (by simp)
      have t3 : s 3 = true := hall (3, [1]) (by simp)
      have t5 : s 5 = true := hall (5, []) (by simp)
      have t6 : s 6 = true := hall (6, [3, 5]) (by simp)
      have t8 : s 8 = true := hall (8, [6]) (by simp)
      rw [t1, t3, t5, t6, t8] at hR
      have hres := hR.res
      rw [if_pos rfl] at hres
      have hk6 := hR.kept
      have hb6 := hR.bel
      have hlo6 := hR.lo
      have hrow := hR.allB
      obtain ⟨aM, nM, cM, rfl, hM⟩ := LzV.own (G := l ++ [X]) hrow (Nat.le_refl _) (by simp [HL.out.len]) (by simp only [maxLen]; omega)
      have HM := lid hM
      clear hrow hM
      clear t1 t3 t5 t6 t8 hall hR
      have HT6 := lid (HT2.out.keptY hk6 hlo6 hnT)
      simp only [putAll, Act.put, List.setIfInBounds_toArray, List.set_cons_succ, List.set_cons_zero]
      have c0 := row_cell hres 0
      have c1 := row_cell hres 1
      have c2 := row_cell hres 2
      clear hres
      refine seq_chain (by rfl) ?_
      intro K hK
      go_wp2_with fail
      refine hK.out _ _ (sincey hk6) ?_
      clear hK K
      repeat (first | (refine seq_skip (by rfl) (by rfl) ?_; simp only [Act.put, List.setIfInBounds_toArray, List.set_cons_succ, List.set_cons_zero]) | (refine seq_float (by rfl) (by rfl) (by rfl) ?_; intro K hK; go_big_quiet_op; go_big_quiet_on))
      refine seq_chain (by rfl) ?_
      intro K hK
      go_wp2_with fail
      refine hK.out _ _ (sincey hk6) ?_
      clear hK K
      repeat (first | (refine seq_skip (by rfl) (by rfl) ?_; simp only [Act.put, List.setIfInBounds_toArray, List.set_cons_succ, List.set_cons_zero]) | (refine seq_float (by rfl) (by rfl) (by rfl) ?_; intro K hK; go_big_quiet_op; go_big_quiet_on))
      refine seq_chain (by rfl) ?_
      intro K hK
      go_wp2_with fail
      refine hK.out _ _ (sincey hk6) ?_
      clear hK K
      repeat (first | (refine seq_skip (by rfl) (by rfl) ?_; simp only [Act.put, List.setIfInBounds_toArray, List.set_cons_succ, List.set_cons_zero]) | (refine seq_float (by rfl) (by rfl) (by rfl) ?_; intro K hK; go_big_quiet_op; go_big_quiet_on))
      refine seq_nil ?_
      go_wp2_with fail
      exact bodyPost_ret (res_do Try.results26 _ _ (w.heap.size + 1 + 1) _ _ _ _ _ _ rfl rfl rfl rfl c0 c1 c2) rfl ⟨T, l ++ [X], [], E, aoT, nT, capT, aM, nM, cM, none, 0, 0, rfl, HST.out, HT6.out.zero, HM.out.zero, ⟨rfl, Sl.nil, Nat.le_refl _, fun _ => rfl, by simp [maxLen], fun _ _ => Nat.zero_le _⟩, fun Y hY _ _ => ⟨.inr (HT6.out.na (by omega)), .inr (HM.out.na (by omega))⟩, hb5.trans (hb6.mono (by omega))⟩
    by_cases k2 : d0 % 4 = 2
    case pos =>
      have e0 : (d0 : Int) % 4 = 2 := by omega
      go_enter Try.func26, Try.ntmps26
      go_wp2_with fail
      have bw : w.heap.size ≤ w.heap.size := hb.size
      obtain ⟨W0, hW⟩ : ∃ y, ((w.alloc (.cells (tcells t ao n cap) 24)).alloc (.cells #[.int .u8 d0, .int .u8 d1, .int .u8 d2, .int .u8 d3, .int .u8 d4] 51)).alloc (.cells tz 24) = y := ⟨_, rfl⟩
      rw [hW]
      have hbW : Below w.heap.size w W0 := by rw [← hW]; exact ((((Below.refl w.heap.size w).alloc (Nat.le_refl _) _).alloc (by simp only [World.size_alloc]; omega) _).alloc (by simp only [World.size_alloc]; omega) _)
      have gW0 : w.heap.size + 2 < W0.heap.size := by rw [← hW]; simp only [World.size_alloc]; omega
      have BT : Hid (W0.heap[w.heap.size]? = some (.cells (tcells t ao n cap) 24 (0, 0))) := lid (by
        rw [← hW]
        iterate 2 rw [Below.heap_alloc _ _ _ (by simp only [World.size_alloc]; omega)]
        have := heap_alloc_new w (.cells (tcells t ao n cap) 24)
        exact this)
      have BD : Hid (W0.heap[w.heap.size + 1]? = some (.cells #[.int .u8 d0, .int .u8 d1, .int .u8 d2, .int .u8 d3, .int .u8 d4] 51 (0, 0))) := lid (by
        rw [← hW]
        iterate 1 rw [Below.heap_alloc _ _ _ (by simp only [World.size_alloc]; omega)]
        have := heap_alloc_new (w.alloc (.cells (tcells t ao n cap) 24)) (.cells #[.int .u8 d0, .int .u8 d1, .int .u8 d2, .int .u8 d3, .int .u8 d4] 51)
        simp only [World.size_alloc] at this
        exact this)
      have BP : Hid (W0.heap[w.heap.size + 1 + 1]? = some (.cells tz 24 (0, 0))) := lid (by
        rw [← hW]
        have := heap_alloc_new ((w.alloc (.cells (tcells t ao n cap) 24)).alloc (.cells #[.int .u8 d0, .int .u8 d1, .int .u8 d2, .int .u8 d3, .int .u8 d4] 51)) (.cells tz 24)
        simp only [World.size_alloc] at this
        exact this)
      clear hW
      replace HA := lid (HA.out.below hbW)
      replace HL := lid (HL.out.below hbW)
      replace hb := hb.trans (hbW.mono hb.size)
      have mW0 := hbW.size
      clear hbW
      have q1 := row_cell BT.out 0
      have q2 := row_cell BT.out 1
      have q3 := row_cell BT.out 2
      have q4 := row_cell BD.out 0
      have q5 := row_cell BD.out 1
      have q6 := row_cell BD.out 2
      have q7 := row_cell BD.out 3
      have q8 := row_cell BD.out 4
      have q9 := row_lt BT.out
      have q10 := row_lt BD.out
      have lw := W0.heap.size
      clear lw
      have CG := lid (fun w' (hb' : Below W0.heap.size W0 w') => grant_any t ao n cap (0, g) (nameAt j) m w' (HA.out.below hb').A HA.out.le HA.out.z (by rw [nameAt_size]; decide))
      rw [show dv ((0 : UInt64), g) = .agg #[.int .u64 0, .int .u64 g.toNat] from rfl] at CG
      obtain ⟨T, hT⟩ : ∃ y, grantL t (0, g) (nameAt j) m = y := ⟨_, rfl⟩
      obtain ⟨X, hX⟩ : ∃ y, grantX t (0, g) (nameAt j) m = y := ⟨_, rfl⟩
      obtain ⟨E, hE⟩ : ∃ y, grantE t (0, g) (nameAt j) m = y := ⟨_, rfl⟩
      have HST : Hid (Step t l T (l ++ [X]) [] E) := lid (.inl ⟨(0, g), nameAt j, m, by rw [nameAt_size]; exact Nat.le_refl _, hT.symm, by rw [hX], rfl, hE.symm⟩)
      rw [hT, hX, hE] at CG
      clear hT hX hE
      refine wp_region_mixF (fun w' => ∃ s : Since W0.heap.size W0, w' = s.world) [(0, true), (1, true), (2, true), (3, true), (7, true), (8, true), (9, true), (12, true), (4, true), (5, true)] [(6, []), (10, [6]), (11, [10]), (13, [11]), (18, []), (19, [])] [(14, [13]), (15, [14]), (16, [14]), (17, [14])] [(20, false), (21, false), (22, false)] (by kernel_rfl) (by kernel_rfl) (by intro c d v a w h; cases d <;> exact h) (since (Below.refl _ _).drew) ?_
      repeat (first | (refine seq_skip (by rfl) (by rfl) ?_; simp only [Act.put, List.setIfInBounds_toArray, List.set_cons_succ, List.set_cons_zero]) | (refine seq_float (by rfl) (by rfl) (by rfl) ?_; intro K hK; go_big_quiet_op; go_big_quiet_on))
      simp only [e0, e1, e2, e3]
      clear q1 q2 q3 q4 q5 q6 q7 q8 q9 q10
      refine seq_nil (mixF_go [49, 53, 54, 56, 42, 57, 58, 59, 11, 12] [undef, undef, undef, undef, undef, undef, undef, undef, undef, undef] (R3 T X E j W0.heap.size W0) rfl (by simp only [putAll, Act.put, List.setIfInBounds_toArray, List.set_cons_succ, List.set_cons_zero]) (fun s h h2 => R3.start (Nat.le_refl _) (h (6, []) (by simp)) (h (10, [6]) (by simp)) (h (11, [10]) (by simp)) (h (13, [11]) (by simp)) (h2 (14, [13]) (by simp)) (h2 (15, [14]) (by simp)) (h2 (16, [14]) (by simp)) (h2 (17, [14]) (by simp)) (h (18, []) (by simp)) (h (19, []) (by simp))) ⟨?_, ?_, ?_, ?_, ?_, ?_, trivial⟩ ⟨?_, ?_, ?_, ?_, trivial⟩ ?_)
      · intro s vs wv _ S0 SD _ hR
        have hR' := lid hR
        obtain ⟨x0, x1, x2, x3, x4, x5, x6, x7, x8, x9, rfl⟩ := hR.ten
        simp only [putAll, Act.put, List.setIfInBounds_toArray, List.set_cons_succ, List.set_cons_zero]
        refine mix_op (by rfl) ?_
        intro K hK
        go_wp2_with fail
        exact hK.out _ _ ⟨since (hR'.out.old.trans ((ba _ _).mono hR'.out.lo)), [.slice (some ⟨wv.heap.size, 0, none⟩) 3 3, x1, x2, x3, x4, x5, x6, x7, x8, x9], rfl, by simp only [putAll, Act.put, List.setIfInBounds_toArray, List.set_cons_succ, List.set_cons_zero], (hR'.out.next (ba _ _)).set6 (heap_alloc_new wv _)⟩
      · intro s vs wv _ S0 SD _ hR
        have hR' := lid hR
        obtain ⟨x0, x1, x2, x3, x4, x5, x6, x7, x8, x9, rfl⟩ := hR.ten
        simp only [putAll, Act.put, List.setIfInBounds_toArray, List.set_cons_succ, List.set_cons_zero]
        obtain ⟨k, rfl, hk⟩ := hR.at6 (SD 6 (by simp))
        have hjz : (0 : Int) ≤ (j : Int) := by omega
        refine mix_op (by rfl) ?_
        intro K hK
        go_wp2_with fail
        exact hK.out _ _ ⟨since hR'.out.old, [_, .pointer (some ⟨k, j, none⟩), x2, x3, x4, x5, x6, x7, x8, x9], rfl, by simp only [putAll, Act.put, List.setIfInBounds_toArray, List.set_cons_succ, List.set_cons_zero], hR'.out.set10 hk⟩
      · intro s vs wv _ S0 SD _ hR
        have hR' := lid hR
        obtain ⟨x0, x1, x2, x3, x4, x5, x6, x7, x8, x9, rfl⟩ := hR.ten
        simp only [putAll, Act.put, List.setIfInBounds_toArray, List.set_cons_succ, List.set_cons_zero]
        obtain ⟨k, rfl, hk⟩ := hR.at10 (SD 10 (by simp))
        have hc := nrow_at hk hj
        refine mix_op (by rfl) ?_
        intro K hK
        go_wp2_with fail
        exact hK.out _ _ ⟨since hR'.out.old, [x0, _, .string (nameAt j), x3, x4, x5, x6, x7, x8, x9], rfl, by simp only [putAll, Act.put, List.setIfInBounds_toArray, List.set_cons_succ, List.set_cons_zero], hR'.out.set11⟩
      · intro s vs wv _ S0 SD _ hR
        have hR' := lid hR
        obtain ⟨x0, x1, x2, x3, x4, x5, x6, x7, x8, x9, rfl⟩ := hR.ten
        simp only [putAll, Act.put, List.setIfInBounds_toArray, List.set_cons_succ, List.set_cons_zero]
        obtain rfl := hR.at11 (SD 11 (by simp))
        have CGW := lid (CG.out wv hR.old)
        refine mix_op (by rfl) ?_
        intro K hK
        go_wp2_with fail
        (with_reducible refine (CGW.out).mono ?_); rintro e wc ⟨_, rfl, ⟨aT, nT, cT, rfl, hA⟩, hbc⟩
        go_wp2_with fail
        exact hK.out _ _ ⟨since (hR'.out.old.trans (hbc.mono hR'.out.lo)), [x0, x1, _, .tuple #[.agg (tcells T aT nT cT), .agg (lzc X), .int .i64 E], x4, x5, x6, x7, x8, x9], rfl, by simp only [putAll, Act.put, List.setIfInBounds_toArray, List.set_cons_succ, List.set_cons_zero], hR'.out.call S0 hbc hA⟩
      · intro s vs wv _ S0 SD _ hR
        have hR' := lid hR
        obtain ⟨x0, x1, x2, x3, x4, x5, x6, x7, x8, x9, rfl⟩ := hR.ten
        simp only [putAll, Act.put, List.setIfInBounds_toArray, List.set_cons_succ, List.set_cons_zero]
        refine mix_op (by rfl) ?_
        intro K hK
        go_wp2_with fail
        exact hK.out _ _ ⟨since (hR'.out.old.trans ((ba _ _).mono hR'.out.lo)), [x0, x1, x2, x3, x4, x5, x6, x7, .pointer (some ⟨wv.heap.size, 0, none⟩), x9], rfl, by simp only [putAll, Act.put, List.setIfInBounds_toArray, List.set_cons_succ, List.set_cons_zero], hR'.out.new18 _ (fun u => heap_alloc_new u _)⟩
      · intro s vs wv _ S0 SD _ hR
        have hR' := lid hR
        obtain ⟨x0, x1, x2, x3, x4, x5, x6, x7, x8, x9, rfl⟩ := hR.ten
        simp only [putAll, Act.put, List.setIfInBounds_toArray, List.set_cons_succ, List.set_cons_zero]
        refine mix_op (by rfl) ?_
        intro K hK
        go_wp2_with fail
        exact hK.out _ _ ⟨since (hR'.out.old.trans ((ba _ _).mono hR'.out.lo)), [x0, x1, x2, x3, x4, x5, x6, x7, x8, .pointer (some ⟨wv.heap.size, 0, none⟩)], rfl, by simp only [putAll, Act.put, List.setIfInBounds_toArray, List.set_cons_succ, List.set_cons_zero], hR'.out.new19 _ (fun u => heap_alloc_new u _)⟩
      · intro s vs wv _ S0 SD _ hR
        have hR' := lid hR
        obtain ⟨x0, x1, x2, x3, x4, x5, x6, x7, x8, x9, rfl⟩ := hR.ten
        skip
        obtain ⟨aT, nT, cT, rfl, hR2⟩ := hR.at13 (SD 13 (by simp))
        have HR2 := lid hR2
        clear hR2
        refine mix_read (by rfl) (by rfl) (by rfl) ?_
        intro K hK
        simp only [putAll, Act.put, List.setIfInBounds_toArray, List.set_cons_succ, List.set_cons_zero]
        go_big_quiet_op
        go_big_quiet_on
        exact ⟨[x0, x1, x2, _, .tuple #[.agg (tcells T aT nT cT), .agg (lzc X), .int .i64 E], x5, x6, x7, x8, x9], rfl, by simp only [putAll, Act.put, List.setIfInBounds_toArray, List.set_cons_succ, List.set_cons_zero], HR2.out⟩
      · intro s vs wv _ S0 SD _ hR
        have hR' := lid hR
        obtain ⟨x0, x1, x2, x3, x4, x5, x6, x7, x8, x9, rfl⟩ := hR.ten
        skip
        obtain ⟨aT, nT, cT, rfl, hR2⟩ := hR.get15 (SD 14 (by simp))
        have HR2 := lid hR2
        clear hR2
        refine mix_read (by rfl) (by rfl) (by rfl) ?_
        intro K hK
        simp only [putAll, Act.put, List.setIfInBounds_toArray, List.set_cons_succ, List.set_cons_zero]
        go_big_quiet_op
        go_big_quiet_on
        exact ⟨[x0, x1, x2, x3, .tuple #[.agg (tcells T aT nT cT), .agg (lzc X), .int .i64 E], .agg (tcells T aT nT cT), x6, x7, x8, x9], rfl, by simp only [putAll, Act.put, List.setIfInBounds_toArray, List.set_cons_succ, List.set_cons_zero], HR2.out⟩
      · intro s vs wv _ S0 SD _ hR
        have hR' := lid hR
        obtain ⟨x0, x1, x2, x3, x4, x5, x6, x7, x8, x9, rfl⟩ := hR.ten
        skip
        obtain ⟨aT, nT, cT, rfl, hR2⟩ := hR.get16 (SD 14 (by simp))
        have HR2 := lid hR2
        clear hR2
        refine mix_read (by rfl) (by rfl) (by rfl) ?_
        intro K hK
        simp only [putAll, Act.put, List.setIfInBounds_toArray, List.set_cons_succ, List.set_cons_zero]
        go_big_quiet_op
        go_big_quiet_on
        exact ⟨[x0, x1, x2, x3, .tuple #[.agg (tcells T aT nT cT), .agg (lzc X), .int .i64 E], x5, .agg (lzc X), x7, x8, x9], rfl, by simp only [putAll, Act.put, List.setIfInBounds_toArray, List.set_cons_succ, List.set_cons_zero], HR2.out⟩
      · intro s vs wv _ S0 SD _ hR
        have hR' := lid hR
        obtain ⟨x0, x1, x2, x3, x4, x5, x6, x7, x8, x9, rfl⟩ := hR.ten
        skip
        obtain ⟨aT, nT, cT, rfl, hR2⟩ := hR.get17 (SD 14 (by simp))
        have HR2 := lid hR2
        clear hR2
        refine mix_read (by rfl) (by rfl) (by rfl) ?_
        intro K hK
        simp only [putAll, Act.put, List.setIfInBounds_toArray, List.set_cons_succ, List.set_cons_zero]
        go_big_quiet_op
        go_big_quiet_on
        exact ⟨[x0, x1, x2, x3, .tuple #[.agg (tcells T aT nT cT), .agg (lzc X), .int .i64 E], x5, x6, .int .i64 E, x8, x9], rfl, by simp only [putAll, Act.put, List.setIfInBounds_toArray, List.set_cons_succ, List.set_cons_zero], HR2.out⟩
      intro s vs w3 _ hall hallf _ hR
      have hB1 := hR.old
      obtain ⟨x0, x1, x2, x3, x4, kx, ky, aoT, nT, capT, rfl, hA, hkx, hky, rx, ry, hnx, hny⟩ := hR.all (hall (13, [11]) (by simp)) (hallf (15, [14]) (by simp)) (hallf (16, [14]) (by simp)) (hallf (17, [14]) (by simp)) (hall (18, []) (by simp)) (hall (19, []) (by simp))
      have hne : kx ≠ ky := by
        intro e
        rw [e] at rx
        have := rx.symm.trans ry
        simp at this
      have HT := lid hA
      have RX := lid rx
      have RY := lid ry
      clear rx ry hA hall hallf hR CG
      simp only [putAll, Act.put, List.setIfInBounds_toArray, List.set_cons_succ, List.set_cons_zero]
      have p0 := row_cell RX.out 0
      have z0 := row_fz RX.out 0
      have p1 := row_cell RX.out 1
      have z1 := row_fz RX.out 1
      have p2 := row_cell RX.out 2
      have z2 := row_fz RX.out 2
      refine seq_chain (by rfl) ?_
      intro K hK
      go_wp2_with fail
      clear p0 z0 p1 z1 p2 z2
      obtain ⟨w4, hw4⟩ : ∃ y, put3 kx T aoT nT capT w3 = y := ⟨_, rfl⟩
      have hB2 := put3_below (T := T) (ao := aoT) (n := nT) (cap := capT) hB1 hkx
      have RX1 := lid (put3_row (T := T) (ao := aoT) (n := nT) (cap := capT) RX.out)
      have RY1 := lid (put3_other (T := T) (ao := aoT) (n := nT) (cap := capT) RY.out hne.symm)
      have HT1 := lid (HT.out.put3 (T := T) (ao := aoT) (n := nT) (cap := capT) hnx)
      rw [hw4] at hB2 RX1 RY1 HT1
      unfold put3 at hw4
      rw [hw4]
      clear hw4 RX RY hB1 HT
      refine hK.out _ _ (since hB2) ?_
      clear hK K
      repeat (first | (refine seq_skip (by rfl) (by rfl) ?_; simp only [Act.put, List.setIfInBounds_toArray, List.set_cons_succ, List.set_cons_zero]) | (refine seq_float (by rfl) (by rfl) (by rfl) ?_; intro K hK; go_big_quiet_op; go_big_quiet_on))
      have p0 := row_cell RY1.out 0
      have z0 := row_fz RY1.out 0
      have p1 := row_cell RY1.out 1
      have z1 := row_fz RY1.out 1
      have p2 := row_cell RY1.out 2
      have z2 := row_fz RY1.out 2
      have p3 := row_cell RY1.out 3
      have z3 := row_fz RY1.out 3
      have p4 := row_cell RY1.out 4
      have z4 := row_fz RY1.out 4
      refine seq_chain (by rfl) ?_
      intro K hK
      go_wp2_with fail
      clear p0 z0 p1 z1 p2 z2 p3 z3 p4 z4
      obtain ⟨w5, hw5⟩ : ∃ z, putL ky X w4 = z := ⟨_, rfl⟩
      have hB3 := putL_below (x := X) hB2 hky
      have BX1 := lid (putL_row (x := X) RY1.out)
      have BT1 := lid (putL_other (x := X) RX1.out hne)
      have HT2 := lid (HT1.out.putL (x := X) hny)
      rw [hw5] at hB3 BX1 BT1 HT2
      unfold putL at hw5
      rw [hw5]
      clear hw5 RX1 RY1 hB2 HT1 hnx hny
      refine hK.out _ _ (since hB3) ?_
      clear hK K
      repeat (first | (refine seq_skip (by rfl) (by rfl) ?_; simp only [Act.put, List.setIfInBounds_toArray, List.set_cons_succ, List.set_cons_zero]) | (refine seq_float (by rfl) (by rfl) (by rfl) ?_; intro K hK; go_big_quiet_op; go_big_quiet_on))
      refine seq_chain (by rfl) ?_
      intro K hK
      go_wp2_with fail
      refine hK.out _ _ (since hB3) ?_
      clear hK K
      repeat (first | (refine seq_skip (by rfl) (by rfl) ?_; simp only [Act.put, List.setIfInBounds_toArray, List.set_cons_succ, List.set_cons_zero]) | (refine seq_float (by rfl) (by rfl) (by rfl) ?_; intro K hK; go_big_quiet_op; go_big_quiet_on))
      refine seq_nil ?_
      replace HL := lid (HL.out.below hB3)
      have HP := lid ((hB3.block _ (row_lt BP.out)).trans BP.out)
      have hb5 : Below w.heap.size w w5 := hb.trans (hB3.mono hb.size)
      have lkx := row_lt BT1.out
      have lky := row_lt BX1.out
      have hnl : nl = 0 ∨ ∀ a, al = some a → a.block < w5.heap.size ∧ a.block ≠ w.heap.size + 1 ∧ a.block ≠ w.heap.size + 1 + 1 := by
        have hg5 := hB3.size
        exact hnl0.imp id fun h a e => by have := h a e; omega
      have hnT : nT = 0 ∨ ∀ a, aoT = some a → a.block < w5.heap.size ∧ a.block ≠ w.heap.size + 1 ∧ a.block ≠ w.heap.size + 1 + 1 := HT2.out.hi.imp id fun h a e => by have := h a e; have := HT2.out.lo a e; omega
      clear hB3
      have a0 := SinceY.cell (B := w5.heap.size) (X := w.heap.size + 1) lkx (by omega) (by omega) (row_cell BT1.out 0)
      have a1 := SinceY.cell (B := w5.heap.size) (X := w.heap.size + 1) lkx (by omega) (by omega) (row_cell BT1.out 1)
      have a2 := SinceY.cell (B := w5.heap.size) (X := w.heap.size + 1) lkx (by omega) (by omega) (row_cell BT1.out 2)
      have b0 := SinceY.cell (B := w5.heap.size) (X := w.heap.size + 1) lky (by omega) (by omega) (row_cell BX1.out 0)
      have b1 := SinceY.cell (B := w5.heap.size) (X := w.heap.size + 1) lky (by omega) (by omega) (row_cell BX1.out 1)
      have b2 := SinceY.cell (B := w5.heap.size) (X := w.heap.size + 1) lky (by omega) (by omega) (row_cell BX1.out 2)
      have b3 := SinceY.cell (B := w5.heap.size) (X := w.heap.size + 1) lky (by omega) (by omega) (row_cell BX1.out 3)
      have b4 := SinceY.cell (B := w5.heap.size) (X := w.heap.size + 1) lky (by omega) (by omega) (row_cell BX1.out 4)
      go_wp2_with fail
      refine wp_region_mix (fun w' => ∃ s : SinceY w5.heap.size (w.heap.size + 1) w5, w' = s.world) [(0, true), (2, true), (4, true), (7, true)] [(1, []), (3, [1]), (5, []), (6, [3, 5]), (8, [6])] [(9, false), (10, false), (11, false)] (by kernel_rfl) (by kernel_rfl) (by intro c d v a w h; cases d <;> exact h) (sincey (KeptY.refl _ _ _).drew) ?_
      repeat (first | (refine seq_skip (by rfl) (by rfl) ?_; simp only [Act.put, List.setIfInBounds_toArray, List.set_cons_succ, List.set_cons_zero]) | (refine seq_float (by rfl) (by rfl) (by rfl) ?_; intro K hK; go_big_quiet_op; go_big_quiet_on))
      refine seq_nil (mix_go [61, 63, 65, 66, 131] [undef, undef, undef, undef, undef] (fun s => RD l X X (tcells T aoT nT capT) nl w5.heap.size (w.heap.size + 1) w5 (s 1) (s 3) (s 5) (s 6) (s 8) false) rfl (by simp only [putAll, Act.put, List.setIfInBounds_toArray, List.set_cons_succ, List.set_cons_zero]) (fun s h => (RD.start (Nat.le_refl _) HP.out).to (h (1, []) (by simp)) (h (3, [1]) (by simp)) (h (5, []) (by simp)) (h (6, [3, 5]) (by simp)) (h (8, [6]) (by simp)) rfl) ⟨?_, ?_, ?_, ?_, ?_, trivial⟩ ?_)
      · intro s vs wv _ S0 SD _ hR
        replace hR : RD l X X (tcells T aoT nT capT) nl w5.heap.size (w.heap.size + 1) w5 (s 1) (s 3) (s 5) (s 6) (s 8) false vs wv := hR
        obtain ⟨x0, x1, x2, x3, x4, rfl⟩ := hR.five
        have g0 : s 1 = false := S0
        have hR' := lid hR
        have hlo := hR.lo
        have hlx : w.heap.size + 1 + 1 < w5.heap.size := row_lt HP.out
        simp only [putAll, Act.put, List.setIfInBounds_toArray, List.set_cons_succ, List.set_cons_zero]
        refine mix_op (by rfl) ?_
        intro K hK
        go_wp2_with fail
        exact hK.out _ _ ⟨sincey (hR'.out.kept.below ((ba _ _).mono hlo)), [.slice (some ⟨wv.heap.size, 0, none⟩) 0 0, x1, x2, x3, x4], rfl, by simp only [putAll, Act.put, List.setIfInBounds_toArray, List.set_cons_succ, List.set_cons_zero], ((hR'.out.next (ba _ _)).setE hlo (heap_alloc_new wv _)).to (by simp [upd]) (by simp [upd]) (by simp [upd]) (by simp [upd]) (by simp [upd]) (by simp [upd])⟩
      · intro s vs wv _ S0 SD _ hR
        replace hR : RD l X X (tcells T aoT nT capT) nl w5.heap.size (w.heap.size + 1) w5 (s 1) (s 3) (s 5) (s 6) (s 8) false vs wv := hR
        obtain ⟨x0, x1, x2, x3, x4, rfl⟩ := hR.five
        have g0 : s 3 = false := S0
        have hR' := lid hR
        have hlo := hR.lo
        have hlx : w.heap.size + 1 + 1 < w5.heap.size := row_lt HP.out
        simp only [putAll, Act.put, List.setIfInBounds_toArray, List.set_cons_succ, List.set_cons_zero]
        have g1 : s 1 = true := SD 1 (by simp)
        rw [g1, g0] at hR
        obtain ⟨k, rfl, hk, hr⟩ := hR.emp
        have HS := lid (HL.out.sl.keptY hR.kept hlo hnl)
        have hlo' := hlo
        refine mix_op (by rfl) ?_
        intro K hK
        go_wp2_with (at_builtin; go_must (refine wpList_append_slat rfl _ _ 22 rfl w5.heap.size 31 (.agg #[.int .u64 0, .int .u64 0, .string ⟨#[]⟩, .int .i64 0, .int .i64 0]) 5 48 info_lz Try.underlying22 rfl (by decide) _ 0 [] (own_empty5 hr hk) rfl al nl cl (lzcells l) rfl HS.out HL.out.z (lzcells_one l) (by simp only [maxLen]; omega) (by omega) hlo ?_))
        intro v' w' hown' hb' hg' hat'
        have HN := lid (hR.setA (by omega) hk hr (by simpa using hown') hb' hg' hat')
        have hkn := hR'.out.kept.below hb'
        clear hown' hb' hg' hat'
        go_wp2_with fail
        exact hK.out _ _ ⟨sincey hkn, [_, v', x2, x3, x4], rfl, by simp only [putAll, Act.put, List.setIfInBounds_toArray, List.set_cons_succ, List.set_cons_zero], HN.out.to (by simp [upd, g1]) (by simp [upd, g1]) (by simp [upd, g1]) (by simp [upd, g1]) (by simp [upd, g1]) (by simp [upd, g1])⟩
      · intro s vs wv _ S0 SD _ hR
        replace hR : RD l X X (tcells T aoT nT capT) nl w5.heap.size (w.heap.size + 1) w5 (s 1) (s 3) (s 5) (s 6) (s 8) false vs wv := hR
        obtain ⟨x0, x1, x2, x3, x4, rfl⟩ := hR.five
        have g0 : s 5 = false := S0
        have hR' := lid hR
        have hlo := hR.lo
        have hlx : w.heap.size + 1 + 1 < w5.heap.size := row_lt HP.out
        simp only [putAll, Act.put, List.setIfInBounds_toArray, List.set_cons_succ, List.set_cons_zero]
        rw [g0] at hR
        have HR3 := lid (hR.next (ba wv (.cells (lzc X) 31)))
        refine mix_op (by rfl) ?_
        intro K hK
        go_wp2_with fail
        exact hK.out _ _ ⟨sincey (hR'.out.kept.below ((ba _ _).mono hlo)), [x0, x1, .slice (some ⟨wv.heap.size, 0, none⟩) 1 1, x3, x4], rfl, by simp only [putAll, Act.put, List.setIfInBounds_toArray, List.set_cons_succ, List.set_cons_zero], (HR3.out.setL hlo (heap_alloc_new wv _)).to (by simp [upd]) (by simp [upd]) (by simp [upd]) (by simp [upd]) (by simp [upd]) (by simp [upd])⟩
      · intro s vs wv _ S0 SD _ hR
        replace hR : RD l X X (tcells T aoT nT capT) nl w5.heap.size (w.heap.size + 1) w5 (s 1) (s 3) (s 5) (s 6) (s 8) false vs wv := hR
        obtain ⟨x0, x1, x2, x3, x4, rfl⟩ := hR.five
        have g0 : s 6 = false := S0
        have hR' := lid hR
        have hlo := hR.lo
        have hlx : w.heap.size + 1 + 1 < w5.heap.size := row_lt HP.out
        simp only [putAll, Act.put, List.setIfInBounds_toArray, List.set_cons_succ, List.set_cons_zero]
        have g1 : s 3 = true := SD 3 (by simp)
        have g2 : s 5 = true := SD 5 (by simp)
        rw [g1, g2, g0] at hR
        obtain ⟨k, rfl, hk, hr⟩ := hR.lit
        have hrow := hR.row1 rfl rfl
        refine mix_op (by rfl) ?_
        intro K hK
        go_wp2_with (at_builtin; go_must (refine wpList_append_slat rfl _ _ 22 rfl w5.heap.size 31 (.agg #[.int .u64 0, .int .u64 0, .string ⟨#[]⟩, .int .i64 0, .int .i64 0]) 5 48 info_lz Try.underlying22 rfl (by decide) _ nl _ hrow rfl _ 1 1 (lzc X).toList rfl (sl_one5 hr rfl) (by intro h; cases h) (by simp [Value.oneCell']) (by simp only [maxLen]; omega) (by omega) hlo ?_))
        intro v' w' hown' hb' hg' _
        have HN := lid (hR.setB (by omega) (by rw [lzcells_snoc]; exact hown') hb' hg')
        have hkn := hR'.out.kept.below hb'
        clear hown' hb' hg' hrow
        go_wp2_with fail
        exact hK.out _ _ ⟨sincey hkn, [x0, x1, _, v', x4], rfl, by simp only [putAll, Act.put, List.setIfInBounds_toArray, List.set_cons_succ, List.set_cons_zero], HN.out.to (by simp [upd, g1, g2]) (by simp [upd, g1, g2]) (by simp [upd, g1, g2]) (by simp [upd, g1, g2]) (by simp [upd, g1, g2]) (by simp [upd, g1, g2])⟩
      · intro s vs wv _ S0 SD _ hR
        replace hR : RD l X X (tcells T aoT nT capT) nl w5.heap.size (w.heap.size + 1) w5 (s 1) (s 3) (s 5) (s 6) (s 8) false vs wv := hR
        obtain ⟨x0, x1, x2, x3, x4, rfl⟩ := hR.five
        have g0 : s 8 = false := S0
        have hR' := lid hR
        have hlo := hR.lo
        have hlx : w.heap.size + 1 + 1 < w5.heap.size := row_lt HP.out
        simp only [putAll, Act.put, List.setIfInBounds_toArray, List.set_cons_succ, List.set_cons_zero]
        rw [g0] at hR
        have hres := hR.res
        rw [if_neg (by simp)] at hres
        have p0 := row_cell hres 0
        have p1 := row_cell hres 1
        have p2 := row_cell hres 2
        have z0 := row_fz hres 0
        have z1 := row_fz hres 1
        have z2 := row_fz hres 2
        obtain ⟨w', hw'⟩ : ∃ y, put3 (w.heap.size + 1 + 1) T aoT nT capT wv = y := ⟨_, rfl⟩
        have HN := lid (hR.setS (w' := put3 (w.heap.size + 1 + 1) T aoT nT capT wv) (by omega) (put3_below (Below.refl _ _) (by omega)) (fun k hk => put3_other rfl hk) put3_size (put3_row hres) (fun v m xs h => put3_own h (by omega)))
        rw [hw'] at HN
        unfold put3 at hw'
        have HW := lid hw'
        clear hw' hres
        refine mix_op (by rfl) ?_
        intro K hK
        go_wp2_with fail
        rw [HW.out]
        exact hK.out _ _ ⟨sincey HN.out.kept, [x0, x1, x2, x3, x4], rfl, by simp only [putAll, Act.put, List.setIfInBounds_toArray, List.set_cons_succ, List.set_cons_zero], HN.out.to (by simp [upd]) (by simp [upd]) (by simp [upd]) (by simp [upd]) (by simp [upd]) (by simp [upd])⟩
      intro s vs w6 _ hall _ hR
      replace hR : RD l X X (tcells T aoT nT capT) nl w5.heap.size (w.heap.size + 1) w5 (s 1) (s 3) (s 5) (s 6) (s 8) false vs w6 := hR
      obtain ⟨x0, x1, x2, x3, x4, rfl⟩ := hR.five
      have t1 : s 1 = true := hall (1, []) (by simp)
      have t3 : s 3 = true := hall (3, [1]) (by simp)
      have t5 : s 5 = true := hall (5, []) (by simp)
      have t6 : s 6 = true := hall (6, [3, 5]) (by simp)
      have t8 : s 8 = true := hall (8, [6]) (by simp)
      rw [t1, t3, t5, t6, t8] at hR
      have hres := hR.res
      rw [if_pos rfl] at hres
      have hk6 := hR.kept
      have hb6 := hR.bel
      have hlo6 := hR.lo
      have hrow := hR.allB
      obtain ⟨aM, nM, cM, rfl, hM⟩ := LzV.own (G := l ++ [X]) hrow (Nat.le_refl _) (by simp [HL.out.len]) (by simp only [maxLen]; omega)
      have HM := lid hM
      clear hrow hM
      clear t1 t3 t5 t6 t8 hall hR
      have HT6 := lid (HT2.out.keptY hk6 hlo6 hnT)
      simp only [putAll, Act.put, List.setIfInBounds_toArray, List.set_cons_succ, List.set_cons_zero]
      have c0 := row_cell hres 0
      have c1 := row_cell hres 1
      have c2 := row_cell hres 2
      clear hres
      refine seq_chain (by rfl) ?_
      intro K hK
      go_wp2_with fail
      refine hK.out _ _ (sincey hk6) ?_
      clear hK K
      repeat (first | (refine seq_skip (by rfl) (by rfl) ?_; simp only [Act.put, List.setIfInBounds_toArray, List.set_cons_succ, List.set_cons_zero]) | (refine seq_float (by rfl) (by rfl) (by rfl) ?_; intro K hK; go_big_quiet_op; go_big_quiet_on))
      refine seq_chain (by rfl) ?_
      intro K hK
      go_wp2_with fail
      refine hK.out _ _ (sincey hk6) ?_
      clear hK K
      repeat (first | (refine seq_skip (by rfl) (by rfl) ?_; simp only [Act.put, List.setIfInBounds_toArray, List.set_cons_succ, List.set_cons_zero]) | (refine seq_float (by rfl) (by rfl) (by rfl) ?_; intro K hK; go_big_quiet_op; go_big_quiet_on))
      refine seq_chain (by rfl) ?_
      intro K hK
      go_wp2_with fail
      refine hK.out _ _ (sincey hk6) ?_
      clear hK K
      repeat (first | (refine seq_skip (by rfl) (by rfl) ?_; simp only [Act.put, List.setIfInBounds_toArray, List.set_cons_succ, List.set_cons_zero]) | (refine seq_float (by rfl) (by rfl) (by rfl) ?_; intro K hK; go_big_quiet_op; go_big_quiet_on))
      refine seq_nil ?_
      go_wp2_with fail
      exact bodyPost_ret (res_do Try.results26 _ _ (w.heap.size + 1 + 1) _ _ _ _ _ _ rfl rfl rfl rfl c0 c1 c2) rfl ⟨T, l ++ [X], [], E, aoT, nT, capT, aM, nM, cM, none, 0, 0, rfl, HST.out, HT6.out.zero, HM.out.zero, ⟨rfl, Sl.nil, Nat.le_refl _, fun _ => rfl, by simp [maxLen], fun _ _ => Nat.zero_le _⟩, fun Y hY _ _ => ⟨.inr (HT6.out.na (by omega)), .inr (HM.out.na (by omega))⟩, hb5.trans (hb6.mono (by omega))⟩
    omega
  have dl : ((nl : Int) == 0) = false := by simp; omega
  have hmod : d4 % nl < nl := Nat.mod_lt _ (by omega)
  obtain ⟨b1, o1, rfl, hlb, hcell⟩ := HL.out.sl.at_ hmod
  have e4t : ((d4 : Int)).tmod (nl : Int) = ((d4 % nl : Nat) : Int) := by rw [Int.tmod_eq_emod_of_nonneg (by omega)]; omega
  obtain ⟨k, hk⟩ : ∃ k, d4 % nl = k := ⟨_, rfl⟩
  have e4 : (d4 : Int) % (nl : Int) = (k : Int) := by omega
  rw [hk] at hmod e4t
  have hkl : k < l.length := by rw [HL.out.len]; exact hmod
  have hnz : (nl : Int) ≠ 0 := by omega
  clear hk
  have x0 := hcell (k * 5 + 0) _ (lzcells_at hkl).1
  have x1 := hcell (k * 5 + 1) _ (lzcells_at hkl).2.1
  have x2 := hcell (k * 5 + 2) _ (lzcells_at hkl).2.2.1
  have x3 := hcell (k * 5 + 3) _ (lzcells_at hkl).2.2.2.1
  have x4 := hcell (k * 5 + 4) _ (lzcells_at hkl).2.2.2.2
  rw [← Nat.add_assoc] at x1 x2 x3 x4
  rw [Nat.add_zero] at x0
  have HxM := lid (List.getElem_mem hkl)
  obtain ⟨x, hx⟩ : ∃ y, l[k] = y := ⟨_, rfl⟩
  rw [hx] at x0 x1 x2 x3 x4 HxM
  clear hx hcell
  by_cases k2 : d0 % 4 = 2
  case pos =>
    have e0 : (d0 : Int) % 4 = 2 := by omega
    have CV := lid (fun w' (hb' : Below w.heap.size w w') => release_any t ao n cap x w' (HA.out.below hb').A HA.out.le HA.out.z)
    obtain ⟨T, hT⟩ : ∃ y, releaseL t x = y := ⟨_, rfl⟩
    obtain ⟨E, hE⟩ : ∃ y, releaseE t x = y := ⟨_, rfl⟩
    have HST : Hid (Step t l T l [x] E) := lid (.inr (.inr (.inl ⟨x, HxM.out, hT.symm, rfl, rfl, hE.symm⟩)))
    rw [hT, hE] at CV
    clear hT hE
    have hbc : Below w.heap.size w (((w.alloc (.cells #[.int .i64 t.clock, .int .i64 t.epoch, .slice ao n cap] 24)).alloc (.cells #[.int .u8 d0, .int .u8 d1, .int .u8 d2, .int .u8 d3, .int .u8 d4] 51)).alloc (.cells #[.int .i64 0, .int .i64 0, .slice none 0 0] 24)) := (((Below.refl _ _).alloc (Nat.le_refl _) _).alloc (by simp) _).alloc (by simp; omega) _
    replace x0 := (bc hbc hlb _).trans x0
    replace x1 := (bc hbc hlb _).trans x1
    replace x2 := (bc hbc hlb _).trans x2
    replace x3 := (bc hbc hlb _).trans x3
    replace x4 := (bc hbc hlb _).trans x4
    clear hbc
    go_enter Try.func26, Try.ntmps26
    go_wp2_with fail
    clear x0 x1 x2 x3 x4
    have bw : w.heap.size ≤ w.heap.size := hb.size
    obtain ⟨W0, hW⟩ : ∃ y, (((w.alloc (.cells (tcells t ao n cap) 24)).alloc (.cells #[.int .u8 d0, .int .u8 d1, .int .u8 d2, .int .u8 d3, .int .u8 d4] 51)).alloc (.cells tz 24)).alloc (.cells (lzc x) 31) = y := ⟨_, rfl⟩
    rw [hW]
    have hbW : Below w.heap.size w W0 := by rw [← hW]; exact (((((Below.refl w.heap.size w).alloc (Nat.le_refl _) _).alloc (by simp only [World.size_alloc]; omega) _).alloc (by simp only [World.size_alloc]; omega) _).alloc (by simp only [World.size_alloc]; omega) _)
    have gW0 : w.heap.size + 3 < W0.heap.size := by rw [← hW]; simp only [World.size_alloc]; omega
    have BT : Hid (W0.heap[w.heap.size]? = some (.cells (tcells t ao n cap) 24 (0, 0))) := lid (by
      rw [← hW]
      iterate 3 rw [Below.heap_alloc _ _ _ (by simp only [World.size_alloc]; omega)]
      have := heap_alloc_new w (.cells (tcells t ao n cap) 24)
      exact this)
    have BD : Hid (W0.heap[w.heap.size + 1]? = some (.cells #[.int .u8 d0, .int .u8 d1, .int .u8 d2, .int .u8 d3, .int .u8 d4] 51 (0, 0))) := lid (by
      rw [← hW]
      iterate 2 rw [Below.heap_alloc _ _ _ (by simp only [World.size_alloc]; omega)]
      have := heap_alloc_new (w.alloc (.cells (tcells t ao n cap) 24)) (.cells #[.int .u8 d0, .int .u8 d1, .int .u8 d2, .int .u8 d3, .int .u8 d4] 51)
      simp only [World.size_alloc] at this
      exact this)
    have BP : Hid (W0.heap[w.heap.size + 1 + 1]? = some (.cells tz 24 (0, 0))) := lid (by
      rw [← hW]
      iterate 1 rw [Below.heap_alloc _ _ _ (by simp only [World.size_alloc]; omega)]
      have := heap_alloc_new ((w.alloc (.cells (tcells t ao n cap) 24)).alloc (.cells #[.int .u8 d0, .int .u8 d1, .int .u8 d2, .int .u8 d3, .int .u8 d4] 51)) (.cells tz 24)
      simp only [World.size_alloc] at this
      exact this)
    have BX : Hid (W0.heap[w.heap.size + 1 + 1 + 1]? = some (.cells (lzc x) 31 (0, 0))) := lid (by
      rw [← hW]
      have := heap_alloc_new (((w.alloc (.cells (tcells t ao n cap) 24)).alloc (.cells #[.int .u8 d0, .int .u8 d1, .int .u8 d2, .int .u8 d3, .int .u8 d4] 51)).alloc (.cells tz 24)) (.cells (lzc x) 31)
      simp only [World.size_alloc] at this
      exact this)
    clear hW
    replace HA := lid (HA.out.below hbW)
    replace HL := lid (HL.out.below hbW)
    replace hb := hb.trans (hbW.mono hb.size)
    have mW0 := hbW.size
    clear hbW
    (with_reducible refine (CV.out W0 hb).mono ?_); rintro e w3 ⟨_, rfl, ⟨aoT, nT, capT, rfl, hA⟩, hb1⟩
    clear CV
    replace HA := lid (HA.out.below hb1)
    replace HL := lid (HL.out.below hb1)
    replace BT := lid ((hb1.block _ (row_lt BT.out)).trans BT.out)
    replace BP := lid ((hb1.block _ (row_lt BP.out)).trans BP.out)
    replace BX := lid ((hb1.block _ (row_lt BX.out)).trans BX.out)
    replace hb := hb.trans (hb1.mono hb.size)
    have mw3 := hb1.size
    clear hb1
    have HT := lid hA
    clear hA
    go_wp2_with fail
    have lBTw3 := row_lt BT.out
    have lBPw3 := row_lt BP.out
    have lBXw3 := row_lt BX.out
    have bw3 : w.heap.size ≤ w3.heap.size := hb.size
    obtain ⟨W3, hW⟩ : ∃ y, w3.alloc (.cells (tcells T aoT nT capT) 24) = y := ⟨_, rfl⟩
    rw [hW]
    have hbW : Below w3.heap.size w3 W3 := by rw [← hW]; exact ((Below.refl w3.heap.size w3).alloc (Nat.le_refl _) _)
    have gW3 : w3.heap.size + 0 < W3.heap.size := by rw [← hW]; simp only [World.size_alloc]; omega
    have BT1 : Hid (W3.heap[w3.heap.size]? = some (.cells (tcells T aoT nT capT) 24 (0, 0))) := lid (by
      rw [← hW]
      have := heap_alloc_new w3 (.cells (tcells T aoT nT capT) 24)
      exact this)
    clear hW
    replace HA := lid (HA.out.below hbW)
    replace HL := lid (HL.out.below hbW)
    replace BT := lid ((hbW.block _ (row_lt BT.out)).trans BT.out)
    replace BP := lid ((hbW.block _ (row_lt BP.out)).trans BP.out)
    replace BX := lid ((hbW.block _ (row_lt BX.out)).trans BX.out)
    replace HT := lid (HT.out.below hbW)
    replace hb := hb.trans (hbW.mono hb.size)
    have mW3 := hbW.size
    clear hbW
    have hnl : nl = 0 ∨ ∀ a, (some ⟨b1, o1, none⟩ : Option Addr) = some a → a.block < W3.heap.size ∧ a.block ≠ w.heap.size + 1 ∧ a.block ≠ w.heap.size + 1 + 1 := by
      have hg5 := hb.size
      exact hnl0.imp id fun h a e => by have := h a e; omega
    have hnT : nT = 0 ∨ ∀ a, aoT = some a → a.block < W3.heap.size ∧ a.block ≠ w.heap.size + 1 ∧ a.block ≠ w.heap.size + 1 + 1 := HT.out.hi.imp id fun h a e => by have := h a e; have := HT.out.lo a e; omega
    have HP := BP
    have lk1 := row_lt BT1.out
    have lk2 := row_lt BX.out
    have v0 := SinceY.cell (B := W3.heap.size) (X := w.heap.size + 1) lk1 (by omega) (by omega) (row_cell BT1.out 0)
    have v1 := SinceY.cell (B := W3.heap.size) (X := w.heap.size + 1) lk1 (by omega) (by omega) (row_cell BT1.out 1)
    have v2 := SinceY.cell (B := W3.heap.size) (X := w.heap.size + 1) lk1 (by omega) (by omega) (row_cell BT1.out 2)
    have u0 := SinceY.cell (B := W3.heap.size) (X := w.heap.size + 1) lk2 (by omega) (by omega) (row_cell BX.out 0)
    have u1 := SinceY.cell (B := W3.heap.size) (X := w.heap.size + 1) lk2 (by omega) (by omega) (row_cell BX.out 1)
    have u2 := SinceY.cell (B := W3.heap.size) (X := w.heap.size + 1) lk2 (by omega) (by omega) (row_cell BX.out 2)
    have u3 := SinceY.cell (B := W3.heap.size) (X := w.heap.size + 1) lk2 (by omega) (by omega) (row_cell BX.out 3)
    have u4 := SinceY.cell (B := W3.heap.size) (X := w.heap.size + 1) lk2 (by omega) (by omega) (row_cell BX.out 4)
    refine wp_region_mix (fun w' => ∃ s : SinceY W3.heap.size (w.heap.size + 1) W3, w' = s.world) [(0, true), (1, true), (2, true), (4, true)] [(5, []), (3, []), (6, [5])] [(7, false), (8, false)] (by kernel_rfl) (by kernel_rfl) (by intro c d v a w h; cases d <;> exact h) (sincey (KeptY.refl _ _ _).drew) ?_
    repeat (first | (refine seq_skip (by rfl) (by rfl) ?_; simp only [Act.put, List.setIfInBounds_toArray, List.set_cons_succ, List.set_cons_zero]) | (refine seq_float (by rfl) (by rfl) (by rfl) ?_; intro K hK; go_big_quiet_op; go_big_quiet_on))
    refine seq_nil (mix_go [124, 126, 128, 129, 113, 7] [undef, undef, undef, undef, undef, .slice none 0 0] (fun s => RF (.slice (some ⟨b1, o1, none⟩) nl cl) l x x (tcells T aoT nT capT) nl W3.heap.size (w.heap.size + 1) W3 false false false false (s 5) (s 3) (s 6)) rfl (by simp only [putAll, Act.put, List.setIfInBounds_toArray, List.set_cons_succ, List.set_cons_zero]) (fun s h => RF.start ((RD.start (Nat.le_refl _) HP.out).to rfl rfl rfl rfl (h (5, []) (by simp)) (h (3, []) (by simp))) (h (6, [5]) (by simp))) ⟨?_, ?_, ?_, trivial⟩ ?_)
    · intro s vs wv _ S0 SD _ hR
      replace hR : RF (.slice (some ⟨b1, o1, none⟩) nl cl) l x x (tcells T aoT nT capT) nl W3.heap.size (w.heap.size + 1) W3 false false false false (s 5) (s 3) (s 6) vs wv := hR
      obtain ⟨x0, x1, x2, x3, x4, x5, rfl, hR, hz⟩ := hR
      have g0 : s 5 = false := S0
      have hR' := lid hR
      have hlo := hR.lo
      have hlx : w.heap.size + 1 + 1 < W3.heap.size := row_lt HP.out
      simp only [putAll, Act.put, List.setIfInBounds_toArray, List.set_cons_succ, List.set_cons_zero]
      rw [g0] at hR
      have hres := hR.res
      rw [if_neg (by simp)] at hres
      have p0 := row_cell hres 0
      have p1 := row_cell hres 1
      have p2 := row_cell hres 2
      have z0 := row_fz hres 0
      have z1 := row_fz hres 1
      have z2 := row_fz hres 2
      obtain ⟨w', hw'⟩ : ∃ y, put3 (w.heap.size + 1 + 1) T aoT nT capT wv = y := ⟨_, rfl⟩
      have HN := lid (hR.setS (w' := put3 (w.heap.size + 1 + 1) T aoT nT capT wv) (by omega) (put3_below (Below.refl _ _) (by omega)) (fun k hk => put3_other rfl hk) put3_size (put3_row hres) (fun v m xs h => put3_own h (by omega)))
      rw [hw'] at HN
      unfold put3 at hw'
      have HW := lid hw'
      clear hw' hres
      refine mix_op (by rfl) ?_
      intro K hK
      go_wp2_with fail
      rw [HW.out]
      exact hK.out _ _ ⟨sincey HN.out.kept, [x0, x1, x2, x3, x4, x5], rfl, by simp only [putAll, Act.put, List.setIfInBounds_toArray, List.set_cons_succ, List.set_cons_zero], ⟨_, _, _, _, _, _, rfl, HN.out.to (by simp [upd]) (by simp [upd]) (by simp [upd]) (by simp [upd]) (by simp [upd]) (by simp [upd]), fun h => hz (by simpa [upd] using h)⟩⟩
    · intro s vs wv _ S0 SD _ hR
      replace hR : RF (.slice (some ⟨b1, o1, none⟩) nl cl) l x x (tcells T aoT nT capT) nl W3.heap.size (w.heap.size + 1) W3 false false false false (s 5) (s 3) (s 6) vs wv := hR
      obtain ⟨x0, x1, x2, x3, x4, x5, rfl, hR, hz⟩ := hR
      have g0 : s 3 = false := S0
      have hR' := lid hR
      have hlo := hR.lo
      have hlx : w.heap.size + 1 + 1 < W3.heap.size := row_lt HP.out
      simp only [putAll, Act.put, List.setIfInBounds_toArray, List.set_cons_succ, List.set_cons_zero]
      have HN := lid ((hR.next (ba wv (.cells (lzc x) 31))).setG hlo (heap_alloc_new wv _) (fun ha hb e => by have := own_lt (hR.row1 ha hb) e; omega))
      refine mix_op (by rfl) ?_
      intro K hK
      go_wp2_with fail
      exact hK.out _ _ ⟨sincey (hR'.out.kept.below ((ba _ _).mono hlo)), [x0, x1, x2, x3, .slice (some ⟨wv.heap.size, 0, none⟩) 1 1, x5], rfl, by simp only [putAll, Act.put, List.setIfInBounds_toArray, List.set_cons_succ, List.set_cons_zero], ⟨_, _, _, _, _, _, rfl, HN.out.to (by simp [upd]) (by simp [upd]) (by simp [upd]) (by simp [upd]) (by simp [upd]) (by simp [upd]), fun h => hz (by simpa [upd] using h)⟩⟩
    · intro s vs wv _ S0 SD _ hR
      replace hR : RF (.slice (some ⟨b1, o1, none⟩) nl cl) l x x (tcells T aoT nT capT) nl W3.heap.size (w.heap.size + 1) W3 false false false false (s 5) (s 3) (s 6) vs wv := hR
      obtain ⟨x0, x1, x2, x3, x4, x5, rfl, hR, hz⟩ := hR
      have g0 : s 6 = false := S0
      have hR' := lid hR
      have hlo := hR.lo
      have hlx : w.heap.size + 1 + 1 < W3.heap.size := row_lt HP.out
      simp only [putAll, Act.put, List.setIfInBounds_toArray, List.set_cons_succ, List.set_cons_zero]
      refine mix_op (by rfl) ?_
      intro K hK
      go_wp2_with fail
      exact hK.out _ _ ⟨sincey hR'.out.kept, [x0, x1, x2, x3, x4, (.slice (some ⟨b1, o1, none⟩) nl cl)], rfl, by simp only [putAll, Act.put, List.setIfInBounds_toArray, List.set_cons_succ, List.set_cons_zero], ⟨_, _, _, _, _, _, rfl, hR'.out.to (by simp [upd]) (by simp [upd]) (by simp [upd]) (by simp [upd]) (by simp [upd]) (by simp [upd]), fun _ => rfl⟩⟩
    intro s vs w6 _ hall _ hR
    replace hR : RF (.slice (some ⟨b1, o1, none⟩) nl cl) l x x (tcells T aoT nT capT) nl W3.heap.size (w.heap.size + 1) W3 false false false false (s 5) (s 3) (s 6) vs w6 := hR
    obtain ⟨x0, x1, x2, x3, x4, x5, rfl, hR, hz⟩ := hR
    obtain rfl := hz (hall (6, [5]) (by simp))
    clear hz
    have t5 : s 5 = true := hall (5, []) (by simp)
    have t3 : s 3 = true := hall (3, []) (by simp)
    rw [t5, t3] at hR
    have hres := hR.res
    rw [if_pos rfl] at hres
    have hk6 := hR.kept
    have hb6 := hR.bel
    have hlo6 := hR.lo
    have HM := lid (HL.out.keptY hk6 hlo6 hnl)
    obtain ⟨kg, rfl, hkg, hrg⟩ := hR.allG
    clear t5 t3 hall hR
    have HT6 := lid (HT.out.keptY hk6 hlo6 hnT)
    simp only [putAll, Act.put, List.setIfInBounds_toArray, List.set_cons_succ, List.set_cons_zero]
    have c0 := row_cell hres 0
    have c1 := row_cell hres 1
    have c2 := row_cell hres 2
    clear hres
    refine seq_chain (by rfl) ?_
    intro K hK
    go_wp2_with fail
    refine hK.out _ _ (sincey hk6) ?_
    clear hK K
    repeat (first | (refine seq_skip (by rfl) (by rfl) ?_; simp only [Act.put, List.setIfInBounds_toArray, List.set_cons_succ, List.set_cons_zero]) | (refine seq_float (by rfl) (by rfl) (by rfl) ?_; intro K hK; go_big_quiet_op; go_big_quiet_on))
    refine seq_chain (by rfl) ?_
    intro K hK
    go_wp2_with fail
    refine hK.out _ _ (sincey hk6) ?_
    clear hK K
    repeat (first | (refine seq_skip (by rfl) (by rfl) ?_; simp only [Act.put, List.setIfInBounds_toArray, List.set_cons_succ, List.set_cons_zero]) | (refine seq_float (by rfl) (by rfl) (by rfl) ?_; intro K hK; go_big_quiet_op; go_big_quiet_on))
    refine seq_nil ?_
    go_wp2_with fail
    exact bodyPost_ret (res_do Try.results26 _ _ (w.heap.size + 1 + 1) _ _ _ _ _ _ rfl rfl rfl rfl c0 c1 c2) rfl ⟨T, l, [x], E, aoT, nT, capT, (some ⟨b1, o1, none⟩), nl, cl, (some ⟨kg, 0, none⟩), 1, 1, rfl, HST.out, HT6.out.zero, HM.out.zero, ⟨rfl, sl_one5 (us := lzc x) hrg rfl, Nat.le_refl _, (fun h => by cases h), by simp [maxLen], fun _ _ => Nat.zero_le _⟩, fun Y hY _ h2 => ⟨.inr (HT6.out.na (by omega)), h2⟩, hb.trans (hb6.mono (by omega))⟩
  have k1 : d0 % 4 = 1 := by omega
  have e0 : (d0 : Int) % 4 = 1 := by omega
  have CV := lid (fun w' (hb' : Below w.heap.size w w') => renew_any t ao n cap x m w' (HA.out.below hb').A HA.out.le HA.out.z (hs x HxM.out))
  obtain ⟨T, hT⟩ : ∃ y, renewL t x m = y := ⟨_, rfl⟩
  obtain ⟨X, hX⟩ : ∃ y, renewX t x m = y := ⟨_, rfl⟩
  obtain ⟨E, hE⟩ : ∃ y, renewE t x m = y := ⟨_, rfl⟩
  have HST : Hid (Step t l T (l ++ [X]) [x] E) := lid (.inr (.inr (.inr ⟨x, HxM.out, m, hT.symm, by rw [hX], rfl, hE.symm⟩)))
  rw [hT, hX, hE] at CV
  clear hT hX hE
  have hbc : Below w.heap.size w (((w.alloc (.cells #[.int .i64 t.clock, .int .i64 t.epoch, .slice ao n cap] 24)).alloc (.cells #[.int .u8 d0, .int .u8 d1, .int .u8 d2, .int .u8 d3, .int .u8 d4] 51)).alloc (.cells #[.int .i64 0, .int .i64 0, .slice none 0 0] 24)) := (((Below.refl _ _).alloc (Nat.le_refl _) _).alloc (by simp) _).alloc (by simp; omega) _
  replace x0 := (bc hbc hlb _).trans x0
  replace x1 := (bc hbc hlb _).trans x1
  replace x2 := (bc hbc hlb _).trans x2
  replace x3 := (bc hbc hlb _).trans x3
  replace x4 := (bc hbc hlb _).trans x4
  clear hbc
  go_enter Try.func26, Try.ntmps26
  go_wp2_with fail
  clear x0 x1 x2 x3 x4
  have bw : w.heap.size ≤ w.heap.size := hb.size
  obtain ⟨W0, hW⟩ : ∃ y, (((w.alloc (.cells (tcells t ao n cap) 24)).alloc (.cells #[.int .u8 d0, .int .u8 d1, .int .u8 d2, .int .u8 d3, .int .u8 d4] 51)).alloc (.cells tz 24)).alloc (.cells (lzc x) 31) = y := ⟨_, rfl⟩
  rw [hW]
  have hbW : Below w.heap.size w W0 := by rw [← hW]; exact (((((Below.refl w.heap.size w).alloc (Nat.le_refl _) _).alloc (by simp only [World.size_alloc]; omega) _).alloc (by simp only [World.size_alloc]; omega) _).alloc (by simp only [World.size_alloc]; omega) _)
  have gW0 : w.heap.size + 3 < W0.heap.size := by rw [← hW]; simp only [World.size_alloc]; omega
  have BT : Hid (W0.heap[w.heap.size]? = some (.cells (tcells t ao n cap) 24 (0, 0))) := lid (by
    rw [← hW]
    iterate 3 rw [Below.heap_alloc _ _ _ (by simp only [World.size_alloc]; omega)]
    have := heap_alloc_new w (.cells (tcells t ao n cap) 24)
    exact this)
  have BD : Hid (W0.heap[w.heap.size + 1]? = some (.cells #[.int .u8 d0, .int .u8 d1, .int .u8 d2, .int .u8 d3, .int .u8 d4] 51 (0, 0))) := lid (by
    rw [← hW]
    iterate 2 rw [Below.heap_alloc _ _ _ (by simp only [World.size_alloc]; omega)]
    have := heap_alloc_new (w.alloc (.cells (tcells t ao n cap) 24)) (.cells #[.int .u8 d0, .int .u8 d1, .int .u8 d2, .int .u8 d3, .int .u8 d4] 51)
    simp only [World.size_alloc] at this
    exact this)
  have BP : Hid (W0.heap[w.heap.size + 1 + 1]? = some (.cells tz 24 (0, 0))) := lid (by
    rw [← hW]
    iterate 1 rw [Below.heap_alloc _ _ _ (by simp only [World.size_alloc]; omega)]
    have := heap_alloc_new ((w.alloc (.cells (tcells t ao n cap) 24)).alloc (.cells #[.int .u8 d0, .int .u8 d1, .int .u8 d2, .int .u8 d3, .int .u8 d4] 51)) (.cells tz 24)
    simp only [World.size_alloc] at this
    exact this)
  have BX : Hid (W0.heap[w.heap.size + 1 + 1 + 1]? = some (.cells (lzc x) 31 (0, 0))) := lid (by
    rw [← hW]
    have := heap_alloc_new (((w.alloc (.cells (tcells t ao n cap) 24)).alloc (.cells #[.int .u8 d0, .int .u8 d1, .int .u8 d2, .int .u8 d3, .int .u8 d4] 51)).alloc (.cells tz 24)) (.cells (lzc x) 31)
    simp only [World.size_alloc] at this
    exact this)
  clear hW
  replace HA := lid (HA.out.below hbW)
  replace HL := lid (HL.out.below hbW)
  replace hb := hb.trans (hbW.mono hb.size)
  have mW0 := hbW.size
  clear hbW
  (with_reducible refine (CV.out W0 hb).mono ?_); rintro e w3 ⟨_, rfl, ⟨aoT, nT, capT, rfl, hA⟩, hb1⟩
  clear CV
  replace HA := lid (HA.out.below hb1)
  replace HL := lid (HL.out.below hb1)
  replace BT := lid ((hb1.block _ (row_lt BT.out)).trans BT.out)
  replace BP := lid ((hb1.block _ (row_lt BP.out)).trans BP.out)
  replace BX := lid ((hb1.block _ (row_lt BX.out)).trans BX.out)
  replace hb := hb.trans (hb1.mono hb.size)
  have mw3 := hb1.size
  clear hb1
  have HT := lid hA
  clear hA
  go_wp2_with fail
  have lBTw3 := row_lt BT.out
  have lBPw3 := row_lt BP.out
  have lBXw3 := row_lt BX.out
  have bw3 : w.heap.size ≤ w3.heap.size := hb.size
  obtain ⟨W3, hW⟩ : ∃ y, (w3.alloc (.cells (tcells T aoT nT capT) 24)).alloc (.cells (lzc X) 31) = y := ⟨_, rfl⟩
  rw [hW]
  have hbW : Below w3.heap.size w3 W3 := by rw [← hW]; exact (((Below.refl w3.heap.size w3).alloc (Nat.le_refl _) _).alloc (by simp only [World.size_alloc]; omega) _)
  have gW3 : w3.heap.size + 1 < W3.heap.size := by rw [← hW]; simp only [World.size_alloc]; omega
  have BT1 : Hid (W3.heap[w3.heap.size]? = some (.cells (tcells T aoT nT capT) 24 (0, 0))) := lid (by
    rw [← hW]
    iterate 1 rw [Below.heap_alloc _ _ _ (by simp only [World.size_alloc]; omega)]
    have := heap_alloc_new w3 (.cells (tcells T aoT nT capT) 24)
    exact this)
  have BX1 : Hid (W3.heap[w3.heap.size + 1]? = some (.cells (lzc X) 31 (0, 0))) := lid (by
    rw [← hW]
    have := heap_alloc_new (w3.alloc (.cells (tcells T aoT nT capT) 24)) (.cells (lzc X) 31)
    simp only [World.size_alloc] at this
    exact this)
  clear hW
  replace HA := lid (HA.out.below hbW)
  replace HL := lid (HL.out.below hbW)
  replace BT := lid ((hbW.block _ (row_lt BT.out)).trans BT.out)
  replace BP := lid ((hbW.block _ (row_lt BP.out)).trans BP.out)
  replace BX := lid ((hbW.block _ (row_lt BX.out)).trans BX.out)
  replace HT := lid (HT.out.below hbW)
  replace hb := hb.trans (hbW.mono hb.size)
  have mW3 := hbW.size
  clear hbW
  have hnl : nl = 0 ∨ ∀ a, (some ⟨b1, o1, none⟩ : Option Addr) = some a → a.block < W3.heap.size ∧ a.block ≠ w.heap.size + 1 ∧ a.block ≠ w.heap.size + 1 + 1 := by
    have hg5 := hb.size
    exact hnl0.imp id fun h a e => by have := h a e; omega
  have hnT : nT = 0 ∨ ∀ a, aoT = some a → a.block < W3.heap.size ∧ a.block ≠ w.heap.size + 1 ∧ a.block ≠ w.heap.size + 1 + 1 := HT.out.hi.imp id fun h a e => by have := h a e; have := HT.out.lo a e; omega
  have HP := BP
  have lk1 := row_lt BT1.out
  have lk2 := row_lt BX.out
  have lk3 := row_lt BX1.out
  have v0 := SinceY.cell (B := W3.heap.size) (X := w.heap.size + 1) lk1 (by omega) (by omega) (row_cell BT1.out 0)
  have v1 := SinceY.cell (B := W3.heap.size) (X := w.heap.size + 1) lk1 (by omega) (by omega) (row_cell BT1.out 1)
  have v2 := SinceY.cell (B := W3.heap.size) (X := w.heap.size + 1) lk1 (by omega) (by omega) (row_cell BT1.out 2)
  have u0 := SinceY.cell (B := W3.heap.size) (X := w.heap.size + 1) lk2 (by omega) (by omega) (row_cell BX.out 0)
  have u1 := SinceY.cell (B := W3.heap.size) (X := w.heap.size + 1) lk2 (by omega) (by omega) (row_cell BX.out 1)
  have u2 := SinceY.cell (B := W3.heap.size) (X := w.heap.size + 1) lk2 (by omega) (by omega) (row_cell BX.out 2)
  have u3 := SinceY.cell (B := W3.heap.size) (X := w.heap.size + 1) lk2 (by omega) (by omega) (row_cell BX.out 3)
  have u4 := SinceY.cell (B := W3.heap.size) (X := w.heap.size + 1) lk2 (by omega) (by omega) (row_cell BX.out 4)
  have f0 := SinceY.cell (B := W3.heap.size) (X := w.heap.size + 1) lk3 (by omega) (by omega) (row_cell BX1.out 0)
  have f1 := SinceY.cell (B := W3.heap.size) (X := w.heap.size + 1) lk3 (by omega) (by omega) (row_cell BX1.out 1)
  have f2 := SinceY.cell (B := W3.heap.size) (X := w.heap.size + 1) lk3 (by omega) (by omega) (row_cell BX1.out 2)
  have f3 := SinceY.cell (B := W3.heap.size) (X := w.heap.size + 1) lk3 (by omega) (by omega) (row_cell BX1.out 3)
  have f4 := SinceY.cell (B := W3.heap.size) (X := w.heap.size + 1) lk3 (by omega) (by omega) (row_cell BX1.out 4)
  refine wp_region_mix (fun w' => ∃ s : SinceY W3.heap.size (w.heap.size + 1) W3, w' = s.world) [(0, true), (2, true), (4, true), (7, true), (9, true)] [(1, []), (3, [1]), (5, []), (6, [3, 5]), (10, [6]), (8, []), (11, [6, 10])] [(12, false), (13, false)] (by kernel_rfl) (by kernel_rfl) (by intro c d v a w h; cases d <;> exact h) (sincey (KeptY.refl _ _ _).drew) ?_
  repeat (first | (refine seq_skip (by rfl) (by rfl) ?_; simp only [Act.put, List.setIfInBounds_toArray, List.set_cons_succ, List.set_cons_zero]) | (refine seq_float (by rfl) (by rfl) (by rfl) ?_; intro K hK; go_big_quiet_op; go_big_quiet_on))
  refine seq_nil (mix_go [124, 126, 128, 129, 131, 7] [undef, undef, undef, undef, undef, .slice none 0 0] (fun s => RE l X x (tcells T aoT nT capT) nl W3.heap.size (w.heap.size + 1) W3 (s 1) (s 3) (s 5) (s 6) (s 10) (s 8) (s 11)) rfl (by simp only [putAll, Act.put, List.setIfInBounds_toArray, List.set_cons_succ, List.set_cons_zero]) (fun s h => RE.start ((RD.start (Nat.le_refl _) HP.out).to (h (1, []) (by simp)) (h (3, [1]) (by simp)) (h (5, []) (by simp)) (h (6, [3, 5]) (by simp)) (h (10, [6]) (by simp)) (h (8, []) (by simp))) (h (11, [6, 10]) (by simp))) ⟨?_, ?_, ?_, ?_, ?_, ?_, ?_, trivial⟩ ?_)
  · intro s vs wv _ S0 SD _ hR
    replace hR : RE l X x (tcells T aoT nT capT) nl W3.heap.size (w.heap.size + 1) W3 (s 1) (s 3) (s 5) (s 6) (s 10) (s 8) (s 11) vs wv := hR
    obtain ⟨x0, x1, x2, x3, x4, x5, rfl, hR, hz⟩ := hR
    have g0 : s 1 = false := S0
    have hR' := lid hR
    have hlo := hR.lo
    have hlx : w.heap.size + 1 + 1 < W3.heap.size := row_lt HP.out
    simp only [putAll, Act.put, List.setIfInBounds_toArray, List.set_cons_succ, List.set_cons_zero]
    refine mix_op (by rfl) ?_
    intro K hK
    go_wp2_with fail
    exact hK.out _ _ ⟨sincey (hR'.out.kept.below ((ba _ _).mono hlo)), [.slice (some ⟨wv.heap.size, 0, none⟩) 0 0, x1, x2, x3, x4, x5], rfl, by simp only [putAll, Act.put, List.setIfInBounds_toArray, List.set_cons_succ, List.set_cons_zero], ⟨_, _, _, _, _, _, rfl, ((hR'.out.next (ba _ _)).setE hlo (heap_alloc_new wv _)).to (by simp [upd]) (by simp [upd]) (by simp [upd]) (by simp [upd]) (by simp [upd]) (by simp [upd]), fun h => by have := hz (by simpa [upd] using h); simpa [upd] using this⟩⟩
  · intro s vs wv _ S0 SD _ hR
    replace hR : RE l X x (tcells T aoT nT capT) nl W3.heap.size (w.heap.size + 1) W3 (s 1) (s 3) (s 5) (s 6) (s 10) (s 8) (s 11) vs wv := hR
    obtain ⟨x0, x1, x2, x3, x4, x5, rfl, hR, hz⟩ := hR
    have g0 : s 3 = false := S0
    have hR' := lid hR
    have hlo := hR.lo
    have hlx : w.heap.size + 1 + 1 < W3.heap.size := row_lt HP.out
    simp only [putAll, Act.put, List.setIfInBounds_toArray, List.set_cons_succ, List.set_cons_zero]
    have g1 : s 1 = true := SD 1 (by simp)
    rw [g1, g0] at hR
    obtain ⟨k, rfl, hk, hr⟩ := hR.emp
    have HS := lid (HL.out.sl.keptY hR.kept hlo hnl)
    have hlo' := hlo
    refine mix_op (by rfl) ?_
    intro K hK
    go_wp2_with (at_builtin; go_must (refine wpList_append_slat rfl _ _ 22 rfl W3.heap.size 31 (.agg #[.int .u64 0, .int .u64 0, .string ⟨#[]⟩, .int .i64 0, .int .i64 0]) 5 48 info_lz Try.underlying22 rfl (by decide) _ 0 [] (own_empty5 hr hk) rfl (some ⟨b1, o1, none⟩) nl cl (lzcells l) rfl HS.out HL.out.z (lzcells_one l) (by simp only [maxLen]; omega) (by omega) hlo ?_))
    intro v' w' hown' hb' hg' hat'
    have HN := lid (hR.setA (by omega) hk hr (by simpa using hown') hb' hg' hat')
    have hkn := hR'.out.kept.below hb'
    clear hown' hb' hg' hat'
    go_wp2_with fail
    exact hK.out _ _ ⟨sincey hkn, [_, v', x2, x3, x4, x5], rfl, by simp only [putAll, Act.put, List.setIfInBounds_toArray, List.set_cons_succ, List.set_cons_zero], ⟨_, _, _, _, _, _, rfl, HN.out.to (by simp [upd, g1]) (by simp [upd, g1]) (by simp [upd, g1]) (by simp [upd, g1]) (by simp [upd, g1]) (by simp [upd, g1]), fun h => by have := hz (by simpa [upd] using h); simpa [upd] using this⟩⟩
  · intro s vs wv _ S0 SD _ hR
    replace hR : RE l X x (tcells T aoT nT capT) nl W3.heap.size (w.heap.size + 1) W3 (s 1) (s 3) (s 5) (s 6) (s 10) (s 8) (s 11) vs wv := hR
    obtain ⟨x0, x1, x2, x3, x4, x5, rfl, hR, hz⟩ := hR
    have g0 : s 5 = false := S0
    have hR' := lid hR
    have hlo := hR.lo
    have hlx : w.heap.size + 1 + 1 < W3.heap.size := row_lt HP.out
    simp only [putAll, Act.put, List.setIfInBounds_toArray, List.set_cons_succ, List.set_cons_zero]
    rw [g0] at hR
    have HR3 := lid (hR.next (ba wv (.cells (lzc X) 31)))
    refine mix_op (by rfl) ?_
    intro K hK
    go_wp2_with fail
    exact hK.out _ _ ⟨sincey (hR'.out.kept.below ((ba _ _).mono hlo)), [x0, x1, .slice (some ⟨wv.heap.size, 0, none⟩) 1 1, x3, x4, x5], rfl, by simp only [putAll, Act.put, List.setIfInBounds_toArray, List.set_cons_succ, List.set_cons_zero], ⟨_, _, _, _, _, _, rfl, (HR3.out.setL hlo (heap_alloc_new wv _)).to (by simp [upd]) (by simp [upd]) (by simp [upd]) (by simp [upd]) (by simp [upd]) (by simp [upd]), fun h => by have := hz (by simpa [upd] using h); simpa [upd] using this⟩⟩
  · intro s vs wv _ S0 SD _ hR
    replace hR : RE l X x (tcells T aoT nT capT) nl W3.heap.size (w.heap.size + 1) W3 (s 1) (s 3) (s 5) (s 6) (s 10) (s 8) (s 11) vs wv := hR
    obtain ⟨x0, x1, x2, x3, x4, x5, rfl, hR, hz⟩ := hR
    have g0 : s 6 = false := S0
    have hR' := lid hR
    have hlo := hR.lo
    have hlx : w.heap.size + 1 + 1 < W3.heap.size := row_lt HP.out
    simp only [putAll, Act.put, List.setIfInBounds_toArray, List.set_cons_succ, List.set_cons_zero]
    have g1 : s 3 = true := SD 3 (by simp)
    have g2 : s 5 = true := SD 5 (by simp)
    rw [g1, g2, g0] at hR
    obtain ⟨k, rfl, hk, hr⟩ := hR.lit
    have hrow := hR.row1 rfl rfl
    refine mix_op (by rfl) ?_
    intro K hK
    go_wp2_with (at_builtin; go_must (refine wpList_append_slat rfl _ _ 22 rfl W3.heap.size 31 (.agg #[.int .u64 0, .int .u64 0, .string ⟨#[]⟩, .int .i64 0, .int .i64 0]) 5 48 info_lz Try.underlying22 rfl (by decide) _ nl _ hrow rfl _ 1 1 (lzc X).toList rfl (sl_one5 hr rfl) (by intro h; cases h) (by simp [Value.oneCell']) (by simp only [maxLen]; omega) (by omega) hlo ?_))
    intro v' w' hown' hb' hg' _
    have HN := lid (hR.setB (by omega) (by rw [lzcells_snoc]; exact hown') hb' hg')
    have hkn := hR'.out.kept.below hb'
    clear hown' hb' hg' hrow
    go_wp2_with fail
    exact hK.out _ _ ⟨sincey hkn, [x0, x1, _, v', x4, x5], rfl, by simp only [putAll, Act.put, List.setIfInBounds_toArray, List.set_cons_succ, List.set_cons_zero], ⟨_, _, _, _, _, _, rfl, HN.out.to (by simp [upd, g1, g2]) (by simp [upd, g1, g2]) (by simp [upd, g1, g2]) (by simp [upd, g1, g2]) (by simp [upd, g1, g2]) (by simp [upd, g1, g2]), fun h => absurd (hz (by simpa [upd] using h)).1 (by rw [g0]; simp)⟩⟩
  · intro s vs wv _ S0 SD _ hR
    replace hR : RE l X x (tcells T aoT nT capT) nl W3.heap.size (w.heap.size + 1) W3 (s 1) (s 3) (s 5) (s 6) (s 10) (s 8) (s 11) vs wv := hR
    obtain ⟨x0, x1, x2, x3, x4, x5, rfl, hR, hz⟩ := hR
    have g0 : s 10 = false := S0
    have hR' := lid hR
    have hlo := hR.lo
    have hlx : w.heap.size + 1 + 1 < W3.heap.size := row_lt HP.out
    simp only [putAll, Act.put, List.setIfInBounds_toArray, List.set_cons_succ, List.set_cons_zero]
    rw [g0] at hR
    have hres := hR.res
    rw [if_neg (by simp)] at hres
    have p0 := row_cell hres 0
    have p1 := row_cell hres 1
    have p2 := row_cell hres 2
    have z0 := row_fz hres 0
    have z1 := row_fz hres 1
    have z2 := row_fz hres 2
    obtain ⟨w', hw'⟩ : ∃ y, put3 (w.heap.size + 1 + 1) T aoT nT capT wv = y := ⟨_, rfl⟩
    have HN := lid (hR.setS (w' := put3 (w.heap.size + 1 + 1) T aoT nT capT wv) (by omega) (put3_below (Below.refl _ _) (by omega)) (fun k hk => put3_other rfl hk) put3_size (put3_row hres) (fun v m xs h => put3_own h (by omega)))
    rw [hw'] at HN
    unfold put3 at hw'
    have HW := lid hw'
    clear hw' hres
    refine mix_op (by rfl) ?_
    intro K hK
    go_wp2_with fail
    rw [HW.out]
    exact hK.out _ _ ⟨sincey HN.out.kept, [x0, x1, x2, x3, x4, x5], rfl, by simp only [putAll, Act.put, List.setIfInBounds_toArray, List.set_cons_succ, List.set_cons_zero], ⟨_, _, _, _, _, _, rfl, HN.out.to (by simp [upd]) (by simp [upd]) (by simp [upd]) (by simp [upd]) (by simp [upd]) (by simp [upd]), fun h => by have := hz (by simpa [upd] using h); simpa [upd] using this⟩⟩
  · intro s vs wv _ S0 SD _ hR
    replace hR : RE l X x (tcells T aoT nT capT) nl W3.heap.size (w.heap.size + 1) W3 (s 1) (s 3) (s 5) (s 6) (s 10) (s 8) (s 11) vs wv := hR
    obtain ⟨x0, x1, x2, x3, x4, x5, rfl, hR, hz⟩ := hR
    have g0 : s 8 = false := S0
    have hR' := lid hR
    have hlo := hR.lo
    have hlx : w.heap.size + 1 + 1 < W3.heap.size := row_lt HP.out
    simp only [putAll, Act.put, List.setIfInBounds_toArray, List.set_cons_succ, List.set_cons_zero]
    have HN := lid ((hR.next (ba wv (.cells (lzc x) 31))).setG hlo (heap_alloc_new wv _) (fun ha hb e => by have := own_lt (hR.row1 ha hb) e; omega))
    refine mix_op (by rfl) ?_
    intro K hK
    go_wp2_with fail
    exact hK.out _ _ ⟨sincey (hR'.out.kept.below ((ba _ _).mono hlo)), [x0, x1, x2, x3, .slice (some ⟨wv.heap.size, 0, none⟩) 1 1, x5], rfl, by simp only [putAll, Act.put, List.setIfInBounds_toArray, List.set_cons_succ, List.set_cons_zero], ⟨_, _, _, _, _, _, rfl, HN.out.to (by simp [upd]) (by simp [upd]) (by simp [upd]) (by simp [upd]) (by simp [upd]) (by simp [upd]), fun h => by have := hz (by simpa [upd] using h); simpa [upd] using this⟩⟩
  · intro s vs wv _ S0 SD _ hR
    replace hR : RE l X x (tcells T aoT nT capT) nl W3.heap.size (w.heap.size + 1) W3 (s 1) (s 3) (s 5) (s 6) (s 10) (s 8) (s 11) vs wv := hR
    obtain ⟨x0, x1, x2, x3, x4, x5, rfl, hR, hz⟩ := hR
    have g0 : s 11 = false := S0
    have hR' := lid hR
    have hlo := hR.lo
    have hlx : w.heap.size + 1 + 1 < W3.heap.size := row_lt HP.out
    simp only [putAll, Act.put, List.setIfInBounds_toArray, List.set_cons_succ, List.set_cons_zero]
    have g1 : s 6 = true := SD 6 (by simp)
    refine mix_op (by rfl) ?_
    intro K hK
    go_wp2_with fail
    exact hK.out _ _ ⟨sincey hR'.out.kept, [x0, x1, x2, x3, x4, x3], rfl, by simp only [putAll, Act.put, List.setIfInBounds_toArray, List.set_cons_succ, List.set_cons_zero], ⟨_, _, _, _, _, _, rfl, hR'.out.to (by simp [upd]) (by simp [upd]) (by simp [upd]) (by simp [upd]) (by simp [upd]) (by simp [upd]), fun _ => ⟨by simpa [upd] using g1, rfl⟩⟩⟩
  intro s vs w6 _ hall _ hR
  replace hR : RE l X x (tcells T aoT nT capT) nl W3.heap.size (w.heap.size + 1) W3 (s 1) (s 3) (s 5) (s 6) (s 10) (s 8) (s 11) vs w6 := hR
  obtain ⟨x0, x1, x2, x3, x4, x5, rfl, hR, hz⟩ := hR
  obtain rfl := (hz (hall (11, [6, 10]) (by simp))).2
  clear hz
  have t1 : s 1 = true := hall (1, []) (by simp)
  have t3 : s 3 = true := hall (3, [1]) (by simp)
  have t5 : s 5 = true := hall (5, []) (by simp)
  have t6 : s 6 = true := hall (6, [3, 5]) (by simp)
  have t10 : s 10 = true := hall (10, [6]) (by simp)
  have t8 : s 8 = true := hall (8, []) (by simp)
  rw [t1, t3, t5, t6, t10, t8] at hR
  have hres := hR.res
  rw [if_pos rfl] at hres
  have hk6 := hR.kept
  have hb6 := hR.bel
  have hlo6 := hR.lo
  have hrow := hR.allB
  obtain ⟨aM, nM, cM, rfl, hM⟩ := LzV.own (G := l ++ [X]) hrow (Nat.le_refl _) (by simp [HL.out.len]) (by simp only [maxLen]; omega)
  have HM := lid hM
  clear hrow hM
  obtain ⟨kg, rfl, hkg, hrg⟩ := hR.allG
  clear t1 t3 t5 t6 t10 t8 hall hR
  have HT6 := lid (HT.out.keptY hk6 hlo6 hnT)
  simp only [putAll, Act.put, List.setIfInBounds_toArray, List.set_cons_succ, List.set_cons_zero]
  have c0 := row_cell hres 0
  have c1 := row_cell hres 1
  have c2 := row_cell hres 2
  clear hres
  refine seq_chain (by rfl) ?_
  intro K hK
  go_wp2_with fail
  refine hK.out _ _ (sincey hk6) ?_
  clear hK K
  repeat (first | (refine seq_skip (by rfl) (by rfl) ?_; simp only [Act.put, List.setIfInBounds_toArray, List.set_cons_succ, List.set_cons_zero]) | (refine seq_float (by rfl) (by rfl) (by rfl) ?_; intro K hK; go_big_quiet_op; go_big_quiet_on))
  refine seq_chain (by rfl) ?_
  intro K hK
  go_wp2_with fail
  refine hK.out _ _ (sincey hk6) ?_
  clear hK K
  repeat (first | (refine seq_skip (by rfl) (by rfl) ?_; simp only [Act.put, List.setIfInBounds_toArray, List.set_cons_succ, List.set_cons_zero]) | (refine seq_float (by rfl) (by rfl) (by rfl) ?_; intro K hK; go_big_quiet_op; go_big_quiet_on))
  refine seq_nil ?_
  go_wp2_with fail
  exact bodyPost_ret (res_do Try.results26 _ _ (w.heap.size + 1 + 1) _ _ _ _ _ _ rfl rfl rfl rfl c0 c1 c2) rfl ⟨T, l ++ [X], [x], E, aoT, nT, capT, aM, nM, cM, (some ⟨kg, 0, none⟩), 1, 1, rfl, HST.out, HT6.out.zero, HM.out.zero, ⟨rfl, sl_one5 (us := lzc x) hrg rfl, Nat.le_refl _, (fun h => by cases h), by simp [maxLen], fun _ _ => Nat.zero_le _⟩, fun Y hY _ _ => ⟨.inr (HT6.out.na (by omega)), .inr (HM.out.na (by omega))⟩, hb.trans (hb6.mono (by omega))⟩
end Go.Proofs.Ytghkldodceamcaa

namespace Go.Proofs.Ytghkldodceamcaa
open Go.RowKit

/-- What holds after any deeds. -/
structure RI (t : Ls) (all dead : List Lz) : Prop where
  v : VL t
  inc : all.Pairwise incL
  top : ∀ x ∈ all, x.2.2.2 ≤ t.epoch
  sz : ∀ x ∈ all, x.2.1.size ≤ 3
  dead : ∀ x ∈ dead, x ∉ t.l ∧ x.2.2.2 ≤ t.epoch
theorem RI.start : RI ls0 [] [] := by
  refine ⟨?_, List.Pairwise.nil, (by simp), (by simp), (by simp)⟩
  refine ⟨?_, ?_, ?_, ?_, ?_, ?_, ?_, ?_⟩ <;> simp [ls0]
theorem VL.ep {t : Ls} (h : VL t) {x : Lz} (hx : x ∈ t.l) : x.2.2.2 ≤ t.epoch := (bad_iff.1 (h.ok x hx).2).2.2.2
theorem inc_more {t : Ls} {all : List Lz} {x : Lz} (h : all.Pairwise incL) (ht : ∀ y ∈ all, y.2.2.2 ≤ t.epoch) (hx : x.2.2.2 = t.epoch + 1) : (all ++ [x]).Pairwise incL := by
  rw [List.pairwise_append]
  refine ⟨h, List.pairwise_singleton _ _, fun a ha b hb => ?_⟩
  rw [List.mem_singleton.1 hb]
  have := ht a ha
  unfold incL
  omega
theorem top_more {t : Ls} {all : List Lz} {x : Lz} (ht : ∀ y ∈ all, y.2.2.2 ≤ t.epoch) (hx : x.2.2.2 = t.epoch + 1) : ∀ y ∈ all ++ [x], y.2.2.2 ≤ t.epoch + 1 := by
  intro y hy
  rcases List.mem_append.1 hy with hy | hy
  · have := ht y hy; omega
  · rw [List.mem_singleton.1 hy]; omega
theorem sz_more {all : List Lz} {x : Lz} (ht : ∀ y ∈ all, y.2.1.size ≤ 3) (hx : x.2.1.size ≤ 3) : ∀ y ∈ all ++ [x], y.2.1.size ≤ 3 := by
  intro y hy
  rcases List.mem_append.1 hy with hy | hy
  · exact ht y hy
  · rw [List.mem_singleton.1 hy]; exact hx
theorem RI.step {t T : Ls} {all dead M G : List Lz} (h : RI t all dead) (hs : Step t all T M G 0) : RI T M (dead ++ G) ∧ M.length ≤ all.length + 1 ∧ G.length ≤ 256 := by
  rcases hs with ⟨job, wk, m, hw, rfl, rfl, rfl, hE⟩ | ⟨c, rfl, rfl, rfl, hE⟩ | ⟨x, hx, rfl, rfl, rfl, hE⟩ | ⟨x, hx, m, rfl, rfl, rfl, hE⟩
  · have hg := grant_good hE.symm
    have hk := grant_keeps hE.symm
    rw [hg.1, hg.2.1]
    refine ⟨⟨hk, inc_more h.inc h.top rfl, top_more h.top rfl, sz_more h.sz hw, fun y hy => ?_⟩, by simp, by simp⟩
    rw [List.append_nil] at hy
    obtain ⟨h1, h2⟩ := h.dead y hy
    refine ⟨fun hm => ?_, by show y.2.2.2 ≤ t.epoch + 1; omega⟩
    rcases List.mem_append.1 hm with hm | hm
    · exact h1 hm
    · rw [List.mem_singleton.1 hm] at h2
      simp only at h2
      omega
  · have hg := advL_ok hE.symm
    have hk := adv_keeps hE.symm
    rw [hg.1, hg.2]
    refine ⟨⟨hk, h.inc, h.top, h.sz, fun y hy => ?_⟩, by omega, ?_⟩
    · rcases List.mem_append.1 hy with hy | hy
      · exact ⟨fun hm => (h.dead y hy).1 (keep_mem.1 hm).1, (h.dead y hy).2⟩
      · have hy2 := gone_mem.1 hy
        exact ⟨fun hm => by have := (keep_mem.1 hm).2; omega, h.v.ep hy2.1⟩
    · have h1 := keep_gone t.l c
      have h2 := h.v.len
      omega
  · have hg := rel_good hE.symm
    have hk := release_ok hE.symm
    rw [hg.1]
    refine ⟨⟨release_keeps h.v, h.inc, h.top, h.sz, fun y hy => ?_⟩, by omega, by simp⟩
    rcases List.mem_append.1 hy with hy | hy
    · exact ⟨fun hm => (h.dead y hy).1 (less_mem.1 hm).1, (h.dead y hy).2⟩
    · rw [List.mem_singleton.1 hy]
      exact ⟨fun hm => (less_mem.1 hm).2 rfl, h.v.ep hk.2⟩
  · have hg := renew_good hE.symm
    have hk := renew_ok hE.symm
    rw [hg.1, hg.2.1]
    refine ⟨⟨renew_keeps hE.symm, inc_more h.inc h.top rfl, top_more h.top rfl, sz_more h.sz (h.sz x hx), fun y hy => ?_⟩, by simp, by simp⟩
    have hyt : y.2.2.2 ≤ t.epoch ∧ y ∉ lessL t.l x := by
      rcases List.mem_append.1 hy with hy | hy
      · exact ⟨(h.dead y hy).2, fun hm => (h.dead y hy).1 (less_mem.1 hm).1⟩
      · rw [List.mem_singleton.1 hy]
        exact ⟨h.v.ep hk.2.1, fun hm => (less_mem.1 hm).2 rfl⟩
    refine ⟨fun hm => ?_, by show y.2.2.2 ≤ t.epoch + 1; omega⟩
    rcases List.mem_append.1 hm with hm | hm
    · exact hyt.2 hm
    · have h2 := hyt.1
      rw [List.mem_singleton.1 hm] at h2
      simp only at h2
      omega
theorem Step.bad {t T : Ls} {all M G : List Lz} {E : Int} (hs : Step t all T M G E) (hE : E ≠ 0) : T = ls0 := by
  rcases hs with ⟨job, wk, m, hw, rfl, rfl, rfl, h⟩ | ⟨c, rfl, rfl, rfl, h⟩ | ⟨x, hx, rfl, rfl, rfl, h⟩ | ⟨x, hx, m, rfl, rfl, rfl, h⟩
  · exact (grant_bad h.symm hE).1
  · exact (adv_bad h.symm hE).1
  · exact rel_bad h.symm hE
  · exact (renew_bad h.symm hE).1
theorem RI.gone {t : Ls} {all dead : List Lz} (h : RI t all dead) {x : Lz} (hx : x ∈ dead) : holdsB t x = false := by
  rw [← Bool.not_eq_true, holds_iff]
  exact fun hm => (h.dead x hx).1 hm.2
theorem RI.two {t : Ls} {all dead : List Lz} (h : RI t all dead) {j k : Nat} (hk : k < all.length) (hj : j < k) : (all[j]'(by omega)).2.2.2 < all[k].2.2.2 := (List.pairwise_iff_getElem.1 h.inc) j k (by omega) hk hj
theorem RI.one {t : Ls} {all dead : List Lz} (h : RI t all dead) {x y : Lz} (hx : holdsB t x = true) (hy : holdsB t y = true) (hne : y.2.2.2 < x.2.2.2) : ¬ (x.1 = y.1 ∧ x.2.1 = y.2.1) := by
  intro e
  have := h.v.one (holds_iff.1 hx).2 (holds_iff.1 hy).2 e
  rw [this] at hne
  omega
theorem same_zero {T : Ls} {aT : Option Addr} {nT cT : Nat} {w : World} (h : T = ls0) (hA : LsA w aT nT T) :
    Calls Try.prog 16 #[.agg (tcells T aT nT cT), .agg tz] w fun e w' => e = .returned (.bool true) ∧ Below w.heap.size w w' := by
  subst h
  exact same_self ls0 aT none nT cT 0 0 w hA ⟨rfl, Sl.nil, by simp [maxLen], by intro x hx; cases hx⟩ (by simp [ls0])
theorem LsB.grown {w w' : World} {b n cap : Nat} {ao : Option Addr} {T : Ls} {row : Option Nat} (h : LsB w b ao n cap T) (hg : w.grownBy w' row) (hs : w.heap.size ≤ w'.heap.size) (hn : n = 0 ∨ ∀ X, row = some X → NA X ao) : LsB w' b ao n cap T := by
  refine ⟨⟨h.A.len, ⟨h.A.sl.1, ?_⟩, h.A.max, h.A.sz⟩, h.le, h.z, h.lo⟩
  rcases hn with h0 | hn
  · exact .inl h0
  · refine h.A.sl.2.imp id ?_
    rintro ⟨c, o, e, hlt, hc⟩
    refine ⟨c, o, e, Nat.lt_of_lt_of_le hlt hs, fun j u hu => ?_⟩
    rw [← hc j u hu]
    exact World.cell?_of_block (w := w) (a := ⟨c, o + j, none⟩) (hg.block c hlt (fun e2 => hn c e2.symm _ e rfl))
theorem LzB.grown {w w' : World} {b n cap : Nat} {ao : Option Addr} {T : List Lz} {row : Option Nat} (h : LzB w b ao n cap T) (hg : w.grownBy w' row) (hs : w.heap.size ≤ w'.heap.size) (hn : n = 0 ∨ ∀ X, row = some X → NA X ao) : LzB w' b ao n cap T := by
  refine ⟨h.len, ⟨h.sl.1, ?_⟩, h.le, h.z, h.max, h.lo⟩
  rcases hn with h0 | hn
  · exact .inl h0
  · refine h.sl.2.imp id ?_
    rintro ⟨c, o, e, hlt, hc⟩
    refine ⟨c, o, e, Nat.lt_of_lt_of_le hlt hs, fun j u hu => ?_⟩
    rw [← hc j u hu]
    exact World.cell?_of_block (w := w) (a := ⟨c, o + j, none⟩) (hg.block c hlt (fun e2 => hn c e2.symm _ e rfl))
theorem own_put {w : World} {base b j : Nat} {e : TypeId} {size : Nat} {v u : Value} {n : Nat} {xs : List Value} (h : w.ownsRow base e size v n xs) (hb : ∀ g, v.ownBlock = some g → g ≠ b) : (w.setCell ⟨b, j, none⟩ u).ownsRow base e size v n xs := by
  refine ⟨h.1, h.2.imp id ?_⟩
  rintro ⟨g, cap, cur, hv, hg, hc, r⟩
  exact ⟨g, cap, cur, hv, hg, row_other hc (hb g (by rw [hv]; rfl)), r⟩
theorem put3_own2 {k n cap B sz m : Nat} {e : TypeId} {ao : Option Addr} {T : Ls} {w : World} {v : Value} {xs : List Value} (h : w.ownsRow B e sz v m xs) (hk : ∀ g, v.ownBlock = some g → g ≠ k) : (put3 k T ao n cap w).ownsRow B e sz v m xs := own_put (own_put (own_put h hk) hk) hk
/-- Deeds. -/
abbrev De := Nat × Nat × Nat × Nat × Nat
abbrev dec (d : De) : Array Value := #[.int .u8 d.1, .int .u8 d.2.1, .int .u8 d.2.2.1, .int .u8 d.2.2.2.1, .int .u8 d.2.2.2.2]
def deOk (d : De) : Prop := d.1 < 256 ∧ d.2.1 < 256 ∧ d.2.2.1 < 256 ∧ d.2.2.2.1 < 256 ∧ d.2.2.2.2 < 256
def decells (l : List De) : List Value := l.flatMap fun d => [.int .u8 d.1, .int .u8 d.2.1, .int .u8 d.2.2.1, .int .u8 d.2.2.2.1, .int .u8 d.2.2.2.2]
theorem decells_length : ∀ l : List De, (decells l).length = 5 * l.length
  | [] => rfl
  | d :: l => by
    have := decells_length l
    unfold decells at *
    simp only [List.flatMap_cons, List.length_append, List.length_cons, List.length_nil, this]
    omega
theorem decells_at : ∀ {l : List De} {k : Nat} (h : k < l.length), (decells l)[k * 5 + 0]? = some (.int .u8 (l[k]).1) ∧ (decells l)[k * 5 + 1]? = some (.int .u8 (l[k]).2.1) ∧ (decells l)[k * 5 + 2]? = some (.int .u8 (l[k]).2.2.1) ∧ (decells l)[k * 5 + 3]? = some (.int .u8 (l[k]).2.2.2.1) ∧ (decells l)[k * 5 + 4]? = some (.int .u8 (l[k]).2.2.2.2)
  | [], k, h => by simp at h
  | d :: l, 0, _ => ⟨rfl, rfl, rfl, rfl, rfl⟩
  | d :: l, k + 1, h => by
    have := decells_at (l := l) (k := k) (by simpa using h)
    have e : ∀ j, (decells (d :: l))[(k + 1) * 5 + j]? = (decells l)[k * 5 + j]? := by
      intro j
      have e1 : decells (d :: l) = [Value.int .u8 d.1, .int .u8 d.2.1, .int .u8 d.2.2.1, .int .u8 d.2.2.2.1, .int .u8 d.2.2.2.2] ++ decells l := by unfold decells; simp
      rw [e1, List.getElem?_append_right (by simp; omega)]
      congr 1
      simp
      omega
    simp only [e, List.getElem_cons_succ]
    exact this
end Go.Proofs.Ytghkldodceamcaa
