/-
  Next, Result, Check of the program.
-/
import Derived.Test.YtnjcoejnknpfoaaMinExam
namespace Go.Proofs.Ytnjcoejnknpfoaa
open Go.RowKit Go.Shelf
/-- What a search has come to. -/
structure Ex where
  err : Int
  done : Bool
  set : List Int
/-- What the answers of a search say. -/
def Exm (kn : List Kn) (N : Int) (r : Ex) : Prop :=
  ((N < 0 ∨ 64 < N) ∧ r = ⟨2, false, []⟩) ∨ ∃ (n : Nat) (st : St), N = n ∧ n ≤ 10 ∧ Leads kn n st ∧ r = if st.used ≠ kn.length then ⟨11, false, []⟩ else ⟨0, st.done, st.set⟩
theorem Exm.det {kn : List Kn} {N : Int} {r r' : Ex} (h : Exm kn N r) (h' : Exm kn N r') : r = r' := by
  rcases h with ⟨h1, rfl⟩ | ⟨n, st, rfl, h2, h3, rfl⟩
  · rcases h' with ⟨_, rfl⟩ | ⟨n', st', e, h5, _, _⟩
    · rfl
    · omega
  · rcases h' with ⟨h4, _⟩ | ⟨n', st', e, h5, h6, rfl⟩
    · omega
    · obtain rfl : n = n' := by omega
      rw [h3.det h6]
theorem setsL_len' (n : Nat) : ∀ k low, ∀ s ∈ setsL n k low, s.length = k
  | 0, low, s, hs => by
    simp only [setsL, List.mem_singleton] at hs
    subst hs
    rfl
  | k + 1, low, s, hs => by
    simp only [setsL, List.mem_flatMap, List.mem_map, List.mem_range'_1] at hs
    obtain ⟨i, _, t, ht, rfl⟩ := hs
    rw [List.length_cons, setsL_len' n k (i + 1) t ht]
theorem runF_len (kn : List Kn) (n : Nat) : ∀ (l : List (List Int)) (u : Nat), (∀ s ∈ l, s.length ≤ n) → (runF kn n l u).set.length ≤ n
  | [], u, _ => by
    show (upto n).length ≤ n
    rw [upto_length]
    exact Nat.le_refl _
  | s :: r, u, h => by
    rw [runF]
    split
    · exact h s (by simp)
    · exact h s (by simp)
    · exact runF_len kn n r _ (fun t ht => h t (by simp [ht]))
theorem OutR.len {kn : List Kn} {n : Nat} {now r : List Int} {ch : Bool} {u : Nat} {st : St} (h : OutR kn now ch r u st) (hn : now.length ≤ n) : st.set.length ≤ n := by
  have hl : ∀ (l : List Int) (x : Int), (lessI l x).length ≤ l.length := fun l x => List.length_filter_le _ _
  induction h with
  | stop _ => exact Nat.le_trans (hl _ _) hn
  | bad _ _ ih => exact ih (Nat.le_trans (hl _ _) hn)
  | good _ _ ih => exact ih hn
  | again _ ih => exact ih hn
  | fin => exact hn
theorem Leads.len {kn : List Kn} {n : Nat} {st : St} (h : Leads kn n st) : st.set.length ≤ n := by
  unfold Leads at h
  split at h
  · rw [h]
    refine runF_len kn n _ _ (fun s hs => ?_)
    simp only [fromK, List.mem_flatMap, List.mem_range'_1] at hs
    obtain ⟨k, hk, hs⟩ := hs
    rw [setsL_len' n k 0 s hs]
    omega
  · exact h.len (by rw [upto_length]; exact Nat.le_refl _)
theorem Exm.len {kn : List Kn} {N : Int} {r : Ex} (h : Exm kn N r) : r.set.length ≤ 10 := by
  rcases h with ⟨_, rfl⟩ | ⟨n, st, _, h2, h3, rfl⟩
  · exact Nat.zero_le _
  · split
    · exact Nat.zero_le _
    · exact Nat.le_trans h3.len h2
/-- A number that the statements speak of. -/
def GoodN (N : Int) : Prop := (N < 0 ∨ 64 < N) ∨ (0 ≤ N ∧ N ≤ 10)
def stV (r : Ex) (v : Value) : Value :=
  if r.err ≠ 0 then .agg #[.int .i64 r.err, .bool false, .slice none 0 0, .slice none 0 0] else if r.done then .agg #[.int .i64 0, .bool true, .slice none 0 0, v] else .agg #[.int .i64 0, .bool false, v, .slice none 0 0]
def Ex2P (kn : List Kn) (N : Int) (w : World) (e : Ending) (w' : World) : Prop := ∃ (r : Ex) (a1 : Option Addr) (n1 c1 : Nat), Exm kn N r ∧ e = .returned (stV r (.slice a1 n1 c1)) ∧ IA w' a1 n1 c1 r.set ∧ Below w.heap.size w w' ∧ ∀ b o, a1 = some ⟨b, o, none⟩ → w.heap.size ≤ b
theorem ia_nil (w : World) : IA w none 0 0 [] := ⟨rfl, Sl.nil, Nat.le_refl _, by simp [maxLen], fun _ => rfl⟩
theorem exam2 (N : Int) (hN : GoodN N) (l : List Kw) (k cap : Nat) (ao : Option Addr) (w : World) (hk : k ≤ 100) (h : KA w ao k cap l) (hl : ∀ r ∈ l, r.vs.length ≤ 20) :
    Calls Try.prog 32 #[.agg #[.int .i64 N, .slice ao k cap]] w (Ex2P (l.map Kw.kn) N w) := by
  rcases hN with hN | ⟨h0, h10⟩
  · refine (exam_range N hN k cap ao w).mono ?_
    rintro e w' ⟨rfl, hb⟩
    exact ⟨⟨2, false, []⟩, none, 0, 0, .inl ⟨hN, rfl⟩, rfl, ia_nil w', hb, fun b o e => (by cases e)⟩
  · obtain ⟨n, rfl⟩ : ∃ n : Nat, N = n := ⟨N.toNat, by omega⟩
    refine (exam_any n (by omega) l k cap ao w hk h hl).mono ?_
    rintro e w' ⟨st, a1, n1, c1, hL, rfl, hI, hb, hf⟩
    have hlen : (l.map Kw.kn).length = k := by rw [List.length_map]; exact h.len
    by_cases hu : st.used ≠ k
    · refine ⟨⟨11, false, []⟩, none, 0, 0, .inr ⟨n, st, rfl, by omega, hL, by rw [hlen, if_pos hu]⟩, by unfold statV; rw [if_pos hu]; rfl, ia_nil w', hb, fun b o e => (by cases e)⟩
    · refine ⟨⟨0, st.done, st.set⟩, a1, n1, c1, .inr ⟨n, st, rfl, by omega, hL, by rw [hlen, if_neg hu]⟩, by unfold statV stV; rw [if_neg hu]; rfl, hI, hb, hf⟩
/-- Is it open? Is it done? -/
def Ex.open (r : Ex) : Bool := decide (r.err = 0) && !r.done
def Ex.fin (r : Ex) : Bool := decide (r.err = 0) && r.done
def NxP (kn : List Kn) (N : Int) (p : Ex → Bool) (w : World) (e : Ending) (w' : World) : Prop := ∃ (r : Ex) (a1 : Option Addr) (n1 c1 : Nat), Exm kn N r ∧ e = .returned (.tuple #[.slice a1 n1 c1, .bool (p r)]) ∧ IA w' a1 n1 c1 (if p r then r.set else []) ∧ Below w.heap.size w w' ∧ ∀ b o, a1 = some ⟨b, o, none⟩ → w.heap.size ≤ b
theorem stV_err {r : Ex} {v : Value} (h : r.err ≠ 0) : stV r v = .agg #[.int .i64 r.err, .bool false, .slice none 0 0, .slice none 0 0] := by unfold stV; rw [if_pos h]
theorem stV_done {r : Ex} {v : Value} (h : r.err = 0) (hd : r.done = true) : stV r v = .agg #[.int .i64 0, .bool true, .slice none 0 0, v] := by unfold stV; rw [if_neg (by simp [h]), if_pos hd]
theorem stV_open {r : Ex} {v : Value} (h : r.err = 0) (hd : r.done = false) : stV r v = .agg #[.int .i64 0, .bool false, v, .slice none 0 0] := by unfold stV; rw [if_neg (by simp [h]), if_neg (by simp [hd])]
set_option maxRecDepth 100000 in
set_option maxHeartbeats 4000000 in
theorem Next_any (N : Int) (hN : GoodN N) (l : List Kw) (k cap : Nat) (ao : Option Addr) (w : World) (hk : k ≤ 100) (h : KA w ao k cap l) (hl : ∀ r ∈ l, r.vs.length ≤ 20) :
    Calls Try.prog 15 #[.agg #[.int .i64 N, .slice ao k cap]] w (NxP (l.map Kw.kn) N Ex.open w) := by
  have CE := lid (fun w1 (hb : Below w.heap.size w w1) => exam2 N hN l k cap ao w1 hk (h.below hb) hl)
  clear h hl
  go_enter Try.func15, Try.ntmps15
  go_wp2_with fail
  (with_reducible refine (CE.out _ (ba _ _)).mono ?_); rintro e w1 ⟨r, a1, n1, c1, hE, rfl, hI, hb, hf⟩
  have HE := lid hE
  have HI := lid hI
  have HB := lid ((ba w (.cells #[.int .i64 N, .slice ao k cap] 24)).trans (hb.mono (by simp)))
  have HF : Hid (∀ b o, a1 = some ⟨b, o, none⟩ → w.heap.size ≤ b) := lid (fun b o e => by have := hf b o e; simp at this; omega)
  clear hE hI hb hf
  by_cases h0 : r.err = 0
  · cases hd : r.done with
    | true =>
      rw [stV_done h0 hd]
      have HP : Hid (Ex.open r = false) := lid (by unfold Ex.open; simp [h0, hd])
      clear hd h0
      go_wp2_with fail
      go_ret2
      exact ⟨r, none, 0, 0, HE.out, by rw [HP.out]; rfl, by rw [HP.out]; exact ia_nil _, HB.out.alloc (by have := HB.out.size; omega) _, fun b o e => by cases e⟩
    | false =>
      rw [stV_open h0 hd]
      have HP : Hid (Ex.open r = true) := lid (by unfold Ex.open; simp [h0, hd])
      clear hd h0
      go_wp2_with fail
      go_ret2
      exact ⟨r, a1, n1, c1, HE.out, by rw [HP.out]; rfl, by rw [HP.out]; exact (HI.out.below (ba _ _)), HB.out.alloc (by have := HB.out.size; omega) _, HF.out⟩
  · rw [stV_err h0]
    have HP : Hid (Ex.open r = false) := lid (by unfold Ex.open; simp [h0])
    have dne : (r.err != 0) = true := by simpa using h0
    clear h0
    go_wp2_with fail
    go_ret2
    exact ⟨r, none, 0, 0, HE.out, by rw [HP.out]; rfl, by rw [HP.out]; exact ia_nil _, HB.out.alloc (by have := HB.out.size; omega) _, fun b o e => by cases e⟩
set_option maxRecDepth 100000 in
set_option maxHeartbeats 4000000 in
theorem Result_any (N : Int) (hN : GoodN N) (l : List Kw) (k cap : Nat) (ao : Option Addr) (w : World) (hk : k ≤ 100) (h : KA w ao k cap l) (hl : ∀ r ∈ l, r.vs.length ≤ 20) :
    Calls Try.prog 17 #[.agg #[.int .i64 N, .slice ao k cap]] w (NxP (l.map Kw.kn) N Ex.fin w) := by
  have CE := lid (fun w1 (hb : Below w.heap.size w w1) => exam2 N hN l k cap ao w1 hk (h.below hb) hl)
  clear h hl
  go_enter Try.func17, Try.ntmps17
  go_wp2_with fail
  (with_reducible refine (CE.out _ (ba _ _)).mono ?_); rintro e w1 ⟨r, a1, n1, c1, hE, rfl, hI, hb, hf⟩
  have HE := lid hE
  have HI := lid hI
  have HB := lid ((ba w (.cells #[.int .i64 N, .slice ao k cap] 24)).trans (hb.mono (by simp)))
  have HF : Hid (∀ b o, a1 = some ⟨b, o, none⟩ → w.heap.size ≤ b) := lid (fun b o e => by have := hf b o e; simp at this; omega)
  clear hE hI hb hf
  by_cases h0 : r.err = 0
  · cases hd : r.done with
    | true =>
      rw [stV_done h0 hd]
      have HP : Hid (Ex.fin r = true) := lid (by unfold Ex.fin; simp [h0, hd])
      clear hd h0
      go_wp2_with fail
      go_ret2
      exact ⟨r, a1, n1, c1, HE.out, by rw [HP.out]; rfl, by rw [HP.out]; exact (HI.out.below (ba _ _)), HB.out.alloc (by have := HB.out.size; omega) _, HF.out⟩
    | false =>
      rw [stV_open h0 hd]
      have HP : Hid (Ex.fin r = false) := lid (by unfold Ex.fin; simp [h0, hd])
      clear hd h0
      go_wp2_with fail
      go_ret2
      exact ⟨r, none, 0, 0, HE.out, by rw [HP.out]; rfl, by rw [HP.out]; exact ia_nil _, HB.out.alloc (by have := HB.out.size; omega) _, fun b o e => by cases e⟩
  · rw [stV_err h0]
    have HP : Hid (Ex.fin r = false) := lid (by unfold Ex.fin; simp [h0])
    have dne : (r.err != 0) = true := by simpa using h0
    clear h0
    go_wp2_with fail
    go_ret2
    exact ⟨r, none, 0, 0, HE.out, by rw [HP.out]; rfl, by rw [HP.out]; exact ia_nil _, HB.out.alloc (by have := HB.out.size; omega) _, fun b o e => by cases e⟩
theorem fld_stat (e : Int) (b : Bool) (a1 a2 : Option Addr) (n1 c1 n2 c2 : Nat) (w : World) : (Instr.field 57 (.agg #[.int .i64 e, .bool b, .slice a1 n1 c1, .slice a2 n2 c2]) 0).run Try.prog w = .ok (.int .i64 e) w := by kernel_rfl
set_option maxRecDepth 100000 in
set_option maxHeartbeats 4000000 in
theorem Check_any (N : Int) (hN : GoodN N) (l : List Kw) (k cap : Nat) (ao : Option Addr) (w : World) (hk : k ≤ 100) (h : KA w ao k cap l) (hl : ∀ r ∈ l, r.vs.length ≤ 20) :
    Calls Try.prog 20 #[.agg #[.int .i64 N, .slice ao k cap]] w fun e w' => ∃ r, Exm (l.map Kw.kn) N r ∧ e = .returned (.int .i64 r.err) ∧ Below w.heap.size w w' := by
  have CE := lid (fun w1 (hb : Below w.heap.size w w1) => exam2 N hN l k cap ao w1 hk (h.below hb) hl)
  clear h hl
  have hfd := fld_stat
  go_enter Try.func20, Try.ntmps20
  go_wp2_with fail
  (with_reducible refine (CE.out _ (ba _ _)).mono ?_); rintro e w1 ⟨r, a1, n1, c1, hE, rfl, hI, hb, _⟩
  have HE := lid hE
  clear hE
  by_cases h0 : r.err = 0
  · cases hd : r.done with
    | true =>
      rw [stV_done h0 hd]
      clear hd
      go_wp2_with fail
      go_ret
      exact ⟨r, HE.out, by rw [h0]; rfl, (ba _ _).trans (hb.mono (by simp))⟩
    | false =>
      rw [stV_open h0 hd]
      clear hd
      go_wp2_with fail
      go_ret
      exact ⟨r, HE.out, by rw [h0]; rfl, (ba _ _).trans (hb.mono (by simp))⟩
  · rw [stV_err h0]
    go_wp2_with fail
    go_ret
    exact ⟨r, HE.out, rfl, (ba _ _).trans (hb.mono (by simp))⟩
end Go.Proofs.Ytnjcoejnknpfoaa
