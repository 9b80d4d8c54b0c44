/-
  Plain laws of chunks: the rolled hash is the hash of a window; the chunks as a recursion over the data; local chunks. No program in sight.
-/
import Derived.Test.YtmebjjoldhcgpaaChkSpec
namespace Go.Proofs.Ytmebjjoldhcgpaa

/-- The hash of a window. -/
def winH (l : List UInt8) : UInt32 := l.foldl (fun h c => h * 16777619 + byteW c + 1) 0
theorem winH_snoc (l : List UInt8) (c : UInt8) : winH (l ++ [c]) = winH l * 16777619 + byteW c + 1 := by simp [winH]
theorem foldH (l : List UInt8) (h : UInt32) : l.foldl (fun h c => h * 16777619 + byteW c + 1) h = h * powF l.length + winH l := by
  induction l generalizing h with
  | nil => simp [winH, powF]
  | cons c l ih =>
    rw [List.foldl_cons, ih, show winH (c :: l) = l.foldl (fun h c => h * 16777619 + byteW c + 1) (0 * 16777619 + byteW c + 1) from rfl, ih, List.length_cons, powF]
    generalize byteW c = x
    generalize powF l.length = p
    generalize winH l = q
    grind
theorem winH_cons (c : UInt8) (l : List UInt8) : winH (c :: l) = (byteW c + 1) * powF l.length + winH l := by
  rw [winH, List.foldl_cons, foldH]
  generalize byteW c = x
  generalize powF l.length = p
  generalize winH l = q
  grind
/-- One byte in, one out. -/
theorem winH_roll (d c : UInt8) (l : List UInt8) : winH (l ++ [c]) = winH (d :: l) * 16777619 + byteW c + 1 - (byteW d + 1) * powF (l.length + 1) := by
  rw [winH_snoc, winH_cons, powF]
  generalize byteW c = x
  generalize byteW d = y
  generalize powF l.length = p
  generalize winH l = q
  grind

theorem rollH_win (s : List UInt8) (v : Nat) (hv : 1 ≤ v) : ∀ i, i ≤ s.length → rollH s v i = winH ((s.take i).drop (i - v)) := by
  intro i
  induction i with
  | zero => intro _; simp [rollH, winH]
  | succ i ih =>
    intro hi
    have hi' : i < s.length := hi
    have ih := ih (by omega)
    rw [rollH, stepH, ih]
    have hg : s.getD i 0 = s[i] := by simp [List.getD, hi']
    rw [hg, List.take_succ_eq_append_getElem hi']
    by_cases h : v ≤ i
    · rw [if_pos h]
      have hj : i - v < s.length := by omega
      have hg2 : s.getD (i - v) 0 = s[i - v] := by simp [List.getD, hj]
      rw [hg2]
      have e1 : (s.take i).drop (i - v) = s[i - v] :: (s.take i).drop (i - v + 1) := by
        rw [List.drop_eq_getElem_cons (by simp; omega)]
        simp
      have e2 : (s.take i ++ [s[i]]).drop (i + 1 - v) = (s.take i).drop (i - v + 1) ++ [s[i]] := by
        rw [List.drop_append_of_le_length (by simp; omega), show i + 1 - v = i - v + 1 by omega]
      have e3 : ((s.take i).drop (i - v + 1)).length + 1 = v := by simp; omega
      rw [e1, e2, winH_roll s[i - v], e3]
    · rw [if_neg h, show i - v = 0 by omega, show i + 1 - v = 0 by omega, List.drop_zero, List.drop_zero, winH_snoc]

section
variable (l m v b : Nat)
/-- May a chunk of n bytes end here? -/
def stopAt (s : List UInt8) (n : Nat) : Bool := (decide (l ≤ n) && divB b (winH ((s.take n).drop (n - v)))) || decide (n = m) || decide (n = s.length)
/-- From n on: the first length at which a chunk ends. -/
def firstFrom (s : List UInt8) : Nat → Nat → Nat
  | 0, n => n
  | k + 1, n => if stopAt l m v b s n then n else firstFrom s k (n + 1)
def firstLen (s : List UInt8) : Nat := firstFrom l m v b s (s.length - 1) 1
variable {l m v b}
theorem firstFrom_spec (s : List UInt8) : ∀ k n, n + k = s.length → n ≤ firstFrom l m v b s k n ∧ firstFrom l m v b s k n ≤ s.length ∧ (1 ≤ n → stopAt l m v b s (firstFrom l m v b s k n) = true) ∧ ∀ j, n ≤ j → j < firstFrom l m v b s k n → stopAt l m v b s j = false := by
  intro k
  induction k with
  | zero =>
    intro n hn
    rw [firstFrom]
    exact ⟨Nat.le_refl _, by omega, fun _ => by simp [stopAt]; right; omega, fun j h1 h2 => by omega⟩
  | succ k ih =>
    intro n hn
    rw [firstFrom]
    by_cases h : stopAt l m v b s n = true
    · rw [if_pos h]
      exact ⟨Nat.le_refl _, by omega, fun _ => h, fun j h1 h2 => by omega⟩
    · rw [if_neg h]
      obtain ⟨h1, h2, h3, h4⟩ := ih (n + 1) (by omega)
      refine ⟨by omega, h2, fun _ => h3 (by omega), fun j hj1 hj2 => ?_⟩
      rcases Nat.eq_or_lt_of_le hj1 with rfl | hlt
      · simpa using h
      · exact h4 j hlt hj2
theorem firstLen_spec {s : List UInt8} (h : s ≠ []) : 1 ≤ firstLen l m v b s ∧ firstLen l m v b s ≤ s.length ∧ stopAt l m v b s (firstLen l m v b s) = true ∧ ∀ j, 1 ≤ j → j < firstLen l m v b s → stopAt l m v b s j = false := by
  have hl : 0 < s.length := List.length_pos_iff.2 h
  obtain ⟨h1, h2, h3, h4⟩ := firstFrom_spec (l := l) (m := m) (v := v) (b := b) s (s.length - 1) 1 (by omega)
  exact ⟨h1, h2, h3 (Nat.le_refl _), h4⟩
theorem firstLen_eq {s : List UInt8} {n : Nat} (h1 : 1 ≤ n) (h2 : n ≤ s.length) (h3 : stopAt l m v b s n = true) (h4 : ∀ j, 1 ≤ j → j < n → stopAt l m v b s j = false) : firstLen l m v b s = n := by
  have hs : s ≠ [] := by rintro rfl; simp at h2; omega
  obtain ⟨g1, g2, g3, g4⟩ := firstLen_spec (l := l) (m := m) (v := v) (b := b) hs
  rcases Nat.lt_trichotomy (firstLen l m v b s) n with h | h | h
  · rw [h4 _ g1 h] at g3; cases g3
  · exact h
  · rw [g4 n h1 h] at h3; cases h3
variable (l m v b)
/-- The chunks' lengths. -/
def lens (s : List UInt8) : List Nat := if _h : s = [] then [] else firstLen l m v b s :: lens (s.drop (firstLen l m v b s))
termination_by s.length
decreasing_by
  obtain ⟨h1, h2, _⟩ := firstLen_spec (l := l) (m := m) (v := v) (b := b) _h
  simp; omega
variable {l m v b}
theorem lens_nil : lens l m v b [] = [] := by rw [lens]; simp
theorem lens_cons {s : List UInt8} (h : s ≠ []) : lens l m v b s = firstLen l m v b s :: lens l m v b (s.drop (firstLen l m v b s)) := by rw [lens, dif_neg h]
/-- The places of chunks of these lengths. -/
def places (st : Nat) : List Nat → List (Nat × Nat)
  | [] => []
  | n :: ns => (st, st + n) :: places (st + n) ns

theorem drop_win (s : List UInt8) (st n v : Nat) (hn : v ≤ n) : ((s.drop st).take n).drop (n - v) = (s.take (st + n)).drop (st + n - v) := by
  rw [List.take_drop, List.drop_drop]
  congr 1
  omega
theorem cut_stop (hv : 1 ≤ v) (hvl : v ≤ l) (s : List UInt8) (st n : Nat) (hn : 1 ≤ n) (hs : st + n ≤ s.length) : cutAt s l m v b st (st + n - 1) = stopAt l m v b (s.drop st) n := by
  have e : st + n - 1 + 1 = st + n := by omega
  unfold cutAt stopAt
  rw [e, show st + n - st = n by omega]
  have e2 : (decide (st + n = s.length)) = decide (n = (s.drop st).length) := by
    rw [Bool.eq_iff_iff]; simp; omega
  rw [e2]
  by_cases hl : l ≤ n
  · rw [rollH_win s v hv _ hs, drop_win _ _ _ _ (by omega)]
  · simp [hl]

theorem scan_first (hv : 1 ≤ v) (hvl : v ≤ l) (s : List UInt8) (st : Nat) (L : List (Nat × Nat)) (h : scan s l m v b st = (L, st)) (hs : st < s.length) :
    scan s l m v b (st + firstLen l m v b (s.drop st)) = (L ++ [(st, st + firstLen l m v b (s.drop st))], st + firstLen l m v b (s.drop st)) := by
  have hne : s.drop st ≠ [] := by intro e; have := congrArg List.length e; simp at this; omega
  obtain ⟨h1, h2, h3, h4⟩ := firstLen_spec (l := l) (m := m) (v := v) (b := b) hne
  generalize firstLen l m v b (s.drop st) = n at *
  rw [List.length_drop] at h2
  have key : ∀ j, j < n → scan s l m v b (st + j) = (L, st) := by
    intro j
    induction j with
    | zero => intro _; exact h
    | succ j ih =>
      intro hj
      have ihj := ih (by omega)
      rw [← Nat.add_assoc, scan_no, ihj]
      rw [ihj]
      have := cut_stop (m := m) (b := b) hv hvl s st (j + 1) (by omega) (by omega)
      rw [h4 _ (by omega) hj] at this
      simpa using this
  obtain ⟨j, rfl⟩ : ∃ j, n = j + 1 := ⟨n - 1, by omega⟩
  have kj := key j (by omega)
  rw [← Nat.add_assoc, scan_cut, kj]
  rw [kj]
  have := cut_stop (m := m) (b := b) hv hvl s st (j + 1) (by omega) (by omega)
  rw [h3] at this
  simpa using this

theorem scan_lens (hv : 1 ≤ v) (hvl : v ≤ l) (s : List UInt8) : ∀ (k st : Nat) (L : List (Nat × Nat)), s.length - st ≤ k → st ≤ s.length → scan s l m v b st = (L, st) → (scan s l m v b s.length).1 = L ++ places st (lens l m v b (s.drop st)) := by
  intro k
  induction k with
  | zero =>
    intro st L hk hst h
    obtain rfl : st = s.length := by omega
    rw [h, List.drop_length, lens_nil, places, List.append_nil]
  | succ k ih =>
    intro st L hk hst h
    rcases Nat.eq_or_lt_of_le hst with rfl | hlt
    · rw [h, List.drop_length, lens_nil, places, List.append_nil]
    · have hne : s.drop st ≠ [] := by intro e; have := congrArg List.length e; simp at this; omega
      obtain ⟨h1, h2, _⟩ := firstLen_spec (l := l) (m := m) (v := v) (b := b) hne
      rw [List.length_drop] at h2
      have h5 := scan_first hv hvl s st L h hlt
      rw [ih _ _ (by omega) (by omega) h5, lens_cons hne, places, List.drop_drop]
      simp
theorem cuts_places (hv : 1 ≤ v) (hvl : v ≤ l) (s : List UInt8) : cuts s l m v b = places 0 (lens l m v b s) := by
  have := scan_lens (m := m) (b := b) hv hvl s s.length 0 [] (by omega) (by omega) rfl
  simpa [cuts] using this

/-- The chunks. -/
def pieces (s : List UInt8) : List Nat → List (List UInt8)
  | [] => []
  | n :: ns => s.take n :: pieces (s.drop n) ns
theorem pieces_places (s : List UInt8) : ∀ (ns : List Nat) (st : Nat), (places st ns).map (piece s) = pieces (s.drop st) ns := by
  intro ns
  induction ns with
  | nil => intro st; rfl
  | cons n ns ih =>
    intro st
    rw [places, pieces, List.map_cons, ih, piece, List.drop_drop]
    simp
theorem pieces_length (s : List UInt8) (ns : List Nat) : (pieces s ns).length = ns.length := by
  induction ns generalizing s with
  | nil => rfl
  | cons n ns ih => simp [pieces, ih]

/-- The sum of the lengths is the data's length. -/
theorem lens_sum (s : List UInt8) : (lens l m v b s).sum = s.length := by
  induction hk : s.length using Nat.strongRecOn generalizing s with
  | _ k ih =>
    by_cases h : s = []
    · subst h; subst hk; simp [lens_nil]
    · obtain ⟨h1, h2, _⟩ := firstLen_spec (l := l) (m := m) (v := v) (b := b) h
      have := ih (s.length - firstLen l m v b s) (by omega) (s.drop (firstLen l m v b s)) (by simp)
      rw [lens_cons h, List.sum_cons, this]
      omega
theorem lens_pos (s : List UInt8) : ∀ n ∈ lens l m v b s, 1 ≤ n := by
  induction hk : s.length using Nat.strongRecOn generalizing s with
  | _ k ih =>
    by_cases h : s = []
    · subst h; simp [lens_nil]
    · obtain ⟨h1, h2, _⟩ := firstLen_spec (l := l) (m := m) (v := v) (b := b) h
      rw [lens_cons h]
      intro n hn
      rcases List.mem_cons.1 hn with rfl | hn
      · exact h1
      · exact ih (s.length - firstLen l m v b s) (by omega) (s.drop (firstLen l m v b s)) (by simp) n hn
/-- The data from an end on has the chunks from there on. -/
theorem lens_drop (s : List UInt8) (k : Nat) : lens l m v b (s.drop ((lens l m v b s).take k).sum) = (lens l m v b s).drop k := by
  induction k generalizing s with
  | zero => simp
  | succ k ih =>
    by_cases h : s = []
    · subst h; simp [lens_nil]
    · rw [lens_cons h, List.take_succ_cons, List.sum_cons, List.drop_succ_cons, ← List.drop_drop, ih]
/-- A chunk that is not the data's last ends where it ends, whatever follows, as long as the rest has as many bytes. -/
theorem firstLen_append {s t : List UInt8} (h : s ≠ []) (hlt : firstLen l m v b s < s.length) : firstLen l m v b (s ++ t) = firstLen l m v b s := by
  obtain ⟨h1, h2, h3, h4⟩ := firstLen_spec (l := l) (m := m) (v := v) (b := b) h
  generalize firstLen l m v b s = n at *
  have tk : ∀ j, j ≤ s.length → (s ++ t).take j = s.take j := fun j hj => by rw [List.take_append_of_le_length hj]
  refine firstLen_eq h1 (by simp; omega) ?_ ?_
  · unfold stopAt at h3 ⊢
    rw [tk n h2]
    simp only [Bool.or_eq_true, decide_eq_true_eq] at h3 ⊢
    rcases h3 with h3 | h3
    · exact .inl h3
    · omega
  · intro j hj1 hj2
    have := h4 j hj1 hj2
    unfold stopAt at this ⊢
    rw [tk j (by omega)]
    simp only [Bool.or_eq_false_iff, decide_eq_false_iff_not] at this ⊢
    exact ⟨this.1, by simp; omega⟩
/-- The data up to an end. -/
theorem firstLen_take {s : List UInt8} {e : Nat} (h : s ≠ []) (he : firstLen l m v b s ≤ e) (hes : e ≤ s.length) : firstLen l m v b (s.take e) = firstLen l m v b s := by
  obtain ⟨h1, h2, h3, h4⟩ := firstLen_spec (l := l) (m := m) (v := v) (b := b) h
  generalize firstLen l m v b s = n at *
  have tk : ∀ j, j ≤ e → (s.take e).take j = s.take j := fun j hj => by rw [List.take_take]; congr 1; omega
  refine firstLen_eq h1 (by simp; omega) ?_ ?_
  · unfold stopAt at h3 ⊢
    rw [tk n he]
    simp only [Bool.or_eq_true, decide_eq_true_eq, List.length_take] at h3 ⊢
    rcases h3 with h3 | h3
    · exact .inl h3
    · right; omega
  · intro j hj1 hj2
    have := h4 j hj1 hj2
    unfold stopAt at this ⊢
    rw [tk j (by omega)]
    simp only [Bool.or_eq_false_iff, decide_eq_false_iff_not, List.length_take] at this ⊢
    exact ⟨this.1, by omega⟩
theorem lens_take (s : List UInt8) (k : Nat) : lens l m v b (s.take ((lens l m v b s).take k).sum) = (lens l m v b s).take k := by
  induction k generalizing s with
  | zero => simp [lens_nil]
  | succ k ih =>
    by_cases h : s = []
    · subst h; simp [lens_nil]
    · obtain ⟨h1, h2, _⟩ := firstLen_spec (l := l) (m := m) (v := v) (b := b) h
      have hsum := lens_sum (l := l) (m := m) (v := v) (b := b) (s.drop (firstLen l m v b s))
      rw [lens_cons h, List.take_succ_cons, List.sum_cons]
      generalize hE : ((lens l m v b (s.drop (firstLen l m v b s))).take k).sum = E
      have hEle : E ≤ s.length - firstLen l m v b s := by
        have h8 : ((lens l m v b (s.drop (firstLen l m v b s))).take k).sum + ((lens l m v b (s.drop (firstLen l m v b s))).drop k).sum = (lens l m v b (s.drop (firstLen l m v b s))).sum := by rw [← List.sum_append, List.take_append_drop]
        rw [hE, hsum, List.length_drop] at h8
        omega
      have hne : s.take (firstLen l m v b s + E) ≠ [] := List.length_pos_iff.1 (by rw [List.length_take]; omega)
      rw [lens_cons hne, firstLen_take h (by omega) (by omega)]
      congr 1
      rw [show (s.take (firstLen l m v b s + E)).drop (firstLen l m v b s) = (s.drop (firstLen l m v b s)).take E by rw [List.drop_take]; congr 1; omega, ← hE, ih]
/-- What is appended leaves all chunks but the last one. -/
theorem lens_append (s t : List UInt8) : (lens l m v b (s ++ t)).take ((lens l m v b s).length - 1) = (lens l m v b s).take ((lens l m v b s).length - 1) := by
  induction hk : s.length using Nat.strongRecOn generalizing s with
  | _ k ih =>
    by_cases h : s = []
    · subst h; simp [lens_nil]
    · obtain ⟨h1, h2, _⟩ := firstLen_spec (l := l) (m := m) (v := v) (b := b) h
      rw [lens_cons h]
      rcases Nat.eq_or_lt_of_le h2 with e | hlt
      · rw [e, List.drop_length, lens_nil]; simp
      · have hne : s ++ t ≠ [] := by simp [h]
        have hd : s.drop (firstLen l m v b s) ≠ [] := by intro e; have := congrArg List.length e; simp at this; omega
        have hl : 0 < (lens l m v b (s.drop (firstLen l m v b s))).length := by rw [lens_cons hd]; simp
        rw [lens_cons hne, firstLen_append h hlt, List.drop_append_of_le_length h2, List.length_cons, Nat.add_sub_cancel]
        have := ih (s.length - firstLen l m v b s) (by omega) (s.drop (firstLen l m v b s)) (by simp)
        obtain ⟨q, hq⟩ : ∃ q, (lens l m v b (s.drop (firstLen l m v b s))).length = q + 1 := ⟨_, (Nat.succ_pred_eq_of_pos hl).symm⟩
        rw [hq, Nat.add_sub_cancel] at this
        rw [hq, List.take_succ_cons, List.take_succ_cons, this]
end
end Go.Proofs.Ytmebjjoldhcgpaa
