/-
  Leases: what is valid, in plain terms; what Grant, Renew, Release, Advance keep. No program in sight.
-/
import Derived.Test.YtghkldodceamcaaLeaMc
namespace Go.Proofs.Ytghkldodceamcaa
open Go.RowKit

def okL (c e : Int) (x : Lz) : Prop := nameB x.2.1 = true ∧ badB c e x = false
def incL (a b : Lz) : Prop := a.2.2.2 < b.2.2.2
def aptL (a b : Lz) : Prop := ¬ (a.1 = b.1 ∧ a.2.1 = b.2.1)
theorem bad_iff {c e : Int} {x : Lz} : badB c e x = false ↔ c < x.2.2.1 ∧ x.2.2.1 ≤ 1099511627776 ∧ 1 ≤ x.2.2.2 ∧ x.2.2.2 ≤ e := by
  unfold badB
  rw [decide_eq_false_iff_not]
  omega
theorem lastE_snoc (l : List Lz) (x : Lz) : lastE (l ++ [x]) = x.2.2.2 := by
  induction l with
  | nil => rfl
  | cons a l ih =>
    cases l with
    | nil => rfl
    | cons b l => simpa [lastE] using ih
theorem lastE_max {l : List Lz} (h : l.Pairwise incL) : ∀ y ∈ l, y.2.2.2 ≤ lastE l := by
  intro y hy
  rcases List.eq_nil_or_concat l with rfl | ⟨m, z, rfl⟩
  · cases hy
  · simp only [List.concat_eq_append] at *
    rw [lastE_snoc]
    rcases List.mem_append.1 hy with hy | hy
    · rw [List.pairwise_append] at h
      exact Int.le_of_lt (h.2.2 y hy z (by simp))
    · rw [List.mem_singleton.1 hy]; exact Int.le_refl _
theorem hasB_iff {l : List Lz} {j : Dg} {k : ByteArray} : hasB l j k = true ↔ ∃ y ∈ l, y.1 = j ∧ y.2.1 = k := by
  unfold hasB
  rw [List.any_eq_true]
  simp
theorem lzGo_iff {c e : Int} : ∀ (l pre : List Lz), pre.Pairwise incL → pre.Pairwise aptL → (lzGo c e pre l = 0 ↔ (∀ x ∈ l, okL c e x) ∧ (pre ++ l).Pairwise incL ∧ (pre ++ l).Pairwise aptL)
  | [], pre, h1, h2 => by simp [lzGo, h1, h2]
  | x :: l, pre, h1, h2 => by
    cases hn : nameB x.2.1 with
    | false =>
      rw [go_name hn]
      constructor
      · intro h; cases h
      · intro h; have := (h.1 x (by simp)).1; rw [hn] at this; cases this
    | true =>
    cases hb : badB c e x with
    | true =>
      rw [go_bad hn hb]
      constructor
      · intro h; cases h
      · intro h; have := (h.1 x (by simp)).2; rw [hb] at this; cases this
    | false =>
    by_cases ho : pre ≠ [] ∧ x.2.2.2 ≤ lastE pre
    · rw [go_order hn hb ho]
      constructor
      · intro h; cases h
      · rintro ⟨_, h, _⟩
        exfalso
        rcases List.eq_nil_or_concat pre with rfl | ⟨m, z, rfl⟩
        · exact ho.1 rfl
        · simp only [List.concat_eq_append] at *
          rw [lastE_snoc] at ho
          rw [List.pairwise_append] at h
          have := h.2.2 z (by simp) x (by simp)
          unfold incL at this
          omega
    · cases hh : hasB pre x.1 x.2.1 with
      | true =>
        rw [go_twice hn hb ho hh]
        constructor
        · intro h; cases h
        · rintro ⟨_, _, h⟩
          exfalso
          obtain ⟨y, hy, e1, e2⟩ := hasB_iff.1 hh
          rw [List.pairwise_append] at h
          exact h.2.2 y hy x (by simp) ⟨e1, e2⟩
      | false =>
        rw [go_next hn hb ho hh]
        have p1 : (pre ++ [x]).Pairwise incL := by
          rw [List.pairwise_append]
          refine ⟨h1, List.pairwise_singleton _ _, fun y hy z hz => ?_⟩
          rw [List.mem_singleton.1 hz]
          have hne : pre ≠ [] := by intro e; rw [e] at hy; cases hy
          have := lastE_max h1 y hy
          unfold incL
          have h3 : ¬ x.2.2.2 ≤ lastE pre := fun h => ho ⟨hne, h⟩
          omega
        have p2 : (pre ++ [x]).Pairwise aptL := by
          rw [List.pairwise_append]
          refine ⟨h2, List.pairwise_singleton _ _, fun y hy z hz => ?_⟩
          rw [List.mem_singleton.1 hz]
          intro e
          rw [hasB_iff.2 ⟨y, hy, e.1, e.2⟩] at hh
          cases hh
        rw [lzGo_iff l (pre ++ [x]) p1 p2, List.append_assoc]
        simp only [List.singleton_append, List.mem_cons, forall_eq_or_imp]
        constructor
        · rintro ⟨a, b⟩; exact ⟨⟨⟨hn, hb⟩, a⟩, b⟩
        · rintro ⟨⟨_, a⟩, b⟩; exact ⟨a, b⟩
/-- Valid leases. -/
structure VL (t : Ls) : Prop where
  c0 : 0 ≤ t.clock
  c1 : t.clock ≤ 1099511627776
  e0 : 0 ≤ t.epoch
  e1 : t.epoch ≤ 1099511627776
  len : t.l.length ≤ 256
  ok : ∀ x ∈ t.l, okL t.clock t.epoch x
  inc : t.l.Pairwise incL
  apt : t.l.Pairwise aptL
theorem check_iff {t : Ls} : checkLs t = 0 ↔ VL t := by
  constructor
  · intro h
    obtain ⟨a, b, c, d, e⟩ := checkLs_ok h
    have h2 : lzGo t.clock t.epoch [] t.l = 0 := by
      unfold checkLs at h
      split at h
      · cases h
      · split at h
        · cases h
        · exact h
    rw [lzGo_iff t.l [] List.Pairwise.nil List.Pairwise.nil] at h2
    exact ⟨a, b, c, d, e, h2.1, h2.2.1, h2.2.2⟩
  · intro h
    unfold checkLs
    rw [if_neg (by have := h.c0; have := h.c1; have := h.e0; have := h.e1; simp [rangeB]; omega), if_neg (by have := h.len; omega)]
    rw [lzGo_iff t.l [] List.Pairwise.nil List.Pairwise.nil]
    exact ⟨h.ok, h.inc, h.apt⟩
theorem memB_iff {l : List Lz} {x : Lz} : memB l x = true ↔ x ∈ l := by
  unfold memB
  rw [List.any_eq_true]
  simp
theorem pw_any {R : Lz → Lz → Prop} (hs : ∀ a b, R a b → R b a) : ∀ {l : List Lz}, l.Pairwise R → ∀ a ∈ l, ∀ b ∈ l, a ≠ b → R a b
  | [], _, a, ha, _, _, _ => by cases ha
  | c :: l, h, a, ha, b, hb, hne => by
    rw [List.pairwise_cons] at h
    rcases List.mem_cons.1 ha with ea | ha
    · rcases List.mem_cons.1 hb with eb | hb
      · exact absurd (ea.trans eb.symm) hne
      · rw [ea]; exact h.1 b hb
    · rcases List.mem_cons.1 hb with eb | hb
      · rw [eb]; exact hs _ _ (h.1 a ha)
      · exact pw_any hs h.2 a ha b hb hne
theorem VL.same {t : Ls} (h : VL t) {x y : Lz} (hx : x ∈ t.l) (hy : y ∈ t.l) (he : x.2.2.2 = y.2.2.2) : x = y := by
  rcases Classical.em (x = y) with e | e
  · exact e
  · exact absurd he (pw_any (R := fun a b => a.2.2.2 ≠ b.2.2.2) (fun a b n e => n e.symm) (h.inc.imp (fun {a b} hab e => by unfold incL at hab; omega)) x hx y hy e)
theorem VL.one {t : Ls} (h : VL t) {x y : Lz} (hx : x ∈ t.l) (hy : y ∈ t.l) (he : x.1 = y.1 ∧ x.2.1 = y.2.1) : x = y := by
  rcases Classical.em (x = y) with e | e
  · exact e
  · exact absurd he (pw_any (R := aptL) (fun a b n e => n ⟨e.1.symm, e.2.symm⟩) h.apt x hx y hy e)
theorem VL.nodup {t : Ls} (h : VL t) : t.l.Nodup := h.inc.imp (fun {a b} hab e => by subst e; unfold incL at hab; omega)
/-- Fewer leases, a later clock. -/
theorem VL.sub {t : Ls} (h : VL t) {l : List Lz} {c : Int} (hs : l.Sublist t.l) (hc : t.clock ≤ c) (hc1 : c ≤ 1099511627776) (hu : ∀ x ∈ l, c < x.2.2.1) : VL ⟨c, t.epoch, l⟩ :=
  ⟨by have := h.c0; simp only; omega, hc1, h.e0, h.e1, Nat.le_trans hs.length_le h.len, fun x hx => ⟨(h.ok x (hs.subset hx)).1, by have := bad_iff.1 (h.ok x (hs.subset hx)).2; exact bad_iff.2 ⟨hu x hx, this.2⟩⟩, h.inc.sublist hs, h.apt.sublist hs⟩
/-- One lease more. -/
theorem VL.more {t : Ls} (h : VL t) {l : List Lz} {job : Dg} {wk : ByteArray} {m : Int} (hs : l.Sublist t.l) (hl : l.length < 256) (hn : nameB wk = true) (hf : fitB t.clock m = true) (he : t.epoch ≠ 1099511627776) (ha : ∀ y ∈ l, ¬ (y.1 = job ∧ y.2.1 = wk)) : VL (withL t l job wk m) := by
  obtain ⟨f1, f2⟩ := fitB_ok hf
  have h0 := h.e0
  have h1 := h.e1
  refine ⟨h.c0, h.c1, by simp only [withL]; omega, by simp only [withL]; omega, by simp [withL]; omega, ?_, ?_, ?_⟩
  · intro x hx
    rcases List.mem_append.1 hx with hx | hx
    · have := bad_iff.1 (h.ok x (hs.subset hx)).2
      exact ⟨(h.ok x (hs.subset hx)).1, bad_iff.2 ⟨this.1, this.2.1, this.2.2.1, by simp only [withL]; omega⟩⟩
    · rw [List.mem_singleton.1 hx]
      exact ⟨hn, bad_iff.2 ⟨by simp only [withL]; omega, by simp only; omega, by simp only; omega, by simp only [withL]; omega⟩⟩
  · show (l ++ [_]).Pairwise incL
    rw [List.pairwise_append]
    refine ⟨h.inc.sublist hs, List.pairwise_singleton _ _, fun y hy z hz => ?_⟩
    rw [List.mem_singleton.1 hz]
    have := bad_iff.1 (h.ok y (hs.subset hy)).2
    unfold incL
    simp only
    omega
  · show (l ++ [_]).Pairwise aptL
    rw [List.pairwise_append]
    refine ⟨h.apt.sublist hs, List.pairwise_singleton _ _, fun y hy z hz => ?_⟩
    rw [List.mem_singleton.1 hz]
    exact ha y hy
theorem grant_ok {t : Ls} {job : Dg} {wk : ByteArray} {m : Int} (h : grantE t job wk m = 0) : VL t ∧ nameB wk = true ∧ fitB t.clock m = true ∧ hasB t.l job wk = false ∧ t.l.length < 256 ∧ t.epoch ≠ 1099511627776 := by
  unfold grantE at h
  split at h; · cases h
  split at h; · cases h
  split at h; · cases h
  split at h; · cases h
  split at h; · cases h
  split at h; · cases h
  rename_i a b c d e f
  exact ⟨check_iff.1 (Classical.not_not.1 a), by simpa using b, by simpa using c, by simpa using d, by omega, f⟩
theorem grant_keeps {t : Ls} {job : Dg} {wk : ByteArray} {m : Int} (h : grantE t job wk m = 0) : VL (withL t t.l job wk m) := by
  obtain ⟨a, b, c, d, e, f⟩ := grant_ok h
  exact a.more (List.Sublist.refl _) e b c f (fun y hy e => by rw [hasB_iff.2 ⟨y, hy, e⟩] at d; cases d)
theorem renew_ok {t : Ls} {x : Lz} {m : Int} (h : renewE t x m = 0) : VL t ∧ x ∈ t.l ∧ fitB t.clock m = true ∧ t.epoch ≠ 1099511627776 := by
  unfold renewE at h
  split at h; · cases h
  split at h; · cases h
  split at h; · cases h
  split at h; · cases h
  rename_i a b c d
  exact ⟨check_iff.1 (Classical.not_not.1 a), memB_iff.1 (by simpa using b), by simpa using c, d⟩
theorem less_sub (l : List Lz) (x : Lz) : (lessL l x).Sublist l := List.filter_sublist
theorem less_mem {l : List Lz} {x y : Lz} : y ∈ lessL l x ↔ y ∈ l ∧ y ≠ x := by
  unfold lessL
  rw [List.mem_filter]
  simp
theorem less_len {t : Ls} (h : VL t) {x : Lz} (hx : x ∈ t.l) : (lessL t.l x).length + 1 = t.l.length := by
  have hd := h.nodup
  unfold lessL
  clear h
  generalize t.l = l at *
  induction l with
  | nil => cases hx
  | cons a l ih =>
    rw [List.nodup_cons] at hd
    by_cases e : a = x
    · subst e
      rw [List.filter_cons_of_neg (by simp), List.filter_eq_self.2 (fun y hy => by simp; intro e; subst e; exact hd.1 hy)]
      simp
    · rw [List.filter_cons_of_pos (by simpa using e)]
      have : x ∈ l := by
        rcases List.mem_cons.1 hx with h | h
        · exact absurd h.symm e
        · exact h
      simp [ih this hd.2]
theorem renew_keeps {t : Ls} {x : Lz} {m : Int} (h : renewE t x m = 0) : VL (withL t (lessL t.l x) x.1 x.2.1 m) := by
  obtain ⟨a, b, c, d⟩ := renew_ok h
  have hl := less_len a b
  have := a.len
  refine a.more (less_sub _ _) (by omega) (a.ok x b).1 c d (fun y hy e => ?_)
  obtain ⟨h1, h2⟩ := less_mem.1 hy
  exact h2 (a.one h1 b e)
theorem release_ok {t : Ls} {x : Lz} (h : releaseE t x = 0) : VL t ∧ x ∈ t.l := by
  unfold releaseE at h
  split at h; · cases h
  split at h; · cases h
  rename_i a b
  exact ⟨check_iff.1 (Classical.not_not.1 a), memB_iff.1 (by simpa using b)⟩
theorem release_keeps {t : Ls} {x : Lz} (h : VL t) : VL ⟨t.clock, t.epoch, lessL t.l x⟩ :=
  h.sub (less_sub _ _) (Int.le_refl _) h.c1 (fun y hy => (bad_iff.1 (h.ok y ((less_sub _ _).subset hy)).2).1)
theorem adv_ok {t : Ls} {c : Int} (h : advE t c = 0) : VL t ∧ t.clock ≤ c ∧ c ≤ 1099511627776 := by
  unfold advE at h
  split at h; · cases h
  split at h; · cases h
  rename_i a b
  exact ⟨check_iff.1 (Classical.not_not.1 a), by omega, by omega⟩
theorem adv_keeps {t : Ls} {c : Int} (h : advE t c = 0) : VL ⟨c, t.epoch, keepL t.l c⟩ := by
  obtain ⟨a, b, d⟩ := adv_ok h
  refine a.sub List.filter_sublist b d (fun x hx => ?_)
  have := (List.mem_filter.1 hx).2
  simp at this
  omega
theorem holds_iff {t : Ls} {x : Lz} : holdsB t x = true ↔ VL t ∧ x ∈ t.l := by
  unfold holdsB
  rw [Bool.and_eq_true, decide_eq_true_eq, check_iff, memB_iff]
theorem holds_eq {t : Ls} {x : Lz} (h : VL t) : holdsB t x = memB t.l x := by
  rw [Bool.eq_iff_iff, holds_iff, memB_iff]
  exact ⟨fun h => h.2, fun k => ⟨h, k⟩⟩
theorem keep_gone (l : List Lz) (c : Int) : (keepL l c).length + (goneL l c).length = l.length := by
  unfold keepL goneL
  induction l with
  | nil => rfl
  | cons a l ih =>
    by_cases h : a.2.2.1 ≤ c
    · rw [List.filter_cons_of_neg (by simpa using h), List.filter_cons_of_pos (by simpa using h)]
      simp; omega
    · rw [List.filter_cons_of_pos (by simp; omega), List.filter_cons_of_neg (by simpa using h)]
      simp; omega
theorem keep_mem {l : List Lz} {c : Int} {x : Lz} : x ∈ keepL l c ↔ x ∈ l ∧ c < x.2.2.1 := by
  unfold keepL
  rw [List.mem_filter]
  simp
theorem gone_mem {l : List Lz} {c : Int} {x : Lz} : x ∈ goneL l c ↔ x ∈ l ∧ x.2.2.1 ≤ c := by
  unfold goneL
  rw [List.mem_filter]
  simp
theorem advL_ok {t : Ls} {c : Int} (h : advE t c = 0) : advL t c = ⟨c, t.epoch, keepL t.l c⟩ ∧ advG t c = goneL t.l c := by
  have := adv_good h
  exact ⟨this.1, this.2.1⟩
end Go.Proofs.Ytghkldodceamcaa
