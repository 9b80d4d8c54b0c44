/-
  LeaseRuns: the claim.
-/
import Derived.Test.YtghkldodceamcaaLeaLawRuns
import Derived.Test.YtghkldodceamcaaLawLea
namespace Go.Proofs.Ytghkldodceamcaa
open Go.ChangeShapes Go.WideShapes Go.ChangeAt Go.RowKit Go.Deep
theorem cells_de : Try.prog.cellsOf 51 = 5 := by kernel_rfl

section
variable {H : Type} {enc : TypeId × Value → H} {W : World} {base : Nat} {sp : Nat → Bool} {held : Bool}

set_option maxRecDepth 100000 in
theorem trod_de {fuel : Nat} {cs : List Value} {x : DataW H × List MemPlace} (h : DataW.trod enc Try.prog W base sp held fuel 51 cs = some x) : ∃ r : De, cs = (dec r).toList ∧ deOk r := by
  obtain ⟨xs, m, rfl, rfl, hl, hn, hi⟩ := DataW.trod_struct Try.underlying51 h
  rw [cells_de] at hl
  match cs, hl with
  | [c0, c1, c2, c3, c4], _ =>
    have h0 := hi 0 _ rfl
    have h1 := hi 1 _ rfl
    have h2 := hi 2 _ rfl
    have h3 := hi 3 _ rfl
    have h4 := hi 4 _ rfl
    match xs, hn with
    | [x0, x1, x2, x3, x4], _ =>
      simp [show Try.prog.cellsOf 5 = 1 from by kernel_rfl] at h0 h1 h2 h3 h4
      obtain ⟨a0, e0, _, q0⟩ := DataW.trod_int Try.underlying5 h0
      obtain ⟨a1, e1, _, q1⟩ := DataW.trod_int Try.underlying5 h1
      obtain ⟨a2, e2, _, q2⟩ := DataW.trod_int Try.underlying5 h2
      obtain ⟨a3, e3, _, q3⟩ := DataW.trod_int Try.underlying5 h3
      obtain ⟨a4, e4, _, q4⟩ := DataW.trod_int Try.underlying5 h4
      simp at e0 e1 e2 e3 e4
      subst e0 e1 e2 e3 e4
      obtain ⟨m0, rfl, s0⟩ := u8_nat q0
      obtain ⟨m1, rfl, s1⟩ := u8_nat q1
      obtain ⟨m2, rfl, s2⟩ := u8_nat q2
      obtain ⟨m3, rfl, s3⟩ := u8_nat q3
      obtain ⟨m4, rfl, s4⟩ := u8_nat q4
      exact ⟨(m0, m1, m2, m3, m4), rfl, s0, s1, s2, s3, s4⟩

set_option maxRecDepth 100000 in
theorem des_of_trod {fuel : Nat} {cs : List Value} {x : DataW H × List MemPlace} (hf : DataW.trod enc Try.prog W 0 (fun _ => true) true fuel 49 cs = some x) : ∃ (ao : Option Addr) (n cap : Nat) (l : List De), cs = [.slice ao n cap] ∧ l.length = n ∧ Sl W 5 ao n (decells l) ∧ (∀ e ∈ l, deOk e) := by
  rcases open_slice Try.underlying49 hf with ⟨hcs, _⟩ | ⟨a, len, cap, m, n, D, Pl, hcs, _, hl, hm, hmm, hx, hel⟩
  · exact ⟨none, 0, 0, [], hcs, rfl, Sl.nil, (fun r hr => by cases hr)⟩
  · subst hcs
    rw [cells_de] at hel hx
    simp at hmm
    have hd : ∀ i, i < len → ∃ r : De, W.cells? 0 (a.add (i * 5)) 5 = some (dec r).toList ∧ deOk r := fun i hi => by
      obtain ⟨cs', h1, h2⟩ := hel i (by omega)
      obtain ⟨r, rfl, hs⟩ := trod_de h2
      exact ⟨r, h1, hs⟩
    obtain ⟨f, hf'⟩ : ∃ f : Nat → De, ∀ i, i < len → W.cells? 0 (a.add (i * 5)) 5 = some (dec (f i)).toList ∧ deOk (f i) :=
      ⟨fun i => if h : i < len then (hd i h).choose else (0, 0, 0, 0, 0), fun i hi => by simp only [hi, dif_pos]; exact (hd i hi).choose_spec⟩
    refine ⟨some a, len, cap, (List.range len).map f, rfl, by simp, ⟨by rw [decells_length]; simp; omega, ?_⟩, ?_⟩
    · rcases Nat.eq_zero_or_pos len with h0 | hpos
      · exact .inl h0
      · right
        have hcell : ∀ i (_ : i < len), ∀ j, j < 5 → W.cell? ((a.add (i * 5)).add j) = (dec (f i)).toList[j]? := fun i hi j hj => (World.cells?_some (hf' i hi).1).2.2 j hj
        clear hf hd hel hx
        obtain ⟨b, off, spot⟩ := a
        have h00 := hcell 0 hpos 0 (by omega)
        have hspot : spot = none := by simpa [Addr.add] using World.cell?_spot (h00.trans rfl)
        subst hspot
        have h00' : W.cell? ⟨b, off, none⟩ = some (.int .u8 (f 0).1) := by simpa [Addr.add] using h00
        refine ⟨b, off, rfl, World.block_lt_of_cell? W ⟨b, off, none⟩ h00', ?_⟩
        intro j u hj
        have hj' : j < len * 5 := by
          have := List.getElem?_eq_some_iff.1 hj
          obtain ⟨h, _⟩ := this
          rw [decells_length] at h
          simp at h
          omega
        have hi5 : j / 5 < len := by omega
        have h4 := hcell (j / 5) hi5 (j % 5) (by omega)
        rw [Addr.add_lit, Addr.add_lit, show off + j / 5 * 5 + j % 5 = off + j by omega] at h4
        rw [h4, ← hj]
        have hk : j / 5 < ((List.range len).map f).length := by simpa using hi5
        have e := decells_at hk
        have ef : ((List.range len).map f)[j / 5] = f (j / 5) := by simp
        rw [ef] at e
        have hm4 : j % 5 = 0 ∨ j % 5 = 1 ∨ j % 5 = 2 ∨ j % 5 = 3 ∨ j % 5 = 4 := by omega
        rcases hm4 with h | h | h | h | h
        · rw [h, show j = j / 5 * 5 + 0 by omega, show (j / 5 * 5 + 0) / 5 = j / 5 by omega, e.1]; rfl
        · rw [h, show j = j / 5 * 5 + 1 by omega, show (j / 5 * 5 + 1) / 5 = j / 5 by omega, e.2.1]; rfl
        · rw [h, show j = j / 5 * 5 + 2 by omega, show (j / 5 * 5 + 2) / 5 = j / 5 by omega, e.2.2.1]; rfl
        · rw [h, show j = j / 5 * 5 + 3 by omega, show (j / 5 * 5 + 3) / 5 = j / 5 by omega, e.2.2.2.1]; rfl
        · rw [h, show j = j / 5 * 5 + 4 by omega, show (j / 5 * 5 + 4) / 5 = j / 5 by omega, e.2.2.2.2]; rfl
    · intro r hr
      rw [List.mem_map] at hr
      obtain ⟨i, hi, rfl⟩ := hr
      exact (hf' i (by simpa using hi)).2

set_option maxRecDepth 100000 in
theorem Arg.des {v : Value} (h : Arg enc W 49 v) : ∃ (ds : List De) (ao : Option Addr) (n cap : Nat), v = .slice ao n cap ∧ ds.length = n ∧ (∀ d ∈ ds, deOk d) ∧ Sl W 5 ao n (decells ds) := by
  obtain ⟨⟨base, hv⟩, d, p, ⟨fuel, hf⟩, _⟩ := h
  obtain ⟨sa, sn, sc, rfl⟩ := okWide_slice Try.underlying49 hv
  obtain ⟨ao, n, cap, l', e1, e2, e3, e4⟩ := des_of_trod hf
  simp [Value.cells] at e1
  obtain ⟨rfl, rfl, rfl⟩ := e1
  exact ⟨l', _, _, _, rfl, e2, e4, e3⟩
end

set_option maxRecDepth 100000 in
theorem leaseRuns_lifted (os : Os) (started : os.Started) (H : Type) (enc : TypeId × Value → H) :
    ReturnsInHanded {} Try.checked os 7 .any (Rows.leaseRunsSpec.pre6 enc Try.prog Try.f7 Rows.leaseRunsRow.domain false) (Rows.leaseRunsSpec.post enc Try.prog Try.f7 false true false false) := by
  refine law_lift started (by kernel_rfl) Try.func7 rfl rfl (by kernel_rfl) ?_ (ChangeSpec.witness6 (enc := enc) (C := Try.checked) false ⟨#[], #[.slice none 0 0], []⟩ 8 (by kernel_rfl) (by kernel_rfl) (by kernel_rfl) (by kernel_rfl)) ?_
  · intro ds h
    rw [Try.params7] at h
    match ds, h with
    | [_], _ => exact ⟨rfl, rfl, rfl⟩
  · intro W vs h
    rw [Try.params7] at h
    match vs, h with
    | [v0], ⟨h0, _⟩ =>
      obtain ⟨ds, ao, n, cap, rfl, hl, hok, hs⟩ := h0.des
      exact LawRuns_any ds ao n cap W hl hok hs

theorem leaseRuns_holds : Rows.LeaseRunsSaid :=
  OpenClaim.holds_of_wide 7 Try.f7 rfl rfl rfl rfl rfl rfl rfl ⟨rfl, rfl, rfl, rfl, rfl⟩ rfl rfl rfl rfl rfl (by kernel_rfl) Try.func7 (by kernel_rfl)
    (of_decide_eq_true (by kernel_rfl)) (by unfold Func.isWrapper; first | (rw [if_pos (by decide +kernel)]; kernel_rfl) | (rw [if_neg (by decide +kernel)]; exact ⟨rfl, rfl⟩))
    (fun os started H enc _ => leaseRuns_lifted os started H enc)
#print axioms leaseRuns_holds
end Go.Proofs.Ytghkldodceamcaa
