/-
  How records and ledgers come in.
-/
import Derived.Test.YtbghpjedldhnhaaLawDig
import Derived.Test.YtbghpjedldhnhaaLedHead
namespace Go.Proofs.Ytbghpjedldhnhaa
open Go.ChangeShapes Go.WideShapes Go.ChangeAt Go.RowKit Go.Deep
theorem cells_rec : Try.prog.cellsOf 36 = 4 := by kernel_rfl
theorem cells_led : Try.prog.cellsOf 26 = 1 := by kernel_rfl
abbrev rvs (r : Rec) : List Value := [.int .i64 r.1, .string r.2.1, .string r.2.2.1, .string r.2.2.2]

section
variable {H : Type} {enc : TypeId × Value → H} {W : World} {base : Nat} {sp : Nat → Bool} {held : Bool}

set_option maxRecDepth 100000 in
theorem trod_rec {fuel : Nat} {cs : List Value} {x : DataW H × List MemPlace} (h : DataW.trod enc Try.prog W base sp held fuel 36 cs = some x) : ∃ r : Rec, cs = rvs r ∧ RecS r ∧ (Lit.int .i64 r.1).wf = true := by
  obtain ⟨xs, m, rfl, rfl, hl, hn, hi⟩ := DataW.trod_struct Try.underlying36 h
  rw [cells_rec] at hl
  match cs, hl with
  | [c0, c1, c2, c3], _ =>
    have h0 := hi 0 _ rfl
    have h1 := hi 1 _ rfl
    have h2 := hi 2 _ rfl
    have h3 := hi 3 _ rfl
    match xs, hn with
    | [x0, x1, x2, x3], _ =>
      simp [show Try.prog.cellsOf 3 = 1 from by kernel_rfl, show Try.prog.cellsOf 9 = 1 from by kernel_rfl] at h0 h1 h2 h3
      obtain ⟨a, ea, _, wa⟩ := DataW.trod_int Try.underlying3 h0
      obtain ⟨b, eb, _, sb⟩ := DataW.trod_string Try.underlying9 h1
      obtain ⟨c, ec, _, sc⟩ := DataW.trod_string Try.underlying9 h2
      obtain ⟨d, ed, _, sd⟩ := DataW.trod_string Try.underlying9 h3
      simp at ea eb ec ed
      subst ea eb ec ed
      exact ⟨(a, b, c, d), rfl, ⟨sb, sc, sd⟩, wa⟩

set_option maxRecDepth 100000 in
theorem Arg.rec_ {v : Value} (h : Arg enc W 36 v) : ∃ r : Rec, v = rv r ∧ RecS r ∧ (Lit.int .i64 r.1).wf = true := by
  obtain ⟨⟨base, hv⟩, d, p, ⟨fuel, hf⟩, _⟩ := h
  unfold Value.okWide at hv
  rw [Try.underlying36] at hv
  obtain ⟨cs, rfl, _⟩ := hv
  have hf' : DataW.trod enc Try.prog W 0 (fun _ => true) true fuel 36 cs.toList = some (d, p) := hf
  obtain ⟨r, hc, hs, hw⟩ := trod_rec hf'
  refine ⟨r, ?_, hs, hw⟩
  rw [rv]
  congr 1
  rw [← Array.toList_inj, hc]

set_option maxRecDepth 100000 in
theorem recs_of_trod {fuel : Nat} {cs : List Value} {x : DataW H × List MemPlace} (hf : DataW.trod enc Try.prog W 0 (fun _ => true) true fuel 22 cs = some x) : ∃ (ao : Option Addr) (n cap : Nat) (l : List Rec), cs = [.slice ao n cap] ∧ n ≤ cap ∧ cap ≤ maxLen ∧ LedA W ao n cap l := by
  rcases open_slice Try.underlying22 hf with ⟨hcs, _⟩ | ⟨a, len, cap, m, n, D, Pl, hcs, _, hl, hm, hmm, hx, hel⟩
  · exact ⟨none, 0, 0, [], hcs, Nat.le_refl _, by simp [maxLen], ⟨rfl, Sl.nil, (fun r hr => by cases hr), by simp [maxLen]⟩⟩
  · subst hcs
    rw [cells_rec] at hel hx
    simp at hmm
    have hd : ∀ i, i < len → ∃ r : Rec, W.cells? 0 (a.add (i * 4)) 4 = some (rvs r) ∧ RecS r := fun i hi => by
      obtain ⟨cs', h1, h2⟩ := hel i (by omega)
      obtain ⟨r, rfl, hs, _⟩ := trod_rec h2
      exact ⟨r, h1, hs⟩
    obtain ⟨f, hf'⟩ : ∃ f : Nat → Rec, ∀ i, i < len → W.cells? 0 (a.add (i * 4)) 4 = some (rvs (f i)) ∧ RecS (f i) :=
      ⟨fun i => if h : i < len then (hd i h).choose else (0, default, default, default), fun i hi => by simp only [hi, dif_pos]; exact (hd i hi).choose_spec⟩
    refine ⟨some a, len, cap, (List.range len).map f, rfl, hl, hm, ⟨by simp, ⟨by rw [rcells_length]; simp, ?_⟩, ?_, by omega⟩⟩
    · rcases Nat.eq_zero_or_pos len with h0 | hpos
      · exact .inl h0
      · right
        have hcell : ∀ i (_ : i < len), ∀ j, j < 4 → W.cell? ((a.add (i * 4)).add j) = (rvs (f i))[j]? := fun i hi j hj => (World.cells?_some (hf' i hi).1).2.2 j hj
        clear hf hd hel hx
        obtain ⟨b, off, spot⟩ := a
        have h00 := hcell 0 hpos 0 (by omega)
        have hspot : spot = none := by simpa [Addr.add] using World.cell?_spot (h00.trans rfl)
        subst hspot
        have h00' : W.cell? ⟨b, off, none⟩ = some (.int .i64 (f 0).1) := by simpa [Addr.add] using h00
        refine ⟨b, off, rfl, World.block_lt_of_cell? W ⟨b, off, none⟩ h00', ?_⟩
        intro j u hj
        have hj' : j < len * 4 := by
          have := List.getElem?_eq_some_iff.1 hj
          obtain ⟨h, _⟩ := this
          rw [rcells_length] at h
          simpa using h
        have hi4 : j / 4 < len := by omega
        have h4 := hcell (j / 4) hi4 (j % 4) (by omega)
        rw [Addr.add_lit, Addr.add_lit, show off + j / 4 * 4 + j % 4 = off + j by omega] at h4
        rw [h4, ← hj]
        have hk : j / 4 < ((List.range len).map f).length := by simpa using hi4
        have e := rcells_at hk
        have ef : ((List.range len).map f)[j / 4] = f (j / 4) := by simp
        rw [ef] at e
        have hm4 : j % 4 = 0 ∨ j % 4 = 1 ∨ j % 4 = 2 ∨ j % 4 = 3 := by omega
        rcases hm4 with h | h | h | h
        · rw [h, show j = j / 4 * 4 + 0 by omega, show (j / 4 * 4 + 0) / 4 = j / 4 by omega, e.1]; rfl
        · rw [h, show j = j / 4 * 4 + 1 by omega, show (j / 4 * 4 + 1) / 4 = j / 4 by omega, e.2.1]; rfl
        · rw [h, show j = j / 4 * 4 + 2 by omega, show (j / 4 * 4 + 2) / 4 = j / 4 by omega, e.2.2.1]; rfl
        · rw [h, show j = j / 4 * 4 + 3 by omega, show (j / 4 * 4 + 3) / 4 = j / 4 by omega, e.2.2.2]; rfl
    · intro r hr
      rw [List.mem_map] at hr
      obtain ⟨i, hi, rfl⟩ := hr
      exact (hf' i (by simpa using hi)).2

set_option maxRecDepth 100000 in
theorem Arg.led {v : Value} (h : Arg enc W 26 v) : ∃ (ao : Option Addr) (n cap : Nat) (l : List Rec), v = .agg #[.slice ao n cap] ∧ n ≤ cap ∧ cap ≤ maxLen ∧ LedA W ao n cap l := by
  obtain ⟨⟨base, hv⟩, d, p, ⟨fuel, hf⟩, _⟩ := h
  unfold Value.okWide at hv
  rw [Try.underlying26] at hv
  obtain ⟨cs, rfl, _⟩ := hv
  have hf' : DataW.trod enc Try.prog W 0 (fun _ => true) true fuel 26 cs.toList = some (d, p) := hf
  clear hf
  obtain ⟨xs, m, rfl, _, hl, hn, hi⟩ := DataW.trod_struct Try.underlying26 hf'
  rw [cells_led] at hl
  generalize hcs : cs.toList = l at *
  match l, hl with
  | [c0], _ =>
    have h0 := hi 0 _ rfl
    match xs, hn with
    | [x0], _ =>
      simp [show Try.prog.cellsOf 22 = 1 from by kernel_rfl] at h0
      obtain ⟨ao, n, cap, l, e, h1, h2, h3⟩ := recs_of_trod h0
      simp at e
      subst e
      refine ⟨ao, n, cap, l, ?_, h1, h2, h3⟩
      congr 1
      rw [← Array.toList_inj, hcs]
end
end Go.Proofs.Ytbghpjedldhnhaa
