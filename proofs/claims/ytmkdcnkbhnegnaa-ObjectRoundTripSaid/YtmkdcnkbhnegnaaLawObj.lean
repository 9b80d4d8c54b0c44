/-
  How objects come in.
-/
import Derived.Test.YtmkdcnkbhnegnaaLawDig
import Derived.Test.YtmkdcnkbhnegnaaObjComm
namespace Go.Proofs.Ytmkdcnkbhnegnaa
open Go.ChangeShapes Go.WideShapes Go.ChangeAt Go.RowKit Go.Deep
theorem cells_ent : Try.prog.cellsOf 45 = 4 := by kernel_rfl
theorem cells_obj : Try.prog.cellsOf 28 = 9 := by kernel_rfl
abbrev evs (r : Ent) : List Value := [.string r.1, .bool r.2.1, .int .u64 r.2.2.1.toNat, .int .u64 r.2.2.2.toNat]

section
variable {H : Type} {enc : TypeId × Value → H} {W : World} {base : Nat} {sp : Nat → Bool} {held : Bool}

set_option maxRecDepth 100000 in
theorem trod_ent {fuel : Nat} {cs : List Value} {x : DataW H × List MemPlace} (h : DataW.trod enc Try.prog W base sp held fuel 45 cs = some x) : ∃ r : Ent, cs = evs r ∧ r.1.size ≤ maxLen := by
  obtain ⟨xs, m, rfl, rfl, hl, hn, hi⟩ := DataW.trod_struct Try.underlying45 h
  rw [cells_ent] at hl
  match cs, hl with
  | [c0, c1, c2, c3], _ =>
    have h0 := hi 0 _ rfl
    have h1 := hi 1 _ rfl
    have h2 := hi 2 _ rfl
    match xs, hn with
    | [x0, x1, x2], _ =>
      simp [show Try.prog.cellsOf 4 = 1 from by kernel_rfl, show Try.prog.cellsOf 9 = 1 from by kernel_rfl, cells_dg] at h0 h1 h2
      obtain ⟨a, ea, _, sa⟩ := DataW.trod_string Try.underlying9 h0
      obtain ⟨b, eb, _⟩ := DataW.trod_bool Try.underlying4 h1
      obtain ⟨d, ed⟩ := trod_dg h2
      simp at ea eb ed
      obtain ⟨rfl, rfl⟩ := ed
      subst ea eb
      exact ⟨(a, b, d), rfl, sa⟩

set_option maxRecDepth 100000 in
theorem ents_of_trod {fuel : Nat} {cs : List Value} {x : DataW H × List MemPlace} (hf : DataW.trod enc Try.prog W 0 (fun _ => true) true fuel 22 cs = some x) : ∃ (ao : Option Addr) (n cap : Nat) (l : List Ent), cs = [.slice ao n cap] ∧ n ≤ cap ∧ cap ≤ maxLen ∧ l.length = n ∧ Sl W 4 ao n (ecells l) ∧ (∀ e ∈ l, e.1.size ≤ maxLen) := by
  rcases open_slice Try.underlying22 hf with ⟨hcs, _⟩ | ⟨a, len, cap, m, n, D, Pl, hcs, _, hl, hm, hmm, hx, hel⟩
  · exact ⟨none, 0, 0, [], hcs, Nat.le_refl _, by simp [maxLen], rfl, Sl.nil, (fun r hr => by cases hr)⟩
  · subst hcs
    rw [cells_ent] at hel hx
    simp at hmm
    have hd : ∀ i, i < len → ∃ r : Ent, W.cells? 0 (a.add (i * 4)) 4 = some (evs r) ∧ r.1.size ≤ maxLen := fun i hi => by
      obtain ⟨cs', h1, h2⟩ := hel i (by omega)
      obtain ⟨r, rfl, hs⟩ := trod_ent h2
      exact ⟨r, h1, hs⟩
    obtain ⟨f, hf'⟩ : ∃ f : Nat → Ent, ∀ i, i < len → W.cells? 0 (a.add (i * 4)) 4 = some (evs (f i)) ∧ (f i).1.size ≤ maxLen :=
      ⟨fun i => if h : i < len then (hd i h).choose else (default, false, (0, 0)), fun i hi => by simp only [hi, dif_pos]; exact (hd i hi).choose_spec⟩
    refine ⟨some a, len, cap, (List.range len).map f, rfl, hl, hm, by simp, ⟨by rw [ecells_length]; simp, ?_⟩, ?_⟩
    · rcases Nat.eq_zero_or_pos len with h0 | hpos
      · exact .inl h0
      · right
        have hcell : ∀ i (_ : i < len), ∀ j, j < 4 → W.cell? ((a.add (i * 4)).add j) = (evs (f i))[j]? := fun i hi j hj => (World.cells?_some (hf' i hi).1).2.2 j hj
        clear hf hd hel hx
        obtain ⟨b, off, spot⟩ := a
        have h00 := hcell 0 hpos 0 (by omega)
        have hspot : spot = none := by simpa [Addr.add] using World.cell?_spot (h00.trans rfl)
        subst hspot
        have h00' : W.cell? ⟨b, off, none⟩ = some (.string (f 0).1) := by simpa [Addr.add] using h00
        refine ⟨b, off, rfl, World.block_lt_of_cell? W ⟨b, off, none⟩ h00', ?_⟩
        intro j u hj
        have hj' : j < len * 4 := by
          have := List.getElem?_eq_some_iff.1 hj
          obtain ⟨h, _⟩ := this
          rw [ecells_length] at h
          simpa using h
        have hi4 : j / 4 < len := by omega
        have h4 := hcell (j / 4) hi4 (j % 4) (by omega)
        rw [Addr.add_lit, Addr.add_lit, show off + j / 4 * 4 + j % 4 = off + j by omega] at h4
        rw [h4, ← hj]
        have hk : j / 4 < ((List.range len).map f).length := by simpa using hi4
        have e := ecells_at hk
        have ef : ((List.range len).map f)[j / 4] = f (j / 4) := by simp
        rw [ef] at e
        have hm4 : j % 4 = 0 ∨ j % 4 = 1 ∨ j % 4 = 2 ∨ j % 4 = 3 := by omega
        rcases hm4 with h | h | h | h
        · rw [h, show j = j / 4 * 4 + 0 by omega, show (j / 4 * 4 + 0) / 4 = j / 4 by omega, e.1]; rfl
        · rw [h, show j = j / 4 * 4 + 1 by omega, show (j / 4 * 4 + 1) / 4 = j / 4 by omega, e.2.1]; rfl
        · rw [h, show j = j / 4 * 4 + 2 by omega, show (j / 4 * 4 + 2) / 4 = j / 4 by omega, e.2.2.1]; rfl
        · rw [h, show j = j / 4 * 4 + 3 by omega, show (j / 4 * 4 + 3) / 4 = j / 4 by omega, e.2.2.2]; rfl
    · intro r hr
      rw [List.mem_map] at hr
      obtain ⟨i, hi, rfl⟩ := hr
      exact (hf' i (by simpa using hi)).2

theorem dgs_nil {fuel : Nat} {n cap : Nat} {x : DataW H × List MemPlace} (hf : DataW.trod enc Try.prog W 0 (fun _ => true) true fuel 26 [.slice none n cap] = some x) : cap = 0 := by
  rcases open_slice Try.underlying26 hf with ⟨hcs, _⟩ | ⟨a, len, cap, m, n, D, Pl, hcs, _⟩
  · simp at hcs; exact hcs.2
  · simp at hcs

set_option maxRecDepth 100000 in
theorem Arg.obj {v : Value} (h : Arg enc W 28 v) : ∃ (o : Ob) (ae ap : Option Addr) (ne ce np cp : Nat), v = .agg (ocells o ae ne ce ap np cp) ∧ ne ≤ ce ∧ np ≤ cp ∧ ce ≤ maxLen ∧ cp ≤ maxLen ∧ (ap = none → cp = 0) ∧ ObjA W ae ne ap np o ∧ (Lit.int .i64 o.kind).wf = true ∧ (Lit.int .i64 o.time).wf = true := by
  obtain ⟨⟨base, hv⟩, d, p, ⟨fuel, hf⟩, _⟩ := h
  unfold Value.okWide at hv
  rw [Try.underlying28] at hv
  obtain ⟨cs, rfl, _⟩ := hv
  have hf' : DataW.trod enc Try.prog W 0 (fun _ => true) true fuel 28 cs.toList = some (d, p) := hf
  clear hf
  obtain ⟨xs, m, rfl, _, hl, hn, hi⟩ := DataW.trod_struct Try.underlying28 hf'
  rw [cells_obj] at hl
  generalize hcs : cs.toList = l at *
  match l, hl with
  | [c0, c1, c2, c3, c4, c5, c6, c7, c8], _ =>
    have h0 := hi 0 _ rfl
    have h1 := hi 1 _ rfl
    have h2 := hi 2 _ rfl
    have h3 := hi 3 _ rfl
    have h4 := hi 4 _ rfl
    have h5 := hi 5 _ rfl
    have h6 := hi 6 _ rfl
    have h7 := hi 7 _ rfl
    match xs, hn with
    | [x0, x1, x2, x3, x4, x5, x6, x7], _ =>
      simp [show Try.prog.cellsOf 3 = 1 from by kernel_rfl, show Try.prog.cellsOf 9 = 1 from by kernel_rfl, cells_dg, show Try.prog.cellsOf 22 = 1 from by kernel_rfl, show Try.prog.cellsOf 26 = 1 from by kernel_rfl] at h0 h1 h2 h3 h4 h5 h6 h7
      obtain ⟨k, ek, _, wk⟩ := DataW.trod_int Try.underlying3 h0
      obtain ⟨dt, ed, _, sd⟩ := DataW.trod_string Try.underlying9 h1
      obtain ⟨ae, ne, ce, le, ee, e1, e2, e3, e4, e5⟩ := ents_of_trod h2
      obtain ⟨tr, et⟩ := trod_dg h3
      have h4' := h4
      obtain ⟨ap, np, cp, lp, ep, p1, p2, p3, p4⟩ := dgs_of_trod h4
      obtain ⟨au, ea, _, sa⟩ := DataW.trod_string Try.underlying9 h5
      obtain ⟨ti, eti, _, wt⟩ := DataW.trod_int Try.underlying3 h6
      obtain ⟨ms, em, _, sm⟩ := DataW.trod_string Try.underlying9 h7
      simp at ek ed ee et ep ea eti em
      obtain ⟨rfl, rfl⟩ := et
      subst ek ed ee ep ea eti em
      have hz : ap = none → cp = 0 := fun e => by subst e; exact dgs_nil h4'
      refine ⟨⟨k, dt, le, tr, lp, au, ti, ms⟩, ae, ap, ne, ce, np, cp, ?_, e1, p2, e2, p3, hz, ⟨e3, e4, by omega, e5, p1, p4, by omega, sd, sa, sm⟩, wk, wt⟩
      rw [ocells]
      congr 1
      rw [← Array.toList_inj, hcs]
end
end Go.Proofs.Ytmkdcnkbhnegnaa
