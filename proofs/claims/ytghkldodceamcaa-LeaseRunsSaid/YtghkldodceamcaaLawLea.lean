/-
  How leases come in.
-/
import Derived.Test.YtghkldodceamcaaLawDig
import Derived.Test.YtghkldodceamcaaLeaMb
namespace Go.Proofs.Ytghkldodceamcaa
open Go.ChangeShapes Go.WideShapes Go.ChangeAt Go.RowKit Go.Deep
theorem cells_lz : Try.prog.cellsOf 31 = 5 := by kernel_rfl
theorem cells_ls : Try.prog.cellsOf 24 = 3 := by kernel_rfl

theorem u8_nat {n : Int} (h : (Lit.int .u8 n).wf = true) : ∃ m : Nat, n = m ∧ m < 256 := by
  simp [Lit.wf, IntKind.min, IntKind.max, IntKind.signed, IntKind.bits] at h
  refine ⟨n.toNat, ?_, ?_⟩ <;> omega
theorem u16_nat {n : Int} (h : (Lit.int .u16 n).wf = true) : ∃ m : Nat, n = m ∧ m ≤ 65535 := by
  simp [Lit.wf, IntKind.min, IntKind.max, IntKind.signed, IntKind.bits] at h
  refine ⟨n.toNat, ?_, ?_⟩ <;> omega
section
variable {H : Type} {enc : TypeId × Value → H} {W : World} {base : Nat} {sp : Nat → Bool} {held : Bool}

set_option maxRecDepth 100000 in
theorem trod_lz {fuel : Nat} {cs : List Value} {x : DataW H × List MemPlace} (h : DataW.trod enc Try.prog W base sp held fuel 31 cs = some x) : ∃ r : Lz, cs = lze r ∧ r.2.1.size ≤ maxLen ∧ (Lit.int .i64 r.2.2.1).wf = true ∧ (Lit.int .i64 r.2.2.2).wf = true := by
  obtain ⟨xs, m, rfl, rfl, hl, hn, hi⟩ := DataW.trod_struct Try.underlying31 h
  rw [cells_lz] at hl
  match cs, hl with
  | [c0, c1, c2, c3, c4], _ =>
    have h0 := hi 0 _ rfl
    have h1 := hi 1 _ rfl
    have h2 := hi 2 _ rfl
    have h3 := hi 3 _ rfl
    match xs, hn with
    | [x0, x1, x2, x3], _ =>
      simp [show Try.prog.cellsOf 3 = 1 from by kernel_rfl, show Try.prog.cellsOf 9 = 1 from by kernel_rfl, cells_dg] at h0 h1 h2 h3
      obtain ⟨d, ed⟩ := trod_dg h0
      obtain ⟨a, ea, _, sa⟩ := DataW.trod_string Try.underlying9 h1
      obtain ⟨u, eu, _, wu⟩ := DataW.trod_int Try.underlying3 h2
      obtain ⟨v, ev, _, wv⟩ := DataW.trod_int Try.underlying3 h3
      simp at ed ea eu ev
      obtain ⟨rfl, rfl⟩ := ed
      subst ea eu ev
      exact ⟨(d, a, u, v), rfl, sa, wu, wv⟩

set_option maxRecDepth 100000 in
theorem lzs_of_trod {fuel : Nat} {cs : List Value} {x : DataW H × List MemPlace} (hf : DataW.trod enc Try.prog W 0 (fun _ => true) true fuel 22 cs = some x) : ∃ (ao : Option Addr) (n cap : Nat) (l : List Lz), cs = [.slice ao n cap] ∧ n ≤ cap ∧ cap ≤ maxLen ∧ l.length = n ∧ Sl W 5 ao n (lzcells l) ∧ (∀ e ∈ l, e.2.1.size ≤ maxLen) ∧ (ao = none → cap = 0) := by
  rcases open_slice Try.underlying22 hf with ⟨hcs, _⟩ | ⟨a, len, cap, m, n, D, Pl, hcs, _, hl, hm, hmm, hx, hel⟩
  · exact ⟨none, 0, 0, [], hcs, Nat.le_refl _, by simp [maxLen], rfl, Sl.nil, (fun r hr => by cases hr), fun _ => rfl⟩
  · subst hcs
    rw [cells_lz] at hel hx
    simp at hmm
    have hd : ∀ i, i < len → ∃ r : Lz, W.cells? 0 (a.add (i * 5)) 5 = some (lze r) ∧ r.2.1.size ≤ maxLen := fun i hi => by
      obtain ⟨cs', h1, h2⟩ := hel i (by omega)
      obtain ⟨r, rfl, hs⟩ := trod_lz h2
      exact ⟨r, h1, hs.1⟩
    obtain ⟨f, hf'⟩ : ∃ f : Nat → Lz, ∀ i, i < len → W.cells? 0 (a.add (i * 5)) 5 = some (lze (f i)) ∧ (f i).2.1.size ≤ maxLen :=
      ⟨fun i => if h : i < len then (hd i h).choose else lz0, fun i hi => by simp only [hi, dif_pos]; exact (hd i hi).choose_spec⟩
    refine ⟨some a, len, cap, (List.range len).map f, rfl, hl, hm, by simp, ⟨by rw [lzcells_length]; simp, ?_⟩, ?_, fun e => by cases e⟩
    · rcases Nat.eq_zero_or_pos len with h0 | hpos
      · exact .inl h0
      · right
        have hcell : ∀ i (_ : i < len), ∀ j, j < 5 → W.cell? ((a.add (i * 5)).add j) = (lze (f i))[j]? := fun i hi j hj => (World.cells?_some (hf' i hi).1).2.2 j hj
        clear hf hd hel hx
        obtain ⟨b, off, spot⟩ := a
        have h00 := hcell 0 hpos 0 (by omega)
        have hspot : spot = none := by simpa [Addr.add] using World.cell?_spot (h00.trans rfl)
        subst hspot
        have h00' : W.cell? ⟨b, off, none⟩ = some (.int .u64 (f 0).1.1.toNat) := by simpa [Addr.add] using h00
        refine ⟨b, off, rfl, World.block_lt_of_cell? W ⟨b, off, none⟩ h00', ?_⟩
        intro j u hj
        have hj' : j < len * 5 := by
          have := List.getElem?_eq_some_iff.1 hj
          obtain ⟨h, _⟩ := this
          rw [lzcells_length] at h
          simpa using h
        have hi5 : j / 5 < len := by omega
        have h4 := hcell (j / 5) hi5 (j % 5) (by omega)
        rw [Addr.add_lit, Addr.add_lit, show off + j / 5 * 5 + j % 5 = off + j by omega] at h4
        rw [h4, ← hj]
        have hk : j / 5 < ((List.range len).map f).length := by simpa using hi5
        have e := lzcells_at hk
        have ef : ((List.range len).map f)[j / 5] = f (j / 5) := by simp
        rw [ef] at e
        have hm4 : j % 5 = 0 ∨ j % 5 = 1 ∨ j % 5 = 2 ∨ j % 5 = 3 ∨ j % 5 = 4 := by omega
        rcases hm4 with h | h | h | h | h
        · rw [h, show j = j / 5 * 5 + 0 by omega, show (j / 5 * 5 + 0) / 5 = j / 5 by omega, e.1]; rfl
        · rw [h, show j = j / 5 * 5 + 1 by omega, show (j / 5 * 5 + 1) / 5 = j / 5 by omega, e.2.1]; rfl
        · rw [h, show j = j / 5 * 5 + 2 by omega, show (j / 5 * 5 + 2) / 5 = j / 5 by omega, e.2.2.1]; rfl
        · rw [h, show j = j / 5 * 5 + 3 by omega, show (j / 5 * 5 + 3) / 5 = j / 5 by omega, e.2.2.2.1]; rfl
        · rw [h, show j = j / 5 * 5 + 4 by omega, show (j / 5 * 5 + 4) / 5 = j / 5 by omega, e.2.2.2.2]; rfl
    · intro r hr
      rw [List.mem_map] at hr
      obtain ⟨i, hi, rfl⟩ := hr
      exact (hf' i (by simpa using hi)).2


set_option maxRecDepth 100000 in
theorem Arg.lz {v : Value} (h : Arg enc W 31 v) : ∃ x : Lz, v = .agg (lzc x) ∧ x.2.1.size ≤ maxLen ∧ (Lit.int .i64 x.2.2.1).wf = true ∧ (Lit.int .i64 x.2.2.2).wf = true := by
  obtain ⟨⟨base, hv⟩, d, p, ⟨fuel, hf⟩, _⟩ := h
  unfold Value.okWide at hv
  rw [Try.underlying31] at hv
  obtain ⟨cs, rfl, _⟩ := hv
  have hf' : DataW.trod enc Try.prog W 0 (fun _ => true) true fuel 31 cs.toList = some (d, p) := hf
  obtain ⟨x, hx, hs⟩ := trod_lz hf'
  refine ⟨x, ?_, hs⟩
  congr 1
  rw [← Array.toList_inj, hx]

set_option maxRecDepth 100000 in
theorem Arg.ls {v : Value} (h : Arg enc W 24 v) : ∃ (t : Ls) (ao : Option Addr) (n cap : Nat), v = .agg (tcells t ao n cap) ∧ n ≤ cap ∧ (ao = none → cap = 0) ∧ LsA W ao n t ∧ (Lit.int .i64 t.clock).wf = true ∧ (Lit.int .i64 t.epoch).wf = true := by
  obtain ⟨⟨base, hv⟩, d, p, ⟨fuel, hf⟩, _⟩ := h
  unfold Value.okWide at hv
  rw [Try.underlying24] at hv
  obtain ⟨cs, rfl, _⟩ := hv
  have hf' : DataW.trod enc Try.prog W 0 (fun _ => true) true fuel 24 cs.toList = some (d, p) := hf
  clear hf
  obtain ⟨xs, m, rfl, _, hl, hn, hi⟩ := DataW.trod_struct Try.underlying24 hf'
  rw [cells_ls] at hl
  generalize hcs : cs.toList = l at *
  match l, hl with
  | [c0, c1, c2], _ =>
    have h0 := hi 0 _ rfl
    have h1 := hi 1 _ rfl
    have h2 := hi 2 _ rfl
    match xs, hn with
    | [x0, x1, x2], _ =>
      simp [show Try.prog.cellsOf 3 = 1 from by kernel_rfl, show Try.prog.cellsOf 22 = 1 from by kernel_rfl] at h0 h1 h2
      obtain ⟨k, ek, _, wk⟩ := DataW.trod_int Try.underlying3 h0
      obtain ⟨ep, ee, _, we⟩ := DataW.trod_int Try.underlying3 h1
      obtain ⟨ao, n, cap, l, el, e1, e2, e3, e4, e5, e6⟩ := lzs_of_trod h2
      simp at ek ee el
      subst ek ee el
      refine ⟨⟨k, ep, l⟩, ao, n, cap, ?_, e1, e6, ⟨e3, e4, by omega, e5⟩, wk, we⟩
      congr 1
      rw [← Array.toList_inj, hcs]
end
end Go.Proofs.Ytghkldodceamcaa
