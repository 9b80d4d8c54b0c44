/-
  How digests and slices of digests come in.
-/
import Derived.Test.YtghkldodceamcaaLaw
import Derived.Test.YtghkldodceamcaaDigRootOf
import Derived.Deep.Slices
namespace Go.Proofs.Ytghkldodceamcaa
open Go.ChangeShapes Go.WideShapes Go.ChangeAt Go.RowKit Go.Deep
theorem cells_dg : Try.prog.cellsOf 27 = 2 := by kernel_rfl

section
variable {H : Type} {enc : TypeId × Value → H} {W : World} {base : Nat} {sp : Nat → Bool} {held : Bool}

set_option maxRecDepth 100000 in
theorem trod_dg {fuel : Nat} {cs : List Value} {x : DataW H × List MemPlace} (h : DataW.trod enc Try.prog W base sp held fuel 27 cs = some x) : ∃ d : Dg, cs = [.int .u64 d.1.toNat, .int .u64 d.2.toNat] := by
  obtain ⟨xs, m, rfl, rfl, hl, hn, hi⟩ := DataW.trod_array Try.underlying27 h
  rw [cells_dg] at hl
  match cs, hl with
  | [c0, c1], _ =>
    have h0 := hi 0 (by omega)
    have h1 := hi 1 (by omega)
    rw [show Try.prog.cellsOf 25 = 1 from by kernel_rfl] at h0 h1
    simp at h0 h1
    match xs, hn with
    | [x0, x1], _ =>
      obtain ⟨a, ea, _, wa⟩ := DataW.trod_int Try.underlying25 h0
      obtain ⟨b, eb, _, wb⟩ := DataW.trod_int Try.underlying25 h1
      simp at ea eb
      subst ea eb
      have key : ∀ n : Int, (Lit.int .u64 n).wf = true → ((UInt64.ofNat n.toNat).toNat : Int) = n := fun n hn => by
        have := bounds_u64 hn
        rw [UInt64.toNat_ofNat_of_lt' (by simp [UInt64.size]; omega)]
        omega
      refine ⟨(UInt64.ofNat a.toNat, UInt64.ofNat b.toNat), ?_⟩
      simp only []
      rw [key a wa, key b wb]

set_option maxRecDepth 100000 in
theorem Arg.dg {v : Value} (h : Arg enc W 27 v) : ∃ d : Dg, v = dv d := by
  obtain ⟨⟨base, hv⟩, d, p, ⟨fuel, hf⟩, _⟩ := h
  obtain ⟨dg, hc⟩ := trod_dg hf
  unfold Value.okWide at hv
  rw [Try.underlying27] at hv
  obtain ⟨cs, rfl, _, _⟩ := hv
  refine ⟨dg, ?_⟩
  have : cs.toList = _ := hc
  rw [dv]
  congr 1
  rw [← Array.toList_inj, this]

set_option maxRecDepth 100000 in
theorem dgs_of_trod {fuel : Nat} {cs : List Value} {x : DataW H × List MemPlace} (hf : DataW.trod enc Try.prog W 0 (fun _ => true) true fuel 77 cs = some x) : ∃ (ao : Option Addr) (n cap : Nat) (l : List Dg), cs = [.slice ao n cap] ∧ l.length = n ∧ n ≤ cap ∧ cap ≤ maxLen ∧ DSl W ao l := by
  rcases open_slice Try.underlying77 hf with ⟨hcs, _⟩ | ⟨a, len, cap, m, n, D, Pl, hcs, _, hl, hm, hmm, hx, hel⟩
  · exact ⟨none, 0, 0, [], hcs, rfl, Nat.le_refl _, by simp [maxLen], .inl rfl⟩
  · subst hcs
    rw [cells_dg] at hel hx
    simp at hmm
    have hd : ∀ i, i < len → ∃ dg : Dg, W.cells? 0 (a.add (i * 2)) 2 = some [.int .u64 dg.1.toNat, .int .u64 dg.2.toNat] := fun i hi => by
      obtain ⟨cs', h1, h2⟩ := hel i (by omega)
      obtain ⟨dg, rfl⟩ := trod_dg h2
      exact ⟨dg, h1⟩
    obtain ⟨f, hf'⟩ : ∃ f : Nat → Dg, ∀ i, i < len → W.cells? 0 (a.add (i * 2)) 2 = some [.int .u64 (f i).1.toNat, .int .u64 (f i).2.toNat] :=
      ⟨fun i => if h : i < len then (hd i h).choose else (0, 0), fun i hi => by simp only [hi, dif_pos]; exact (hd i hi).choose_spec⟩
    refine ⟨some a, len, cap, (List.range len).map f, rfl, by simp, hl, hm, ?_⟩
    rcases Nat.eq_zero_or_pos len with h0 | hpos
    · exact .inl (by simp [h0])
    · right
      have hcell : ∀ i (_ : i < len), W.cell? (a.add (i * 2)) = some (.int .u64 (f i).1.toNat) ∧ W.cell? ((a.add (i * 2)).add 1) = some (.int .u64 (f i).2.toNat) := fun i hi => by
        have := hf' i hi
        unfold World.cells? at this
        rw [if_pos (Nat.zero_le _)] at this
        simp only [show List.range 2 = [0, 1] from rfl, List.mapM_cons, List.mapM_nil, Option.bind_eq_bind, Option.pure_def] at this
        cases h1 : W.cell? ((a.add (i * 2)).add 0) with
        | none => rw [h1] at this; cases this
        | some v1 =>
          cases h2 : W.cell? ((a.add (i * 2)).add 1) with
          | none => rw [h1, h2] at this; cases this
          | some v2 =>
            rw [h1, h2] at this
            simp at this
            obtain ⟨rfl, rfl⟩ := this
            exact ⟨by simpa [Addr.add] using h1, rfl⟩
      clear hf hf' hd hel hx
      obtain ⟨b, off, spot⟩ := a
      have hspot : spot = none := by simpa [Addr.add] using World.cell?_spot (hcell 0 hpos).1
      subst hspot
      refine ⟨b, off, rfl, World.block_lt_of_cell? W ⟨b, off, none⟩ (by simpa [Addr.add] using (hcell 0 hpos).1), ?_⟩
      intro j hj
      have := hcell j (by simpa using hj)
      rw [Addr.add_lit, Addr.add_lit] at this
      simpa using this

set_option maxRecDepth 100000 in
theorem Arg.dgs {v : Value} (h : Arg enc W 77 v) : ∃ (ao : Option Addr) (n cap : Nat) (l : List Dg), v = .slice ao n cap ∧ l.length = n ∧ n ≤ cap ∧ cap ≤ maxLen ∧ DSl W ao l := by
  obtain ⟨⟨base, hv⟩, d, p, ⟨fuel, hf⟩, hlt⟩ := h
  obtain ⟨a0, len, cap, rfl⟩ := okWide_slice Try.underlying77 hv
  obtain ⟨ao, n, cap', l, hcs, h1, h2, h3, h4⟩ := dgs_of_trod hf
  simp [Value.cells] at hcs
  obtain ⟨rfl, rfl, rfl⟩ := hcs
  exact ⟨_, _, _, l, rfl, h1, h2, h3, h4⟩
end
end Go.Proofs.Ytghkldodceamcaa
