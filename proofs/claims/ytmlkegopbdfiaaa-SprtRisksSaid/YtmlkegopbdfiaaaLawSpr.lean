/-
  How trials and slices of bools come in.
-/
import Derived.Test.YtmlkegopbdfiaaaLaw
import Derived.Test.YtmlkegopbdfiaaaSprRun
import Derived.Deep.Slices
namespace Go.Proofs.Ytmlkegopbdfiaaa
open Go.ChangeShapes Go.WideShapes Go.ChangeAt Go.RowKit Go.Deep
theorem cells_ratio : Try.prog.cellsOf 23 = 2 := by kernel_rfl
theorem cells_trial : Try.prog.cellsOf 25 = 8 := by kernel_rfl
section
variable {H : Type} {enc : TypeId × Value → H} {W : World} {base : Nat} {sp : Nat → Bool} {held : Bool}

theorem trod_ratio {fuel : Nat} {cs : List Value} {x : DataW H × List MemPlace} (h : DataW.trod enc Try.prog W base sp held fuel 23 cs = some x) : ∃ n d : Int, cs = [.int .i64 n, .int .i64 d] := by
  obtain ⟨xs, m, rfl, rfl, hl, hn, hi⟩ := DataW.trod_struct Try.underlying23 h
  rw [cells_ratio] at hl
  match cs, hl with
  | [c0, c1], _ =>
    have h0 := hi 0 _ rfl
    have h1 := hi 1 _ rfl
    match xs, hn with
    | [x0, x1], _ =>
      simp [show Try.prog.cellsOf 3 = 1 from by kernel_rfl] at h0 h1
      obtain ⟨a, ea, _, _⟩ := DataW.trod_int Try.underlying3 h0
      obtain ⟨b, eb, _, _⟩ := DataW.trod_int Try.underlying3 h1
      simp at ea eb
      subst ea eb
      exact ⟨a, b, rfl⟩

theorem trod_bool {t : TypeId} {fuel : Nat} {cs : List Value} {x : DataW H × List MemPlace} (ht : Try.prog.underlying t = some .bool) (h : DataW.trod enc Try.prog W base sp held fuel t cs = some x) : ∃ b : Bool, cs = [.bool b] := by
  cases fuel with
  | zero => simp [DataW.trod] at h
  | succ n =>
    unfold DataW.trod at h
    rw [ht] at h
    split at h <;> simp_all

theorem Arg.trial {v : Value} (h : Arg enc W 25 v) : ∃ gn gd bn bd an ad en ed : Int, v = .agg (tv gn gd bn bd an ad en ed) := by
  obtain ⟨⟨base, hv⟩, d, p, ⟨fuel, hf⟩, _⟩ := h
  unfold Value.okWide at hv
  rw [Try.underlying25] at hv
  obtain ⟨cs, rfl, _⟩ := hv
  have hf' : DataW.trod enc Try.prog W 0 (fun _ => true) true fuel 25 cs.toList = some (d, p) := hf
  clear hf
  obtain ⟨xs, m, rfl, _, hl, hn, hi⟩ := DataW.trod_struct Try.underlying25 hf'
  rw [cells_trial] at hl
  generalize hcs : cs.toList = l at *
  match l, hl with
  | [c0, c1, c2, c3, c4, c5, c6, c7], _ =>
    have h0 := hi 0 _ rfl
    have h1 := hi 1 _ rfl
    have h2 := hi 2 _ rfl
    have h3 := hi 3 _ rfl
    match xs, hn with
    | [x0, x1, x2, x3], _ =>
      simp [cells_ratio] at h0 h1 h2 h3
      obtain ⟨a0, b0, e0⟩ := trod_ratio h0
      obtain ⟨a1, b1, e1⟩ := trod_ratio h1
      obtain ⟨a2, b2, e2⟩ := trod_ratio h2
      obtain ⟨a3, b3, e3⟩ := trod_ratio h3
      simp at e0 e1 e2 e3
      obtain ⟨rfl, rfl⟩ := e0
      obtain ⟨rfl, rfl⟩ := e1
      obtain ⟨rfl, rfl⟩ := e2
      obtain ⟨rfl, rfl⟩ := e3
      exact ⟨a0, b0, a1, b1, a2, b2, a3, b3, congrArg Value.agg (Array.toList_inj.1 hcs)⟩

theorem bools_of_trod {fuel : Nat} {cs : List Value} {x : DataW H × List MemPlace} (hf : DataW.trod enc Try.prog W 0 (fun _ => true) true fuel 33 cs = some x) : ∃ (ao : Option Addr) (n cap : Nat) (l : List Bool), cs = [.slice ao n cap] ∧ l.length = n ∧ n ≤ cap ∧ cap ≤ maxLen ∧ Sl W 1 ao n (cvals l) := by
  rcases open_slice Try.underlying33 hf with ⟨hcs, _⟩ | ⟨a, len, cap, m, n, D, Pl, hcs, _, hl, hm, hmm, hx, hel⟩
  · exact ⟨none, 0, 0, [], hcs, rfl, Nat.le_refl _, by simp [maxLen], Sl.nil⟩
  · subst hcs
    rw [show Try.prog.cellsOf 4 = 1 from by kernel_rfl] at hel hx
    simp at hmm
    have hd : ∀ i, i < len → ∃ b : Bool, W.cells? 0 (a.add (i * 1)) 1 = some [.bool b] := fun i hi => by
      obtain ⟨cs', h1, h2⟩ := hel i (by omega)
      obtain ⟨b, rfl⟩ := trod_bool Try.underlying4 h2
      exact ⟨b, h1⟩
    obtain ⟨f, hf'⟩ : ∃ f : Nat → Bool, ∀ i, i < len → W.cells? 0 (a.add (i * 1)) 1 = some [.bool (f i)] :=
      ⟨fun i => if h : i < len then (hd i h).choose else true, fun i hi => by simp only [hi, dif_pos]; exact (hd i hi).choose_spec⟩
    refine ⟨some a, len, cap, (List.range len).map f, rfl, by simp, hl, hm, by simp [cvals], ?_⟩
    rcases Nat.eq_zero_or_pos len with h0 | hpos
    · exact .inl h0
    · right
      have hcell : ∀ i (_ : i < len), W.cell? (a.add i) = some (.bool (f i)) := fun i hi => by
        have := hf' i hi
        unfold World.cells? at this
        rw [if_pos (Nat.zero_le _)] at this
        simp only [show List.range 1 = [0] from rfl, List.mapM_cons, List.mapM_nil, Option.bind_eq_bind, Option.pure_def] at this
        cases h1 : W.cell? ((a.add (i * 1)).add 0) with
        | none => rw [h1] at this; cases this
        | some v1 =>
          rw [h1] at this
          simp at this
          obtain rfl := this
          simpa [Addr.add] using h1
      clear hf hf' hd hel hx
      obtain ⟨b, off, spot⟩ := a
      have hspot : spot = none := by simpa [Addr.add] using World.cell?_spot (hcell 0 hpos)
      subst hspot
      refine ⟨b, off, rfl, World.block_lt_of_cell? W ⟨b, off, none⟩ (by simpa [Addr.add] using hcell 0 hpos), ?_⟩
      intro j u hj
      have hjl : j < len := by
        have := (List.getElem?_eq_some_iff.1 hj).1
        simpa [cvals] using this
      have := hcell j hjl
      rw [Addr.add_lit] at this
      rw [this]
      simpa [cvals, hjl] using hj

theorem Arg.bools {v : Value} (h : Arg enc W 33 v) : ∃ (ao : Option Addr) (n cap : Nat) (l : List Bool), v = .slice ao n cap ∧ l.length = n ∧ n ≤ cap ∧ cap ≤ maxLen ∧ Sl W 1 ao n (cvals l) := by
  obtain ⟨⟨base, hv⟩, d, p, ⟨fuel, hf⟩, hlt⟩ := h
  obtain ⟨a0, len, cap, rfl⟩ := okWide_slice Try.underlying33 hv
  obtain ⟨ao, n, cap', l, hcs, h1, h2, h3, h4⟩ := bools_of_trod hf
  simp [Value.cells] at hcs
  obtain ⟨rfl, rfl, rfl⟩ := hcs
  exact ⟨_, _, _, l, rfl, h1, h2, h3, h4⟩
end
end Go.Proofs.Ytmlkegopbdfiaaa
