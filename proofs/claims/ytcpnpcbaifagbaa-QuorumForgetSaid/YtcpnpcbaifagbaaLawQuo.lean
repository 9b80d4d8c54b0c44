/-
  How votes and ballots come in.
-/
import Derived.Test.YtcpnpcbaifagbaaLaw
import Derived.Test.YtcpnpcbaifagbaaQuoSpec
import Derived.Deep.Slices
namespace Go.Proofs.Ytcpnpcbaifagbaa
open Go.ChangeShapes Go.WideShapes Go.ChangeAt Go.RowKit Go.Deep
theorem cells_dg : Try.prog.cellsOf 25 = 2 := by kernel_rfl
theorem cells_vt : Try.prog.cellsOf 27 = 2 := by kernel_rfl
theorem cells_bl : Try.prog.cellsOf 61 = 3 := by kernel_rfl
theorem u8_nat {n : Int} (h : (Lit.int .u8 n).wf = true) : ∃ m : Nat, n = m ∧ m < 256 := by
  simp [Lit.wf, IntKind.min, IntKind.max, IntKind.signed, IntKind.bits] at h
  refine ⟨n.toNat, ?_, ?_⟩ <;> omega
section
variable {H : Type} {enc : TypeId × Value → H} {W : World} {base : Nat} {sp : Nat → Bool} {held : Bool}

set_option maxRecDepth 100000 in
theorem trod_dg {fuel : Nat} {cs : List Value} {x : DataW H × List MemPlace} (h : DataW.trod enc Try.prog W base sp held fuel 25 cs = some x) : ∃ d : Dg, cs = [.int .u64 d.1.toNat, .int .u64 d.2.toNat] := by
  obtain ⟨xs, m, rfl, rfl, hl, hn, hi⟩ := DataW.trod_array Try.underlying25 h
  rw [cells_dg] at hl
  match cs, hl with
  | [c0, c1], _ =>
    have h0 := hi 0 (by omega)
    have h1 := hi 1 (by omega)
    rw [show Try.prog.cellsOf 23 = 1 from by kernel_rfl] at h0 h1
    simp at h0 h1
    match xs, hn with
    | [x0, x1], _ =>
      obtain ⟨a, ea, _, wa⟩ := DataW.trod_int Try.underlying23 h0
      obtain ⟨b, eb, _, wb⟩ := DataW.trod_int Try.underlying23 h1
      simp at ea eb
      subst ea eb
      have key : ∀ n : Int, (Lit.int .u64 n).wf = true → ((UInt64.ofNat n.toNat).toNat : Int) = n := fun n hn => by
        simp [Lit.wf, IntKind.min, IntKind.max, IntKind.signed, IntKind.bits] at hn
        rw [UInt64.toNat_ofNat_of_lt' (by simp [UInt64.size]; omega)]
        omega
      refine ⟨(UInt64.ofNat a.toNat, UInt64.ofNat b.toNat), ?_⟩
      simp only []
      rw [key a wa, key b wb]
set_option maxRecDepth 100000 in
theorem Arg.dg {v : Value} (h : Arg enc W 25 v) : ∃ d : Dg, v = dv d := by
  obtain ⟨⟨base, hv⟩, d, p, ⟨fuel, hf⟩, _⟩ := h
  obtain ⟨dg, hc⟩ := trod_dg hf
  unfold Value.okWide at hv
  rw [Try.underlying25] at hv
  obtain ⟨cs, rfl, _, _⟩ := hv
  refine ⟨dg, ?_⟩
  have : cs.toList = _ := hc
  rw [dv]
  congr 1
  rw [← Array.toList_inj, this]
set_option maxRecDepth 100000 in
theorem trod_vt {fuel : Nat} {cs : List Value} {x : DataW H × List MemPlace} (h : DataW.trod enc Try.prog W base sp held fuel 27 cs = some x) : ∃ v : Vt, cs = vte v ∧ v.1.size ≤ maxLen ∧ v.2.size ≤ maxLen := by
  obtain ⟨xs, m, rfl, rfl, hl, hn, hi⟩ := DataW.trod_struct Try.underlying27 h
  rw [cells_vt] at hl
  match cs, hl with
  | [c0, c1], _ =>
    have h0 := hi 0 _ rfl
    have h1 := hi 1 _ rfl
    match xs, hn with
    | [x0, x1], _ =>
      simp [show Try.prog.cellsOf 9 = 1 from by kernel_rfl] at h0 h1
      obtain ⟨a, ea, _, sa⟩ := DataW.trod_string Try.underlying9 h0
      obtain ⟨b, eb, _, sb⟩ := DataW.trod_string Try.underlying9 h1
      simp at ea eb
      subst ea eb
      exact ⟨(a, b), rfl, sa, sb⟩
set_option maxRecDepth 100000 in
theorem Arg.vt {v : Value} (h : Arg enc W 27 v) : ∃ x : Vt, v = .agg (vtc x) ∧ x.1.size ≤ maxLen ∧ x.2.size ≤ maxLen := by
  obtain ⟨⟨base, hv⟩, d, p, ⟨fuel, hf⟩, _⟩ := h
  unfold Value.okWide at hv
  rw [Try.underlying27] at hv
  obtain ⟨cs, rfl, _⟩ := hv
  have hf' : DataW.trod enc Try.prog W 0 (fun _ => true) true fuel 27 cs.toList = some (d, p) := hf
  obtain ⟨x, hx, hs⟩ := trod_vt hf'
  refine ⟨x, ?_, hs⟩
  congr 1
  rw [← Array.toList_inj, hx]
/-- A row of elements that have been read one by one. -/
theorem row_of_elems {α : Type} {sz : Nat} {e : α → List Value} (he : ∀ x, (e x).length = sz) (hsz : 0 < sz) {a : Addr} {len : Nat} {f : Nat → α} (hf : ∀ i, i < len → W.cells? 0 (a.add (i * sz)) sz = some (e (f i))) : Sl W sz (some a) len (((List.range len).map f).flatMap e) := by
  refine ⟨by rw [flat_length he]; simp, ?_⟩
  rcases Nat.eq_zero_or_pos len with h0 | hpos
  · exact .inl h0
  · right
    have hcell : ∀ i (_ : i < len), ∀ j, j < sz → W.cell? ((a.add (i * sz)).add j) = (e (f i))[j]? := fun i hi j hj => (World.cells?_some (hf i hi)).2.2 j hj
    obtain ⟨b, off, spot⟩ := a
    have h00 := hcell 0 hpos 0 hsz
    rw [List.getElem?_eq_getElem (show 0 < (e (f 0)).length by rw [he]; exact hsz)] at h00
    have hspot : spot = none := by simpa [Addr.add] using World.cell?_spot h00
    subst hspot
    have h00' : W.cell? ⟨b, off, none⟩ = some ((e (f 0))[0]'(by rw [he]; exact hsz)) := by simpa [Addr.add] using h00
    refine ⟨b, off, rfl, World.block_lt_of_cell? W ⟨b, off, none⟩ h00', fun j u hj => ?_⟩
    have hj' : j < len * sz := by
      have := (List.getElem?_eq_some_iff.1 hj).1
      rw [flat_length he] at this
      simpa using this
    have hq : j / sz < len := Nat.div_lt_of_lt_mul (by rw [Nat.mul_comm]; exact hj')
    have hr : j % sz < sz := Nat.mod_lt _ hsz
    have hd : j / sz * sz + j % sz = j := by rw [Nat.mul_comm]; exact Nat.div_add_mod j sz
    have h4 := hcell (j / sz) hq (j % sz) hr
    rw [Addr.add_lit, Addr.add_lit, Nat.add_assoc, hd] at h4
    rw [h4, ← hj]
    have h5 := flat_at he (l := (List.range len).map f) (k := j / sz) (by simpa using hq) hr
    rw [hd] at h5
    rw [h5]
    congr 2
    simp
set_option maxRecDepth 100000 in
theorem vts_of_trod {fuel : Nat} {cs : List Value} {x : DataW H × List MemPlace} (hf : DataW.trod enc Try.prog W 0 (fun _ => true) true fuel 36 cs = some x) : ∃ (ao : Option Addr) (n cap : Nat) (l : List Vt), cs = [.slice ao n cap] ∧ VA W ao n cap l := by
  rcases open_slice Try.underlying36 hf with ⟨hcs, _⟩ | ⟨a, len, cap, m, n, D, Pl, hcs, _, hl, hm, hmm, hx, hel⟩
  · exact ⟨none, 0, 0, [], hcs, VA.nil⟩
  · subst hcs
    rw [cells_vt] at hel hx
    simp at hmm
    have hd : ∀ i, i < len → ∃ v : Vt, W.cells? 0 (a.add (i * 2)) 2 = some (vte v) ∧ v.1.size ≤ maxLen ∧ v.2.size ≤ maxLen := fun i hi => by
      obtain ⟨cs', h1, h2⟩ := hel i (by omega)
      obtain ⟨r, rfl, hs⟩ := trod_vt h2
      exact ⟨r, h1, hs⟩
    obtain ⟨f, hf'⟩ : ∃ f : Nat → Vt, ∀ i, i < len → W.cells? 0 (a.add (i * 2)) 2 = some (vte (f i)) ∧ (f i).1.size ≤ maxLen ∧ (f i).2.size ≤ maxLen :=
      ⟨fun i => if h : i < len then (hd i h).choose else (⟨#[]⟩, ⟨#[]⟩), fun i hi => by simp only [hi, dif_pos]; exact (hd i hi).choose_spec⟩
    refine ⟨some a, len, cap, (List.range len).map f, rfl, by simp, row_of_elems vte_length (by omega) (fun i hi => (hf' i hi).1), hl, hm, (fun e => by cases e), fun v hv => ?_⟩
    rw [List.mem_map] at hv
    obtain ⟨i, hi, rfl⟩ := hv
    exact (hf' i (by simpa using hi)).2
set_option maxRecDepth 100000 in
theorem trod_bl {fuel : Nat} {cs : List Value} {x : DataW H × List MemPlace} (h : DataW.trod enc Try.prog W 0 (fun _ => true) true fuel 61 cs = some x) : ∃ r : Rw, cs = rwe r ∧ VA W r.ao r.vs.length r.cap r.vs := by
  obtain ⟨xs, m, rfl, _, hl, hn, hi⟩ := DataW.trod_struct Try.underlying61 h
  rw [cells_bl] at hl
  match cs, hl with
  | [c0, c1, c2], _ =>
    have h0 := hi 0 _ rfl
    have h1 := hi 1 _ rfl
    match xs, hn with
    | [x0, x1], _ =>
      simp [show Try.prog.cellsOf 36 = 1 from by kernel_rfl, cells_dg] at h0 h1
      obtain ⟨d, ed⟩ := trod_dg h0
      obtain ⟨ao, n, cap, l, el, hV⟩ := vts_of_trod h1
      simp at ed el
      obtain ⟨rfl, rfl⟩ := ed
      subst el
      have := hV.len
      subst this
      exact ⟨⟨d, l, ao, cap⟩, rfl, hV⟩
set_option maxRecDepth 100000 in
theorem bls_of_trod {fuel : Nat} {cs : List Value} {x : DataW H × List MemPlace} (hf : DataW.trod enc Try.prog W 0 (fun _ => true) true fuel 22 cs = some x) : ∃ (ao : Option Addr) (n cap : Nat) (l : List Rw), cs = [.slice ao n cap] ∧ BA W ao n cap l := by
  rcases open_slice Try.underlying22 hf with ⟨hcs, _⟩ | ⟨a, len, cap, m, n, D, Pl, hcs, _, hl, hm, hmm, hx, hel⟩
  · exact ⟨none, 0, 0, [], hcs, BA.nil⟩
  · subst hcs
    rw [cells_bl] at hel hx
    simp at hmm
    have hd : ∀ i, i < len → ∃ r : Rw, W.cells? 0 (a.add (i * 3)) 3 = some (rwe r) ∧ VA W r.ao r.vs.length r.cap r.vs := fun i hi => by
      obtain ⟨cs', h1, h2⟩ := hel i (by omega)
      obtain ⟨r, rfl, hs⟩ := trod_bl h2
      exact ⟨r, h1, hs⟩
    obtain ⟨f, hf'⟩ : ∃ f : Nat → Rw, ∀ i, i < len → W.cells? 0 (a.add (i * 3)) 3 = some (rwe (f i)) ∧ VA W (f i).ao (f i).vs.length (f i).cap (f i).vs :=
      ⟨fun i => if h : i < len then (hd i h).choose else ⟨(0, 0), [], none, 0⟩, fun i hi => by simp only [hi, dif_pos]; exact (hd i hi).choose_spec⟩
    refine ⟨some a, len, cap, (List.range len).map f, rfl, by simp, row_of_elems rwe_length (by omega) (fun i hi => (hf' i hi).1), hl, hm, (fun e => by cases e), fun v hv => ?_⟩
    rw [List.mem_map] at hv
    obtain ⟨i, hi, rfl⟩ := hv
    exact (hf' i (by simpa using hi)).2
set_option maxRecDepth 100000 in
theorem Arg.bls {v : Value} (h : Arg enc W 22 v) : ∃ (l : List Rw) (ao : Option Addr) (n cap : Nat), v = .slice ao n cap ∧ BA W ao n cap l := by
  obtain ⟨⟨base, hv⟩, d, p, ⟨fuel, hf⟩, _⟩ := h
  obtain ⟨sa, sn, sc, rfl⟩ := okWide_slice Try.underlying22 hv
  obtain ⟨ao, n, cap, l, e1, hB⟩ := bls_of_trod hf
  simp [Value.cells] at e1
  obtain ⟨rfl, rfl, rfl⟩ := e1
  exact ⟨l, _, _, _, rfl, hB⟩
set_option maxRecDepth 100000 in
theorem Arg.vts {v : Value} (h : Arg enc W 36 v) : ∃ (l : List Vt) (ao : Option Addr) (n cap : Nat), v = .slice ao n cap ∧ VA W ao n cap l := by
  obtain ⟨⟨base, hv⟩, d, p, ⟨fuel, hf⟩, _⟩ := h
  obtain ⟨sa, sn, sc, rfl⟩ := okWide_slice Try.underlying36 hv
  obtain ⟨ao, n, cap, l, e1, hB⟩ := vts_of_trod hf
  simp [Value.cells] at e1
  obtain ⟨rfl, rfl, rfl⟩ := e1
  exact ⟨l, _, _, _, rfl, hB⟩
end
end Go.Proofs.Ytcpnpcbaifagbaa
