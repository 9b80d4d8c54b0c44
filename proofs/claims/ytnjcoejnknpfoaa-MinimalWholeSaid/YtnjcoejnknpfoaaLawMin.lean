/-
  How sets, searches and oracles come in.
-/
import Derived.Test.YtnjcoejnknpfoaaLaw
import Derived.Test.YtnjcoejnknpfoaaMinKn
import Derived.Deep.Slices
namespace Go.Proofs.Ytnjcoejnknpfoaa
open Go.ChangeShapes Go.WideShapes Go.ChangeAt Go.RowKit Go.Deep
theorem cells_int : Try.prog.cellsOf 3 = 1 := by kernel_rfl
theorem cells_ints : Try.prog.cellsOf 30 = 1 := by kernel_rfl
theorem cells_kn : Try.prog.cellsOf 55 = 2 := by kernel_rfl
theorem cells_se : Try.prog.cellsOf 24 = 2 := by kernel_rfl
theorem u8_nat {n : Int} (h : (Lit.int .u8 n).wf = true) : ∃ m : Nat, n = m ∧ m < 256 := by
  simp [Lit.wf, IntKind.min, IntKind.max, IntKind.signed, IntKind.bits] at h
  refine ⟨n.toNat, ?_, ?_⟩ <;> omega
section
variable {H : Type} {enc : TypeId × Value → H} {W : World}
/-- A row of elements that have been read one by one. -/
theorem row_of_elems {α : Type} {sz : Nat} {e : α → List Value} (he : ∀ x, (e x).length = sz) (hsz : 0 < sz) {a : Addr} {len : Nat} {f : Nat → α} (hf : ∀ i, i < len → W.cells? 0 (a.add (i * sz)) sz = some (e (f i))) : Sl W sz (some a) len (((List.range len).map f).flatMap e) := by
  refine ⟨by rw [flat_length he]; simp, ?_⟩
  rcases Nat.eq_zero_or_pos len with h0 | hpos
  · exact .inl h0
  · right
    have hcell : ∀ i (_ : i < len), ∀ j, j < sz → W.cell? ((a.add (i * sz)).add j) = (e (f i))[j]? := fun i hi j hj => (World.cells?_some (hf i hi)).2.2 j hj
    obtain ⟨b, off, spot⟩ := a
    have h00 := hcell 0 hpos 0 hsz
    rw [List.getElem?_eq_getElem (show 0 < (e (f 0)).length by rw [he]; exact hsz)] at h00
    have hspot : spot = none := by simpa [Addr.add] using World.cell?_spot h00
    subst hspot
    have h00' : W.cell? ⟨b, off, none⟩ = some ((e (f 0))[0]'(by rw [he]; exact hsz)) := by simpa [Addr.add] using h00
    refine ⟨b, off, rfl, World.block_lt_of_cell? W ⟨b, off, none⟩ h00', fun j u hj => ?_⟩
    have hj' : j < len * sz := by
      have := (List.getElem?_eq_some_iff.1 hj).1
      rw [flat_length he] at this
      simpa using this
    have hq : j / sz < len := Nat.div_lt_of_lt_mul (by rw [Nat.mul_comm]; exact hj')
    have hr : j % sz < sz := Nat.mod_lt _ hsz
    have hd : j / sz * sz + j % sz = j := by rw [Nat.mul_comm]; exact Nat.div_add_mod j sz
    have h4 := hcell (j / sz) hq (j % sz) hr
    rw [Addr.add_lit, Addr.add_lit, Nat.add_assoc, hd] at h4
    rw [h4, ← hj]
    have h5 := flat_at he (l := (List.range len).map f) (k := j / sz) (by simpa using hq) hr
    rw [hd] at h5
    rw [h5]
    congr 2
    simp
set_option maxRecDepth 100000 in
theorem trod_i64 {fuel : Nat} {cs : List Value} {x : DataW H × List MemPlace} (h : DataW.trod enc Try.prog W 0 (fun _ => true) true fuel 3 cs = some x) : ∃ n : Int, cs = [.int .i64 n] := by
  obtain ⟨n, e, _, _⟩ := DataW.trod_int Try.underlying3 h
  exact ⟨n, e⟩
set_option maxRecDepth 100000 in
theorem Arg.bool {v : Value} (h : Arg enc W 4 v) : ∃ b, v = .bool b := by
  obtain ⟨⟨base, hv⟩, d, p, hd, _⟩ := h
  obtain ⟨b, rfl, _⟩ := open_bool Try.underlying4 hv hd
  exact ⟨b, rfl⟩
set_option maxRecDepth 100000 in
theorem ints_of_trod {fuel : Nat} {cs : List Value} {x : DataW H × List MemPlace} (hf : DataW.trod enc Try.prog W 0 (fun _ => true) true fuel 30 cs = some x) : ∃ (ao : Option Addr) (n cap : Nat) (l : List Int), cs = [.slice ao n cap] ∧ IA W ao n cap l := by
  rcases open_slice Try.underlying30 hf with ⟨hcs, _⟩ | ⟨a, len, cap, m, n, D, Pl, hcs, _, hl, hm, hmm, hx, hel⟩
  · exact ⟨none, 0, 0, [], hcs, rfl, Sl.nil, Nat.le_refl _, by simp [maxLen], fun _ => rfl⟩
  · subst hcs
    rw [cells_int] at hel hx
    simp at hmm
    have hd : ∀ i, i < len → ∃ v : Int, W.cells? 0 (a.add (i * 1)) 1 = some (ite1 v) := fun i hi => by
      obtain ⟨cs', h1, h2⟩ := hel i (by omega)
      obtain ⟨r, rfl⟩ := trod_i64 h2
      exact ⟨r, h1⟩
    obtain ⟨f, hf'⟩ : ∃ f : Nat → Int, ∀ i, i < len → W.cells? 0 (a.add (i * 1)) 1 = some (ite1 (f i)) :=
      ⟨fun i => if h : i < len then (hd i h).choose else 0, fun i hi => by simp only [hi, dif_pos]; exact (hd i hi).choose_spec⟩
    refine ⟨some a, len, cap, (List.range len).map f, rfl, by simp, ?_, hl, hm, (fun e => by cases e)⟩
    rw [← ivals_flat]
    exact row_of_elems ite1_length (by omega) hf'
set_option maxRecDepth 100000 in
theorem Arg.ints {v : Value} (h : Arg enc W 30 v) : ∃ (l : List Int) (ao : Option Addr) (n cap : Nat), v = .slice ao n cap ∧ IA W ao n cap l := by
  obtain ⟨⟨base, hv⟩, d, p, ⟨fuel, hf⟩, _⟩ := h
  obtain ⟨sa, sn, sc, rfl⟩ := okWide_slice Try.underlying30 hv
  obtain ⟨ao, n, cap, l, e1, hB⟩ := ints_of_trod hf
  simp [Value.cells] at e1
  obtain ⟨rfl, rfl, rfl⟩ := e1
  exact ⟨l, _, _, _, rfl, hB⟩
set_option maxRecDepth 100000 in
theorem sets_of_trod {fuel : Nat} {cs : List Value} {x : DataW H × List MemPlace} (hf : DataW.trod enc Try.prog W 0 (fun _ => true) true fuel 39 cs = some x) : ∃ (ao : Option Addr) (n cap : Nat) (l : List Sw), cs = [.slice ao n cap] ∧ GA W ao n cap l := by
  rcases open_slice Try.underlying39 hf with ⟨hcs, _⟩ | ⟨a, len, cap, m, n, D, Pl, hcs, _, hl, hm, hmm, hx, hel⟩
  · exact ⟨none, 0, 0, [], hcs, rfl, Sl.nil, Nat.le_refl _, by simp [maxLen], (fun _ => rfl), (fun r hr => by cases hr)⟩
  · subst hcs
    rw [cells_ints] at hel hx
    simp at hmm
    have hd : ∀ i, i < len → ∃ r : Sw, W.cells? 0 (a.add (i * 1)) 1 = some [swc r] ∧ IA W r.ao r.vs.length r.cap r.vs := fun i hi => by
      obtain ⟨cs', h1, h2⟩ := hel i (by omega)
      obtain ⟨ao, n, cap, l, rfl, hI⟩ := ints_of_trod h2
      have := hI.len
      subst this
      exact ⟨⟨l, ao, cap⟩, h1, hI⟩
    obtain ⟨f, hf'⟩ : ∃ f : Nat → Sw, ∀ i, i < len → W.cells? 0 (a.add (i * 1)) 1 = some [swc (f i)] ∧ IA W (f i).ao (f i).vs.length (f i).cap (f i).vs :=
      ⟨fun i => if h : i < len then (hd i h).choose else ⟨[], none, 0⟩, fun i hi => by simp only [hi, dif_pos]; exact (hd i hi).choose_spec⟩
    refine ⟨some a, len, cap, (List.range len).map f, rfl, by simp, ?_, hl, hm, (fun e => by cases e), fun r hr => ?_⟩
    · have := row_of_elems (sz := 1) (e := fun r : Sw => [swc r]) (fun _ => rfl) (by decide) (fun i hi => (hf' i hi).1)
      rwa [show ((List.range len).map f).flatMap (fun r : Sw => [swc r]) = gcells ((List.range len).map f) by simp [gcells, ← List.map_eq_flatMap]] at this
    · obtain ⟨i, hi, rfl⟩ := List.mem_map.1 hr
      exact (hf' i (by simpa using hi)).2
set_option maxRecDepth 100000 in
theorem Arg.sets {v : Value} (h : Arg enc W 39 v) : ∃ (l : List Sw) (ao : Option Addr) (n cap : Nat), v = .slice ao n cap ∧ GA W ao n cap l := by
  obtain ⟨⟨base, hv⟩, d, p, ⟨fuel, hf⟩, _⟩ := h
  obtain ⟨sa, sn, sc, rfl⟩ := okWide_slice Try.underlying39 hv
  obtain ⟨ao, n, cap, l, e1, hB⟩ := sets_of_trod hf
  simp [Value.cells] at e1
  obtain ⟨rfl, rfl, rfl⟩ := e1
  exact ⟨l, _, _, _, rfl, hB⟩
set_option maxRecDepth 100000 in
theorem trod_kn {fuel : Nat} {cs : List Value} {x : DataW H × List MemPlace} (h : DataW.trod enc Try.prog W 0 (fun _ => true) true fuel 55 cs = some x) : ∃ r : Kw, cs = kwe r ∧ IA W r.ao r.vs.length r.cap r.vs := by
  obtain ⟨xs, m, rfl, _, hl, hn, hi⟩ := DataW.trod_struct Try.underlying55 h
  rw [cells_kn] at hl
  match cs, hl with
  | [c0, c1], _ =>
    have h0 := hi 0 _ rfl
    have h1 := hi 1 _ rfl
    match xs, hn with
    | [x0, x1], _ =>
      simp [show Try.prog.cellsOf 4 = 1 from by kernel_rfl, cells_ints] at h0 h1
      obtain ⟨ao, n, cap, l, el, hV⟩ := ints_of_trod h0
      obtain ⟨b, eb, _⟩ := DataW.trod_bool Try.underlying4 h1
      simp at el eb
      subst el eb
      have := hV.len
      subst this
      exact ⟨⟨l, b, ao, cap⟩, rfl, hV⟩
set_option maxRecDepth 100000 in
theorem kns_of_trod {fuel : Nat} {cs : List Value} {x : DataW H × List MemPlace} (hf : DataW.trod enc Try.prog W 0 (fun _ => true) true fuel 22 cs = some x) : ∃ (ao : Option Addr) (n cap : Nat) (l : List Kw), cs = [.slice ao n cap] ∧ KA W ao n cap l := by
  rcases open_slice Try.underlying22 hf with ⟨hcs, _⟩ | ⟨a, len, cap, m, n, D, Pl, hcs, _, hl, hm, hmm, hx, hel⟩
  · exact ⟨none, 0, 0, [], hcs, rfl, Sl.nil, Nat.le_refl _, by simp [maxLen], (fun _ => rfl), (fun r hr => by cases hr)⟩
  · subst hcs
    rw [cells_kn] at hel hx
    simp at hmm
    have hd : ∀ i, i < len → ∃ r : Kw, W.cells? 0 (a.add (i * 2)) 2 = some (kwe r) ∧ IA W r.ao r.vs.length r.cap r.vs := fun i hi => by
      obtain ⟨cs', h1, h2⟩ := hel i (by omega)
      obtain ⟨r, rfl, hs⟩ := trod_kn h2
      exact ⟨r, h1, hs⟩
    obtain ⟨f, hf'⟩ : ∃ f : Nat → Kw, ∀ i, i < len → W.cells? 0 (a.add (i * 2)) 2 = some (kwe (f i)) ∧ IA W (f i).ao (f i).vs.length (f i).cap (f i).vs :=
      ⟨fun i => if h : i < len then (hd i h).choose else ⟨[], false, none, 0⟩, fun i hi => by simp only [hi, dif_pos]; exact (hd i hi).choose_spec⟩
    refine ⟨some a, len, cap, (List.range len).map f, rfl, by simp, row_of_elems kwe_length (by omega) (fun i hi => (hf' i hi).1), hl, hm, (fun e => by cases e), fun v hv => ?_⟩
    obtain ⟨i, hi, rfl⟩ := List.mem_map.1 hv
    exact (hf' i (by simpa using hi)).2
set_option maxRecDepth 100000 in
theorem Arg.search {v : Value} (h : Arg enc W 24 v) : ∃ (N : Int) (l : List Kw) (ao : Option Addr) (n cap : Nat), v = .agg #[.int .i64 N, .slice ao n cap] ∧ KA W ao n cap l := by
  obtain ⟨⟨base, hv⟩, d, p, ⟨fuel, hf⟩, _⟩ := h
  unfold Value.okWide at hv
  rw [Try.underlying24] at hv
  obtain ⟨cs, rfl, _⟩ := hv
  have hf' : DataW.trod enc Try.prog W 0 (fun _ => true) true fuel 24 cs.toList = some (d, p) := hf
  obtain ⟨xs, m, _, _, hl, hn, hi⟩ := DataW.trod_struct Try.underlying24 hf'
  rw [cells_se] at hl
  obtain ⟨cl, hcl⟩ : ∃ cl, cs.toList = cl := ⟨_, rfl⟩
  rw [hcl] at hl hi
  match cl, hl with
  | [c0, c1], _ =>
    have h0 := hi 0 _ rfl
    have h1 := hi 1 _ rfl
    match xs, hn with
    | [x0, x1], _ =>
      simp [cells_int, show Try.prog.cellsOf 22 = 1 from by kernel_rfl] at h0 h1
      obtain ⟨N, e0⟩ := trod_i64 h0
      obtain ⟨ao, n, cap, l, e1, hK⟩ := kns_of_trod h1
      simp at e0 e1
      subst e0 e1
      refine ⟨N, l, ao, n, cap, ?_, hK⟩
      congr 1
      rw [← Array.toList_inj, hcl]
set_option maxRecDepth 100000 in
theorem Arg.oracle {v : Value} (h : Arg enc W 42 v) : ∃ (l : List Sw) (ao : Option Addr) (n cap : Nat) (q r : Int), v = .agg #[.slice ao n cap, .int .u64 q, .int .u8 r] ∧ GA W ao n cap l ∧ 0 ≤ r := by
  obtain ⟨⟨base, hv⟩, d, p, ⟨fuel, hf⟩, _⟩ := h
  unfold Value.okWide at hv
  rw [Try.underlying42] at hv
  obtain ⟨cs, rfl, _⟩ := hv
  have hf' : DataW.trod enc Try.prog W 0 (fun _ => true) true fuel 42 cs.toList = some (d, p) := hf
  obtain ⟨xs, m, _, _, hl, hn, hi⟩ := DataW.trod_struct Try.underlying42 hf'
  rw [show Try.prog.cellsOf 42 = 3 from by kernel_rfl] at hl
  obtain ⟨cl, hcl⟩ : ∃ cl, cs.toList = cl := ⟨_, rfl⟩
  rw [hcl] at hl hi
  match cl, hl with
  | [c0, c1, c2], _ =>
    have h0 := hi 0 _ rfl
    have h1 := hi 1 _ rfl
    have h2 := hi 2 _ rfl
    match xs, hn with
    | [x0, x1, x2], _ =>
      simp [show Try.prog.cellsOf 39 = 1 from by kernel_rfl, show Try.prog.cellsOf 40 = 1 from by kernel_rfl, show Try.prog.cellsOf 5 = 1 from by kernel_rfl] at h0 h1 h2
      obtain ⟨ao, n, cap, l, e0, hG⟩ := sets_of_trod h0
      obtain ⟨q, e1, _, _⟩ := DataW.trod_int Try.underlying40 h1
      obtain ⟨r, e2, _, hr⟩ := DataW.trod_int Try.underlying5 h2
      simp at e0 e1 e2
      subst e0 e1 e2
      refine ⟨l, ao, n, cap, q, r, ?_, hG, ?_⟩
      · congr 1
        rw [← Array.toList_inj, hcl]
      · obtain ⟨m, rfl, _⟩ := u8_nat hr
        omega
end
end Go.Proofs.Ytnjcoejnknpfoaa
