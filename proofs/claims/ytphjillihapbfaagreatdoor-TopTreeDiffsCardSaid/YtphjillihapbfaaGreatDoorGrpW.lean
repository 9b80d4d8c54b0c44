/-
  Law LawFl LawFls.
-/
import Derived.Test.YtphjillihapbfaaGreatDoorRows
import Derived.WalkKit
import Derived.ProofKit
import Derived.OpenShut
import Derived.SizedLaws
import Derived.Test.YtphjillihapbfaaGreatDoorGrpJ
import Derived.Lay
import Derived.Deep.Slices
import Derived.Test.YtphjillihapbfaaGreatDoorGrpV
namespace Go.Proofs.YtphjillihapbfaaGreatDoor
open Go.ChangeShapes Go.WideShapes Go.ChangeAt Go.RowKit
open Go.ChangeMaps (setBlock shut_map_nil open_string shut_string keptBut_setBlock frozen?_setBlock heap_setBlock_same)

theorem own : ownKnob Tryz.prog.godebug = none := by kernel_rfl
theorem laidOut : laidOutB Tryz.prog = true := by kernel_rfl

section
variable {H : Type} {enc : TypeId × Value → H} {W W' : World}

/-- v came in at type t. -/
def Arg (enc : TypeId × Value → H) (W : World) (t : TypeId) (v : Value) : Prop :=
  (∃ base, Value.okWide Tryz.prog W .any base t v) ∧ ∃ d p, DataW.Trod enc Tryz.prog W 0 (fun _ => true) true t v d p ∧ ∀ x ∈ p, x.block < W.heap.size
/-- All that came in. -/
def Args (enc : TypeId × Value → H) (W : World) : List TypeId → List Value → Prop
  | [], [] => True
  | t :: ts, v :: vs => Arg enc W t v ∧ Args enc W ts vs
  | _, _ => False

set_option maxRecDepth 100000 in
theorem args_of {ts : List TypeId} {vs : List Value} {ds : List (DataW H)} {p : List MemPlace} {base : Nat} (h : DataW.TrodAll enc Tryz.prog W 0 (fun _ => true) true ts vs ds p)
    (hv : ∀ (j : Nat) t v, ts[j]? = some t → vs[j]? = some v → Value.okWide Tryz.prog W .any base t v) (hlt : ∀ x ∈ p, x.block < W.heap.size) : Args enc W ts vs := by
  induction ts generalizing vs ds p with
  | nil =>
    obtain ⟨rfl, rfl, rfl⟩ := trodAll_nil h
    exact True.intro
  | cons t ts ih =>
    obtain ⟨v, vs', d, ds', p1, q, rfl, rfl, rfl, h1, h2⟩ := trodAll_cons h
    exact ⟨⟨⟨base, hv 0 t v rfl rfl⟩, d, p1, h1, fun x hx => hlt x (by simp [hx])⟩, ih h2 (fun j t v ht hv' => hv (j + 1) t v ht hv') (fun x hx => hlt x (by simp [hx]))⟩

set_option maxRecDepth 100000 in
/-- What came in reads behind the call as before. -/
theorem trodAll_below {ts : List TypeId} {vs : List Value} {ds : List (DataW H)} {p : List MemPlace} (hr : ts.all (fun t => Tryz.prog.readableRec t && decide (t < Tryz.prog.types.size)) = true)
    (h : DataW.TrodAll enc Tryz.prog W 0 (fun _ => true) true ts vs ds p) (hb : Below W.heap.size W W') (hlt : ∀ x ∈ p, x.block < W.heap.size) :
    DataW.TrodAll enc Tryz.prog W' 0 (fun b => decide (b < W.heap.size)) true ts vs ds p := by
  induction ts generalizing vs ds p with
  | nil =>
    obtain ⟨rfl, rfl, rfl⟩ := trodAll_nil h
    exact rfl
  | cons t ts ih =>
    obtain ⟨v, vs', d, ds', p1, q, rfl, rfl, rfl, h1, h2⟩ := trodAll_cons h
    rw [List.all_cons, Bool.and_eq_true, Bool.and_eq_true, decide_eq_true_eq] at hr
    exact trodAll_cons_mk (Below.trod laidOut hr.1.1 hr.1.2 h1 hb (fun x hx => hlt x (by simp [hx]))) (ih hr.2 h2 (fun x hx => hlt x (by simp [hx])))

set_option maxRecDepth 100000 in
theorem trodAll_len {ts : List TypeId} {vs : List Value} {ds : List (DataW H)} {p : List MemPlace} (h : DataW.TrodAll enc Tryz.prog W 0 (fun _ => true) true ts vs ds p) : ds.length = ts.length := by
  induction ts generalizing vs ds p with
  | nil =>
    obtain ⟨rfl, rfl, rfl⟩ := trodAll_nil h
    rfl
  | cons t ts ih =>
    obtain ⟨v, vs', d, ds', p1, q, rfl, rfl, rfl, h1, h2⟩ := trodAll_cons h
    simp [ih h2]

set_option maxRecDepth 100000 in
/-- A LAW: its walk ends in true and makes new memory alone. -/
theorem law_lift {os : Os} {F : FuncId} {fn : Func} {s : ChangeSpec} (started : os.Started) (noInit : Tryz.checked.prog.inits.idxOf? F = none) (hfn : Tryz.checked.prog.funcs[F]? = some fn) (hv : s.vars = [])
    (hres : fn.resultTypes = #[4]) (hr : fn.params.toList.all (fun t => Tryz.prog.readableRec t && decide (t < Tryz.prog.types.size)) = true)
    (hs : ∀ ds : List (DataW H), ds.length = fn.params.toList.length → (s.fn H (ds ++ [])).results = [.lit (.bool true)] ∧ (s.fn H (ds ++ [])).args = ds ∧ (s.fn H (ds ++ [])).vars = [])
    (witness : ∃ (w : World) (tape : Tape) (i : Input), w.os = os ∧ (w.forCall tape i).Shaped Tryz.checked.prog ∧ i.vars = [] ∧ Input.okWide Tryz.checked.prog (w.forCall tape i) .any w.heap.size F i ∧
      s.pre6 enc Tryz.checked.prog fn [] false (w.forCall tape i).memory i.args ∧ ({} : Assume).holds Tryz.checked.prog (lone (Frame.enter Tryz.checked.prog F i.args .normal) [] (w.forCall tape i)))
    (walk : ∀ (W : World) (vs : List Value), Args enc W fn.params.toList vs → Calls Tryz.prog F vs.toArray W fun e w' => e = .returned (.bool true) ∧ Below W.heap.size W w') :
    ReturnsInHanded {} Tryz.checked os F .any (s.pre6 enc Tryz.prog fn [] false) (s.post enc Tryz.prog fn false true false false) := by
  refine returnsInHanded_of_change (C := Tryz.checked) own started noInit hfn witness ?_
  intro W base args ds gs before hval hW _ _
  have hW' := hW
  obtain ⟨p, q, hA0, hV, rfl, hfz, hnd⟩ := hW
  have hA : DataW.TrodAll enc Tryz.prog W 0 (fun _ => true) true fn.params.toList args.toList ds p := hA0
  rw [hv] at hV
  obtain ⟨rfl, rfl⟩ := trodVars_none hV
  have hlt : ∀ x ∈ p, x.block < W.heap.size := fun x hx => hW'.lt x (by simp [hx])
  have hargs := args_of hA (fun j t v h1 h2 => hval j t v (by simpa using h1) (by simpa using h2)) hlt
  obtain ⟨e1, e2, e3⟩ := hs ds (trodAll_len hA)
  refine (walk W args.toList hargs).mono fun e W' ⟨he, hb⟩ => ?_
  subst he
  refine ⟨_, rfl, ds, [], p ++ [], [], p, [], hW', ?_, ?_, ?_, hb.frame _, fun h => by cases h⟩
  · rw [e1, hres]
    exact trodAll_mk1 (shut_bool Tryz.underlying4 _)
  · rw [e2]
    exact trodAll_below hr hA hb hlt
  · rw [hv, e3]
    exact rfl

set_option maxRecDepth 100000 in
theorem Arg.int {t : TypeId} {v : Value} {k : IntKind} (ht : Tryz.prog.underlying t = some (.int k)) (h : Arg enc W t v) : ∃ n, v = .int k n ∧ (Lit.int k n).wf = true := by
  obtain ⟨⟨base, hv⟩, d, p, hd, _⟩ := h
  obtain ⟨n, rfl, _, _, hw⟩ := open_int ht hv hd
  exact ⟨n, rfl, hw⟩
set_option maxRecDepth 100000 in
theorem Arg.string {t : TypeId} {v : Value} (ht : Tryz.prog.underlying t = some .string) (h : Arg enc W t v) : ∃ s, v = .string s ∧ s.size ≤ maxLen := by
  obtain ⟨⟨base, hv⟩, d, p, hd, _⟩ := h
  obtain ⟨s, rfl, _, _, hs⟩ := open_string ht hv hd
  exact ⟨s, rfl, hs⟩
end
end Go.Proofs.YtphjillihapbfaaGreatDoor

namespace Go.Proofs.YtphjillihapbfaaGreatDoor
open Go.ChangeShapes Go.WideShapes Go.ChangeAt Go.RowKit Go.Deep
open Go.ChangeMaps (setBlock shut_map_nil open_string shut_string keptBut_setBlock frozen?_setBlock heap_setBlock_same)
theorem cells_fl : Tryz.prog.cellsOf 45 = 2 := by kernel_rfl

section
variable {H : Type} {enc : TypeId × Value → H} {W : World}

set_option maxRecDepth 100000 in
theorem trod_fl {base : Nat} {sp : Nat → Bool} {held : Bool} {fuel : Nat} {cs : List Value} {x : DataW H × List MemPlace} (h : DataW.trod enc Tryz.prog W base sp held fuel 45 cs = some x) : ∃ r : Fl, cs = fce r ∧ r.1.size ≤ maxLen ∧ r.2.size ≤ maxLen := by
  obtain ⟨xs, m, rfl, rfl, hl, hn, hi⟩ := DataW.trod_struct Tryz.underlying45 h
  rw [cells_fl] at hl
  match cs, hl with
  | [c0, c1], _ =>
    have h0 := hi 0 _ rfl
    have h1 := hi 1 _ rfl
    match xs, hn with
    | [x0, x1], _ =>
      simp [show Tryz.prog.cellsOf 9 = 1 from by kernel_rfl] at h0 h1
      obtain ⟨b, eb, _, sb⟩ := DataW.trod_string Tryz.underlying9 h0
      obtain ⟨c, ec, _, sc⟩ := DataW.trod_string Tryz.underlying9 h1
      simp at eb ec
      subst eb ec
      exact ⟨(b, c), rfl, sb, sc⟩

set_option maxRecDepth 100000 in
theorem Arg.files {v : Value} (h : Arg enc W 28 v) : ∃ (ao : Option Addr) (n cap : Nat) (l : List Fl), v = .slice ao n cap ∧ FA W ao n cap l := by
  obtain ⟨⟨base, hv⟩, d, p, ⟨fuel, hf⟩, hlt⟩ := h
  obtain ⟨a0, len0, cap0, rfl⟩ := okWide_slice Tryz.underlying28 hv
  rcases open_slice Tryz.underlying28 hf with ⟨hcs, _⟩ | ⟨a, len, cap, m, n, D, Pl, hcs, _, hl, hm, hmm, hx, hel⟩
  · simp [Value.cells] at hcs
    obtain ⟨rfl, rfl, rfl⟩ := hcs
    exact ⟨none, 0, 0, [], rfl, FA.nil W⟩
  · simp [Value.cells] at hcs
    obtain ⟨rfl, rfl, rfl⟩ := hcs
    rw [cells_fl] at hel hx
    simp at hmm
    have hd : ∀ i, i < len0 → ∃ r : Fl, W.cells? 0 (a.add (i * 2)) 2 = some (fce r) ∧ r.1.size ≤ maxLen ∧ r.2.size ≤ maxLen := fun i hi => by
      obtain ⟨cs', h1, h2⟩ := hel i (by omega)
      obtain ⟨r, rfl, hs⟩ := trod_fl h2
      exact ⟨r, h1, hs⟩
    obtain ⟨f, hf'⟩ : ∃ f : Nat → Fl, ∀ i, i < len0 → W.cells? 0 (a.add (i * 2)) 2 = some (fce (f i)) ∧ (f i).1.size ≤ maxLen ∧ (f i).2.size ≤ maxLen :=
      ⟨fun i => if h : i < len0 then (hd i h).choose else (default, default), fun i hi => by simp only [hi, dif_pos]; exact (hd i hi).choose_spec⟩
    refine ⟨some a, len0, cap0, (List.range len0).map f, rfl, ⟨by simp, ⟨by rw [fcells_length]; simp, ?_⟩, hl, by omega, (fun h => by cases h), ?_⟩⟩
    · rcases Nat.eq_zero_or_pos len0 with h0 | hpos
      · exact .inl h0
      · right
        have hcell : ∀ i (_ : i < len0), ∀ j, j < 2 → W.cell? ((a.add (i * 2)).add j) = (fce (f i))[j]? := fun i hi j hj => (World.cells?_some (hf' i hi).1).2.2 j hj
        clear hf hd hel hx
        obtain ⟨b, off, spot⟩ := a
        have h00 := hcell 0 hpos 0 (by omega)
        have hspot : spot = none := by simpa [Addr.add] using World.cell?_spot (h00.trans rfl)
        subst hspot
        have h00' : W.cell? ⟨b, off, none⟩ = some (.string (f 0).1) := by simpa [Addr.add] using h00
        refine ⟨b, off, rfl, World.block_lt_of_cell? W ⟨b, off, none⟩ h00', ?_⟩
        intro j u hj
        have hj' : j < len0 * 2 := by
          have := List.getElem?_eq_some_iff.1 hj
          obtain ⟨h, _⟩ := this
          rw [fcells_length] at h
          simpa using h
        have hi4 : j / 2 < len0 := by omega
        have h4 := hcell (j / 2) hi4 (j % 2) (by omega)
        rw [Addr.add_lit, Addr.add_lit, show off + j / 2 * 2 + j % 2 = off + j by omega] at h4
        rw [h4, ← hj]
        have hk : j / 2 < ((List.range len0).map f).length := by simpa using hi4
        have e := fcells_at hk
        have ef : ((List.range len0).map f)[j / 2] = f (j / 2) := by simp
        rw [ef] at e
        have hm4 : j % 2 = 0 ∨ j % 2 = 1 := by omega
        rcases hm4 with h | h
        · rw [h, show j = j / 2 * 2 + 0 by omega, show (j / 2 * 2 + 0) / 2 = j / 2 by omega, e.1]; rfl
        · rw [h, show j = j / 2 * 2 + 1 by omega, show (j / 2 * 2 + 1) / 2 = j / 2 by omega, e.2]; rfl
    · intro r hr
      rw [List.mem_map] at hr
      obtain ⟨i, hi, rfl⟩ := hr
      exact (hf' i (by simpa using hi)).2

set_option maxRecDepth 100000 in
/-- A LAW with listed variables: its walk ends in true and makes new memory alone. -/
theorem law_lift_laid {os : Os} {F : FuncId} {fn : Func} {s : ChangeSpec} {X : World → Array Value → Prop} (hX : ∀ (w w' : World) (args : Array Value), w.heap = w'.heap → X w args → X w' args) (started : os.Started) (noInit : Tryz.checked.prog.inits.idxOf? F = none) (hfn : Tryz.checked.prog.funcs[F]? = some fn) (hv : s.vars = [])
    (hres : fn.resultTypes = #[4]) (hr : fn.params.toList.all (fun t => Tryz.prog.readableRec t && decide (t < Tryz.prog.types.size)) = true)
    (hs : ∀ ds : List (DataW H), ds.length = fn.params.toList.length → (s.fn H (ds ++ [])).results = [.lit (.bool true)] ∧ (s.fn H (ds ++ [])).args = ds ∧ (s.fn H (ds ++ [])).vars = [])
    (witness : ∃ (w : World) (tape : Tape) (i : Input), w.os = os ∧ (w.forCall tape i).Shaped Tryz.checked.prog ∧ i.vars = [] ∧ Input.okWide Tryz.checked.prog (w.forCall tape i) .any w.heap.size F i ∧
      ((s.pre enc Tryz.checked.prog fn [] false (w.forCall tape i).memory i.args ∧ X (w.forCall tape i).memory i.args) ∧ sizedMet enc Tryz.checked.prog fn (OpenSpec.ofChange s) false (w.forCall tape i).memory i.args) ∧ ({} : Assume).holds Tryz.checked.prog (lone (Frame.enter Tryz.checked.prog F i.args .normal) [] (w.forCall tape i)))
    (walk : ∀ (W : World) (vs : List Value), Args enc W fn.params.toList vs → Calls Tryz.prog F vs.toArray W fun e w' => e = .returned (.bool true) ∧ Below W.heap.size W w') :
    ReturnsInHanded {} Tryz.checked os F .any (fun w args => (s.pre enc Tryz.prog fn [] false w args ∧ X w args) ∧ sizedMet enc Tryz.prog fn (OpenSpec.ofChange s) false w args) (s.post enc Tryz.prog fn false true false false) := by
  refine returnsInHanded_of_change_and (C := Tryz.checked) (X := X) hX own started noInit hfn witness ?_
  intro W base args ds gs before hval hW _ _ _ _
  have hW' := hW
  obtain ⟨p, q, hA0, hV, rfl, hfz, hnd⟩ := hW
  have hA : DataW.TrodAll enc Tryz.prog W 0 (fun _ => true) true fn.params.toList args.toList ds p := hA0
  rw [hv] at hV
  obtain ⟨rfl, rfl⟩ := trodVars_none hV
  have hlt : ∀ x ∈ p, x.block < W.heap.size := fun x hx => hW'.lt x (by simp [hx])
  have hargs := args_of hA (fun j t v h1 h2 => hval j t v (by simpa using h1) (by simpa using h2)) hlt
  obtain ⟨e1, e2, e3⟩ := hs ds (trodAll_len hA)
  refine (walk W args.toList hargs).mono fun e W' ⟨he, hb⟩ => ?_
  subst he
  refine ⟨_, rfl, ds, [], p ++ [], [], p, [], hW', ?_, ?_, ?_, hb.frame _, fun h => by cases h⟩
  · rw [e1, hres]
    exact trodAll_mk1 (shut_bool Tryz.underlying4 _)
  · rw [e2]
    exact trodAll_below hr hA hb hlt
  · rw [hv, e3]
    exact rfl
end
end Go.Proofs.YtphjillihapbfaaGreatDoor

namespace Go.Proofs.YtphjillihapbfaaGreatDoor
open Go.ChangeShapes Go.WideShapes Go.ChangeAt Go.RowKit Go.Deep
open Go.ChangeMaps (setBlock shut_map_nil open_string shut_string keptBut_setBlock frozen?_setBlock heap_setBlock_same)
theorem cells_fls : Tryz.prog.cellsOf 28 = 1 := by kernel_rfl

section
variable {H : Type} {enc : TypeId × Value → H} {W : World}

theorem row_of_elems {α : Type} {sz : Nat} {e : α → List Value} (he : ∀ x, (e x).length = sz) (hsz : 0 < sz) {a : Addr} {len : Nat} {f : Nat → α} (hf : ∀ i, i < len → W.cells? 0 (a.add (i * sz)) sz = some (e (f i))) : Sl W sz (some a) len (((List.range len).map f).flatMap e) := by
  refine ⟨by rw [flat_length he]; simp, ?_⟩
  rcases Nat.eq_zero_or_pos len with h0 | hpos
  · exact .inl h0
  · right
    have hcell : ∀ i (_ : i < len), ∀ j, j < sz → W.cell? ((a.add (i * sz)).add j) = (e (f i))[j]? := fun i hi j hj => (World.cells?_some (hf i hi)).2.2 j hj
    obtain ⟨b, off, spot⟩ := a
    have h00 := hcell 0 hpos 0 hsz
    rw [List.getElem?_eq_getElem (show 0 < (e (f 0)).length by rw [he]; exact hsz)] at h00
    have hspot : spot = none := by simpa [Addr.add] using World.cell?_spot h00
    subst hspot
    have h00' : W.cell? ⟨b, off, none⟩ = some ((e (f 0))[0]'(by rw [he]; exact hsz)) := by simpa [Addr.add] using h00
    refine ⟨b, off, rfl, World.block_lt_of_cell? W ⟨b, off, none⟩ h00', fun j u hj => ?_⟩
    have hj' : j < len * sz := by
      have := (List.getElem?_eq_some_iff.1 hj).1
      rw [flat_length he] at this
      simpa using this
    have hq : j / sz < len := Nat.div_lt_of_lt_mul (by rw [Nat.mul_comm]; exact hj')
    have hr : j % sz < sz := Nat.mod_lt _ hsz
    have hd : j / sz * sz + j % sz = j := by rw [Nat.mul_comm]; exact Nat.div_add_mod j sz
    have h4 := hcell (j / sz) hq (j % sz) hr
    rw [Addr.add_lit, Addr.add_lit, Nat.add_assoc, hd] at h4
    rw [h4, ← hj]
    have h5 := flat_at he (l := (List.range len).map f) (k := j / sz) (by simpa using hq) hr
    rw [hd] at h5
    rw [h5]
    congr 2
    simp
set_option maxRecDepth 100000 in
theorem files_of_trod {fuel : Nat} {cs : List Value} {x : DataW H × List MemPlace} (hf : DataW.trod enc Tryz.prog W 0 (fun _ => true) true fuel 28 cs = some x) : ∃ (ao : Option Addr) (n cap : Nat) (l : List Fl), cs = [.slice ao n cap] ∧ FA W ao n cap l := by
  rcases open_slice Tryz.underlying28 hf with ⟨hcs, _⟩ | ⟨a, len, cap, m, n, D, Pl, hcs, _, hl, hm, hmm, hx, hel⟩
  · exact ⟨none, 0, 0, [], hcs, FA.nil W⟩
  · subst hcs
    rw [cells_fl] at hel hx
    simp at hmm
    have hd : ∀ i, i < len → ∃ r : Fl, W.cells? 0 (a.add (i * 2)) 2 = some (fce r) ∧ r.1.size ≤ maxLen ∧ r.2.size ≤ maxLen := fun i hi => by
      obtain ⟨cs', h1, h2⟩ := hel i (by omega)
      obtain ⟨r, rfl, hs⟩ := trod_fl h2
      exact ⟨r, h1, hs⟩
    obtain ⟨f, hf'⟩ : ∃ f : Nat → Fl, ∀ i, i < len → W.cells? 0 (a.add (i * 2)) 2 = some (fce (f i)) ∧ (f i).1.size ≤ maxLen ∧ (f i).2.size ≤ maxLen :=
      ⟨fun i => if h : i < len then (hd i h).choose else (default, default), fun i hi => by simp only [hi, dif_pos]; exact (hd i hi).choose_spec⟩
    refine ⟨some a, len, cap, (List.range len).map f, rfl, by simp, ?_, hl, hm, (fun e => by cases e), fun r hr => ?_⟩
    · exact row_of_elems fce_length (by omega) (fun i hi => (hf' i hi).1)
    · obtain ⟨i, hi, rfl⟩ := List.mem_map.1 hr
      exact (hf' i (by simpa using hi)).2
set_option maxRecDepth 100000 in
theorem Arg.lists {v : Value} (h : Arg enc W 22 v) : ∃ (S : List Fw) (ao : Option Addr) (n cap : Nat), v = .slice ao n cap ∧ LA W ao n cap S := by
  obtain ⟨⟨base, hv⟩, d, p, ⟨fuel, hf⟩, _⟩ := h
  obtain ⟨sa, sn, sc, rfl⟩ := okWide_slice Tryz.underlying22 hv
  rcases open_slice Tryz.underlying22 hf with ⟨hcs, _⟩ | ⟨a, len, cap, m, n, D, Pl, hcs, _, hl, hm, hmm, hx, hel⟩
  · simp [Value.cells] at hcs
    obtain ⟨rfl, rfl, rfl⟩ := hcs
    exact ⟨[], _, _, _, rfl, rfl, Sl.nil, Nat.le_refl _, by simp [maxLen], (fun r hr => by cases hr)⟩
  · simp [Value.cells] at hcs
    obtain ⟨rfl, rfl, rfl⟩ := hcs
    rw [cells_fls] at hel hx
    simp at hmm
    have hd : ∀ i, i < sn → ∃ r : Fw, W.cells? 0 (a.add (i * 1)) 1 = some [fwc r] ∧ FA W r.ao r.l.length r.cap r.l := fun i hi => by
      obtain ⟨cs', h1, h2⟩ := hel i (by omega)
      obtain ⟨ao, n, cap, l, rfl, hI⟩ := files_of_trod h2
      have := hI.len
      subst this
      exact ⟨⟨l, ao, cap⟩, h1, hI⟩
    obtain ⟨f, hf'⟩ : ∃ f : Nat → Fw, ∀ i, i < sn → W.cells? 0 (a.add (i * 1)) 1 = some [fwc (f i)] ∧ FA W (f i).ao (f i).l.length (f i).cap (f i).l :=
      ⟨fun i => if h : i < sn then (hd i h).choose else ⟨[], none, 0⟩, fun i hi => by simp only [hi, dif_pos]; exact (hd i hi).choose_spec⟩
    refine ⟨(List.range sn).map f, some a, sn, sc, rfl, by simp, ?_, hl, hm, fun r hr => ?_⟩
    · have := row_of_elems (sz := 1) (e := fun r : Fw => [fwc r]) (fun _ => rfl) (by decide) (fun i hi => (hf' i hi).1)
      rwa [show ((List.range sn).map f).flatMap (fun r : Fw => [fwc r]) = ((List.range sn).map f).map fwc by simp [← List.map_eq_flatMap]] at this
    · obtain ⟨i, hi, rfl⟩ := List.mem_map.1 hr
      exact (hf' i (by simpa using hi)).2
end
end Go.Proofs.YtphjillihapbfaaGreatDoor
