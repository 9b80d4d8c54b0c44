/-
  From a walk that ends in true to a law's row: what came in reads as it read; how integers, strings, digests and slices of digests come in.
-/
import Derived.Test.YtnjcoejnknpfoaaRows
import Derived.WalkKit
import Derived.ProofKit
import Derived.OpenShut
import Derived.SizedLaws
namespace Go.Proofs.Ytnjcoejnknpfoaa
open Go.ChangeShapes Go.WideShapes Go.ChangeAt Go.RowKit
open Go.ChangeMaps (setBlock shut_map_nil open_string shut_string keptBut_setBlock frozen?_setBlock heap_setBlock_same)

theorem own : ownKnob Try.prog.godebug = none := by kernel_rfl
theorem laidOut : laidOutB Try.prog = true := by kernel_rfl

section
variable {H : Type} {enc : TypeId × Value → H} {W W' : World}

/-- v came in at type t. -/
def Arg (enc : TypeId × Value → H) (W : World) (t : TypeId) (v : Value) : Prop :=
  (∃ base, Value.okWide Try.prog W .any base t v) ∧ ∃ d p, DataW.Trod enc Try.prog W 0 (fun _ => true) true t v d p ∧ ∀ x ∈ p, x.block < W.heap.size
/-- All that came in. -/
def Args (enc : TypeId × Value → H) (W : World) : List TypeId → List Value → Prop
  | [], [] => True
  | t :: ts, v :: vs => Arg enc W t v ∧ Args enc W ts vs
  | _, _ => False

set_option maxRecDepth 100000 in
theorem args_of {ts : List TypeId} {vs : List Value} {ds : List (DataW H)} {p : List MemPlace} {base : Nat} (h : DataW.TrodAll enc Try.prog W 0 (fun _ => true) true ts vs ds p)
    (hv : ∀ (j : Nat) t v, ts[j]? = some t → vs[j]? = some v → Value.okWide Try.prog W .any base t v) (hlt : ∀ x ∈ p, x.block < W.heap.size) : Args enc W ts vs := by
  induction ts generalizing vs ds p with
  | nil =>
    obtain ⟨rfl, rfl, rfl⟩ := trodAll_nil h
    exact True.intro
  | cons t ts ih =>
    obtain ⟨v, vs', d, ds', p1, q, rfl, rfl, rfl, h1, h2⟩ := trodAll_cons h
    exact ⟨⟨⟨base, hv 0 t v rfl rfl⟩, d, p1, h1, fun x hx => hlt x (by simp [hx])⟩, ih h2 (fun j t v ht hv' => hv (j + 1) t v ht hv') (fun x hx => hlt x (by simp [hx]))⟩

set_option maxRecDepth 100000 in
/-- What came in reads behind the call as before. -/
theorem trodAll_below {ts : List TypeId} {vs : List Value} {ds : List (DataW H)} {p : List MemPlace} (hr : ts.all (fun t => Try.prog.readableRec t && decide (t < Try.prog.types.size)) = true)
    (h : DataW.TrodAll enc Try.prog W 0 (fun _ => true) true ts vs ds p) (hb : Below W.heap.size W W') (hlt : ∀ x ∈ p, x.block < W.heap.size) :
    DataW.TrodAll enc Try.prog W' 0 (fun b => decide (b < W.heap.size)) true ts vs ds p := by
  induction ts generalizing vs ds p with
  | nil =>
    obtain ⟨rfl, rfl, rfl⟩ := trodAll_nil h
    exact rfl
  | cons t ts ih =>
    obtain ⟨v, vs', d, ds', p1, q, rfl, rfl, rfl, h1, h2⟩ := trodAll_cons h
    rw [List.all_cons, Bool.and_eq_true, Bool.and_eq_true, decide_eq_true_eq] at hr
    exact trodAll_cons_mk (Below.trod laidOut hr.1.1 hr.1.2 h1 hb (fun x hx => hlt x (by simp [hx]))) (ih hr.2 h2 (fun x hx => hlt x (by simp [hx])))

set_option maxRecDepth 100000 in
theorem trodAll_len {ts : List TypeId} {vs : List Value} {ds : List (DataW H)} {p : List MemPlace} (h : DataW.TrodAll enc Try.prog W 0 (fun _ => true) true ts vs ds p) : ds.length = ts.length := by
  induction ts generalizing vs ds p with
  | nil =>
    obtain ⟨rfl, rfl, rfl⟩ := trodAll_nil h
    rfl
  | cons t ts ih =>
    obtain ⟨v, vs', d, ds', p1, q, rfl, rfl, rfl, h1, h2⟩ := trodAll_cons h
    simp [ih h2]

set_option maxRecDepth 100000 in
/-- A LAW: its walk ends in true and makes new memory alone. -/
theorem law_lift {os : Os} {F : FuncId} {fn : Func} {s : ChangeSpec} (started : os.Started) (noInit : Try.checked.prog.inits.idxOf? F = none) (hfn : Try.checked.prog.funcs[F]? = some fn) (hv : s.vars = [])
    (hres : fn.resultTypes = #[4]) (hr : fn.params.toList.all (fun t => Try.prog.readableRec t && decide (t < Try.prog.types.size)) = true)
    (hs : ∀ ds : List (DataW H), ds.length = fn.params.toList.length → (s.fn H (ds ++ [])).results = [.lit (.bool true)] ∧ (s.fn H (ds ++ [])).args = ds ∧ (s.fn H (ds ++ [])).vars = [])
    (witness : ∃ (w : World) (tape : Tape) (i : Input), w.os = os ∧ (w.forCall tape i).Shaped Try.checked.prog ∧ i.vars = [] ∧ Input.okWide Try.checked.prog (w.forCall tape i) .any w.heap.size F i ∧
      s.pre6 enc Try.checked.prog fn [] false (w.forCall tape i).memory i.args ∧ ({} : Assume).holds Try.checked.prog (lone (Frame.enter Try.checked.prog F i.args .normal) [] (w.forCall tape i)))
    (walk : ∀ (W : World) (vs : List Value), Args enc W fn.params.toList vs → Calls Try.prog F vs.toArray W fun e w' => e = .returned (.bool true) ∧ Below W.heap.size W w') :
    ReturnsInHanded {} Try.checked os F .any (s.pre6 enc Try.prog fn [] false) (s.post enc Try.prog fn false true false false) := by
  refine returnsInHanded_of_change (C := Try.checked) own started noInit hfn witness ?_
  intro W base args ds gs before hval hW _ _
  have hW' := hW
  obtain ⟨p, q, hA0, hV, rfl, hfz, hnd⟩ := hW
  have hA : DataW.TrodAll enc Try.prog W 0 (fun _ => true) true fn.params.toList args.toList ds p := hA0
  rw [hv] at hV
  obtain ⟨rfl, rfl⟩ := trodVars_none hV
  have hlt : ∀ x ∈ p, x.block < W.heap.size := fun x hx => hW'.lt x (by simp [hx])
  have hargs := args_of hA (fun j t v h1 h2 => hval j t v (by simpa using h1) (by simpa using h2)) hlt
  obtain ⟨e1, e2, e3⟩ := hs ds (trodAll_len hA)
  refine (walk W args.toList hargs).mono fun e W' ⟨he, hb⟩ => ?_
  subst he
  refine ⟨_, rfl, ds, [], p ++ [], [], p, [], hW', ?_, ?_, ?_, hb.frame _, fun h => by cases h⟩
  · rw [e1, hres]
    exact trodAll_mk1 (shut_bool Try.underlying4 _)
  · rw [e2]
    exact trodAll_below hr hA hb hlt
  · rw [hv, e3]
    exact rfl

set_option maxRecDepth 100000 in
theorem Arg.int {t : TypeId} {v : Value} {k : IntKind} (ht : Try.prog.underlying t = some (.int k)) (h : Arg enc W t v) : ∃ n, v = .int k n ∧ (Lit.int k n).wf = true := by
  obtain ⟨⟨base, hv⟩, d, p, hd, _⟩ := h
  obtain ⟨n, rfl, _, _, hw⟩ := open_int ht hv hd
  exact ⟨n, rfl, hw⟩
set_option maxRecDepth 100000 in
theorem Arg.string {t : TypeId} {v : Value} (ht : Try.prog.underlying t = some .string) (h : Arg enc W t v) : ∃ s, v = .string s ∧ s.size ≤ maxLen := by
  obtain ⟨⟨base, hv⟩, d, p, hd, _⟩ := h
  obtain ⟨s, rfl, _, _, hs⟩ := open_string ht hv hd
  exact ⟨s, rfl, hs⟩
end
end Go.Proofs.Ytnjcoejnknpfoaa
