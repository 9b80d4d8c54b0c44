import Derived.Test.YtgcceepadlmelaaGreatDoorQAA
import Derived.Test.YtgcceepadlmelaaGreatDoorTopReo
import Derived.Lay
import Derived.Deep.Slices
namespace Go.Proofs.YtgcceepadlmelaaGreatDoor
set_option maxRecDepth 100000
open Go.ChangeShapes Go.WideShapes Go.ChangeAt Go.RowKit Go.Deep
open Go.ChangeMaps (setBlock shut_map_nil open_string shut_string keptBut_setBlock frozen?_setBlock heap_setBlock_same)
theorem cells_str : Tryz.prog.cellsOf 9 = 1 := by kernel_rfl
theorem cells_int : Tryz.prog.cellsOf 3 = 1 := by kernel_rfl
theorem cells_bool : Tryz.prog.cellsOf 4 = 1 := by kernel_rfl
theorem cells_u8 : Tryz.prog.cellsOf 5 = 1 := by kernel_rfl
theorem cells_sstr : Tryz.prog.cellsOf 42 = 1 := by kernel_rfl
theorem cells_sex : Tryz.prog.cellsOf 61 = 1 := by kernel_rfl
theorem cells_sde : Tryz.prog.cellsOf 43 = 1 := by kernel_rfl
theorem cells_ex : Tryz.prog.cellsOf 63 = 6 := by kernel_rfl
theorem cells_de : Tryz.prog.cellsOf 65 = 11 := by kernel_rfl
theorem cells_mo : Tryz.prog.cellsOf 45 = 3 := by kernel_rfl
theorem cells_pr : Tryz.prog.cellsOf 31 = 2 := by kernel_rfl
section
variable {H : Type} {enc : TypeId × Value → H} {W : World}
theorem row_of_elems {α : Type} {sz : Nat} {e : α → List Value} (he : ∀ x, (e x).length = sz) (hsz : 0 < sz) {a : Addr} {len : Nat} {f : Nat → α} (hf : ∀ i, i < len → W.cells? 0 (a.add (i * sz)) sz = some (e (f i))) : Sl W sz (some a) len (((List.range len).map f).flatMap e) := by
 refine ⟨by rw [flat_length he]; simp, ?_⟩
 rcases Nat.eq_zero_or_pos len with h0 | hpos
 ·exact .inl h0
 ·right
  have hcell : ∀ i (_ : i < len), ∀ j, j < sz → W.cell? ((a.add (i * sz)).add j) = (e (f i))[j]? := fun i hi j hj => (World.cells?_some (hf i hi)).2.2 j hj
  obtain ⟨b, off, spot⟩ := a
  have h00 := hcell 0 hpos 0 hsz
  rw [List.getElem?_eq_getElem (show 0 < (e (f 0)).length by rw [he]; exact hsz)] at h00
  have hspot : spot = none := by simpa [Addr.add] using World.cell?_spot h00
  subst hspot
  have h00' : W.cell? ⟨b, off, none⟩ = some ((e (f 0))[0]'(by rw [he]; exact hsz)) := by simpa [Addr.add] using h00
  refine ⟨b, off, rfl, World.block_lt_of_cell? W ⟨b, off, none⟩ h00', fun j u hj => ?_⟩
  have hj' : j < len * sz := by
   have := (List.getElem?_eq_some_iff.1 hj).1
   rw [flat_length he] at this
   simpa using this
  have hq : j / sz < len := Nat.div_lt_of_lt_mul (by rw [Nat.mul_comm]; exact hj')
  have hr : j % sz < sz := Nat.mod_lt _ hsz
  have hd : j / sz * sz + j % sz = j := by rw [Nat.mul_comm]; exact Nat.div_add_mod j sz
  have h4 := hcell (j / sz) hq (j % sz) hr
  rw [Addr.add_lit, Addr.add_lit, Nat.add_assoc, hd] at h4
  rw [h4, ← hj]
  have h5 := flat_at he (l := (List.range len).map f) (k := j / sz) (by simpa using hq) hr
  rw [hd] at h5
  rw [h5]
  congr 2
  simp
theorem slL {α : Type} [Inhabited α] {sz : Nat} {e : α → List Value} (he : ∀ x, (e x).length = sz) (hsz : 0 < sz) {t et : TypeId} (ht : Tryz.prog.underlying t = some (.slice et)) (hce : Tryz.prog.cellsOf et = sz) {fuel : Nat} {cs : List Value} {x : DataW H × List MemPlace} (h : DataW.trod enc Tryz.prog W 0 (fun _ => true) true fuel t cs = some x)
  (Q : α → Prop) (op : ∀ n cs' y, n < fuel → DataW.trod enc Tryz.prog W 0 (fun _ => true) true n et cs' = some y → ∃ r, cs' = e r ∧ Q r) :
  ∃ (ao : Option Addr) (n cap : Nat) (l : List α), cs = [.slice ao n cap] ∧ l.length = n ∧ Sl W sz ao n (l.flatMap e) ∧ n ≤ cap ∧ cap ≤ maxLen ∧ (ao = none → cap = 0) ∧ ∀ r ∈ l, Q r := by
 rcases DataW.trod_slice ht h with ⟨hcs, _⟩ | ⟨a, len, cap, elems, rest, n, hfu, hcs, _, _, hl, hm, hlen, hel, _, _⟩
 ·exact ⟨none, 0, 0, [], hcs, rfl, ⟨by simp, .inl rfl⟩, Nat.le_refl _, Nat.zero_le _, fun _ => rfl, fun _ h => (by cases h)⟩
 ·rw [hce] at hel
  have hd : ∀ i, i < len → ∃ r : α, W.cells? 0 (a.add (i * sz)) sz = some (e r) ∧ Q r := fun i hi => by
   have h1 := hel i hi
   rw [List.getElem?_eq_getElem (by omega)] at h1
   obtain ⟨cs', h2, h3⟩ := Option.bind_eq_some_iff.1 h1
   obtain ⟨r, rfl, hQ⟩ := op n cs' _ (by omega) h3
   exact ⟨r, h2, hQ⟩
  obtain ⟨f, hf'⟩ : ∃ f : Nat → α, ∀ i, i < len → W.cells? 0 (a.add (i * sz)) sz = some (e (f i)) ∧ Q (f i) :=
   ⟨fun i => if h : i < len then (hd i h).choose else default, fun i hi => by simp only [hi, dif_pos]; exact (hd i hi).choose_spec⟩
  refine ⟨some a, len, cap, (List.range len).map f, hcs, by simp, row_of_elems he hsz (fun i hi => (hf' i hi).1), hl, hm, (fun h => by cases h), fun r hr => ?_⟩
  obtain ⟨i, hi, rfl⟩ := List.mem_map.1 hr
  exact (hf' i (by simpa using hi)).2
theorem strs_of {fuel : Nat} {cs : List Value} {x : DataW H × List MemPlace} (h : DataW.trod enc Tryz.prog W 0 (fun _ => true) true fuel 42 cs = some x) : ∃ (ao : Option Addr) (cap : Nat) (l : List ByteArray), cs = [.slice ao l.length cap] ∧ SA W ao l.length cap l := by
 obtain ⟨ao, n, cap, l, rfl, hl, hs, h1, h2, h3, h4⟩ := slL (e := sce) sce_length (by omega) Tryz.underlying42 cells_str h (fun s => s.size ≤ maxLen) (fun n cs' y _ hy => by
  obtain ⟨s, rfl, _, hs⟩ := DataW.trod_string Tryz.underlying9 hy
  exact ⟨s, rfl, hs⟩)
 subst hl
 exact ⟨ao, cap, l, rfl, rfl, by rw [← scs_eq]; exact hs, h1, h2, h4, h3⟩
theorem i64_wf {n : Int} (h : (Lit.int .i64 n).wf = true) : I64 n := by
 simp [Lit.wf, IntKind.min, IntKind.max, IntKind.signed, IntKind.bits] at h
 exact ⟨by omega, by omega⟩
instance : Inhabited Ew := ⟨.mk 0 ⟨#[]⟩ ⟨#[]⟩ 0 0 none 0 []⟩
theorem expr_of : ∀ (N fuel : Nat), fuel ≤ N → ∀ (cs : List Value) (x : DataW H × List MemPlace), DataW.trod enc Tryz.prog W 0 (fun _ => true) true fuel 63 cs = some x → ∃ e : Ew, cs = ece e ∧ EA W e := by
 intro N
 induction N with
 | zero =>
  intro fuel hf cs x h
  obtain rfl : fuel = 0 := by omega
  simp [DataW.trod] at h
 | succ N ih =>
  intro fuel hf cs x h
  obtain ⟨xs, m, hfu, rfl, hl, hn, hi⟩ := DataW.trod_struct Tryz.underlying63 h
  rw [cells_ex] at hl
  match cs, hl with
  | [c0, c1, c2, c3, c4, c5], _ =>
   have h0 := hi 0 _ rfl
   have h1 := hi 1 _ rfl
   have h2 := hi 2 _ rfl
   have h3 := hi 3 _ rfl
   have h4 := hi 4 _ rfl
   have h5 := hi 5 _ rfl
   match xs, hn with
   | [x0, x1, x2, x3, x4, x5], _ =>
    simp [cells_int, cells_str, cells_sex] at h0 h1 h2 h3 h4 h5
    obtain ⟨b0, e0, _, s0⟩ := DataW.trod_int Tryz.underlying3 h0
    obtain ⟨b1, e1, _, s1⟩ := DataW.trod_string Tryz.underlying9 h1
    obtain ⟨b2, e2, _, s2⟩ := DataW.trod_string Tryz.underlying9 h2
    obtain ⟨b3, e3, _, s3⟩ := DataW.trod_int Tryz.underlying3 h3
    obtain ⟨b4, e4, _, s4⟩ := DataW.trod_int Tryz.underlying3 h4
    obtain ⟨ao, n, cap, l, e5, hln, hs, g1, g2, g3, g4⟩ := slL (e := ece) ece_length (by omega) Tryz.underlying61 cells_ex h5 (fun e => EA W e) (fun n cs' y hnm hy => ih n (by omega) cs' y hy)
    simp at e0 e1 e2 e3 e4 e5
    subst e0 e1 e2 e3 e4 e5 hln
    exact ⟨.mk b0 b1 b2 b3 b4 ao cap l, rfl, .mk hs g1 g2 s1 s2 (i64_wf s0) (i64_wf s3) (i64_wf s4) g4 g3⟩
instance : Inhabited Dw := ⟨⟨0, 0, false, none, [], 0, false, default⟩⟩
theorem decl_of {fuel : Nat} {cs : List Value} {x : DataW H × List MemPlace} (h : DataW.trod enc Tryz.prog W 0 (fun _ => true) true fuel 65 cs = some x) : ∃ d : Dw, cs = dce d ∧ DwA W d := by
 obtain ⟨xs, m, hfu, rfl, hl, hn, hi⟩ := DataW.trod_struct Tryz.underlying65 h
 rw [cells_de] at hl
 match cs, hl with
 | [c0, c1, c2, c3, c4, c5, c6, c7, c8, c9, c10], _ =>
  have h0 := hi 0 _ rfl
  have h1 := hi 1 _ rfl
  have h2 := hi 2 _ rfl
  have h3 := hi 3 _ rfl
  have h4 := hi 4 _ rfl
  have h5 := hi 5 _ rfl
  match xs, hn with
  | [x0, x1, x2, x3, x4, x5], _ =>
   simp [cells_int, cells_bool, cells_sstr, cells_ex] at h0 h1 h2 h3 h4 h5
   obtain ⟨b0, e0, _, s0⟩ := DataW.trod_int Tryz.underlying3 h0
   obtain ⟨b1, e1, _, s1⟩ := DataW.trod_int Tryz.underlying3 h1
   obtain ⟨b2, e2, _⟩ := DataW.trod_bool Tryz.underlying4 h2
   obtain ⟨ao, cap, l, e3, hs⟩ := strs_of h3
   obtain ⟨b4, e4, _⟩ := DataW.trod_bool Tryz.underlying4 h4
   obtain ⟨b, e5, hE⟩ := expr_of m m (Nat.le_refl _) _ _ h5
   simp at e0 e1 e2 e3 e4
   injection e5 with p0 e5
   injection e5 with p1 e5
   injection e5 with p2 e5
   injection e5 with p3 e5
   injection e5 with p4 e5
   injection e5 with p5 e5
   subst e0 e1 e2 e3 e4 p0 p1 p2 p3 p4 p5
   exact ⟨⟨b0, b1, b2, ao, l, cap, b4, b⟩, rfl, i64_wf s0, i64_wf s1, hs, hE⟩
instance : Inhabited Mw := ⟨zMw⟩
theorem mod_of {fuel : Nat} {cs : List Value} {x : DataW H × List MemPlace} (h : DataW.trod enc Tryz.prog W 0 (fun _ => true) true fuel 45 cs = some x) : ∃ d : Mw, cs = mce d ∧ MwA W d := by
 obtain ⟨xs, m, hfu, rfl, hl, hn, hi⟩ := DataW.trod_struct Tryz.underlying45 h
 rw [cells_mo] at hl
 match cs, hl with
 | [c0, c1, c2], _ =>
  have h0 := hi 0 _ rfl
  have h1 := hi 1 _ rfl
  have h2 := hi 2 _ rfl
  match xs, hn with
  | [x0, x1, x2], _ =>
   simp [cells_str, cells_sstr, cells_sde] at h0 h1 h2
   obtain ⟨b0, e0, _, s0⟩ := DataW.trod_string Tryz.underlying9 h0
   obtain ⟨ao, cap, l, e1, hs⟩ := strs_of h1
   obtain ⟨bo, n, bc, dl, e2, hln, hs2, g1, g2, g3, g4⟩ := slL (e := dce) dce_length (by omega) Tryz.underlying43 cells_de h2 (fun d => DwA W d) (fun n cs' y _ hy => decl_of hy)
   simp at e0 e1 e2
   subst e0 e1 e2 hln
   exact ⟨⟨b0, ao, l, cap, bo, dl, bc⟩, rfl, s0, hs, rfl, hs2, g1, g2, g4, g3⟩
theorem Arg.mods {v : Value} (h : Arg enc W 22 v) : ∃ (L : List Mw) (ao : Option Addr) (n cap : Nat), v = .slice ao n cap ∧ MLA W ao n cap L := by
 obtain ⟨⟨base, hv⟩, d, p, ⟨fuel, hf⟩, _⟩ := h
 obtain ⟨sa, sn, sc, rfl⟩ := okWide_slice Tryz.underlying22 hv
 obtain ⟨bo, n, bc, dl, e2, hln, hs2, g1, g2, g3, g4⟩ := slL (e := mce) mce_length (by omega) Tryz.underlying22 cells_mo hf (fun d => MwA W d) (fun n cs' y _ hy => mod_of hy)
 simp [Value.cells] at e2
 obtain ⟨rfl, rfl, rfl⟩ := e2
 exact ⟨dl, _, _, _, rfl, hln, hs2, g1, g2, g4, g3⟩
theorem pair_of {fuel : Nat} {cs : List Value} {x : DataW H × List MemPlace} (h : DataW.trod enc Tryz.prog W 0 (fun _ => true) true fuel 31 cs = some x) : ∃ p : Int × Int, cs = mve p ∧ (0 ≤ p.1 ∧ p.1 ≤ 255) ∧ 0 ≤ p.2 ∧ p.2 ≤ 255 := by
 obtain ⟨xs, m, hfu, rfl, hl, hn, hi⟩ := DataW.trod_array Tryz.underlying31 h
 rw [cells_pr] at hl
 match cs, hl with
 | [c0, c1], _ =>
  have h0 := hi 0 (by omega)
  have h1 := hi 1 (by omega)
  match xs, hn with
  | [x0, x1], _ =>
   simp [cells_u8] at h0 h1
   obtain ⟨b0, e0, _, s0⟩ := DataW.trod_int Tryz.underlying5 h0
   obtain ⟨b1, e1, _, s1⟩ := DataW.trod_int Tryz.underlying5 h1
   simp at e0 e1
   subst e0 e1
   simp [Lit.wf, IntKind.min, IntKind.max, IntKind.signed, IntKind.bits] at s0 s1
   exact ⟨(b0, b1), rfl, ⟨by omega, by omega⟩, by omega, by omega⟩
theorem Arg.pairs {v : Value} (h : Arg enc W 23 v) : ∃ (X : List (Int × Int)) (ao : Option Addr) (n cap : Nat), v = .slice ao n cap ∧ X.length = n ∧ Sl W 2 ao n (mvs X) ∧ n ≤ cap ∧ cap ≤ maxLen ∧ ∀ p ∈ X, (0 ≤ p.1 ∧ p.1 ≤ 255) ∧ 0 ≤ p.2 ∧ p.2 ≤ 255 := by
 obtain ⟨⟨base, hv⟩, d, p, ⟨fuel, hf⟩, _⟩ := h
 obtain ⟨sa, sn, sc, rfl⟩ := okWide_slice Tryz.underlying23 hv
 obtain ⟨bo, n, bc, dl, e2, hln, hs2, g1, g2, g3, g4⟩ := slL (e := mve) mve_length (by omega) Tryz.underlying23 cells_pr hf (fun p : Int × Int => (0 ≤ p.1 ∧ p.1 ≤ 255) ∧ 0 ≤ p.2 ∧ p.2 ≤ 255) (fun n cs' y _ hy => pair_of hy)
 simp [Value.cells] at e2
 obtain ⟨rfl, rfl, rfl⟩ := e2
 exact ⟨dl, _, _, _, rfl, hln, hs2, g1, g2, g4⟩
theorem law_lift_laid {os : Os} {F : FuncId} {fn : Func} {s : ChangeSpec} {X : World → Array Value → Prop} (hX : ∀ (w w' : World) (args : Array Value), w.heap = w'.heap → X w args → X w' args) (started : os.Started) (noInit : Tryz.checked.prog.inits.idxOf? F = none) (hfn : Tryz.checked.prog.funcs[F]? = some fn) (hv : s.vars = [])
  (hres : fn.resultTypes = #[4]) (hr : fn.params.toList.all (fun t => Tryz.prog.readableRec t && decide (t < Tryz.prog.types.size)) = true)
  (hs : ∀ ds : List (DataW H), ds.length = fn.params.toList.length → (s.fn H (ds ++ [])).results = [.lit (.bool true)] ∧ (s.fn H (ds ++ [])).args = ds ∧ (s.fn H (ds ++ [])).vars = [])
  (witness : ∃ (w : World) (tape : Tape) (i : Input), w.os = os ∧ (w.forCall tape i).Shaped Tryz.checked.prog ∧ i.vars = [] ∧ Input.okWide Tryz.checked.prog (w.forCall tape i) .any w.heap.size F i ∧
   ((s.pre enc Tryz.checked.prog fn [] false (w.forCall tape i).memory i.args ∧ X (w.forCall tape i).memory i.args) ∧ sizedMet enc Tryz.checked.prog fn (OpenSpec.ofChange s) false (w.forCall tape i).memory i.args) ∧ ({} : Assume).holds Tryz.checked.prog (lone (Frame.enter Tryz.checked.prog F i.args .normal) [] (w.forCall tape i)))
  (walk : ∀ (W : World) (vs : List Value), Args enc W fn.params.toList vs → Calls Tryz.prog F vs.toArray W fun e w' => e = .returned (.bool true) ∧ Below W.heap.size W w') :
  ReturnsInHanded {} Tryz.checked os F .any (fun w args => (s.pre enc Tryz.prog fn [] false w args ∧ X w args) ∧ sizedMet enc Tryz.prog fn (OpenSpec.ofChange s) false w args) (s.post enc Tryz.prog fn false true false false) := by
 refine returnsInHanded_of_change_and (C := Tryz.checked) (X := X) hX own started noInit hfn witness ?_
 intro W base args ds gs before hval hW _ _ _ _
 have hW' := hW
 obtain ⟨p, q, hA0, hV, rfl, hfz, hnd⟩ := hW
 have hA : DataW.TrodAll enc Tryz.prog W 0 (fun _ => true) true fn.params.toList args.toList ds p := hA0
 rw [hv] at hV
 obtain ⟨rfl, rfl⟩ := trodVars_none hV
 have hlt : ∀ x ∈ p, x.block < W.heap.size := fun x hx => hW'.lt x (by simp [hx])
 have hargs := args_of hA (fun j t v h1 h2 => hval j t v (by simpa using h1) (by simpa using h2)) hlt
 obtain ⟨e1, e2, e3⟩ := hs ds (trodAll_len hA)
 refine (walk W args.toList hargs).mono fun e W' ⟨he, hb⟩ => ?_
 subst he
 refine ⟨_, rfl, ds, [], p ++ [], [], p, [], hW', ?_, ?_, ?_, hb.frame _, fun h => by cases h⟩
 ·rw [e1, hres]
  exact trodAll_mk1 (shut_bool Tryz.underlying4 _)
 ·rw [e2]
  exact trodAll_below hr hA hb hlt
 ·rw [hv, e3]
  exact rfl
end
end Go.Proofs.YtgcceepadlmelaaGreatDoor
