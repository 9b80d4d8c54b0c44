/-
  How ballots, a key, a number, a worker and an output come in.
-/
import Derived.Test.YtcpnpcbaifagbaaLawQuo
import Derived.Test.YtcpnpcbaifagbaaQuoFine
namespace Go.Proofs.Ytcpnpcbaifagbaa
open Go.ChangeShapes Go.WideShapes Go.ChangeAt Go.RowKit Go.Deep
theorem cells_ask : Try.prog.cellsOf 51 = 6 := by kernel_rfl
section
variable {H : Type} {enc : TypeId × Value → H} {W : World}
theorem i64_in {n : Int} (h : (Lit.int .i64 n).wf = true) : -9223372036854775808 ≤ n ∧ n ≤ 9223372036854775807 := by
  simp [Lit.wf, IntKind.min, IntKind.max, IntKind.signed, IntKind.bits] at h
  omega
set_option maxRecDepth 100000 in
theorem Arg.ask {v : Value} (h : Arg enc W 51 v) : ∃ a : Ask, v = .agg (askc a) ∧ AskOk W a := by
  obtain ⟨⟨base, hv⟩, d, p, ⟨fuel, hf⟩, _⟩ := h
  unfold Value.okWide at hv
  rw [Try.underlying51] at hv
  obtain ⟨cs, rfl, _⟩ := hv
  have hf' : DataW.trod enc Try.prog W 0 (fun _ => true) true fuel 51 cs.toList = some (d, p) := hf
  clear hf
  obtain ⟨xs, m, rfl, _, hl, hn, hi⟩ := DataW.trod_struct Try.underlying51 hf'
  rw [cells_ask] at hl
  generalize hcs : cs.toList = l at *
  match l, hl with
  | [c0, c1, c2, c3, c4, c5], _ =>
    have h0 := hi 0 _ rfl
    have h1 := hi 1 _ rfl
    have h2 := hi 2 _ rfl
    have h3 := hi 3 _ rfl
    have h4 := hi 4 _ rfl
    match xs, hn with
    | [x0, x1, x2, x3, x4], _ =>
      simp [show Try.prog.cellsOf 3 = 1 from by kernel_rfl, show Try.prog.cellsOf 9 = 1 from by kernel_rfl, show Try.prog.cellsOf 22 = 1 from by kernel_rfl, cells_dg] at h0 h1 h2 h3 h4
      obtain ⟨ao, n, cap, rs, el, hB⟩ := bls_of_trod h0
      obtain ⟨k, ek⟩ := trod_dg h1
      obtain ⟨q, eq, _, wq⟩ := DataW.trod_int Try.underlying3 h2
      obtain ⟨s, es, _, ws⟩ := DataW.trod_string Try.underlying9 h3
      obtain ⟨t, et, _, wt⟩ := DataW.trod_string Try.underlying9 h4
      simp at el ek eq es et
      obtain ⟨rfl, rfl⟩ := ek
      subst el eq es et
      refine ⟨⟨rs, ao, n, cap, k, q, s, t⟩, ?_, hB, (i64_in wq).1, (i64_in wq).2, ws, wt⟩
      congr 1
      rw [← Array.toList_inj, hcs]
end
end Go.Proofs.Ytcpnpcbaifagbaa
