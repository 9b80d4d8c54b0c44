/-
  A ledger that came in: a nil slice has no capacity.
-/
import Derived.Test.YtnfekadnjblciaaLawLed
namespace Go.Proofs.Ytnfekadnjblciaa
open Go.ChangeShapes Go.WideShapes Go.ChangeAt Go.RowKit Go.Deep

section
variable {H : Type} {enc : TypeId × Value → H} {W : World}
theorem none_of_trod {fuel n cap : Nat} {x : DataW H × List MemPlace} (hf : DataW.trod enc Try.prog W 0 (fun _ => true) true fuel 22 [.slice none n cap] = some x) : cap = 0 := by
  rcases open_slice Try.underlying22 hf with ⟨hcs, _⟩ | ⟨a, len, cap', m, n', D, Pl, hcs, _⟩
  · simp at hcs
    exact hcs.2
  · simp at hcs

set_option maxRecDepth 100000 in
theorem Arg.ledz {n cap : Nat} (h : Arg enc W 24 (.agg #[.slice none n cap])) : cap = 0 := by
  obtain ⟨⟨base, hv⟩, d, p, ⟨fuel, hf⟩, _⟩ := h
  have hf' : DataW.trod enc Try.prog W 0 (fun _ => true) true fuel 24 [.slice none n cap] = some (d, p) := hf
  clear hf
  obtain ⟨xs, m, rfl, _, hl, hn, hi⟩ := DataW.trod_struct Try.underlying24 hf'
  have h0 := hi 0 _ rfl
  match xs, hn with
  | [x0], _ =>
    simp [show Try.prog.cellsOf 22 = 1 from by kernel_rfl] at h0
    exact none_of_trod h0
end
end Go.Proofs.Ytnfekadnjblciaa
