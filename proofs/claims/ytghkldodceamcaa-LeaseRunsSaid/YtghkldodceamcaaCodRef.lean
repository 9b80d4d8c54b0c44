/-
  The reference's PutInt and PutText.
-/
import Derived.Test.YtghkldodceamcaaCodPut
import Derived.Test.YtghkldodceamcaaMix
namespace Go.Proofs.Ytghkldodceamcaa
open Go.RowKit

/-- What is known while a byte is laid, turned to a string, and the rest is called, in any order. -/
def RP (c : UInt8) (t : List UInt8) (B0 : Nat) (W : World) (s : Nat → Bool) (vs : List Value) (w : World) : Prop :=
  ∃ x y z, vs = [x, y, z] ∧ Below B0 W w ∧ (s 4 = true → ∃ k, x = .slice (some ⟨k, 0, none⟩) 1 1 ∧ w.ownsRow B0 5 1 x 1 (bvals [c])) ∧ (s 5 = true → y = .string (bstr [c])) ∧ (s 8 = true → z = .string (bstr t))
section
variable {c : UInt8} {t : List UInt8} {B0 : Nat} {W w w' : World} {s : Nat → Bool}
theorem RP.three {vs : List Value} (h : RP c t B0 W s vs w) : ∃ x y z, vs = [x, y, z] := by
  obtain ⟨x, y, z, e, _⟩ := h
  exact ⟨x, y, z, e⟩
theorem RP.old {vs : List Value} (h : RP c t B0 W s vs w) : Below B0 W w := by
  obtain ⟨x, y, z, e, hb, _⟩ := h
  exact hb
theorem RP.start (x y z : Value) (hs : s 4 = false ∧ s 5 = false ∧ s 8 = false) : RP c t B0 W s [x, y, z] W.drew := by
  refine ⟨x, y, z, rfl, (Below.refl _ _).drew, ?_, ?_, ?_⟩ <;> simp [hs]
theorem RP.byte {x y z : Value} (h : RP c t B0 W s [x, y, z] w) (hB : B0 ≤ w.heap.size) : RP c t B0 W (upd s 4) [.slice (some ⟨w.heap.size, 0, none⟩) 1 1, y, z] (w.alloc (.cells #[.int .u8 c.toNat] 5)) := by
  obtain ⟨x, y, z, e, h0, h4, h5', h8⟩ := h
  cases e
  refine ⟨_, y, z, rfl, h0.trans ((ba w _).mono hB), fun _ => ⟨_, rfl, ?_⟩, ?_, ?_⟩
  · have := World.ownsRow_lit (e := 5) (base := B0) (size := 1) w #[.int .u8 c.toNat] 1 hB (by simp [maxLen]) rfl
    simpa [bvals] using this
  · rw [upd_ne s (show 5 ≠ 4 by decide)]
    exact h5'
  · rw [upd_ne s (show 8 ≠ 4 by decide)]
    exact h8
theorem RP.conv {x y z : Value} (h : RP c t B0 W s [x, y, z] w) (h4 : s 4 = true) : (∃ k, x = .slice (some ⟨k, 0, none⟩) 1 1) ∧ (convert 88 9 x).run Try.prog w = .ok (.string (bstr [c])) w ∧ RP c t B0 W (upd s 5) [x, .string (bstr [c]), z] w := by
  obtain ⟨x, y, z, e, h0, h4', h5', h8⟩ := h
  cases e
  obtain ⟨k, hk, hown⟩ := h4' h4
  refine ⟨⟨k, hk⟩, run_string_of_row hown Try.underlying88 Try.underlying5 Try.underlying9, x, _, z, rfl, h0, ?_, fun _ => rfl, ?_⟩
  · intro _
    exact ⟨k, hk, hown⟩
  · rw [upd_ne s (show 8 ≠ 5 by decide)]
    exact h8
theorem RP.call {x y z : Value} (h : RP c t B0 W s [x, y, z] w) (hB : B0 ≤ w.heap.size) (hb : Below w.heap.size w w') : RP c t B0 W (upd s 8) [x, y, .string (bstr t)] w' := by
  obtain ⟨x, y, z, e, h0, h4, h5, h8⟩ := h
  cases e
  refine ⟨x, y, _, rfl, h0.trans (hb.mono hB), ?_, ?_, fun _ => rfl⟩
  · rw [upd_ne s (show 4 ≠ 8 by decide)]
    intro hs
    obtain ⟨k, e, ho⟩ := h4 hs
    exact ⟨k, e, ownsRow_below ho hb⟩
  · rw [upd_ne s (show 5 ≠ 8 by decide)]
    exact h5
theorem RP.all {vs : List Value} (h : RP c t B0 W s vs w) (h4 : s 4 = true) (h5 : s 5 = true) (h8 : s 8 = true) : ∃ k, vs = [.slice (some ⟨k, 0, none⟩) 1 1, .string (bstr [c]), .string (bstr t)] := by
  obtain ⟨x, y, z, e, h0, e4, e5, e8⟩ := h
  obtain ⟨k, hk, _⟩ := e4 h4
  exact ⟨k, by rw [e, hk, e5 h5, e8 h8]⟩
end
theorem ret_str1 {a b : ByteArray} (h : a = b) : Ending.returned (.string a) = .returned (.string b) := by rw [h]
end Go.Proofs.Ytghkldodceamcaa
