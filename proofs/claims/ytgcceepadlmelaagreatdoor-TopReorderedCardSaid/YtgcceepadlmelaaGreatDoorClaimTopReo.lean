/-
  TopReordered: the claim.
-/
import Derived.Test.YtgcceepadlmelaaGreatDoorLawEd
import Derived.Test.YtgcceepadlmelaaGreatDoorCards
import Derived.Test.YtgcceepadlmelaaGreatDoorTie
import Derived.SevenTiedAt
namespace Go.Proofs.YtgcceepadlmelaaGreatDoor
set_option maxRecDepth 100000
open Go.ChangeShapes Go.WideShapes Go.ChangeAt Go.RowKit
theorem topReordered_lifted (os : Os) (started : os.Started) (H : Type) (enc : TypeId × Value → H) :
  ReturnsInHanded {} Tryz.checked os 3 .any (fun w args => (Rows.topReorderedSpec.pre enc Tryz.prog Tryz.f3 [] false w args ∧ laidMetH Tryz.prog Rows.topReorderedRow.laid w) ∧ sizedMet enc Tryz.prog Tryz.f3 (OpenSpec.ofChange Rows.topReorderedSpec) false w args)
   (Rows.topReorderedSpec.post enc Tryz.prog Tryz.f3 false true false false) := by
 refine law_lift_laid (X := fun w _ => laidMetH Tryz.prog Rows.topReorderedRow.laid w) (fun _ _ _ hh h => h.of_heap hh) started (by kernel_rfl) Tryz.func3 rfl rfl (by kernel_rfl) ?_
  (ChangeSpec.witness_shaped (enc := enc) (C := Tryz.checked) (os := os) (X := fun w _ => laidMetH Tryz.prog Rows.topReorderedRow.laid w) false (World.laidAll Tryz.prog os Rows.topReorderedRow.laid) #[.slice none 0 0, .slice none 0 0, .slice none 0 0] 8 (World.laidAll_os _ _ _)
   (World.shaped_of_ZipB (by kernel_rfl) (by kernel_rfl)) (by kernel_rfl) (by kernel_rfl) (by kernel_rfl)
   (by rw [MakeChecks.laidMetH_plain _ _ _ (by kernel_rfl)]; exact laidMet_laidAll _ (by kernel_rfl) (by kernel_rfl))) ?_
 ·intro ds h
  rw [Tryz.params3] at h
  match ds, h with
  | [_, _, _], _ => exact ⟨rfl, rfl, rfl⟩
 ·intro W vs h
  rw [Tryz.params3] at h
  match vs, h with
  | [v0, v1, v2], ⟨h0, h1, h2, _⟩ =>
   obtain ⟨A, a1, n1, c1, rfl, H1⟩ := h0.mods
   obtain ⟨B, a2, n2, c2, rfl, H2⟩ := h1.mods
   obtain ⟨X, a3, n3, c3, rfl, x1, x2, x3, x4, x5⟩ := h2.pairs
   exact Reordered_any A B X a1 a2 a3 n1 c1 n2 c2 n3 c3 W H1 H2 x2 x1 x5 x3 x4
theorem topReordered_holds : Rows.TopReorderedSaid :=
 OpenClaim.holds_of_wide 3 Tryz.f3 rfl rfl rfl rfl rfl rfl rfl ⟨rfl, rfl, rfl, rfl, rfl⟩ rfl rfl rfl rfl rfl (by kernel_rfl) Tryz.func3 (by kernel_rfl)
  (of_decide_eq_true (by kernel_rfl)) (by unfold Func.isWrapper; first | (rw [if_pos (by decide +kernel)]; kernel_rfl) | (rw [if_neg (by decide +kernel)]; exact ⟨rfl, rfl⟩))
  (fun os started H enc _ => topReordered_lifted os started H enc)
theorem topReordered_card : Rows.TopReorderedCardSaid :=
 Claim7.holds_tied_plain_at .later [] [.data, .pinned] true (true, "68bddfb355acb8850a6b30c80799ebcfe1497ccfd5cce6ae1388550d07d6dc92") false
  topReordered_holds (fun _ h => by cases h) (by kernel_rfl) (fun _ h => by cases h) topReordered_row_tie rfl ⟨rfl, rfl⟩ (by kernel_rfl) rfl
  (fun f fn hf hfn => by
   obtain rfl : f = 3 := Option.some.inj ((show Tryz.prog.funcNamed "cordwood/cordwoodtop.TopReordered" = some 3 by kernel_rfl).symm.trans hf) |>.symm
   obtain rfl : fn = Tryz.f3 := (Option.some.inj (Tryz.func3.symm.trans hfn)).symm
   exact ⟨by kernel_rfl, fun j t ht => by
    rw [Tryz.params3] at ht
    have hm : t ∈ [22, 22, 23] := by simpa using Array.mem_of_getElem? ht
    have hall : ([22, 22, 23].all fun u => !Tryz.prog.wantsStandIn u) = true := by kernel_rfl
    exact (show Tryz.prog.wantsStandIn t = false by simpa using List.all_eq_true.1 hall t hm)⟩)
  (by kernel_rfl)
#print axioms topReordered_card
end Go.Proofs.YtgcceepadlmelaaGreatDoor
