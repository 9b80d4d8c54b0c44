/-
  TopTreeDiffs: the claim.
-/
import Derived.Test.YtphjillihapbfaaGreatDoorTopDiffs
import Derived.Test.YtphjillihapbfaaGreatDoorGrpW
import Derived.Test.YtphjillihapbfaaGreatDoorCards
import Derived.Test.YtphjillihapbfaaGreatDoorTie
import Derived.SevenTiedAt
namespace Go.Proofs.YtphjillihapbfaaGreatDoor
open Go.ChangeShapes Go.WideShapes Go.ChangeAt Go.RowKit

set_option maxRecDepth 100000 in
theorem topTreeDiffs_lifted (os : Os) (started : os.Started) (H : Type) (enc : TypeId × Value → H) :
    ReturnsInHanded {} Tryz.checked os 3 .any (fun w args => (Rows.topTreeDiffsSpec.pre enc Tryz.prog Tryz.f3 [] false w args ∧ laidMetH Tryz.prog Rows.topTreeDiffsRow.laid w) ∧ sizedMet enc Tryz.prog Tryz.f3 (OpenSpec.ofChange Rows.topTreeDiffsSpec) false w args)
      (Rows.topTreeDiffsSpec.post enc Tryz.prog Tryz.f3 false true false false) := by
  refine law_lift_laid (X := fun w _ => laidMetH Tryz.prog Rows.topTreeDiffsRow.laid w) (fun _ _ _ hh h => h.of_heap hh) started (by kernel_rfl) Tryz.func3 rfl rfl (by kernel_rfl) ?_
    (ChangeSpec.witness_shaped (enc := enc) (C := Tryz.checked) (os := os) (X := fun w _ => laidMetH Tryz.prog Rows.topTreeDiffsRow.laid w) false (World.laidAll Tryz.prog os Rows.topTreeDiffsRow.laid) #[.slice none 0 0] 8 (World.laidAll_os _ _ _)
      (World.shaped_of_ZipB (by kernel_rfl) (by kernel_rfl)) (by kernel_rfl) (by kernel_rfl) (by kernel_rfl)
      (by rw [MakeChecks.laidMetH_plain _ _ _ (by kernel_rfl)]; exact laidMet_laidAll _ (by kernel_rfl) (by kernel_rfl))) ?_
  · intro ds h
    rw [Tryz.params3] at h
    match ds, h with
    | [_], _ => exact ⟨rfl, rfl, rfl⟩
  · intro W vs h
    rw [Tryz.params3] at h
    match vs, h with
    | [v0], ⟨h0, _⟩ =>
      obtain ⟨S, ao, n, cap, rfl, HS⟩ := h0.lists
      exact TopDiffs_any S n cap ao W HS

theorem topTreeDiffs_holds : Rows.TopTreeDiffsSaid :=
  OpenClaim.holds_of_wide 3 Tryz.f3 rfl rfl rfl rfl rfl rfl rfl ⟨rfl, rfl, rfl, rfl, rfl⟩ rfl rfl rfl rfl rfl (by kernel_rfl) Tryz.func3 (by kernel_rfl)
    (of_decide_eq_true (by kernel_rfl)) (by unfold Func.isWrapper; first | (rw [if_pos (by decide +kernel)]; kernel_rfl) | (rw [if_neg (by decide +kernel)]; exact ⟨rfl, rfl⟩))
    (fun os started H enc _ => topTreeDiffs_lifted os started H enc)

theorem topTreeDiffs_card : Rows.TopTreeDiffsCardSaid :=
  Claim7.holds_tied_plain_at .later [] [.data, .pinned] true (true, "7d2bedaeced4853833f7c2b0723d2209f91d415530bc5a9d0a8abdb2545afa3b") false
    topTreeDiffs_holds (fun _ h => by cases h) (by kernel_rfl) (fun _ h => by cases h) topTreeDiffs_row_tie rfl ⟨rfl, rfl⟩ (by kernel_rfl) rfl
    (fun f fn hf hfn => by
      obtain rfl : f = 3 := Option.some.inj ((show Tryz.prog.funcNamed "cordwood/cordwoodtop.TopTreeDiffs" = some 3 by kernel_rfl).symm.trans hf) |>.symm
      obtain rfl : fn = Tryz.f3 := (Option.some.inj (Tryz.func3.symm.trans hfn)).symm
      exact ⟨by kernel_rfl, fun j t ht => by
        rw [Tryz.params3] at ht
        have hm : t ∈ [22] := by simpa using Array.mem_of_getElem? ht
        have hall : ([22].all fun u => !Tryz.prog.wantsStandIn u) = true := by kernel_rfl
        exact (show Tryz.prog.wantsStandIn t = false by simpa using List.all_eq_true.1 hall t hm)⟩)
    (by kernel_rfl)
#print axioms topTreeDiffs_card
end Go.Proofs.YtphjillihapbfaaGreatDoor
