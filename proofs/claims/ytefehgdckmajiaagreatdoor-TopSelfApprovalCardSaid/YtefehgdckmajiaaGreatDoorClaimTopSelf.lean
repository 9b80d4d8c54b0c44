/-
  TopSelfApproval: the claim.
-/
import Derived.Test.YtefehgdckmajiaaGreatDoorTopSelf
import Derived.Test.YtefehgdckmajiaaGreatDoorGrpM
import Derived.Test.YtefehgdckmajiaaGreatDoorCards
import Derived.Test.YtefehgdckmajiaaGreatDoorTie
import Derived.SevenTiedAt
namespace Go.Proofs.YtefehgdckmajiaaGreatDoor
open Go.ChangeShapes Go.WideShapes Go.ChangeAt Go.RowKit

set_option maxRecDepth 100000 in
theorem topSelfApproval_lifted (os : Os) (started : os.Started) (H : Type) (enc : TypeId × Value → H) :
    ReturnsInHanded {} Tryz.checked os 3 .any (fun w args => (Rows.topSelfApprovalSpec.pre enc Tryz.prog Tryz.f3 [] false w args ∧ laidMetH Tryz.prog Rows.topSelfApprovalRow.laid w) ∧ sizedMet enc Tryz.prog Tryz.f3 (OpenSpec.ofChange Rows.topSelfApprovalSpec) false w args)
      (Rows.topSelfApprovalSpec.post enc Tryz.prog Tryz.f3 false true false false) := by
  refine law_lift_laid (X := fun w _ => laidMetH Tryz.prog Rows.topSelfApprovalRow.laid w) (fun _ _ _ hh h => h.of_heap hh) started (by kernel_rfl) Tryz.func3 rfl rfl (by kernel_rfl) ?_
    (ChangeSpec.witness_shaped (enc := enc) (C := Tryz.checked) (os := os) (X := fun w _ => laidMetH Tryz.prog Rows.topSelfApprovalRow.laid w) false (World.laidAll Tryz.prog os Rows.topSelfApprovalRow.laid) #[.slice none 0 0, .slice none 0 0, .string ⟨#[]⟩, .string ⟨#[]⟩] 8 (World.laidAll_os _ _ _)
      (World.shaped_of_ZipB (by kernel_rfl) (by kernel_rfl)) (by kernel_rfl) (by kernel_rfl) (by kernel_rfl)
      (by rw [MakeChecks.laidMetH_plain _ _ _ (by kernel_rfl)]; exact laidMet_laidAll _ (by kernel_rfl) (by kernel_rfl))) ?_
  · intro ds h
    rw [Tryz.params3] at h
    match ds, h with
    | [_, _, _, _], _ => exact ⟨rfl, rfl, rfl⟩
  · intro W vs h
    rw [Tryz.params3] at h
    match vs, h with
    | [v0, v1, v2, v3], ⟨h0, h1, h2, h3, _⟩ =>
      obtain ⟨a1, n1, c1, l1, rfl, H1⟩ := h0.files
      obtain ⟨a2, n2, c2, l2, rfl, H2⟩ := h1.files
      obtain ⟨p, rfl, hp⟩ := Arg.string Tryz.underlying9 h2
      obtain ⟨d, rfl, hd⟩ := Arg.string Tryz.underlying9 h3
      exact TopSelf_any l1 l2 n1 c1 n2 c2 a1 a2 p d W H1 H2 hp hd

theorem topSelfApproval_holds : Rows.TopSelfApprovalSaid :=
  OpenClaim.holds_of_wide 3 Tryz.f3 rfl rfl rfl rfl rfl rfl rfl ⟨rfl, rfl, rfl, rfl, rfl⟩ rfl rfl rfl rfl rfl (by kernel_rfl) Tryz.func3 (by kernel_rfl)
    (of_decide_eq_true (by kernel_rfl)) (by unfold Func.isWrapper; first | (rw [if_pos (by decide +kernel)]; kernel_rfl) | (rw [if_neg (by decide +kernel)]; exact ⟨rfl, rfl⟩))
    (fun os started H enc _ => topSelfApproval_lifted os started H enc)

theorem topSelfApproval_card : Rows.TopSelfApprovalCardSaid :=
  Claim7.holds_tied_plain_at .later [] [.data, .pinned] true (true, "bc80167db0028e8005f1e55f73a02396a4e1205b5dd0f4a2a19940c078a1e74e") false
    topSelfApproval_holds (fun _ h => by cases h) (by kernel_rfl) (fun _ h => by cases h) topSelfApproval_row_tie rfl ⟨rfl, rfl⟩ (by kernel_rfl) rfl
    (fun f fn hf hfn => by
      obtain rfl : f = 3 := Option.some.inj ((show Tryz.prog.funcNamed "cordwood/cordwoodtop.TopSelfApproval" = some 3 by kernel_rfl).symm.trans hf) |>.symm
      obtain rfl : fn = Tryz.f3 := (Option.some.inj (Tryz.func3.symm.trans hfn)).symm
      exact ⟨by kernel_rfl, fun j t ht => by
        rw [Tryz.params3] at ht
        have hm : t ∈ [22, 22, 9, 9] := by simpa using Array.mem_of_getElem? ht
        have hall : ([22, 22, 9, 9].all fun u => !Tryz.prog.wantsStandIn u) = true := by kernel_rfl
        exact (show Tryz.prog.wantsStandIn t = false by simpa using List.all_eq_true.1 hall t hm)⟩)
    (by kernel_rfl)
#print axioms topSelfApproval_card
end Go.Proofs.YtefehgdckmajiaaGreatDoor
