/-
  TopPicked: the claim.
-/
import Derived.Test.YtgcceepadlmelaaGreatDoorQAT
import Derived.Test.YtgcceepadlmelaaGreatDoorTopPick
import Derived.Test.YtgcceepadlmelaaGreatDoorCards
import Derived.Test.YtgcceepadlmelaaGreatDoorTie
import Derived.SevenTiedAt
namespace Go.Proofs.YtgcceepadlmelaaGreatDoor
set_option maxRecDepth 100000
open Go.ChangeShapes Go.WideShapes Go.ChangeAt Go.RowKit
theorem topPicked_lifted (os:Os) (started:os.Started) (H:Type) (enc:TypeId × Value→H) :
  ReturnsInHanded {} Tryz.checked os 4 .any (fun w args=>(Rows.topPickedSpec.pre enc Tryz.prog Tryz.f4 [] false w args∧laidMetH Tryz.prog Rows.topPickedRow.laid w)∧sizedMet enc Tryz.prog Tryz.f4 (OpenSpec.ofChange Rows.topPickedSpec) false w args)
   (Rows.topPickedSpec.post enc Tryz.prog Tryz.f4 false true false false):=by
 refine law_lift_laid (X:=fun w _=>laidMetH Tryz.prog Rows.topPickedRow.laid w) (fun _ _ _ hh h=>h.of_heap hh) started (by kernel_rfl) Tryz.func4 rfl rfl (by kernel_rfl) ?_
  (ChangeSpec.witness_shaped (enc:=enc) (C:=Tryz.checked) (os:=os) (X:=fun w _=>laidMetH Tryz.prog Rows.topPickedRow.laid w) false (World.laidAll Tryz.prog os Rows.topPickedRow.laid) #[.slice none 0 0,.slice none 0 0,.int .u8 0] 8 (World.laidAll_os _ _ _)
   (World.shaped_of_ZipB (by kernel_rfl) (by kernel_rfl)) (by kernel_rfl) (by kernel_rfl) (by kernel_rfl)
   (by rw [MakeChecks.laidMetH_plain _ _ _ (by kernel_rfl)];exact laidMet_laidAll _ (by kernel_rfl) (by kernel_rfl))) ?_
 ·intro ds h
  rw [Tryz.params4] at h
  match ds,h with
  | [_,_,_],_=>exact ⟨rfl,rfl,rfl⟩
 ·intro W vs h
  rw [Tryz.params4] at h
  match vs,h with
  | [v0,v1,v2],⟨h0,h1,h2,_⟩ =>
   obtain ⟨A,a1,n1,c1,rfl,H1⟩:=h0.mods
   obtain ⟨B,a2,n2,c2,rfl,H2⟩:=h1.mods
   obtain ⟨i,rfl,hi⟩:=h2.int Tryz.underlying5
   simp [Lit.wf,IntKind.min,IntKind.max,IntKind.signed,IntKind.bits] at hi
   exact Picked_any A B i a1 a2 n1 c1 n2 c2 W H1 H2 (by omega) (by omega)
theorem topPicked_holds:Rows.TopPickedSaid :=
 OpenClaim.holds_of_wide 4 Tryz.f4 rfl rfl rfl rfl rfl rfl rfl ⟨rfl,rfl,rfl,rfl,rfl⟩ rfl rfl rfl rfl rfl (by kernel_rfl) Tryz.func4 (by kernel_rfl)
  (of_decide_eq_true (by kernel_rfl)) (by unfold Func.isWrapper;first | (rw [if_pos (by decide +kernel)];kernel_rfl) | (rw [if_neg (by decide +kernel)];exact ⟨rfl,rfl⟩))
  (fun os started H enc _=>topPicked_lifted os started H enc)
theorem topPicked_card:Rows.TopPickedCardSaid :=
 Claim7.holds_tied_plain_at .later [] [.data, .pinned] true (true, "68bddfb355acb8850a6b30c80799ebcfe1497ccfd5cce6ae1388550d07d6dc92") false
  topPicked_holds (fun _ h=>by cases h) (by kernel_rfl) (fun _ h=>by cases h) topPicked_row_tie rfl ⟨rfl,rfl⟩ (by kernel_rfl) rfl
  (fun f fn hf hfn=>by
   obtain rfl : f = 4 := Option.some.inj ((show Tryz.prog.funcNamed "cordwood/cordwoodtop.TopPicked" = some 4 by kernel_rfl).symm.trans hf) |>.symm
   obtain rfl:fn=Tryz.f4:=(Option.some.inj (Tryz.func4.symm.trans hfn)).symm
   exact ⟨by kernel_rfl,fun j t ht=>by
    rw [Tryz.params4] at ht
    have hm:t∈[22,22,5]:=by simpa using Array.mem_of_getElem? ht
    have hall:([22,22,5].all fun u=>!Tryz.prog.wantsStandIn u)=true:=by kernel_rfl
    exact (show Tryz.prog.wantsStandIn t=false by simpa using List.all_eq_true.1 hall t hm)⟩)
  (by kernel_rfl)
#print axioms topPicked_card
end Go.Proofs.YtgcceepadlmelaaGreatDoor
