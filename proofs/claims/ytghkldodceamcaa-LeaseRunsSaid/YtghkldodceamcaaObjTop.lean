/-
  Check of both, Encode of the reference, Name of both.
-/
import Derived.Test.YtghkldodceamcaaObjEncode
import Derived.Test.YtghkldodceamcaaDigRefOf
namespace Go.Proofs.Ytghkldodceamcaa
open Go.RowKit

theorem two_set {w : World} {b : Nat} {x y : Value} (u v : Value) (h0 : w.cell? ⟨b, 0, none⟩ = some x) (h1 : w.cell? ⟨b, 1, none⟩ = some y) :
    ((w.setCell ⟨b, 0, none⟩ u).setCell ⟨b, 1, none⟩ v).cell? ⟨b, 0, none⟩ = some u ∧ ((w.setCell ⟨b, 0, none⟩ u).setCell ⟨b, 1, none⟩ v).cell? ⟨b, 1, none⟩ = some v := by
  constructor <;> simp [h0, h1, World.cell?_setCell_same, World.cell?_setCell_other]
def nameD (o : Ob) : Dg := if checkO o = 0 then ofU (encL o) else (0, 0)
set_option maxRecDepth 100000 in
set_option maxHeartbeats 8000000 in
theorem objCheck_any (o : Ob) (ae ap : Option Addr) (ne ce np cp : Nat) (w : World) (h : ObjA w ae ne ap np o) (hc : np ≤ cp) (hd : o.data.size ≤ 60000) :
    Calls Try.prog 43 #[.agg (ocells o ae ne ce ap np cp)] w fun e w' => e = .returned (.int .i64 (checkO o)) ∧ Below w.heap.size w w' := by
  have hb0 := ba w (Obj.cells (ocells o ae ne ce ap np cp) 79)
  have HO0 := OBox.new w o ae ne ce ap np cp 79
  obtain ⟨W, hW⟩ : ∃ W, w.alloc (Obj.cells (ocells o ae ne ce ap np cp) 79) = W := ⟨_, rfl⟩
  rw [hW] at hb0 HO0
  have HA := lid (h.below hb0)
  have HW := lid hW
  have HEN := lid HW.out
  have HO := lid HO0
  have CE := lid (fun w (h : ObjA w ae ne ap np o) => objEncode_any o ae ap ne ce np cp w h hc hd)
  clear hW h HO0 hd
  go_enter Try.func43, Try.ntmps43
  go_wp2_with fail
  rw [HW.out]
  clear HW HEN
  (with_reducible refine (CE.out _ HA.out).mono ?_); rintro e w1 ⟨rfl, hb1⟩
  go_wp2_with fail
  go_ret
  exact ⟨rfl, hb0.trans (hb1.mono hb0.size)⟩
end Go.Proofs.Ytghkldodceamcaa
