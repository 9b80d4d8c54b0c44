/-
  strings.Join: the shelf's contract at this program.
-/
import Derived.Shelf.Strings.OnBuilder
import Derived.Test.YtefehgdckmajiaaGreatDoorChecked
import Derived.Test.YtefehgdckmajiaaGreatDoorGrpA
namespace Go.Proofs.YtefehgdckmajiaaGreatDoor
open Go.RowKit

def jn_ren : Go.Shelf.Ren := ⟨fun | 156 => 28 | 165 => 45 | 166 => 46 | 169 => 47 | 240 => 65 | 241 => 66 | 276 => 84 | 277 => 85 | n => n, fun | 0 => 0 | 3 => 3 | 4 => 4 | 9 => 9 | 20 => 20 | 31 => 36 | 37 => 76 | 70 => 100 | 72 => 102 | 75 => 104 | 76 => 105 | 127 => 128 | 164 => 145 | 5 => 5 | 80 => 107 | n => n, fun | n => n⟩
theorem jn_lays : Go.Proofs.Lays.n156 Tryz.prog jn_ren := {
  mixed := by kernel_rfl
  f156 := Tryz.func28.trans (congrArg some (by kernel_rfl))
  f165 := Tryz.func45.trans (congrArg some (by kernel_rfl))
  f166 := Tryz.func46.trans (congrArg some (by kernel_rfl))
  f169 := Tryz.func47.trans (congrArg some (by kernel_rfl))
  f240 := Tryz.func65.trans (congrArg some (by kernel_rfl))
  f241 := Tryz.func66.trans (congrArg some (by kernel_rfl))
  f276 := Tryz.func84.trans (congrArg some (by kernel_rfl))
  f277 := Tryz.func85.trans (congrArg some (by kernel_rfl))
  t0 := Tryz.underlying0
  a0 := Tryz.isAgg0
  z0 := Tryz.sizeOf0
  v0 := Tryz.zeroValue0
  t3 := Tryz.underlying3
  a3 := Tryz.isAgg3
  z3 := Tryz.sizeOf3
  v3 := Tryz.zeroValue3
  t4 := Tryz.underlying4
  a4 := Tryz.isAgg4
  z4 := Tryz.sizeOf4
  v4 := Tryz.zeroValue4
  t9 := Tryz.underlying9
  a9 := Tryz.isAgg9
  z9 := Tryz.sizeOf9
  v9 := Tryz.zeroValue9
  t20 := Tryz.underlying20
  a20 := Tryz.isAgg20
  z20 := Tryz.sizeOf20
  v20 := Tryz.zeroValue20
  t31 := Tryz.underlying36
  a31 := Tryz.isAgg36
  z31 := Tryz.sizeOf36
  v31 := Tryz.zeroValue36
  t37 := Tryz.underlying76
  a37 := Tryz.isAgg76
  z37 := Tryz.sizeOf76
  v37 := Tryz.zeroValue76
  t70 := Tryz.underlying100
  a70 := Tryz.isAgg100
  z70 := Tryz.sizeOf100
  v70 := Tryz.zeroValue100
  t72 := Tryz.underlying102
  a72 := Tryz.isAgg102
  z72 := Tryz.sizeOf102
  v72 := Tryz.zeroValue102
  t75 := Tryz.underlying104
  a75 := Tryz.isAgg104
  z75 := Tryz.sizeOf104
  v75 := Tryz.zeroValue104
  t76 := Tryz.underlying105
  a76 := Tryz.isAgg105
  z76 := Tryz.sizeOf105
  v76 := Tryz.zeroValue105
  t127 := Tryz.underlying128
  a127 := Tryz.isAgg128
  z127 := Tryz.sizeOf128
  v127 := Tryz.zeroValue128
  t164 := Tryz.underlying145
  a164 := Tryz.isAgg145
  z164 := Tryz.sizeOf145
  v164 := Tryz.zeroValue145 }
theorem jn_extra : Builder.Extra Tryz.prog jn_ren := {
  sizeBuilder := by kernel_rfl
  liesBuilder := by kernel_rfl
  t5 := Tryz.underlying5
  a5 := Tryz.isAgg5
  z5 := Tryz.sizeOf5
  v5 := Tryz.zeroValue5
  infoByte := by kernel_rfl
  cellsByte := by kernel_rfl
  sizeByte := by kernel_rfl
  neB5 := by decide }
/-- A group's text. -/
def joinB (g : List ByteArray) : ByteArray := ⟨(Lib.join (g.map (·.data.toList)) [32]).toArray⟩
theorem Join_any (g : List ByteArray) (n cap : Nat) (ao : Option Addr) (w : World) (hn : g.length = n) (hs : Sl w 1 ao n (svals g)) (hc : n ≤ cap) (hm : n ≤ 1000000) (hlen : (joinB g).size ≤ 140737488355328) :
    Calls Tryz.prog 28 #[.slice ao n cap, .string ⟨#[32]⟩] w fun e w' => e = .returned (.string (joinB g)) ∧ Below w.heap.size w w' := by
  subst hn
  rcases hs.2 with h0 | ⟨b, o, rfl, hb, hx⟩
  · obtain rfl := List.eq_nil_of_length_eq_zero h0
    refine (Go.Proofs.Any.strings_Join_none jn_lays jn_extra ao cap ⟨#[32]⟩ w).mono ?_
    rintro e w' ⟨he, rfl⟩
    exact ⟨he, Below.refl _ _⟩
  · exact Go.Proofs.Any.strings_Join jn_lays jn_extra b o cap g ⟨#[32]⟩ w (fun j x hj => hx j _ (by simp [svals, hj])) hb (by omega) hc hlen
end Go.Proofs.YtefehgdckmajiaaGreatDoor
