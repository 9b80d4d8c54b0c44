import Derived.Test.YtgcceepadlmelaaGreatDoorQAE
import Derived.Test.YtgcceepadlmelaaGreatDoorQAC
import Derived.Test.YtgcceepadlmelaaGreatDoorChecked
import Derived.Test.YtgcceepadlmelaaGreatDoorQAA
import Derived.Lib.Bytealg
import Derived.Lib.Slices
import Derived.Lib.Strings
import Derived.Lib.Walk
import Derived.Laws.EntriesVeiled
import Derived.Test.YtgcceepadlmelaaGreatDoorRF
import Derived.Test.YtgcceepadlmelaaGreatDoorQAD
namespace Go.Proofs.YtgcceepadlmelaaGreatDoor
set_option maxRecDepth 100000
set_option maxHeartbeats 4000000
open Go.RowKit
def shW (k:Int):Option (Int × Int × Int) :=
 if k=1 then some (0,1,0) else
 if k=2 then some (0,1,0) else
 if k=3 then some (1,0,0) else
 if k=4 then some (2,0,0) else
 if k=5 then some (1,1,0) else
 if k=6 then some (1,0,1) else
 if k=7 then some (0,0,2) else
 if k=8 then some (1,0,2) else
 if k=9 then some (0,0,3) else
 if k=10 then some (1,0,2) else
 if k=11 then some (0,0,0) else
 if k=12 then some (0,0,2) else
 if k=13 then some (2,0,3) else
 if k=14 then some (0,2,0) else
 if k=15 then some (0,0,3) else
 none
def shV (x:Option (Int × Int × Int)):Value:=match x with
 | some (a,b,c)=>.tuple #[.agg #[.int .i64 a,.int .i64 b,.int .i64 c],.bool true]
 | none=>.tuple #[.agg #[.int .i64 0,.int .i64 0,.int .i64 0],.bool false]
theorem res_sh {fn:Func} (hf:fn.results=#[.cell 2 160,.tmp 3]) (t:Array Value) (w:World) (k:Nat) (a b c:Int) (v:Value) (h:t.getD 2 undef=.pointer (some ⟨k,0,none⟩)) (h3:t.getD 3 undef=v) (e:w.heap[k]?=some (.cells #[.int .i64 a,.int .i64 b,.int .i64 c] 160 (0,0))):(results fn t).run Tryz.prog w=.ok (.tuple #[.agg #[.int .i64 a,.int .i64 b,.int .i64 c],v]) w:=by
 have e0:=row_cell e 0
 have e1:=row_cell e 1
 have e2:=row_cell e 2
 rw [Array.getD_eq_getD_getElem?] at h h3
 unfold results
 rw [hf]
 simp [go_sem,h,h3,e0,e1,e2,asAddr]
theorem shapeOf_fn (k:Int) (w:World):Calls Tryz.prog 131 #[.int .i64 k] w fun e w'=>e=.returned (shV (shW k))∧Below w.heap.size w w':=by
 by_cases h1:k=1
 ·subst h1
  have HR:=lid (h_new (w:=w) rfl (.cells #[.int .i64 0,.int .i64 1,.int .i64 0] 160))
  have HB:=lid (ba w (Obj.cells #[.int .i64 0,.int .i64 1,.int .i64 0] 160))
  go_enter Tryz.func131,Tryz.ntmps131
  go_wp2_with fail
  exact bodyPost_ret (res_sh rfl _ _ w.heap.size 0 1 0 (.bool true) rfl rfl HR.out) rfl ⟨rfl,HB.out⟩
 have u1:(k == 1)=false:=by simpa using h1
 by_cases h2:k=2
 ·subst h2
  have HR:=lid (h_new (w:=w) rfl (.cells #[.int .i64 0,.int .i64 1,.int .i64 0] 160))
  have HB:=lid (ba w (Obj.cells #[.int .i64 0,.int .i64 1,.int .i64 0] 160))
  go_enter Tryz.func131,Tryz.ntmps131
  go_wp2_with fail
  exact bodyPost_ret (res_sh rfl _ _ w.heap.size 0 1 0 (.bool true) rfl rfl HR.out) rfl ⟨rfl,HB.out⟩
 have u2:(k == 2)=false:=by simpa using h2
 by_cases h3:k=3
 ·subst h3
  have HR:=lid (h_new (w:=w) rfl (.cells #[.int .i64 1,.int .i64 0,.int .i64 0] 160))
  have HB:=lid (ba w (Obj.cells #[.int .i64 1,.int .i64 0,.int .i64 0] 160))
  go_enter Tryz.func131,Tryz.ntmps131
  go_wp2_with fail
  exact bodyPost_ret (res_sh rfl _ _ w.heap.size 1 0 0 (.bool true) rfl rfl HR.out) rfl ⟨rfl,HB.out⟩
 have u3:(k == 3)=false:=by simpa using h3
 by_cases h4:k=4
 ·subst h4
  have HR:=lid (h_new (w:=w) rfl (.cells #[.int .i64 2,.int .i64 0,.int .i64 0] 160))
  have HB:=lid (ba w (Obj.cells #[.int .i64 2,.int .i64 0,.int .i64 0] 160))
  go_enter Tryz.func131,Tryz.ntmps131
  go_wp2_with fail
  exact bodyPost_ret (res_sh rfl _ _ w.heap.size 2 0 0 (.bool true) rfl rfl HR.out) rfl ⟨rfl,HB.out⟩
 have u4:(k == 4)=false:=by simpa using h4
 by_cases h5:k=5
 ·subst h5
  have HR:=lid (h_new (w:=w) rfl (.cells #[.int .i64 1,.int .i64 1,.int .i64 0] 160))
  have HB:=lid (ba w (Obj.cells #[.int .i64 1,.int .i64 1,.int .i64 0] 160))
  go_enter Tryz.func131,Tryz.ntmps131
  go_wp2_with fail
  exact bodyPost_ret (res_sh rfl _ _ w.heap.size 1 1 0 (.bool true) rfl rfl HR.out) rfl ⟨rfl,HB.out⟩
 have u5:(k == 5)=false:=by simpa using h5
 by_cases h6:k=6
 ·subst h6
  have HR:=lid (h_new (w:=w) rfl (.cells #[.int .i64 1,.int .i64 0,.int .i64 1] 160))
  have HB:=lid (ba w (Obj.cells #[.int .i64 1,.int .i64 0,.int .i64 1] 160))
  go_enter Tryz.func131,Tryz.ntmps131
  go_wp2_with fail
  exact bodyPost_ret (res_sh rfl _ _ w.heap.size 1 0 1 (.bool true) rfl rfl HR.out) rfl ⟨rfl,HB.out⟩
 have u6:(k == 6)=false:=by simpa using h6
 by_cases h7:k=7
 ·subst h7
  have HR:=lid (h_new (w:=w) rfl (.cells #[.int .i64 0,.int .i64 0,.int .i64 2] 160))
  have HB:=lid (ba w (Obj.cells #[.int .i64 0,.int .i64 0,.int .i64 2] 160))
  go_enter Tryz.func131,Tryz.ntmps131
  go_wp2_with fail
  exact bodyPost_ret (res_sh rfl _ _ w.heap.size 0 0 2 (.bool true) rfl rfl HR.out) rfl ⟨rfl,HB.out⟩
 have u7:(k == 7)=false:=by simpa using h7
 by_cases h8:k=8
 ·subst h8
  have HR:=lid (h_new (w:=w) rfl (.cells #[.int .i64 1,.int .i64 0,.int .i64 2] 160))
  have HB:=lid (ba w (Obj.cells #[.int .i64 1,.int .i64 0,.int .i64 2] 160))
  go_enter Tryz.func131,Tryz.ntmps131
  go_wp2_with fail
  exact bodyPost_ret (res_sh rfl _ _ w.heap.size 1 0 2 (.bool true) rfl rfl HR.out) rfl ⟨rfl,HB.out⟩
 have u8:(k == 8)=false:=by simpa using h8
 by_cases h9:k=9
 ·subst h9
  have HR:=lid (h_new (w:=w) rfl (.cells #[.int .i64 0,.int .i64 0,.int .i64 3] 160))
  have HB:=lid (ba w (Obj.cells #[.int .i64 0,.int .i64 0,.int .i64 3] 160))
  go_enter Tryz.func131,Tryz.ntmps131
  go_wp2_with fail
  exact bodyPost_ret (res_sh rfl _ _ w.heap.size 0 0 3 (.bool true) rfl rfl HR.out) rfl ⟨rfl,HB.out⟩
 have u9:(k == 9)=false:=by simpa using h9
 by_cases h10:k=10
 ·subst h10
  have HR:=lid (h_new (w:=w) rfl (.cells #[.int .i64 1,.int .i64 0,.int .i64 2] 160))
  have HB:=lid (ba w (Obj.cells #[.int .i64 1,.int .i64 0,.int .i64 2] 160))
  go_enter Tryz.func131,Tryz.ntmps131
  go_wp2_with fail
  exact bodyPost_ret (res_sh rfl _ _ w.heap.size 1 0 2 (.bool true) rfl rfl HR.out) rfl ⟨rfl,HB.out⟩
 have u10:(k == 10)=false:=by simpa using h10
 by_cases h11:k=11
 ·subst h11
  have HR:=lid (h_new (w:=w) rfl (.cells #[.int .i64 0,.int .i64 0,.int .i64 0] 160))
  have HB:=lid (ba w (Obj.cells #[.int .i64 0,.int .i64 0,.int .i64 0] 160))
  go_enter Tryz.func131,Tryz.ntmps131
  go_wp2_with fail
  exact bodyPost_ret (res_sh rfl _ _ w.heap.size 0 0 0 (.bool true) rfl rfl HR.out) rfl ⟨rfl,HB.out⟩
 have u11:(k == 11)=false:=by simpa using h11
 by_cases h12:k=12
 ·subst h12
  have HR:=lid (h_new (w:=w) rfl (.cells #[.int .i64 0,.int .i64 0,.int .i64 2] 160))
  have HB:=lid (ba w (Obj.cells #[.int .i64 0,.int .i64 0,.int .i64 2] 160))
  go_enter Tryz.func131,Tryz.ntmps131
  go_wp2_with fail
  exact bodyPost_ret (res_sh rfl _ _ w.heap.size 0 0 2 (.bool true) rfl rfl HR.out) rfl ⟨rfl,HB.out⟩
 have u12:(k == 12)=false:=by simpa using h12
 by_cases h13:k=13
 ·subst h13
  have HR:=lid (h_new (w:=w) rfl (.cells #[.int .i64 2,.int .i64 0,.int .i64 3] 160))
  have HB:=lid (ba w (Obj.cells #[.int .i64 2,.int .i64 0,.int .i64 3] 160))
  go_enter Tryz.func131,Tryz.ntmps131
  go_wp2_with fail
  exact bodyPost_ret (res_sh rfl _ _ w.heap.size 2 0 3 (.bool true) rfl rfl HR.out) rfl ⟨rfl,HB.out⟩
 have u13:(k == 13)=false:=by simpa using h13
 by_cases h14:k=14
 ·subst h14
  have HR:=lid (h_new (w:=w) rfl (.cells #[.int .i64 0,.int .i64 2,.int .i64 0] 160))
  have HB:=lid (ba w (Obj.cells #[.int .i64 0,.int .i64 2,.int .i64 0] 160))
  go_enter Tryz.func131,Tryz.ntmps131
  go_wp2_with fail
  exact bodyPost_ret (res_sh rfl _ _ w.heap.size 0 2 0 (.bool true) rfl rfl HR.out) rfl ⟨rfl,HB.out⟩
 have u14:(k == 14)=false:=by simpa using h14
 by_cases h15:k=15
 ·subst h15
  have HR:=lid (h_new (w:=w) rfl (.cells #[.int .i64 0,.int .i64 0,.int .i64 3] 160))
  have HB:=lid (ba w (Obj.cells #[.int .i64 0,.int .i64 0,.int .i64 3] 160))
  go_enter Tryz.func131,Tryz.ntmps131
  go_wp2_with fail
  exact bodyPost_ret (res_sh rfl _ _ w.heap.size 0 0 3 (.bool true) rfl rfl HR.out) rfl ⟨rfl,HB.out⟩
 have u15:(k == 15)=false:=by simpa using h15
 have HV:Hid (shW k=none):=lid (by unfold shW;simp only [h1,h2,h3,h4,h5,h6,h7,h8,h9,h10,h11,h12,h13,h14,h15,if_false])
 have HR:=lid (h_new (w:=w) rfl (.cells #[.int .i64 0,.int .i64 0,.int .i64 0] 160))
 have HB:=lid (ba w (Obj.cells #[.int .i64 0,.int .i64 0,.int .i64 0] 160))
 clear h1 h2 h3 h4 h5 h6 h7 h8 h9 h10 h11 h12 h13 h14 h15
 go_enter Tryz.func131,Tryz.ntmps131
 go_wp2_with fail
 exact bodyPost_ret (res_sh rfl _ _ w.heap.size 0 0 0 (.bool false) rfl rfl HR.out) rfl ⟨by rw [HV.out];rfl,HB.out⟩
end Go.Proofs.YtgcceepadlmelaaGreatDoor
namespace Go.Proofs.YtgcceepadlmelaaGreatDoor
set_option maxRecDepth 100000
set_option maxHeartbeats 8000000
open Go.RowKit
def numOk (k i d:Int):Bool:=if k=1 then decide (-999999999≤i) && decide (i≤999999999) else if k=2 then (i == 0) || (i == 1) else if k=5 then decide (1≤i) && decide (i≤999999) else if k=14 then ((decide (1≤d) && decide (d≤999999)) && decide (0≤i)) && decide (i≤d) else true
def numC (k i d:Int):Int:=if numOk k i d=true then 0 else 2
theorem numC_t {k i d:Int} (h:numOk k i d=true):numC k i d=0:=by unfold numC;rw [if_pos h]
theorem numC_f {k i d:Int} (h:numOk k i d=false):numC k i d=2:=by unfold numC;rw [h];rfl
theorem reti {a b:Int} (h:a=b):Ending.returned (.int .i64 a)=.returned (.int .i64 b):=by rw [h]
theorem checkNumbers_fn (k i d:Int) (nm mo:ByteArray) (ao:Option Addr) (sn cap:Nat) (w:World):Calls Tryz.prog 133 #[.agg #[.int .i64 k,.string nm,.string mo,.int .i64 i,.int .i64 d,.slice ao sn cap]] w fun e w'=>e=.returned (.int .i64 (numC k i d))∧Below w.heap.size w w':=by
 have HB:=lid (ba w (Obj.cells #[.int .i64 k,.string nm,.string mo,.int .i64 i,.int .i64 d,.slice ao sn cap] 63))
 by_cases h1:k=1
 ·subst h1
  cases b0:decide (-999999999≤i) with
  | false =>
   have HV:Hid (numC 1 i d=2):=lid (numC_f (by simp [numOk,b0]))
   go_enter Tryz.func133,Tryz.ntmps133
   go_wp2_with fail
   go_ret
   exact ⟨reti HV.out.symm,HB.out⟩
  | true =>
   cases b1:decide (i≤999999999) with
   | false =>
    have HV:Hid (numC 1 i d=2):=lid (numC_f (by simp [numOk,b0,b1]))
    go_enter Tryz.func133,Tryz.ntmps133
    go_wp2_with fail
    go_ret
    exact ⟨reti HV.out.symm,HB.out⟩
   | true =>
    have HV:Hid (numC 1 i d=0):=lid (numC_t (by simp [numOk,b0,b1]))
    go_enter Tryz.func133,Tryz.ntmps133
    go_wp2_with fail
    go_ret
    exact ⟨reti HV.out.symm,HB.out⟩
 have u1:(k == 1)=false:=by simpa using h1
 by_cases h2:k=2
 ·subst h2
  cases b0:(i == 0) with
  | true =>
   have HV:Hid (numC 2 i d=0):=lid (numC_t (by simp [numOk,b0]))
   go_enter Tryz.func133,Tryz.ntmps133
   go_wp2_with fail
   go_ret
   exact ⟨reti HV.out.symm,HB.out⟩
  | false =>
   cases b1:(i == 1) with
   | true =>
    have HV:Hid (numC 2 i d=0):=lid (numC_t (by simp [numOk,b0,b1]))
    go_enter Tryz.func133,Tryz.ntmps133
    go_wp2_with fail
    go_ret
    exact ⟨reti HV.out.symm,HB.out⟩
   | false =>
    have HV:Hid (numC 2 i d=2):=lid (numC_f (by simp [numOk,b0,b1]))
    go_enter Tryz.func133,Tryz.ntmps133
    go_wp2_with fail
    go_ret
    exact ⟨reti HV.out.symm,HB.out⟩
 have u2:(k == 2)=false:=by simpa using h2
 by_cases h5:k=5
 ·subst h5
  cases b0:decide (1≤i) with
  | false =>
   have HV:Hid (numC 5 i d=2):=lid (numC_f (by simp [numOk,b0]))
   go_enter Tryz.func133,Tryz.ntmps133
   go_wp2_with fail
   go_ret
   exact ⟨reti HV.out.symm,HB.out⟩
  | true =>
   cases b1:decide (i≤999999) with
   | false =>
    have HV:Hid (numC 5 i d=2):=lid (numC_f (by simp [numOk,b0,b1]))
    go_enter Tryz.func133,Tryz.ntmps133
    go_wp2_with fail
    go_ret
    exact ⟨reti HV.out.symm,HB.out⟩
   | true =>
    have HV:Hid (numC 5 i d=0):=lid (numC_t (by simp [numOk,b0,b1]))
    go_enter Tryz.func133,Tryz.ntmps133
    go_wp2_with fail
    go_ret
    exact ⟨reti HV.out.symm,HB.out⟩
 have u5:(k == 5)=false:=by simpa using h5
 by_cases h14:k=14
 ·subst h14
  cases b0:decide (1≤d) with
  | false =>
   have HV:Hid (numC 14 i d=2):=lid (numC_f (by simp [numOk,b0]))
   go_enter Tryz.func133,Tryz.ntmps133
   go_wp2_with fail
   go_ret
   exact ⟨reti HV.out.symm,HB.out⟩
  | true =>
   cases b1:decide (d≤999999) with
   | false =>
    have HV:Hid (numC 14 i d=2):=lid (numC_f (by simp [numOk,b0,b1]))
    go_enter Tryz.func133,Tryz.ntmps133
    go_wp2_with fail
    go_ret
    exact ⟨reti HV.out.symm,HB.out⟩
   | true =>
    cases b2:decide (0≤i) with
    | false =>
     have HV:Hid (numC 14 i d=2):=lid (numC_f (by simp [numOk,b0,b1,b2]))
     go_enter Tryz.func133,Tryz.ntmps133
     go_wp2_with fail
     go_ret
     exact ⟨reti HV.out.symm,HB.out⟩
    | true =>
     cases b3:decide (i≤d) with
     | false =>
      have HV:Hid (numC 14 i d=2):=lid (numC_f (by simp [numOk,b0,b1,b2,b3]))
      go_enter Tryz.func133,Tryz.ntmps133
      go_wp2_with fail
      go_ret
      exact ⟨reti HV.out.symm,HB.out⟩
     | true =>
      have HV:Hid (numC 14 i d=0):=lid (numC_t (by simp [numOk,b0,b1,b2,b3]))
      go_enter Tryz.func133,Tryz.ntmps133
      go_wp2_with fail
      go_ret
      exact ⟨reti HV.out.symm,HB.out⟩
 have u14:(k == 14)=false:=by simpa using h14
 have HV:Hid (numC k i d=0):=lid (numC_t (by unfold numOk;rw [if_neg h1,if_neg h2,if_neg h5,if_neg h14]))
 clear h1 h2 h5 h14
 go_enter Tryz.func133,Tryz.ntmps133
 go_wp2_with fail
 go_ret
 exact ⟨reti HV.out.symm,HB.out⟩
end Go.Proofs.YtgcceepadlmelaaGreatDoor
namespace Go.Proofs.YtgcceepadlmelaaGreatDoor
set_option maxRecDepth 100000
set_option maxHeartbeats 2000000
open Go.RowKit
theorem stringslite_IndexByte (s:ByteArray) (c:Int) (w:World) :
  Calls Tryz.prog 149 #[.string s,.int .u8 c] w fun e w'=>e=.returned (.int .i64 (Lib.indexByte s.data.toList c.toNat.toUInt8))∧w'=w:=by
 go_enter Tryz.func149,Tryz.ntmps149
 go_wp2
 rw [run_callFunc_extern Tryz.func158 (by kernel_rfl) (by kernel_rfl) (by kernel_rfl) (e:=Extern.BytealgIndexByte.indexByte) (by kernel_rfl),Lib.run_indexByteString]
 simp only [Result.andThen]
 rw [Oper.upon_value]
 go_wp2
 go_ret
 exact ⟨rfl,rfl⟩
theorem stringslite_Index_one (s:ByteArray) (c:UInt8) (w:World) :
  Calls Tryz.prog 137 #[.string s,.string ⟨#[c]⟩] w fun e w'=>e=.returned (.int .i64 (Lib.indexByte s.data.toList c))∧w'=w:=by
 go_enter Tryz.func137,Tryz.ntmps137
 go_wp2_with (go_at_call 149;refine (stringslite_IndexByte _ _ _).mono ?_;rintro e w' ⟨rfl,rfl⟩)
 ·have h:([c] == s.toList)=true:=by assumption
  go_ret
  refine ⟨?_,rfl⟩
  have e:s.data.toList=[c]:=by rw [← Lib.toList_data];exact (beq_iff_eq.1 h).symm
  rw [e]
  simp [Lib.indexByte]
 ·go_ret
  exact ⟨rfl,rfl⟩
theorem strings_Index_one (s:ByteArray) (c:UInt8) (w:World) :
  Calls Tryz.prog 127 #[.string s,.string ⟨#[c]⟩] w fun e w'=>e=.returned (.int .i64 (Lib.indexByte s.data.toList c))∧w'=w:=by
 go_enter Tryz.func127,Tryz.ntmps127
 go_wp2_with (go_at_call 137;refine (stringslite_Index_one _ _ _).mono ?_;rintro e w' ⟨rfl,rfl⟩)
 go_ret
 exact ⟨rfl,rfl⟩
end Go.Proofs.YtgcceepadlmelaaGreatDoor
namespace Go.Proofs.YtgcceepadlmelaaGreatDoor
set_option maxRecDepth 100000
set_option maxHeartbeats 4000000
open Go.RowKit Go.Shelf
attribute [local go_sem] Oper.semAt_some
def splitL:List UInt8→List (List UInt8)
 | []=>[[]]
 | c::l=>if c=47 then []::splitL l else match splitL l with
  | p::r=>(c::p)::r
  | []=>[[c]]
theorem split_no:∀ {l:List UInt8},Lib.indexByte l 47=-1→splitL l=[l]
 | [],_=>rfl
 | c::l,h=>by
  rw [Lib.indexByte] at h
  by_cases hc:c=47
  ·subst hc
   simp at h
  ·rw [if_neg (by simpa using hc)] at h
   have h2:Lib.indexByte l 47=-1:=by
    by_cases h3:Lib.indexByte l 47=-1
    ·exact h3
    ·rw [if_neg (by simpa using h3)] at h
     have:=Lib.indexByte_ge l 47
     omega
   rw [splitL,if_neg hc,split_no h2]
theorem split_at:∀ {l:List UInt8} {i:Nat},Lib.indexByte l 47=(i:Int)→i<l.length∧splitL l=l.take i::splitL (l.drop (i+1))
 | [],i,h=>by rw [Lib.indexByte] at h;omega
 | c::l,i,h=>by
  rw [Lib.indexByte] at h
  by_cases hc:c=47
  ·subst hc
   rw [if_pos (by simp)] at h
   obtain rfl:i=0:=by omega
   exact ⟨by simp,by rw [splitL,if_pos rfl];rfl⟩
  ·rw [if_neg (by simpa using hc)] at h
   by_cases h3:Lib.indexByte l 47=-1
   ·rw [if_pos (by simpa using h3)] at h
    omega
   ·rw [if_neg (by simpa using h3)] at h
    have h4:=Lib.indexByte_ge l 47
    obtain ⟨j,hj⟩:∃ j:Nat,Lib.indexByte l 47=j:=⟨(Lib.indexByte l 47).toNat,by omega⟩
    obtain rfl:i=j+1:=by omega
    obtain ⟨h5,h6⟩:=split_at hj
    refine ⟨by simp;omega,?_⟩
    rw [splitL,if_neg hc,h6]
    simp
theorem bstr_take (l:List UInt8) (k:Nat):(bstr l).extract 0 k=bstr (l.take k):=by
 apply ByteArray.ext
 simp [bstr]
theorem bstr_from (l:List UInt8) (k n:Nat) (h:n=l.length):(bstr l).extract k n=bstr (l.drop k):=by
 subst h
 apply ByteArray.ext
 simp only [bstr,ByteArray.data_extract,List.extract_toArray,List.extract_eq_take_drop]
 rw [List.take_of_length_le (by simp)]
theorem splitL_len:∀ {l:List UInt8} {x:List UInt8},x∈splitL l→x.length≤l.length
 | [],x,h=>by simp [splitL] at h;simp [h]
 | c::l,x,h=>by
  rw [splitL] at h
  split at h
  ·rcases List.mem_cons.1 h with rfl | h
   ·simp
   ·have:=splitL_len h
    simp;omega
  ·split at h
   ·rename_i p r hp
    rcases List.mem_cons.1 h with rfl | h
    ·have:=splitL_len (l:=l) (x:=p) (by rw [hp];simp)
     simp;omega
    ·have:=splitL_len (l:=l) (x:=x) (by rw [hp];simp [h])
     simp;omega
   ·simp at h
    simp [h]
def strAt (w:World) (b:Nat):Nat:=match w.cell? ⟨b,0,none⟩ with
 | some (.string s)=>s.size
 | _=>0
def SpX (s:List (List UInt8)) (x:List UInt8) (_:World):Prop:=∃ t,s=x::t
def SpT (s:List (List UInt8)) (x:List UInt8) (s':List (List UInt8)):Prop:=s=x::s'
abbrev spv (x:List UInt8):Value:=.string (bstr x)
theorem splitSeq_any (l m:Nat) (c:Nat→Prop) (B bs bp bk:Nat) (s0:List UInt8) (J:List (List UInt8)→World→Prop) (Jx:List (List UInt8)→List UInt8→World→Prop) (hJ:∀ s,Ab B (J s)) (hJs:∀ s W v,J s W→J s (W.setCell ⟨bs,0,none⟩ v))
  (hY:RoundC Tryz.prog m l c B spv SpX SpT J Jx) (W:World) (hs:W.heap[bs]?=some (.cells #[.string (bstr s0)] 9 (0,0))) (hp:W.heap[bp]?=some (.cells #[.string ⟨#[47]⟩] 9 (0,0))) (hk:W.heap[bk]?=some (.cells #[.int .i64 0] 3 (0,0))) (h1:c bs) (h2:c bp) (h3:c bk) (hsp:bs≠bp) (hsk:bs≠bk) (hlen:s0.length≤1000000) (hJ0:J (splitL s0) W) :
  Calls Tryz.prog 125 #[.func (.yield l) #[] #[],.pointer (some ⟨bp,0,none⟩),.pointer (some ⟨bs,0,none⟩),.pointer (some ⟨bk,0,none⟩)] W fun e W'=>e=.returned (.tuple #[])∧(J [] W'∨∃ s x,Jx s x W'):=by
 have HS:=lid hs
 have HP:=lid hp
 have HK:=lid hk
 have HJ:=lid hJ
 have HJS:=lid hJs
 have HY:=lid hY
 have HJ0:=lid hJ0
 have lP:=row_lt hp
 have p0:=row_cell hp 0
 clear hs hp hk hJ hJs hY hJ0
 refine (callsIn_wide (n:=m+1)).1 ?_
 refine callsIn_of_wp Tryz.func125 rfl trivial ?_ rfl
 simp only [Tryz.ntmps125,List.size_toArray,List.length_cons,List.length_nil,Nat.reduceAdd,Nat.reduceSub,Array.replicate_succ,Array.replicate_zero,List.push_toArray,List.append_toArray,List.nil_append,List.cons_append]
 gi_wp2_with fail
 gi_loopw [7] (fun _ wr=>∃ t:List UInt8,t.length≤1000000∧Hid (wr.heap[bs]?=some (.cells #[.string (bstr t)] 9 (0,0)))∧Hid (wr.heap[bp]?=some (.cells #[.string ⟨#[47]⟩] 9 (0,0)))∧Hid (wr.heap[bk]?=some (.cells #[.int .i64 0] 3 (0,0)))∧Hid (J (splitL t) wr)) (fun _ wr=>strAt wr bs)
 case atStart=>exact ⟨s0,hlen,HS,HP,HK,HJ0⟩
 case round =>
  obtain ⟨t,ht,HB,HP2,HK2,HJ2⟩:=hrel
  have hBS:=HB
  replace p0:=row_cell HP2.out 0
  have q0:=row_cell HK2.out 0
  have s0':=row_cell HB.out 0
  have lS:=row_lt HB.out
  have lP2:=row_lt HP2.out
  have lK:=row_lt HK2.out
  have hsz:(bstr t).size=t.length:=by simp [bstr,ByteArray.size]
  have CX:=lid (strings_Index_one (bstr t) 47 wr)
  gi_wp2_with fail
  refine ⟨trivial,(callsIn_wide.2 CX.out).mono ?_⟩
  rintro e w2 ⟨rfl,rfl⟩
  rw [show (bstr t).data.toList=t by simp [bstr]]
  by_cases hx:Lib.indexByte t 47=-1
  ·rw [hx]
   obtain ⟨fn,tmps,assign,body,hy,hR⟩:=HY.out _ t w2 HJ2.out ⟨[],split_no hx⟩
   have HR1:=lid hR
   have HSP:=lid (split_no hx)
   clear hx hR
   gi_wp2_with fail
   refine HR1.out.mono ?_
   rintro e W' (⟨rfl,hk',s',hT,hJ'⟩ | ⟨rfl,hk',hJx'⟩)
   ·have hs':s'=[]:=by
     unfold SpT at hT
     rw [HSP.out] at hT
     exact (List.cons.inj hT).2.symm
    subst hs'
    have HJ':=lid hJ'
    clear hJ' hT hk'
    gi_wp2_with fail
    exact bodyPost_end (results_none rfl _ _ _) rfl ⟨rfl,.inl HJ'.out⟩
   ·have HJ':=lid hJx'
    clear hJx' hk'
    gi_wp2_with fail
    exact bodyPost_end (results_none rfl _ _ _) rfl ⟨rfl,.inr ⟨_,_,HJ'.out⟩⟩
  ·obtain ⟨i,hi⟩:∃ i:Nat,Lib.indexByte t 47=i:=⟨(Lib.indexByte t 47).toNat,by have:=Lib.indexByte_ge t 47;omega⟩
   rw [hi]
   obtain ⟨hil,hsp2⟩:=split_at hi
   obtain ⟨fn,tmps,assign,body,hy,hR⟩:=HY.out _ (t.take i) w2 HJ2.out ⟨_,hsp2⟩
   rw [show spv (t.take i)=.string ((bstr t).extract 0 i) by rw [bstr_take]] at hy
   have HR1:=lid hR
   have HSP:=lid hsp2
   have d0:decide ((i:Int)<0)=false:=by simp
   clear hx hi hR hsp2
   gi_wp2_with fail
   refine HR1.out.mono ?_
   rintro e W' (⟨rfl,hk',s',hT,hJ'⟩ | ⟨rfl,hk',hJx'⟩)
   ·have hs':s'=splitL (t.drop (i+1)):=by
     unfold SpT at hT
     rw [HSP.out] at hT
     exact (List.cons.inj hT).2.symm
    subst hs'
    have HJ':=lid hJ'
    have HB':=lid (hk'.cells _ _ _ _ h1 HB.out)
    have HP':=lid (hk'.cells _ _ _ _ h2 HP2.out)
    have HK':=lid (hk'.cells _ _ _ _ h3 HK2.out)
    clear hJ' hT hk' p0 q0 s0' lS lP2 lK hy
    have p0:=row_cell HP'.out 0
    have s0':=row_cell HB'.out 0
    have f0:=row_fz HB'.out 0
    have lS:=row_lt HB'.out
    have lP2:=row_lt HP'.out
    gi_wp2_with fail
    go_roundw
    case rel =>
     refine ⟨t.drop (i+1),by rw [List.length_drop];omega,lid ?_,lid (row_other HP'.out (by omega)),lid (row_other HK'.out (by omega)),lid (HJS.out _ _ _ HJ'.out)⟩
     rw [bstr_from _ _ _ rfl]
     have:=row_set HB'.out 0 (.string (bstr (t.drop (i+1))))
     simpa using this
    case measure =>
     have e1:=row_cell (row_set HB'.out 0 (.string ((bstr t).extract (i+1) t.length))) 0
     have e2:=row_cell HB.out 0
     unfold strAt
     rw [e1,e2]
     rw [bstr_from _ _ _ rfl]
     simp [bstr,ByteArray.size]
     omega
   ·have HJ':=lid hJx'
    clear hJx' hk'
    gi_wp2_with fail
    exact bodyPost_ret (results_none rfl _ _ _) rfl ⟨rfl,.inr ⟨_,_,HJ'.out⟩⟩
end Go.Proofs.YtgcceepadlmelaaGreatDoor
namespace Go.Proofs.YtgcceepadlmelaaGreatDoor
set_option maxRecDepth 100000
set_option maxHeartbeats 4000000
open Go.RowKit Go.Shelf
attribute [local go_sem] Oper.semAt_some
def partB (x:List UInt8):Bool:=decide (x.length≤20) && wordW (bstr x)
def labB (s:ByteArray):Bool:=decide (s.size≤90) && (splitL s.data.toList).all partB
theorem splitSeq_fn (s p:ByteArray) (w:World) :
  Calls Tryz.prog 111 #[.string s,.string p,.int .i64 0] w fun e w'=>e=.returned (.func (.func 125) #[] #[.pointer (some ⟨w.heap.size+1,0,none⟩),.pointer (some ⟨w.heap.size,0,none⟩),.pointer (some ⟨w.heap.size+1+1,0,none⟩)]) ∧
   w'=((w.alloc (.cells #[.string s] 9)).alloc (.cells #[.string p] 9)).alloc (.cells #[.int .i64 0] 3):=by
 go_enter Tryz.func111,Tryz.ntmps111
 go_wp2_with fail
 go_ret
 exact ⟨by simp,rfl⟩
theorem SplitSeq_fn (s p:ByteArray) (w:World) :
  Calls Tryz.prog 96 #[.string s,.string p] w fun e w'=>e=.returned (.func (.func 125) #[] #[.pointer (some ⟨w.heap.size+1,0,none⟩),.pointer (some ⟨w.heap.size,0,none⟩),.pointer (some ⟨w.heap.size+1+1,0,none⟩)]) ∧
   w'=((w.alloc (.cells #[.string s] 9)).alloc (.cells #[.string p] 9)).alloc (.cells #[.int .i64 0] 3):=by
 go_enter Tryz.func96,Tryz.ntmps96
 go_wp2_with fail
 (with_reducible refine (splitSeq_fn s p w).mono ?_);rintro e w2 ⟨rfl,rfl⟩
 go_wp2_with fail
 go_ret
 exact ⟨rfl,rfl⟩
theorem res_bool2 {fn:Func} (hf:fn.results=#[.cell 2 4]) (t:Array Value) (w:World) (k:Nat) (b:Bool) (h:t.getD 2 undef=.pointer (some ⟨k,0,none⟩)) (e:w.heap[k]?=some (.cells #[.bool b] 4 (0,0))):(results fn t).run Tryz.prog w=.ok (.bool b) w:=by
 have e0:=row_cell e 0
 rw [Array.getD_eq_getD_getElem?] at h
 unfold results
 rw [hf]
 simp [go_sem,h,e0,asAddr]
theorem rf_keeps {W:World} {a:Addr} {v:Value} {k:Nat} {o:Obj} (h:W.heap[k]?=some o) (ho:o.isCells=false):(W.setCell a v).heap[k]?=some o:=(KeepsOthers.setCell W a v).same k o h ho
def PI (w:World) (t:List UInt8) (s:List (List UInt8)) (W:World):Prop :=
 Below w.heap.size w W∧W.heap[w.heap.size]?=some (.cells #[.bool false] 4 (0,0))∧∃ p,splitL t=p++s∧p.all partB=true
def PX (w:World) (t:List UInt8) (c:Code) (_:List (List UInt8)) (x:List UInt8) (W:World):Prop :=
 c=.ret∧Below w.heap.size w W∧W.heap[w.heap.size]?=some (.cells #[.bool false] 4 (0,0))∧partB x=false∧x∈splitL t
theorem PI.ab {w:World} {t:List UInt8} {s:List (List UInt8)} {B:Nat} (hB:w.heap.size<B):Ab B (PI w t s):=fun W W' row hs hg hr =>
 ⟨Ab.belowW (B:=B) (Nat.le_refl _) (by omega) W W' row hs.1 hg hr,Ab.blk (B:=B) hB _ rfl W W' row hs.2.1 hg hr,hs.2.2⟩
theorem PX.ab {w:World} {t:List UInt8} {c:Code} {s:List (List UInt8)} {x:List UInt8} {B:Nat} (hB:w.heap.size<B):Ab B (PX w t c s x):=fun W W' row hs hg hr =>
 ⟨hs.1,Ab.belowW (B:=B) (Nat.le_refl _) (by omega) W W' row hs.2.1 hg hr,Ab.blk (B:=B) hB _ rfl W W' row hs.2.2.1 hg hr,hs.2.2.2⟩
theorem Label_fn (s:ByteArray) (w:World) (hs:s.size≤maxLen) :
  Calls Tryz.prog 80 #[.string s] w fun e w'=>e=.returned (.bool (labB s))∧Below w.heap.size w w':=by
 have hs63:s.size≤9223372036854775807:=hs
 by_cases h90:90<s.size
 ·have d:decide ((90:Int)<(s.size:Int))=true:=by simp;omega
  have HV:Hid (labB s=false):=lid (by unfold labB;rw [decide_eq_false (by omega)];rfl)
  clear h90
  refine (callsIn_wide (n:=3)).1 ?_
  refine callsIn_of_wp_marks Tryz.func80 rfl trivial ?_ rfl
  simp only [Tryz.ntmps80,List.size_toArray,List.length_cons,List.length_nil,Nat.reduceAdd,Nat.reduceSub,Array.replicate_succ,Array.replicate_zero,List.push_toArray,List.append_toArray,List.nil_append,List.cons_append]
  gi_wp2_with fail
  exact ⟨_,res_bool2 rfl _ _ w.heap.size false rfl (h_new rfl _),by rw [HV.out],ba _ _⟩
 have d:decide ((90:Int)<(s.size:Int))=false:=by simp;omega
 have HV:Hid (labB s=(splitL s.data.toList).all partB):=lid (by unfold labB;rw [decide_eq_true (by omega)];simp)
 obtain ⟨t,ht⟩:∃ t,s.data.toList=t:=⟨_,rfl⟩
 have hst:s=bstr t:=by rw [← ht];rfl
 have hlen:t.length≤1000000:=by rw [← ht];show s.size≤1000000;omega
 rw [ht] at HV
 subst hst
 have d2:decide ((90:Int)<(t.length:Int))=false:=by have:(bstr t).size=t.length:=(by simp [bstr,ByteArray.size]);simp;omega
 clear ht h90 hs
 have FV:=lid (fun (x:List UInt8) (hx:x∈splitL t) (w1:World)=>Word_fn (bstr x) w1 (by have:=splitL_len hx;show x.toArray.size≤maxLen;simp [maxLen];omega))
 refine (callsIn_wide (n:=3)).1 ?_
 refine callsIn_of_wp_marks Tryz.func80 rfl trivial ?_ rfl
 simp only [Tryz.ntmps80,List.size_toArray,List.length_cons,List.length_nil,Nat.reduceAdd,Nat.reduceSub,Array.replicate_succ,Array.replicate_zero,List.push_toArray,List.append_toArray,List.nil_append,List.cons_append]
 gi_wp2_with fail
 refine ⟨trivial,(callsIn_wide.2 (SplitSeq_fn (bstr t) _ _)).mono ?_⟩
 rintro e w4 ⟨rfl,hw4⟩
 have hz:(w.alloc (.cells #[.bool false] 4)).heap.size=w.heap.size+1:=by simp
 rw [hz]
 obtain ⟨W1,hW1⟩:∃ y,w.alloc (.cells #[.bool false] 4)=y:=⟨_,rfl⟩
 rw [hW1] at hz
 rw [hW1] at hw4
 have hb4:Below w.heap.size w w4:=by rw [hw4,← hW1];exact (((ba _ _).alloc (by simp) _).alloc (by simp;omega) _).alloc (by simp;omega) _
 have hz4:w4.heap.size=w.heap.size+4:=by rw [hw4];simp [hz]
 have r0:w4.heap[w.heap.size]?=some (.cells #[.bool false] 4 (0,0)):=by
  rw [hw4]
  exact (h_old (by simp [hz];omega) _).trans ((h_old (by simp [hz];omega) _).trans ((h_old (by omega) _).trans (by rw [← hW1];exact h_new rfl _)))
 have HR1:Hid (w4.heap[w.heap.size+1]?=some (.cells #[.string (bstr t)] 9 (0,0))):=lid (by
  rw [hw4]
  exact (h_old (by simp [hz]) _).trans ((h_old (by simp [hz]) _).trans (h_new hz _)))
 have HR2:Hid (w4.heap[w.heap.size+1+1]?=some (.cells #[.string ⟨#[47]⟩] 9 (0,0))):=lid (by
  rw [hw4]
  exact (h_old (by simp [hz]) _).trans (h_new (by simp [hz]) _))
 have HR3:Hid (w4.heap[w.heap.size+1+1+1]?=some (.cells #[.int .i64 0] 3 (0,0))):=lid (by
  rw [hw4]
  exact h_new (by simp [hz]) _)
 have HP0:Hid (PI w t (splitL t) w4):=lid ⟨hb4,r0,[],rfl,rfl⟩
 have HZ4:=lid hz4
 clear hw4 hW1 hz hb4 r0 hz4
 gi_wp2_with fail
 refine wpIn_rf (pre:=#[]) (lb:=#[.pointer (some ⟨w.heap.size+1+1,0,none⟩),.pointer (some ⟨w.heap.size+1,0,none⟩),.pointer (some ⟨w.heap.size+1+1+1,0,none⟩)]) rfl (enters_of Tryz.func125 (by kernel_rfl) rfl) spv SpX SpT (PI w t) (PX w t) (fun s x=>Ab.pure _) (fun s=>PI.ab (by have:=HZ4.out;omega)) (fun c s x=>PX.ab (by have:=HZ4.out;omega)) (splitL t) HP0.out 3 (fun s=>s=[]) (fun _ _=>True) (fun k=>w.heap.size+1≤k) ?call ?assign ?body ?done ?stop
 case call =>
  intro l' m' rec W' hz' hbw hJ1 hJ2 hR hj
  have hz4:=HZ4.out
  have hblk:∀ k,k<w4.heap.size→W'.heap[k]?=w4.heap[k]?:=fun k hk=>hbw.block k hk
  refine (splitSeq_any l' m' (fun k=>w.heap.size+1≤k) W'.heap.size (w.heap.size+1) (w.heap.size+1+1) (w.heap.size+1+1+1) t _ _ hJ1 (fun s W v h=>?_) hR W' ((hblk _ (by omega)).trans HR1.out) ((hblk _ (by omega)).trans HR2.out) ((hblk _ (by omega)).trans HR3.out) (by omega) (by omega) (by omega) (by omega) (by omega) hlen hj).mono ?_
  ·exact ⟨⟨h.1.1.setCell (p:=⟨w.heap.size+1,0,none⟩) (by show w.heap.size≤w.heap.size+1;omega) _,row_other h.1.2.1 (by omega),h.1.2.2⟩,rf_keeps h.2.1 rfl,rf_keeps h.2.2 rfl⟩
  ·rintro e W3 ⟨rfl,h | ⟨s,x,h⟩⟩
   ·exact ⟨rfl,.inl ⟨[],rfl,h⟩⟩
   ·exact ⟨rfl,.inr ⟨s,x,trivial,h⟩⟩
 case assign =>
  intro l' m' x W' K hK
  gi_wp2_with fail
  exact hK
 case body =>
  rintro l' m' s x W' ⟨hb,hr,p,hp,hall⟩ ⟨tl,rfl⟩ hsz
  have hmem:x∈splitL t:=by rw [hp];simp
  have FX:=lid (FV.out x hmem W')
  have HB:=lid hb
  have HR:=lid hr
  have HP:=lid hp
  have HM:=lid hmem
  have HA:=lid hall
  have c0:=row_cell hr 0
  have z0:=row_fz hr 0
  have lr:=row_lt hr
  clear hb hp hmem hall hr
  have hxl:(bstr x).size=x.length:=bstr_size x
  by_cases h20:20<x.length
  ·have d20:decide ((20:Int)<(x.length:Int))=true:=by simp;omega
   have d21:decide ((20:Int)<((bstr x).size:Int))=true:=by rw [hxl];exact d20
   have HN:Hid (partB x=false):=lid (by unfold partB;rw [decide_eq_false (by omega)];rfl)
   clear h20
   gi_wp2_with fail
   refine ⟨trivial,?_⟩
   gi_wp2_with fail
   exact ⟨KF.setCell _ _ _ (by show ¬ w.heap.size+1≤w.heap.size;omega),rfl,HB.out.setCell (p:=⟨w.heap.size,0,none⟩) (Nat.le_refl _) _,by have:=row_set HR.out 0 (.bool false);simpa using this,HN.out,HM.out⟩
  have d20:decide ((20:Int)<(x.length:Int))=false:=by simp;omega
  have d21:decide ((20:Int)<((bstr x).size:Int))=false:=by rw [hxl];exact d20
  have HPB:Hid (partB x=wordW (bstr x)):=lid (by unfold partB;rw [decide_eq_true (by omega)];simp)
  clear h20
  gi_wp2_with fail
  refine ⟨trivial,(fun h=>by cases h),CallsIn.inRound l' ((callsIn_wide.2 FX.out).mono ?_)⟩
  rintro e w5 ⟨rfl,hb5⟩
  have HB5:=lid (HB.out.trans (hb5.mono HB.out.size))
  have HR5:=lid ((hb5.block _ lr).trans HR.out)
  have hkf:KF (fun k=>w.heap.size+1≤k) w4.heap.size W' w5:=KF.below hb5
  have c5:=row_cell HR5.out 0
  have z5:=row_fz HR5.out 0
  have lr5:=row_lt HR5.out
  have HKF:=lid hkf
  clear hb5 hkf c0 z0 lr
  cases hn:wordW (bstr x) with
  | false =>
   have HN:Hid (partB x=false):=lid (HPB.out.trans hn)
   clear hn
   gi_wp2_with fail
   exact ⟨HKF.out.trans (KF.setCell _ _ _ (by show ¬ w.heap.size+1≤w.heap.size;omega)),rfl,HB5.out.setCell (p:=⟨w.heap.size,0,none⟩) (Nat.le_refl _) _,by have:=row_set HR5.out 0 (.bool false);simpa using this,HN.out,HM.out⟩
  | true =>
   have HN:Hid (partB x=true):=lid (HPB.out.trans hn)
   clear hn
   gi_wp2_with fail
   exact ⟨HKF.out,tl,rfl,HB5.out,HR5.out,p++[x],by rw [HP.out];simp,by rw [List.all_append,HA.out];simp [HN.out]⟩
 case done =>
  rintro D s W' hD rfl ⟨hb,hr,p,hp,hall⟩ hdef
  have HB:=lid hb
  have HR:=lid hr
  have HDE:=lid hdef
  have HVT:Hid (labB (bstr t)=true):=lid (by rw [HV.out,hp,List.append_nil];exact hall)
  have c0:=row_cell hr 0
  have z0:=row_fz hr 0
  have lr:=row_lt hr
  have hDw:w.heap.size<D:=by have:=HZ4.out;omega
  clear hb hr hp hall hdef
  gi_wp2_with fail
  have HD2:Hid ((W'.setCell ⟨w.heap.size,0,none⟩ (.bool true)).heap[D]?=some (.deferred (some []))):=lid ((Below.heap_setCell _ _ _ D (by show D≠w.heap.size;omega)).trans HDE.out)
  have HR2:Hid ((W'.setCell ⟨w.heap.size,0,none⟩ (.bool true)).heap[w.heap.size]?=some (.cells #[.bool true] 4 (0,0))):=lid (by have:=row_set HR.out 0 (.bool true);simpa using this)
  have HB2:=lid (HB.out.setCell (p:=⟨w.heap.size,0,none⟩) (Nat.le_refl _) (.bool true))
  refine ⟨by simp,.inl ⟨D,_,rfl,run_takeDeferred HD2.out,?_⟩⟩
  refine ⟨_,res_bool2 rfl _ _ w.heap.size true rfl ((World.putObj_heap_other (by omega)).trans HR2.out),by rw [HVT.out],?_⟩
  exact HB2.out.grown (grownBy_putObj' _ D _) HB2.out.size (fun j e=>by cases e;omega)
 case stop =>
  rintro D c s x W' hD _ ⟨rfl,hb,hr,hx,hmem⟩ hdef
  have HB:=lid hb
  have HR:=lid hr
  have HDE:=lid hdef
  have HVF:Hid (labB (bstr t)=false):=lid (by
   rw [HV.out]
   exact List.all_eq_false.2 ⟨x,hmem,by simp [hx]⟩)
  have hDw:w.heap.size<D:=by have:=HZ4.out;omega
  clear hb hr hx hmem hdef
  gi_wp2_with fail
  refine ⟨by simp,.inl ⟨D,_,rfl,run_takeDeferred HDE.out,?_⟩⟩
  refine ⟨_,res_bool2 rfl _ _ w.heap.size false rfl ((World.putObj_heap_other (by omega)).trans HR.out),by rw [HVF.out],?_⟩
  exact HB.out.grown (grownBy_putObj' _ D _) HB.out.size (fun j e=>by cases e;omega)
end Go.Proofs.YtgcceepadlmelaaGreatDoor
namespace Go.Proofs.YtgcceepadlmelaaGreatDoor
open Go.RowKit Go.Shelf
theorem Ab.cells {B b:Nat} {cs:Array Value} {t:TypeId} {f:Nat × Nat}:Ab B (fun W=>W.heap[b]?=some (.cells cs t f)):=fun W W' row hs hg hr=>by
 refine (hg.block b (Array.getElem?_eq_some_iff.1 hs).1 (fun e=>?_)).trans hs
 obtain ⟨_,o,ho,hc⟩:=hr b e.symm
 rw [hs] at ho
 cases ho
 cases hc
variable {n:Nat} {P:Program} {w:World}
end Go.Proofs.YtgcceepadlmelaaGreatDoor
