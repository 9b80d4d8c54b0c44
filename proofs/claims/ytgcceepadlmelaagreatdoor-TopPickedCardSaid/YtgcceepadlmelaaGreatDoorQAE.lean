import Derived.Test.YtgcceepadlmelaaGreatDoorQAD
import Derived.Test.YtgcceepadlmelaaGreatDoorChecked
import Derived.Test.YtgcceepadlmelaaGreatDoorQAB
import Derived.Maps.OwnOps
import Derived.Maps.Views
import Derived.Test.YtgcceepadlmelaaGreatDoorQAA
import Derived.Test.YtgcceepadlmelaaGreatDoorEdVisit
import Derived.Test.YtgcceepadlmelaaGreatDoorQAC
import Derived.Maps.OwnSet
import Derived.Maps.AppendAt
namespace Go.Proofs.YtgcceepadlmelaaGreatDoor
open Go.RowKit
theorem SA.kl {w W:World} {ao:Option Addr} {n cap:Nat} {l:List ByteArray} (h:SA w ao n cap l) (hk:KL w W):SA W ao n cap l:=⟨h.len,h.sl.kl hk,h.le,h.max,h.sz,h.nil⟩
theorem DwA.kl {w W:World} {d:Dw} (h:DwA w d) (hk:KL w W):DwA W d:=⟨h.id,h.kind,h.names.kl hk,h.body.kl hk⟩
theorem DLA.kl {w W:World} {ao:Option Addr} {n cap:Nat} {l:List Dw} (h:DLA w ao n cap l) (hk:KL w W):DLA W ao n cap l:=⟨h.len,h.sl.kl hk,h.le,h.max,fun s hs=>(h.el s hs).kl hk,h.nil⟩
theorem MwA.kl {w W:World} {m:Mw} (h:MwA w m) (hk:KL w W):MwA W m:=⟨h.sz,h.uses.kl hk,h.decls.kl hk⟩
theorem KwA.kl {w W:World} {k:Kw} (h:KwA w k) (hk:KL w W):KwA W k:=⟨h.pack,h.text,h.old.kl hk,h.new.kl hk⟩
theorem MLA.kl {w W:World} {ao:Option Addr} {n cap:Nat} {l:List Mw} (h:MLA w ao n cap l) (hk:KL w W):MLA W ao n cap l:=⟨h.len,h.sl.kl hk,h.le,h.max,fun s hs=>(h.el s hs).kl hk,h.nil⟩
theorem KLA.kl {w W:World} {ao:Option Addr} {n cap:Nat} {l:List Kw} (h:KLA w ao n cap l) (hk:KL w W):KLA W ao n cap l:=⟨h.len,h.sl.kl hk,h.le,h.max,fun s hs=>(h.el s hs).kl hk,h.nil⟩
theorem KL.trans {X Y Z:World} (h:KL X Y) (k:KL Y Z):KL X Z:=⟨Nat.le_trans h.size k.size,fun i cs t f e=>k.cells i cs t f (h.cells i cs t f e)⟩
def ersO (g:Option Nat) (w:World):World:=match g with
 | none=>w
 | some g=>w.putObj g (.map #[] 0)
theorem ersO_size (g:Option Nat) (w:World):(ersO g w).heap.size=w.heap.size:=by cases g <;> simp [ersO]
theorem ersO_other {g:Option Nat} {w:World} {k:Nat} (h:g≠some k):(ersO g w).heap[k]?=w.heap[k]?:=by
 cases g with
 | none=>rfl
 | some g=>exact World.putObj_heap_other (fun e=>h (by rw [e]))
theorem ersO_cells {g:Option Nat} {w:World} {k:Nat} {cs:Array Value} {t:TypeId} {f:Nat × Nat} (h:(ersO g w).heap[k]?=some (.cells cs t f)):g≠some k∧w.heap[k]?=some (.cells cs t f):=by
 have hne:g≠some k:=by
  rintro rfl
  have hlt:k<w.heap.size:=by have:=row_lt h;rwa [ersO_size] at this
  rw [show (ersO (some k) w).heap[k]?=some (.map #[] 0) from World.putObj_heap_same hlt] at h
  cases h
 rw [ersO_other hne] at h
 exact ⟨hne,h⟩
theorem kl_ers (g:Option Nat) (w:World):KL (ersO g w) w:=⟨Nat.le_of_eq (ersO_size g w),fun _ _ _ _ h=>(ersO_cells h).2⟩
theorem kl_ers_grown {g g':Option Nat} {w w':World} (hg:w.grownBy w' g) (h:g'=g∨∃ b,g'=some b∧w.heap.size≤b):KL (ersO g w) (ersO g' w'):=by
 refine ⟨by rw [ersO_size,ersO_size];exact hg.size,fun k cs t f e=>?_⟩
 obtain ⟨hne,e2⟩:=ersO_cells e
 have hlt:=row_lt e2
 have hne':g'≠some k:=by
  rcases h with rfl | ⟨b,rfl,hb⟩
  ·exact hne
  ·intro e3
   have:=Option.some.inj e3
   omega
 rw [ersO_other hne']
 exact (hg.block k hlt (fun e3=>hne e3.symm)).trans e2
theorem kl_ers_base {g:Option Nat} {w0 w:World} (hb:Below w0.heap.size w0 w) (h:∀ b,g=some b→w0.heap.size≤b):KL w0 (ersO g w):=by
 refine ⟨by rw [ersO_size];exact hb.size,fun k cs t f e=>?_⟩
 have hlt:=row_lt e
 rw [ersO_other (fun e2=>by have:=h _ e2;omega)]
 exact (hb.block k hlt).trans e
theorem kl_ers_below {g:Option Nat} {w w':World} (hb:Below w.heap.size w w'):KL (ersO g w) (ersO g w'):=by
 refine ⟨by rw [ersO_size,ersO_size];exact hb.size,fun k cs t f e=>?_⟩
 obtain ⟨hne,e2⟩:=ersO_cells e
 rw [ersO_other hne]
 exact (hb.block k (row_lt e2)).trans e2
end Go.Proofs.YtgcceepadlmelaaGreatDoor
namespace Go.Proofs.YtgcceepadlmelaaGreatDoor
set_option maxRecDepth 100000
set_option maxHeartbeats 4000000
open Go.RowKit
theorem not_mem_succ {S:List ByteArray} {k:Nat} {s:ByteArray} (hk:k<S.length) (h:¬ s∈S.take k) (e:¬ s=S[k]):¬ s∈S.take (k+1):=by
 rw [List.take_succ_eq_append_getElem hk,List.mem_append]
 rintro (h' | h')
 ·exact h h'
 ·exact e (List.mem_singleton.1 h')
def inS (S:List ByteArray) (s:ByteArray):Bool:=S.any fun x=>decide (x=s)
theorem inS_iff {S:List ByteArray} {s:ByteArray}:inS S s=true↔s∈S:=by
 unfold inS
 rw [List.any_eq_true]
 exact ⟨fun ⟨x,hx,e⟩=>by rw [← of_decide_eq_true e];exact hx,fun h=>⟨s,h,decide_eq_true rfl⟩⟩
def IdxS (S:List ByteArray) (s:ByteArray) (i:Int):Prop:=decide (0≤i)=inS S s
theorem IndexS_any (S:List ByteArray) (n cap:Nat) (ao:Option Addr) (s:ByteArray) (w:World) (hm:n≤1000000) (hn:S.length=n) (hs:Sl w 1 ao n (svals S)) :
  Calls Tryz.prog 64 #[.slice ao n cap,.string s] w fun e w'=>∃ i:Int,e=.returned (.int .i64 i)∧IdxS S s i∧w=w':=by
 have HN:=lid hn
 have HS:=lid hs
 clear hn hs
 go_enter Tryz.func64,Tryz.ntmps64
 go_wp2_with fail
 go_loop [5,8] (fun _ i=>∃ k:Nat,k≤n∧i=.int .i64 k∧Hid (¬ s∈S.take k)) (fun _ i=>n-(intOf i).toNat)
 case atStart=>exact ⟨0,Nat.zero_le _,rfl,lid (by simp)⟩
 case round =>
  obtain ⟨k,hk,rfl,HT⟩:=hrel
  by_cases hlt:k<n
  ·have hkl:k<S.length:=by rw [HN.out];exact hlt
   obtain ⟨b1,o1,rfl,hlb1,hcell⟩:=HS.out.at_ hlt
   have x0:=hcell k _ (svals_at hkl)
   have HY:Hid (s=S[k]→IdxS S s (k:Int)):=lid (fun e=>by
    unfold IdxS
    rw [decide_eq_true (show (0:Int)≤k by omega),inS_iff.2 (by rw [e];exact List.getElem_mem hkl)])
   have HX:=lid (fun e=>not_mem_succ hkl HT.out e)
   have dk:decide ((k:Int)<(n:Int))=true:=by simp;omega
   obtain ⟨x,hx⟩:∃ x,S[k]=x:=⟨_,rfl⟩
   rw [hx] at x0 HY HX
   clear hcell hx
   by_cases he:s=x
   ·have HV:=lid (HY.out he)
    have d:=str_eq he
    clear he HY HX
    go_wp2_with fail
    go_ret
    exact ⟨_,rfl,HV.out,rfl⟩
   ·have HV:=lid (HX.out he)
    have d:=str_ne he
    clear he HY HX
    go_wp2_with fail
    go_round
    case rel=>exact ⟨k+1,by omega,by go_num,HV⟩
    case measure=>simp [intOf];omega
  ·obtain rfl:k=n:=by omega
   have HV:Hid (IdxS S s (-1)):=lid (by
    unfold IdxS
    have:=HT.out
    rw [List.take_of_length_le (Nat.le_of_eq HN.out)] at this
    cases hh:inS S s with
    | true=>exact absurd (inS_iff.1 hh) this
    | false=>rfl)
   have dk:decide ((k:Int)<(k:Int))=false:=by simp
   go_wp2_with fail
   go_ret
   exact ⟨_,rfl,HV.out,rfl⟩
theorem ContainsS_any (S:List ByteArray) (n cap:Nat) (ao:Option Addr) (s:ByteArray) (w:World) (hm:n≤1000000) (hn:S.length=n) (hs:Sl w 1 ao n (svals S)) :
  Calls Tryz.prog 37 #[.slice ao n cap,.string s] w fun e w'=>e=.returned (.bool (inS S s))∧w=w':=by
 have HC:=lid (IndexS_any S n cap ao s w hm hn hs)
 clear hn hs
 go_enter Tryz.func37,Tryz.ntmps37
 go_wp2_with fail
 (with_reducible refine (HC.out).mono ?_);rintro e w1 ⟨i,rfl,hi,rfl⟩
 have HI:=lid hi
 clear hi
 have hi:=HI.out
 unfold IdxS at hi
 go_wp2_with fail
 go_ret
 exact ⟨rfl,rfl⟩
end Go.Proofs.YtgcceepadlmelaaGreatDoor
namespace Go.Proofs.YtgcceepadlmelaaGreatDoor
open Go.RowKit
def keyS (c:ByteArray):Lit:=.string c.data.toList
theorem keyS_key (s:ByteArray):WideAt.IsKeyLit (keyS s):=by exact True.intro
theorem keyS_inj {a b:ByteArray} (h:keyS a=keyS b):a=b:=by
 have h1:a.data.toList=b.data.toList:=by simpa [keyS] using h
 exact ByteArray.ext (by rw [← Array.toList_inj,h1])
theorem kstr:Maps.Keyed Tryz.prog 9:=Maps.string_keyed Tryz.underlying9
theorem key_of {s:ByteArray} (h:s.size≤maxLen):keyOf Tryz.prog 9 (.string s)=some (keyS s):=WideMaps.keyOf_string_mk Tryz.underlying9 h
def hasS (x:ByteArray) (S:List ByteArray):Bool:=S.any fun y=>decide (y=x)
theorem hasS_snoc (x c:ByteArray) (S:List ByteArray):hasS x (S++[c])=(hasS x S || decide (c=x)):=by simp [hasS]
def setD (S:List ByteArray):DataW Unit:=S.foldl (fun D c=>D.put (keyS c) (.lit (.bool true))) (.map [])
theorem setD_snoc (S:List ByteArray) (c:ByteArray):setD (S++[c])=(setD S).put (keyS c) (.lit (.bool true)):=by simp [setD]
theorem setD_map (S:List ByteArray):Maps.IsMap (setD S):=by
 unfold setD
 have:∀ (l:List ByteArray) (D:DataW Unit),Maps.IsMap D→Maps.IsMap (l.foldl (fun D c=>D.put (keyS c) (.lit (.bool true))) D):=by
  intro l
  induction l with
  | nil=>intro D h;exact h
  | cons c l ih=>intro D h;exact ih _ (h.put _ _)
 exact this S _ Maps.isMap_empty
theorem setD_at (S:List ByteArray) (x:ByteArray):(setD S).atKey (keyS x) (.lit (.bool false))=.lit (.bool (hasS x S)):=by
 suffices h:∀ n (S:List ByteArray),S.length=n→(setD S).atKey (keyS x) (.lit (.bool false))=.lit (.bool (hasS x S)) from h _ S rfl
 intro n
 induction n with
 | zero =>
  intro S h
  obtain rfl:=List.eq_nil_of_length_eq_zero h
  rfl
 | succ n ih =>
  intro S h
  have hne:S≠[]:=by rintro rfl;cases h
  rw [← List.dropLast_concat_getLast hne,setD_snoc,hasS_snoc]
  have hl:S.dropLast.length=n:=by simp [h]
  by_cases e:S.getLast hne=x
  ·rw [e,Maps.atKey_put_same (setD_map _) (keyS_key _)]
   simp
  ·rw [Maps.atKey_put_other (fun h=>e (keyS_inj h).symm),ih _ hl]
   simp [e]
def OwnSet (w:World) (b n:Nat) (S:List ByteArray):Prop:=w.ownsMap Tryz.prog 9 (plainElem Tryz.prog 4) b n (setD S)
theorem plainElem_bool_inv {P:Program} {e:TypeId} (he:P.underlying e=some .bool) {v:Value} {z:DataW Unit × List MemPlace} (h:plainElem P e v=some z):∃ x,v=.bool x∧z=(.lit (.bool x),[]):=by
 unfold plainElem at h
 rw [he] at h
 cases v <;> simp at h
 exact ⟨_,rfl,h.symm⟩
theorem zero_bool (w:World):(zeroValue 4).run Tryz.prog w=.ok (.bool false) w:=by kernel_rfl
theorem OwnSet.look {w:World} {b n:Nat} {S:List ByteArray} (h:OwnSet w b n S) (x:ByteArray) (hx:x.size≤maxLen):(Instr.lookup 137 (.map (some b)) (.string x) false).run Tryz.prog w=.ok (.bool (hasS x S)) w:=by
 obtain ⟨v,ps,hrun,hv⟩:=World.ownsMap.lookup h (Maps.string_keyed Tryz.underlying9) Tryz.underlying137 (zero_bool w) (plainElem_bool Tryz.underlying4 false) (WideMaps.keyOf_string_mk Tryz.underlying9 hx)
 obtain ⟨y,rfl,hy⟩:=plainElem_bool_inv Tryz.underlying4 hv
 have:=setD_at S x
 rw [keyS] at this
 rw [this] at hy
 simp only [Prod.mk.injEq,DataW.lit.injEq,Lit.bool.injEq] at hy
 rw [hrun,hy.1]
end Go.Proofs.YtgcceepadlmelaaGreatDoor
namespace Go.Proofs.YtgcceepadlmelaaGreatDoor
set_option maxRecDepth 100000
set_option maxHeartbeats 4000000
open Go.RowKit
def extraN (k:Int) (n m:ByteArray) (j:Nat):List ByteArray:=if k=6 then [n] else if k=8∧j=1 then [n] else if k=13∧j=2 then [n,m] else []
mutual
def freeE (L:List ByteArray):Ew→List ByteArray | .mk k n m _ _ _ _ s=>if k=3 then (if inS L n=true then [] else [n]) else freeS L k n m 0 s
def freeS (L:List ByteArray) (k:Int) (n m:ByteArray):Nat→List Ew→List ByteArray | _,[]=>[] | j,e::l=>freeE (L++extraN k n m j) e++freeS L k n m (j+1) l
end
theorem freeE_eq (L:List ByteArray) (e:Ew):freeE L e=if e.kind=3 then (if inS L e.name=true then [] else [e.name]) else freeS L e.kind e.name e.more 0 e.sub:=by cases e;simp only [freeE];rfl
mutual
theorem freeE_len (L:List ByteArray):∀ e:Ew,(freeE L e).length≤cntE e
 | .mk k n m i d a c s=>by
  have:=freeS_len L k n m 0 s
  rw [freeE_eq,cntE_eq]
  show (if k=3 then _ else freeS L k n m 0 s).length≤cntL s+1
  split
  ·split <;> simp
  ·omega
theorem freeS_len (L:List ByteArray) (k:Int) (n m:ByteArray):∀ (j:Nat) (l:List Ew),(freeS L k n m j l).length≤cntL l
 | _,[]=>by simp [freeS]
 | j,e::l=>by
  have h1:=freeE_len (L++extraN k n m j) e
  have h2:=freeS_len L k n m (j+1) l
  rw [freeS,cntL,List.length_append]
  omega
end
def badS (e:Ew):Bool:=((e.kind == 6) && !(e.sub.length == 1)) || ((e.kind == 8) && !(e.sub.length == 2)) || ((e.kind == 13) && !(e.sub.length == 3))
structure Kx (m:Nat) (w w':World):Prop where
 os:w'.os=w.os
 tape:w'.tape=w.tape
 output:w'.output=w.output
 size:w.heap.size≤w'.heap.size
 blk:∀ k,k<w.heap.size→k≠m→w'.heap[k]?=w.heap[k]?
theorem Kx.refl (m:Nat) (w:World):Kx m w w:=⟨rfl,rfl,rfl,Nat.le_refl _,fun _ _ _=>rfl⟩
theorem Kx.trans {m:Nat} {w w' w'':World} (h:Kx m w w') (k:Kx m w' w''):Kx m w w'':=⟨k.os.trans h.os,k.tape.trans h.tape,k.output.trans h.output,Nat.le_trans h.size k.size,fun i hi hf=>(k.blk i (by have:=h.size;omega) hf).trans (h.blk i hi hf)⟩
theorem Kx.of_below {m n:Nat} {w w':World} (k:Below n w w') (hn:w.heap.size≤n):Kx m w w':=⟨k.os,k.tape,k.output,k.size,fun i hi _=>k.block i (by omega)⟩
theorem Kx.below {m n:Nat} {w w' w'':World} (h:Kx m w w') (k:Below n w' w'') (hn:w.heap.size≤n):Kx m w w'':=⟨k.os.trans h.os,k.tape.trans h.tape,k.output.trans h.output,Nat.le_trans h.size k.size,fun i hi hne=>(k.block i (by omega)).trans (h.blk i hi hne)⟩
theorem Kx.grown {m:Nat} {w w' w'':World} (h:Kx m w w') (hg:w'.grownBy w'' (some m)):Kx m w w'':=⟨hg.os.trans h.os,hg.tape.trans h.tape,hg.output.trans h.output,Nat.le_trans h.size hg.size,fun i hi hne=>(hg.block i (by have:=h.size;omega) (fun e=>hne (Option.some.inj e))).trans (h.blk i hi hne)⟩
theorem OwnSet.map {w:World} {m n:Nat} {S:List ByteArray} (h:OwnSet w m n S):∃ o,w.heap[m]?=some o∧o.isCells=false:=by
 obtain ⟨es,clock,hb,_⟩:=h
 exact ⟨_,hb,rfl⟩
theorem Kx.kl {m n:Nat} {w w':World} {S:List ByteArray} (h:Kx m w w') (hs:OwnSet w m n S):KL w w':=⟨h.size,fun k cs t f e=>by
 obtain ⟨o,ho,hc⟩:=hs.map
 have hne:k≠m:=fun e2=>by
  subst e2
  rw [e] at ho
  cases ho
  cases hc
 exact (h.blk k (row_lt e) hne).trans e⟩
theorem OwnSet.belowN {w w':World} {b n N:Nat} {S:List ByteArray} (h:OwnSet w b n S) (hb:Below N w w') (hN:w.heap.size≤N):OwnSet w' b n S:=World.ownsMap.kept (row:=none) h ⟨hb.os,hb.tape,hb.output,hb.size,fun k hk _=>hb.block k (by omega)⟩ (by simp)
structure AFh (e:Ew) (L:List ByteArray) (ao:Option Addr) (n cap mb k:Nat) (S:List ByteArray) (w:World):Prop where
 ea:EA w e
 shp:anyE badS e=false
 sa:SA w ao n cap L
 own:OwnSet w mb k S
 hn:n+2*cntE e≤3000
 hk:k+cntE e≤3000
def AFp (e:Ew) (L:List ByteArray) (mb k:Nat) (S:List ByteArray) (w:World) (r:Ending) (w':World):Prop :=
 r=.returned (.tuple #[])∧OwnSet w' mb (k+(freeE L e).length) (S++freeE L e)∧Kx mb w w'
def AF (c:Nat):Prop:=∀ (e:Ew) (L:List ByteArray) (ao:Option Addr) (n cap mb k:Nat) (S:List ByteArray) (w:World),cntE e≤c→AFh e L ao n cap mb k S w →
 Calls Tryz.prog 121 #[.agg (eca e),.slice ao n cap,.map (some mb)] w (AFp e L mb k S w)
theorem addFree_var (e:Ew) (L:List ByteArray) (ao:Option Addr) (n cap mb k:Nat) (S:List ByteArray) (w:World) (h:AFh e L ao n cap mb k S w) (h3:e.kind=3) :
  Calls Tryz.prog 121 #[.agg (eca e),.slice ao n cap,.map (some mb)] w (AFp e L mb k S w):=by
 obtain ⟨ek,en,em,ei,ed,ea,ec,es⟩:=e
 obtain rfl:ek=3:=h3
 have HOS:=lid h.own
 have hkm:k≤3000:=by have:=h.hk;omega
 have CC:=lid (fun W (hk:KL w W)=>ContainsS_any L n cap ao en W (by have:=h.hn;omega) h.sa.len (h.sa.sl.kl hk))
 have hsz:en.size≤maxLen:=h.ea.sz.1
 have HSZ:=lid hsz
 obtain ⟨W1,hW1⟩:∃ y,w.alloc (Obj.cells #[.int .i64 3,.string en,.string em,.int .i64 ei,.int .i64 ed,.slice ea es.length ec] 63)=y:=⟨_,rfl⟩
 have HB1:Hid (Below w.heap.size w W1):=lid (by rw [← hW1];exact ba _ _)
 have HR1:Hid (W1.heap[w.heap.size]?=some (.cells #[.int .i64 3,.string en,.string em,.int .i64 ei,.int .i64 ed,.slice ea es.length ec] 63 (0,0))):=lid (by rw [← hW1];exact h_new rfl _)
 have HW1:=lid hW1
 rw [show eca (Ew.mk 3 en em ei ed ea ec es)=#[.int .i64 3,.string en,.string em,.int .i64 ei,.int .i64 ed,.slice ea es.length ec] from rfl]
 clear h hsz hW1
 cases hin:inS L en with
 | true =>
  have HV:Hid (freeE L (Ew.mk 3 en em ei ed ea ec es)=[]):=lid (by rw [freeE_eq];show (if (3:Int)=3 then (if inS L en=true then _ else _) else _)=_;rw [if_pos rfl,if_pos hin])
  go_enter Tryz.func121,Tryz.ntmps121
  go_wp2_with fail
  rw [HW1.out]
  (with_reducible refine (CC.out _ (KL.of_below HB1.out)).mono ?_);rintro e w2 ⟨rfl,rfl⟩
  rw [hin]
  go_wp2_with fail
  exact bodyPost_ret (results_none rfl _ _ _) rfl ⟨rfl,by rw [HV.out];simpa using OwnSet.belowN HOS.out HB1.out (Nat.le_refl _),Kx.of_below HB1.out (Nat.le_refl _)⟩
 | false =>
  have HV:Hid (freeE L (Ew.mk 3 en em ei ed ea ec es)=[en]):=lid (by rw [freeE_eq];show (if (3:Int)=3 then (if inS L en=true then _ else _) else _)=_;rw [if_pos rfl,if_neg (by rw [hin];simp)];rfl)
  have HO1:=lid (OwnSet.belowN HOS.out HB1.out (Nat.le_refl _))
  have c1:W1.cell? ⟨w.heap.size,1,none⟩=some (.string en):=row_cell HR1.out 1
  have l1:=row_lt HR1.out
  go_enter Tryz.func121,Tryz.ntmps121
  go_wp2_with fail
  rw [HW1.out]
  (with_reducible refine (CC.out _ (KL.of_below HB1.out)).mono ?_);rintro e w2 ⟨rfl,rfl⟩
  rw [hin]
  go_wp2_with (at_mapUpdate;go_must (refine wpList_mapUpdate_own _ rfl _ _ _ 137 rfl 9 4 kstr Tryz.underlying137 (plainElem Tryz.prog 4) mb k _ rfl HO1.out (by simp only [maxLen];omega) _ _ (keyS en) rfl rfl (key_of HSZ.out) (.lit (.bool true)) [] (plainElem_bool Tryz.underlying4 true) ?_))
  intro w7 hown7 hg7
  have HS7:Hid (OwnSet w7 mb (k+1) (S++[en])):=lid (by rw [OwnSet,setD_snoc];exact hown7)
  have HG7:Hid (Kx mb w w7):=lid ((Kx.of_below HB1.out (Nat.le_refl _)).grown hg7)
  clear hown7 hg7 c1 l1
  go_wp2_with fail
  exact bodyPost_ret (results_none rfl _ _ _) rfl ⟨rfl,by rw [HV.out];exact HS7.out,HG7.out⟩
end Go.Proofs.YtgcceepadlmelaaGreatDoor
namespace Go.Proofs.YtgcceepadlmelaaGreatDoor
set_option maxRecDepth 100000
set_option maxHeartbeats 4000000
open Go.RowKit
theorem freeS_other {L:List ByteArray} {k:Int} {n m:ByteArray} (h6:k≠6) (h8:k≠8) (h13:k≠13):∀ (j:Nat) (l:List Ew),freeS L k n m j l=l.flatMap (freeE L)
 | _,[]=>by simp [freeS]
 | j,e::l=>by
  have:extraN k n m j=[]:=by unfold extraN;rw [if_neg h6,if_neg (fun h=>h8 h.1),if_neg (fun h=>h13 h.1)]
  rw [freeS,this,List.append_nil,freeS_other h6 h8 h13 (j+1) l,List.flatMap_cons]
theorem flatF_len (L:List ByteArray):∀ l:List Ew,(l.flatMap (freeE L)).length≤cntL l
 | []=>Nat.zero_le _
 | e::l=>by
  have h1:=freeE_len L e
  have h2:=flatF_len L l
  rw [List.flatMap_cons,List.length_append,cntL]
  omega
theorem cnt_mem {e:Ew}:∀ {l:List Ew},e∈l→cntE e≤cntL l
 | x::l,h=>by
  rw [cntL]
  rcases List.mem_cons.1 h with rfl | h
  ·omega
  ·have:=cnt_mem h
   omega
theorem any_mem {P:Ew→Bool} {e:Ew}:∀ {l:List Ew},anyL P l=false→e∈l→anyE P e=false
 | x::l,h,hm=>by
  simp only [anyL,Bool.or_eq_false_iff] at h
  rcases List.mem_cons.1 hm with rfl | hm
  ·exact h.1
  ·exact any_mem h.2 hm
theorem any_sub {P:Ew→Bool} {e:Ew} (h:anyE P e=false):P e=false∧anyL P e.sub=false:=by
 rw [anyE_eq,Bool.or_eq_false_iff] at h
 exact h
theorem cnt_take {l:List Ew} {j:Nat} (h:j<l.length):cntL (l.take j)+cntE l[j]≤cntL l:=by
 have h1:cntL (l.take (j+1))≤cntL l:=by
  conv=>rhs;rw [← List.take_append_drop (j+1) l]
  rw [cntL_append]
  omega
 rw [List.take_succ_eq_append_getElem h,cntL_append] at h1
 simpa [cntL] using h1
theorem addFree_other {c:Nat} (ih:AF c) (e:Ew) (L:List ByteArray) (ao:Option Addr) (n cap mb k:Nat) (S:List ByteArray) (w:World) (hc:cntE e≤c+1) (h:AFh e L ao n cap mb k S w) (h3:e.kind≠3) (h6:e.kind≠6) (h8:e.kind≠8) (h13:e.kind≠13) :
  Calls Tryz.prog 121 #[.agg (eca e),.slice ao n cap,.map (some mb)] w (AFp e L mb k S w):=by
 obtain ⟨ek,en,em,ei,ed,ea,ec,es⟩:=e
 have HV:Hid (freeE L (Ew.mk ek en em ei ed ea ec es)=es.flatMap (freeE L)):=lid (by rw [freeE_eq];exact (if_neg h3).trans (freeS_other h6 h8 h13 0 es))
 have d3:(ek == 3)=false:=beq_false_of_ne h3
 have d6:(ek == 6)=false:=beq_false_of_ne h6
 have d8:(ek == 8)=false:=beq_false_of_ne h8
 have d13:(ek == 13)=false:=beq_false_of_ne h13
 have HH:=lid h
 have HIH:=lid ih
 have hcs:cntL es≤c:=by rw [cntE_eq] at hc;exact Nat.le_of_succ_le_succ hc
 have HCS:=lid hcs
 obtain ⟨ns,hns⟩:∃ ns,es.length=ns:=⟨_,rfl⟩
 have hn63:(ns:Int)≤9223372036854775807:=by
  have h1:=h.ea.le
  have h2:=h.ea.max
  simp only [Ew.sub,Ew.cap,maxLen] at h1 h2
  omega
 obtain ⟨W1,hW1⟩:∃ y,w.alloc (Obj.cells #[.int .i64 ek,.string en,.string em,.int .i64 ei,.int .i64 ed,.slice ea es.length ec] 63)=y:=⟨_,rfl⟩
 have hb1:Below w.heap.size w W1:=by rw [← hW1];exact ba _ _
 have HW1:=lid hW1
 have HK1:Hid (Kx mb w W1):=lid (Kx.of_below hb1 (Nat.le_refl _))
 have HO1:Hid (OwnSet W1 mb (k+(es.take 0 |>.flatMap (freeE L)).length) (S++(es.take 0).flatMap (freeE L))):=lid (by simpa using OwnSet.belowN h.own hb1 (Nat.le_refl _))
 rw [show eca (Ew.mk ek en em ei ed ea ec es)=#[.int .i64 ek,.string en,.string em,.int .i64 ei,.int .i64 ed,.slice ea es.length ec] from rfl]
 rw [hns] at HW1 ⊢
 have HNS:=lid hns
 clear h h3 h6 h8 h13 ih hc hcs hW1 hb1 hns
 go_enter Tryz.func121,Tryz.ntmps121
 go_wp2_with fail
 rw [HW1.out]
 go_loopw [88] (fun u88 wr=>∃ j:Nat,j≤ns∧u88=.int .i64 j∧Hid (OwnSet wr mb (k+((es.take j).flatMap (freeE L)).length) (S++(es.take j).flatMap (freeE L)))∧Hid (Kx mb w wr)) (fun u88 _=>ns-(intOf u88).toNat)
 case atStart=>exact ⟨0,Nat.zero_le _,rfl,HO1,HK1⟩
 case round =>
  clear HO1 HK1 HW1
  obtain ⟨j,hj,rfl,HO,HK⟩:=hrel
  by_cases hjn:j<ns
  ·have hjl:j<es.length:=by rw [HNS.out];exact hjn
   have hea:EA wr (Ew.mk ek en em ei ed ea ec es):=HH.out.ea.kl (HK.out.kl HH.out.own)
   obtain ⟨sb,so,rfl,hsb,hcell⟩:=(show Sl wr 6 ea es.length (ecs es) from hea.sl).at_ (k:=j) hjl
   obtain ⟨x,hx⟩:∃ x,es[j]=x:=⟨_,rfl⟩
   obtain ⟨z0,z1,z2,z3,z4,z5⟩:=ecs_at hjl
   rw [hx] at z0 z1 z2 z3 z4 z5
   have y0:wr.cell? ⟨sb,so+j*6,none⟩=some (.int .i64 x.kind):=hcell _ _ z0
   have y1:wr.cell? ⟨sb,so+j*6+1,none⟩=some (.string x.name):=by have:=hcell _ _ z1;rwa [← Nat.add_assoc] at this
   have y2:wr.cell? ⟨sb,so+j*6+2,none⟩=some (.string x.more):=by have:=hcell _ _ z2;rwa [← Nat.add_assoc] at this
   have y3:wr.cell? ⟨sb,so+j*6+3,none⟩=some (.int .i64 x.int):=by have:=hcell _ _ z3;rwa [← Nat.add_assoc] at this
   have y4:wr.cell? ⟨sb,so+j*6+4,none⟩=some (.int .i64 x.den):=by have:=hcell _ _ z4;rwa [← Nat.add_assoc] at this
   have y5:wr.cell? ⟨sb,so+j*6+5,none⟩=some (.slice x.ao x.sub.length x.cap):=by have:=hcell _ _ z5;rwa [← Nat.add_assoc] at this
   obtain ⟨W2,hW2⟩:∃ y,wr.alloc (Obj.cells #[.int .i64 x.kind,.string x.name,.string x.more,.int .i64 x.int,.int .i64 x.den,.slice x.ao x.sub.length x.cap] 63)=y:=⟨_,rfl⟩
   have hb2:Below wr.heap.size wr W2:=by rw [← hW2];exact ba _ _
   have hO2:=OwnSet.belowN HO.out hb2 (Nat.le_refl _)
   have hk2:Kx mb w W2:=HK.out.below hb2 HK.out.size
   have hmem:x∈es:=by rw [← hx];exact List.getElem_mem hjl
   have hAF:AFh x L ao n cap mb (k+((es.take j).flatMap (freeE L)).length) (S++(es.take j).flatMap (freeE L)) W2:=by
    have hkl:=hk2.kl HH.out.own
    have h1:=HH.out.hn
    have h2:=HH.out.hk
    have h3:=cnt_mem hmem
    have h4:=flatF_len L (es.take j)
    have h5:=cnt_take hjl
    rw [hx] at h5
    rw [cntE_eq] at h1 h2
    simp only [Ew.sub] at h1 h2
    exact ⟨(HH.out.ea.all x hmem).kl hkl,any_mem (any_sub HH.out.shp).2 hmem,HH.out.sa.kl hkl,hO2,by omega,by omega⟩
   have CI:=lid (HIH.out x L ao n cap mb _ _ W2 (Nat.le_trans (cnt_mem hmem) HCS.out) hAF)
   have HT:Hid ((es.take (j+1)).flatMap (freeE L)=(es.take j).flatMap (freeE L)++freeE L x):=lid (by rw [List.take_succ_eq_append_getElem hjl,List.flatMap_append,hx];simp)
   have HW2:=lid hW2
   have HK2:=lid hk2
   clear hjl hea hcell hx z0 z1 z2 z3 z4 z5 hW2 hb2 hO2 hk2 hmem hAF
   go_wp2_with fail
   rw [HW2.out]
   (with_reducible refine (CI.out).mono ?_);rintro e w3 ⟨rfl,hO3,hK3⟩
   have HO3:Hid (OwnSet w3 mb (k+((es.take (j+1)).flatMap (freeE L)).length) (S++(es.take (j+1)).flatMap (freeE L))):=lid (by rw [HT.out,List.length_append,← List.append_assoc,← Nat.add_assoc];exact hO3)
   have HK3:=lid (HK2.out.trans hK3)
   clear hO3 hK3 y0 y1 y2 y3 y4 y5
   go_wp2_with fail
   go_roundw
   case measure=>simp only [intOf];omega
   case rel=>exact ⟨j+1,by omega,by simp,HO3,HK3⟩
  ·obtain rfl:j=ns:=by omega
   have HE:Hid (es.take j=es):=lid (List.take_of_length_le (by rw [HNS.out];exact Nat.le_refl _))
   rw [HE.out] at HO
   clear hjn
   go_wp2_with fail
   exact bodyPost_end (results_none rfl _ _ _) rfl ⟨rfl,by rw [HV.out];exact HO.out,HK.out⟩
end Go.Proofs.YtgcceepadlmelaaGreatDoor
namespace Go.Proofs.YtgcceepadlmelaaGreatDoor
open Go.RowKit
inductive OT where
 | done
 | seq (ord:List (Nat × Bool)) (t:OT)
 | two (i j:Nat) (ti tj:OT)
 | three (i j k:Nat) (ti tj tk:OT)
def OT.len:OT→Nat
 | .done=>0
 | .seq ord t=>ord.length+t.len
 | .two _ _ t _=>1+t.len
 | .three _ _ _ t _ _=>1+t.len
section
variable (P:Program) (ops:Array Oper) (Q:Exit→Act→World→Prop) (md:Region.Mode) (C:World→Prop)
def otRun:OT→Act→World→Prop
 | .done,a,w=>Q .normal a w
 | .seq ord t,a,w=>seqRun P ops C Q (otRun t) ord a w
 | .two i j ti tj,a,w=>seqRun P ops C Q (otRun ti) [(i,false)] a w∧seqRun P ops C Q (otRun tj) [(j,false)] a w
 | .three i j k ti tj tk,a,w=>seqRun P ops C Q (otRun ti) [(i,false)] a w∧seqRun P ops C Q (otRun tj) [(j,false)] a w∧seqRun P ops C Q (otRun tk) [(k,false)] a w
def otB:OT→Array Bool→Bool
 | .done,listed=>(Region.ready md ops listed).isEmpty
 | .seq ord t,listed=>match seqB md ops ord listed with | some l=>otB t l | none=>false
 | .two i j ti tj,listed=>decide (Region.ready md ops listed=[i,j]) && decide (ti.len=tj.len) && otB ti (listed.setIfInBounds i true) && otB tj (listed.setIfInBounds j true)
 | .three i j k ti tj tk,listed=>decide (Region.ready md ops listed=[i,j,k]) && decide (ti.len=tj.len) && decide (ti.len=tk.len) && otB ti (listed.setIfInBounds i true) && otB tj (listed.setIfInBounds j true) && otB tk (listed.setIfInBounds k true)
end
section
variable {P:Program} {ops:Array Oper} {Q:Exit→Act→World→Prop} {md:Region.Mode} {C:World→Prop}
theorem wpAnyH_of_ot (hs:Region.noSelect ops=true) (hQ:∀ c d v a w,Q (.panic c) (Act.put a d v) w→Q (.panic c) a w):∀ (t:OT) (listed:Array Bool) (a:Act) (w:World),C w →
  otB ops md t listed=true→otRun P ops Q C t a w→wpAnyH P md ops Q C t.len listed a w
 | .done,listed,a,w,_,hB,h=>⟨by simpa [otB] using hB,h⟩
 | .seq ord t,listed,a,w,hC,hB,h=>by
  simp only [otB] at hB
  split at hB
  ·rename_i l hl
   exact wpAnyH_of_seq (md:=md) (P:=P) (fuel:=t.len) hs hQ ord _ l a w hC hl (fun a w hC' hE=>wpAnyH_of_ot hs hQ t l a w hC' hB hE) h
  ·cases hB
 | .two i j ti tj,listed,a,w,_,hB,h=>by
  simp only [otB,Bool.and_eq_true,decide_eq_true_eq] at hB
  obtain ⟨⟨⟨hr,hlen⟩,hi⟩,hj⟩:=hB
  rw [show (OT.two i j ti tj).len=ti.len+1 from Nat.add_comm ..]
  refine wpAnyH_all hr (by simp) (fun m hm=>?_)
  have hm':m=i∨m=j:=by simpa using hm
  rcases hm' with rfl | rfl
  ·exact wpOp_mono (fun a' w' hh=>⟨hh.1,wpAnyH_of_ot hs hQ ti _ a' w' hh.1 hi hh.2⟩) h.1
  ·rw [hlen]
   exact wpOp_mono (fun a' w' hh=>⟨hh.1,wpAnyH_of_ot hs hQ tj _ a' w' hh.1 hj hh.2⟩) h.2
 | .three i j k ti tj tk,listed,a,w,_,hB,h=>by
  simp only [otB,Bool.and_eq_true,decide_eq_true_eq] at hB
  obtain ⟨⟨⟨⟨⟨hr,hlen⟩,hlen2⟩,hi⟩,hj⟩,hk⟩:=hB
  rw [show (OT.three i j k ti tj tk).len=ti.len+1 from Nat.add_comm ..]
  refine wpAnyH_all hr (by simp) (fun m hm=>?_)
  have hm':m=i∨m=j∨m=k:=by simpa using hm
  rcases hm' with rfl | rfl | rfl
  ·exact wpOp_mono (fun a' w' hh=>⟨hh.1,wpAnyH_of_ot hs hQ ti _ a' w' hh.1 hi hh.2⟩) h.1
  ·rw [hlen]
   exact wpOp_mono (fun a' w' hh=>⟨hh.1,wpAnyH_of_ot hs hQ tj _ a' w' hh.1 hj hh.2⟩) h.2.1
  ·rw [hlen2]
   exact wpOp_mono (fun a' w' hh=>⟨hh.1,wpAnyH_of_ot hs hQ tk _ a' w' hh.1 hk hh.2⟩) h.2.2
theorem wp_region_ot {id:Nat} {a:Act} {w:World} {l:List Oper} (C:World→Prop) (t:OT) (hm:P.follows .mixedOrders=true)
  (hB:(Region.noSelect l.toArray && decide (t.len=l.length) && otB l.toArray .any t (Array.replicate l.length false))=true)
  (hQ:∀ c d v a w,Q (.panic c) (Act.put a d v) w→Q (.panic c) a w) (hC:C w.drew)
  (h:otRun P l.toArray Q C t a w.drew):(Code.region id l.toArray true).wp P Q a w:=by
 simp only [Bool.and_eq_true,decide_eq_true_eq] at hB
 obtain ⟨⟨hs,hl⟩,hB⟩:=hB
 refine wp_region_held (S:=C) hm ?_
 have:=wpAnyH_of_ot (md:=.any) (P:=P) hs hQ t _ a w.drew hC hB h
 rw [hl] at this
 simpa using this
theorem ot_done {a:Act} {w:World} (h:Q .normal a w):otRun P ops Q C .done a w:=h
theorem ot_seq {ord:List (Nat × Bool)} {t:OT} {a:Act} {w:World} (h:seqRun P ops C Q (otRun P ops Q C t) ord a w):otRun P ops Q C (.seq ord t) a w:=h
theorem ot_two {i j:Nat} {ti tj:OT} {a:Act} {w:World} (hi:seqRun P ops C Q (otRun P ops Q C ti) [(i,false)] a w) (hj:seqRun P ops C Q (otRun P ops Q C tj) [(j,false)] a w):otRun P ops Q C (.two i j ti tj) a w:=⟨hi,hj⟩
end
end Go.Proofs.YtgcceepadlmelaaGreatDoor
namespace Go.Proofs.YtgcceepadlmelaaGreatDoor
open Go.RowKit
theorem wpList_append_sla {P:Program} {ops:Array Oper} {rest:List Oper} {o:Oper} {a:Act} {Q:Exit→Act→World→Prop} {w:World} (hgd:o.guard=none) (s x:Operand) (t:TypeId)
  (ho:o.op=.call { callee:=.builtin .append,args:=#[s,x],argTypes:=#[t,t] })
  (base:Nat) (e:TypeId) (z:Value) (size bytes:Nat) (hinfo:(P.info? e).map (fun i=>(i.zero,i.size,i.bytes))=some (some z,size,bytes)) (ht:P.underlying t=some (.slice e)) (hzs:z.cells.size=size) (hsz:0<size)
  (v:Value) (n:Nat) (xs:List Value) (hown:w.ownsRow base e size v n xs) (hs:a.eval s=v)
  (ad:Addr) (m c:Nat) (us:List Value) (hx:a.eval x=.slice (some ad) m c) (hsl:Sl w size (some ad) m us) (h1:∀ u∈us,u.oneCell'=true)
  (h63:n+m≤maxLen) (hbytes:(n+m)*bytes≤140737488355328) (hbase:base≤w.heap.size)
  (h:∀ v' w',w'.ownsRow base e size v' (n+m) (xs++us)→Below base w w'→w.grownBy w' v.ownBlock→(v'.ownBlock=v.ownBlock∨v'.ownBlock=some w.heap.size)→wpList P ops Q rest (a.put o.dst v') w'):wpList P ops Q (o::rest) a w:=by
 obtain ⟨i,hi,hz0,hz1,hz2⟩:=info_parts hinfo
 refine wpList_append_own_at _ hgd s x t ho base e i z size bytes ht hi hz0 hz1 hz2 hzs hsz v n xs hs hown ad m c us hx hsl.1 ?_ h1 h63 hbytes hbase ?_
 ·intro j u hu
  rcases hsl.2 with h0 | ⟨b,o',e',hlt,hc⟩
  ·have:=hsl.1
   rw [h0,Nat.zero_mul] at this
   rw [List.eq_nil_of_length_eq_zero this] at hu
   simp at hu
  ·cases e'
   rw [Addr.add_lit]
   exact hc j u hu
 ·intro v' w' hown' hg hn hat
  exact h v' w' hown' ((Below.refl _ _).grown hg hbase (fun k hk=>ownsRow_row hown k hk)) hg hat
end Go.Proofs.YtgcceepadlmelaaGreatDoor
namespace Go.Proofs.YtgcceepadlmelaaGreatDoor
set_option maxRecDepth 100000
set_option maxHeartbeats 4000000
open Go.RowKit
def resW (s:ByteArray):Bool:=(s.toList == ([99,97,115,101]:List UInt8)) || (s.toList == ([99,104,97,110,99,101]:List UInt8)) || (s.toList == ([99,111,110,102,108,105,99,116]:List UInt8)) || (s.toList == ([101,108,115,101]:List UInt8)) || (s.toList == ([102,97,108,115,101]:List UInt8)) || (s.toList == ([102,108,97,107,121]:List UInt8)) || (s.toList == ([102,117,110]:List UInt8)) || (s.toList == ([105,102]:List UInt8)) || (s.toList == ([105,110]:List UInt8)) || (s.toList == ([108,101,116]:List UInt8)) || (s.toList == ([110,105,108]:List UInt8)) || (s.toList == ([111,102]:List UInt8)) || (s.toList == ([112,117,98]:List UInt8)) || (s.toList == ([116,101,115,116]:List UInt8)) || (s.toList == ([116,104,101,110]:List UInt8)) || (s.toList == ([116,114,117,101]:List UInt8)) || (s.toList == ([117,115,101]:List UInt8))
def nameW (s:ByteArray):Bool:=!resW s && wordW s
theorem name_fn (s:ByteArray) (w:World) (hs:s.size≤maxLen):Calls Tryz.prog 128 #[.string s] w fun e w'=>e=.returned (.bool (nameW s))∧Below w.heap.size w w':=by
 cases u0:(s.toList == ([99,97,115,101]:List UInt8)) with
 | true =>
  have HV:Hid (nameW s=false):=lid (by unfold nameW resW;simp [u0])
  go_enter Tryz.func128,Tryz.ntmps128
  go_wp2_with fail
  go_ret
  exact ⟨retb HV.out.symm,Below.refl _ _⟩
 | false =>
 cases u1:(s.toList == ([99,104,97,110,99,101]:List UInt8)) with
 | true =>
  have HV:Hid (nameW s=false):=lid (by unfold nameW resW;simp [u0,u1])
  go_enter Tryz.func128,Tryz.ntmps128
  go_wp2_with fail
  go_ret
  exact ⟨retb HV.out.symm,Below.refl _ _⟩
 | false =>
 cases u2:(s.toList == ([99,111,110,102,108,105,99,116]:List UInt8)) with
 | true =>
  have HV:Hid (nameW s=false):=lid (by unfold nameW resW;simp [u0,u1,u2])
  go_enter Tryz.func128,Tryz.ntmps128
  go_wp2_with fail
  go_ret
  exact ⟨retb HV.out.symm,Below.refl _ _⟩
 | false =>
 cases u3:(s.toList == ([101,108,115,101]:List UInt8)) with
 | true =>
  have HV:Hid (nameW s=false):=lid (by unfold nameW resW;simp [u0,u1,u2,u3])
  go_enter Tryz.func128,Tryz.ntmps128
  go_wp2_with fail
  go_ret
  exact ⟨retb HV.out.symm,Below.refl _ _⟩
 | false =>
 cases u4:(s.toList == ([102,97,108,115,101]:List UInt8)) with
 | true =>
  have HV:Hid (nameW s=false):=lid (by unfold nameW resW;simp [u0,u1,u2,u3,u4])
  go_enter Tryz.func128,Tryz.ntmps128
  go_wp2_with fail
  go_ret
  exact ⟨retb HV.out.symm,Below.refl _ _⟩
 | false =>
 cases u5:(s.toList == ([102,108,97,107,121]:List UInt8)) with
 | true =>
  have HV:Hid (nameW s=false):=lid (by unfold nameW resW;simp [u0,u1,u2,u3,u4,u5])
  go_enter Tryz.func128,Tryz.ntmps128
  go_wp2_with fail
  go_ret
  exact ⟨retb HV.out.symm,Below.refl _ _⟩
 | false =>
 cases u6:(s.toList == ([102,117,110]:List UInt8)) with
 | true =>
  have HV:Hid (nameW s=false):=lid (by unfold nameW resW;simp [u0,u1,u2,u3,u4,u5,u6])
  go_enter Tryz.func128,Tryz.ntmps128
  go_wp2_with fail
  go_ret
  exact ⟨retb HV.out.symm,Below.refl _ _⟩
 | false =>
 cases u7:(s.toList == ([105,102]:List UInt8)) with
 | true =>
  have HV:Hid (nameW s=false):=lid (by unfold nameW resW;simp [u0,u1,u2,u3,u4,u5,u6,u7])
  go_enter Tryz.func128,Tryz.ntmps128
  go_wp2_with fail
  go_ret
  exact ⟨retb HV.out.symm,Below.refl _ _⟩
 | false =>
 cases u8:(s.toList == ([105,110]:List UInt8)) with
 | true =>
  have HV:Hid (nameW s=false):=lid (by unfold nameW resW;simp [u0,u1,u2,u3,u4,u5,u6,u7,u8])
  go_enter Tryz.func128,Tryz.ntmps128
  go_wp2_with fail
  go_ret
  exact ⟨retb HV.out.symm,Below.refl _ _⟩
 | false =>
 cases u9:(s.toList == ([108,101,116]:List UInt8)) with
 | true =>
  have HV:Hid (nameW s=false):=lid (by unfold nameW resW;simp [u0,u1,u2,u3,u4,u5,u6,u7,u8,u9])
  go_enter Tryz.func128,Tryz.ntmps128
  go_wp2_with fail
  go_ret
  exact ⟨retb HV.out.symm,Below.refl _ _⟩
 | false =>
 cases u10:(s.toList == ([110,105,108]:List UInt8)) with
 | true =>
  have HV:Hid (nameW s=false):=lid (by unfold nameW resW;simp [u0,u1,u2,u3,u4,u5,u6,u7,u8,u9,u10])
  go_enter Tryz.func128,Tryz.ntmps128
  go_wp2_with fail
  go_ret
  exact ⟨retb HV.out.symm,Below.refl _ _⟩
 | false =>
 cases u11:(s.toList == ([111,102]:List UInt8)) with
 | true =>
  have HV:Hid (nameW s=false):=lid (by unfold nameW resW;simp [u0,u1,u2,u3,u4,u5,u6,u7,u8,u9,u10,u11])
  go_enter Tryz.func128,Tryz.ntmps128
  go_wp2_with fail
  go_ret
  exact ⟨retb HV.out.symm,Below.refl _ _⟩
 | false =>
 cases u12:(s.toList == ([112,117,98]:List UInt8)) with
 | true =>
  have HV:Hid (nameW s=false):=lid (by unfold nameW resW;simp [u0,u1,u2,u3,u4,u5,u6,u7,u8,u9,u10,u11,u12])
  go_enter Tryz.func128,Tryz.ntmps128
  go_wp2_with fail
  go_ret
  exact ⟨retb HV.out.symm,Below.refl _ _⟩
 | false =>
 cases u13:(s.toList == ([116,101,115,116]:List UInt8)) with
 | true =>
  have HV:Hid (nameW s=false):=lid (by unfold nameW resW;simp [u0,u1,u2,u3,u4,u5,u6,u7,u8,u9,u10,u11,u12,u13])
  go_enter Tryz.func128,Tryz.ntmps128
  go_wp2_with fail
  go_ret
  exact ⟨retb HV.out.symm,Below.refl _ _⟩
 | false =>
 cases u14:(s.toList == ([116,104,101,110]:List UInt8)) with
 | true =>
  have HV:Hid (nameW s=false):=lid (by unfold nameW resW;simp [u0,u1,u2,u3,u4,u5,u6,u7,u8,u9,u10,u11,u12,u13,u14])
  go_enter Tryz.func128,Tryz.ntmps128
  go_wp2_with fail
  go_ret
  exact ⟨retb HV.out.symm,Below.refl _ _⟩
 | false =>
 cases u15:(s.toList == ([116,114,117,101]:List UInt8)) with
 | true =>
  have HV:Hid (nameW s=false):=lid (by unfold nameW resW;simp [u0,u1,u2,u3,u4,u5,u6,u7,u8,u9,u10,u11,u12,u13,u14,u15])
  go_enter Tryz.func128,Tryz.ntmps128
  go_wp2_with fail
  go_ret
  exact ⟨retb HV.out.symm,Below.refl _ _⟩
 | false =>
 cases u16:(s.toList == ([117,115,101]:List UInt8)) with
 | true =>
  have HV:Hid (nameW s=false):=lid (by unfold nameW resW;simp [u0,u1,u2,u3,u4,u5,u6,u7,u8,u9,u10,u11,u12,u13,u14,u15,u16])
  go_enter Tryz.func128,Tryz.ntmps128
  go_wp2_with fail
  go_ret
  exact ⟨retb HV.out.symm,Below.refl _ _⟩
 | false =>
 have HV:Hid (nameW s=wordW s):=lid (by unfold nameW resW;simp [u0,u1,u2,u3,u4,u5,u6,u7,u8,u9,u10,u11,u12,u13,u14,u15,u16])
 have CW:=lid (Word_fn s w hs)
 go_enter Tryz.func128,Tryz.ntmps128
 go_wp2_with fail
 (with_reducible refine (CW.out).mono ?_);rintro e w1 ⟨rfl,hb⟩
 go_wp2_with fail
 go_ret
 exact ⟨retb HV.out.symm,hb⟩
end Go.Proofs.YtgcceepadlmelaaGreatDoor
