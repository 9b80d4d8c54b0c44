import Derived.Test.YtgcceepadlmelaaGreatDoorChecked
import Derived.Test.YtgcceepadlmelaaGreatDoorQAB
import Derived.Test.YtgcceepadlmelaaGreatDoorRegion
import Derived.Laws.RangeAny
import Derived.Laws.RangeString
import Derived.Lib.OthersKept
import Derived.Deep.LoopGhost
import Derived.Lib.Bytealg
import Derived.Test.YtgcceepadlmelaaGreatDoorQAD
import Derived.Maps.OwnOps
import Derived.Maps.Views
import Derived.Test.YtgcceepadlmelaaGreatDoorQAA
namespace Go.Proofs.YtgcceepadlmelaaGreatDoor
set_option maxRecDepth 100000
set_option maxHeartbeats 4000000
open Go.RowKit
theorem retb {a b : Bool} (h : a = b) : Ending.returned (.bool a) = .returned (.bool b) := by rw [h]
def letR (c : Int) : Bool := decide (97 ≤ c) && decide (c ≤ 122)
def digR (c : Int) : Bool := decide (48 ≤ c) && decide (c ≤ 57)
theorem letter_fn (c : Int) (w : World) : Calls Tryz.prog 112 #[.int .i32 c] w fun e w' => e = .returned (.bool (letR c)) ∧ w' = w := by
 cases h1 : decide (97 ≤ c) with
 | false =>
  have HV : Hid (letR c = false) := lid (by unfold letR; rw [h1]; rfl)
  go_enter Tryz.func112, Tryz.ntmps112
  go_wp2_with fail
  go_ret
  exact ⟨retb HV.out.symm, rfl⟩
 | true =>
  have HV : Hid (letR c = decide (c ≤ 122)) := lid (by unfold letR; rw [h1]; rfl)
  obtain ⟨b, hb⟩ : ∃ b, decide (c ≤ 122) = b := ⟨_, rfl⟩
  rw [hb] at HV
  go_enter Tryz.func112, Tryz.ntmps112
  go_wp2_with fail
  go_ret
  exact ⟨retb HV.out.symm, rfl⟩
theorem digit_fn (c : Int) (w : World) : Calls Tryz.prog 113 #[.int .i32 c] w fun e w' => e = .returned (.bool (digR c)) ∧ w' = w := by
 cases h1 : decide (48 ≤ c) with
 | false =>
  have HV : Hid (digR c = false) := lid (by unfold digR; rw [h1]; rfl)
  go_enter Tryz.func113, Tryz.ntmps113
  go_wp2_with fail
  go_ret
  exact ⟨retb HV.out.symm, rfl⟩
 | true =>
  have HV : Hid (digR c = decide (c ≤ 57)) := lid (by unfold digR; rw [h1]; rfl)
  obtain ⟨b, hb⟩ : ∃ b, decide (c ≤ 57) = b := ⟨_, rfl⟩
  rw [hb] at HV
  go_enter Tryz.func113, Tryz.ntmps113
  go_wp2_with fail
  go_ret
  exact ⟨retb HV.out.symm, rfl⟩
def runesW (s : ByteArray) : Nat → Nat → Bool
 | 0, _ => true
 | k + 1, pos => if pos < s.size then (letR (Utf8.decode s pos).1 || (decide (pos ≠ 0) && digR (Utf8.decode s pos).1)) && runesW s k (pos + (Utf8.decode s pos).2) else true
def wordW (s : ByteArray) : Bool := !decide (s.size = 0) && (decide (s.size ≤ 24) && runesW s s.size 0)
theorem widthW (s : ByteArray) (pos : Nat) (h : pos < s.size) : 1 ≤ (Utf8.decode s pos).2 := by
 by_cases ha : (s[pos]'h).toNat < 128
 ·rw [decode_ascii s pos h ha]
  exact Nat.le_refl _
 ·exact (decode_high s pos h (by omega)).2
theorem str_empty {s : ByteArray} : (s.toList == []) = decide (s.size = 0) := by
 rw [ByteArray.toList_eq]
 have : s.size = s.data.toList.length := rfl
 rw [this]
 cases s.data.toList <;> simp
theorem Word_fn (s : ByteArray) (w : World) (hs : s.size ≤ maxLen) : Calls Tryz.prog 97 #[.string s] w fun e w' => e = .returned (.bool (wordW s)) ∧ Below w.heap.size w w' := by
 have hs' : s.size ≤ 9223372036854775807 := hs
 have hse := @str_empty s
 by_cases h0 : s.size = 0
 ·have HV : Hid (wordW s = false) := lid (by unfold wordW; rw [decide_eq_true h0]; rfl)
  rw [decide_eq_true h0] at hse
  clear h0
  go_enter Tryz.func97, Tryz.ntmps97
  go_wp2_with fail
  go_ret
  exact ⟨retb HV.out.symm, Below.refl _ _⟩
 rw [decide_eq_false h0] at hse
 by_cases h24 : 24 < s.size
 ·have HV : Hid (wordW s = false) := lid (by unfold wordW; rw [decide_eq_false (show ¬ s.size ≤ 24 by omega)]; simp)
  have d : decide ((24 : Int) < (s.size : Int)) = true := by simp; omega
  clear h0 h24
  go_enter Tryz.func97, Tryz.ntmps97
  go_wp2_with fail
  go_ret
  exact ⟨retb HV.out.symm, Below.refl _ _⟩
 have HV : Hid (wordW s = runesW s s.size 0) := lid (by unfold wordW; rw [decide_eq_false h0, decide_eq_true (show s.size ≤ 24 by omega)]; rfl)
 have d : decide ((24 : Int) < (s.size : Int)) = false := by simp; omega
 have h24' : s.size ≤ 24 := by omega
 have CL := lid (fun c W => letter_fn c W)
 have CD := lid (fun c W => digit_fn c W)
 clear h0 h24
 go_enter Tryz.func97, Tryz.ntmps97
 go_wp2_with fail
 go_loopg [14] s.size (fun N _ wr => ∃ (pos k : Nat), N = s.size - pos ∧ wr.heap[w.heap.size]? = some (.stringIter s pos) ∧ Below w.heap.size w wr ∧ Hid (runesW s s.size 0 = runesW s k pos) ∧ s.size - pos ≤ k)
 case atStart =>
  refine ⟨0, s.size, rfl, World.iter_heap w s 0, ?_, lid rfl, by omega⟩
  exact ⟨rfl, rfl, rfl, by simp [World.iter], fun k hk => Below.heap_alloc w _ k hk⟩
 case round =>
  obtain ⟨pos, k, hN, hit, hb, HR, hk⟩ := hrel
  by_cases hp : pos < s.size
  ·have hnx : ∀ ty, (Instr.next (.pointer (some ⟨w.heap.size, 0, none⟩)) true ty).run Tryz.prog wr = _ := fun ty => Lib.run_next_any_at wr w.heap.size s pos ty hit hp
   have hwd := widthW s pos hp
   have hit2 := Lib.iterAt_heap wr w.heap.size s pos (pos + (Utf8.decode s pos).2) hit
   have hb2 := Lib.below_iterAt hb (k := w.heap.size) (Nat.le_refl _) s (pos + (Utf8.decode s pos).2)
   obtain ⟨k, rfl⟩ : ∃ f, k = f + 1 := ⟨k - 1, by omega⟩
   have HX : Hid (runesW s (k + 1) pos = ((letR (Utf8.decode s pos).1 || (decide (pos ≠ 0) && digR (Utf8.decode s pos).1)) && runesW s k (pos + (Utf8.decode s pos).2))) := lid (by rw [runesW, if_pos hp])
   obtain ⟨c, hc⟩ : ∃ c : Int, ((Utf8.decode s pos).1 : Int) = c := ⟨_, rfl⟩
   obtain ⟨wd, hwd'⟩ : ∃ n, (Utf8.decode s pos).2 = n := ⟨_, rfl⟩
   rw [hc, hwd'] at HX
   rw [hwd'] at hit2 hb2 hwd
   simp only [hc, hwd'] at hnx
   obtain ⟨W2, hW2⟩ : ∃ y, wr.iterAt w.heap.size s (pos + wd) = y := ⟨_, rfl⟩
   rw [hW2] at hnx hit2 hb2
   have hp63 : pos ≤ 9223372036854775807 := by omega
   clear hit hb hc hwd' hW2
   cases hl : letR c with
   | true =>
    rw [hl] at HX
    go_wp2_with fail
    (with_reducible refine (CL.out c _).mono ?_); rintro e w3 ⟨rfl, rfl⟩
    rw [hl]
    go_wp2_with fail
    go_roundg (s.size - (pos + wd))
    case measure => omega
    case rel => exact ⟨pos + wd, k, rfl, hit2, hb2, lid (by rw [HR.out, HX.out]; rfl), by omega⟩
   | false =>
    rw [hl] at HX
    by_cases h0 : pos = 0
    ·have HE : Hid (runesW s (k + 1) pos = false) := lid (by rw [HX.out, h0]; rfl)
     subst h0
     go_wp2_with fail
     (with_reducible refine (CL.out c _).mono ?_); rintro e w3 ⟨rfl, rfl⟩
     rw [hl]
     go_wp2_with fail
     go_ret
     exact ⟨retb (by rw [HV.out, HR.out, HE.out]), hb2⟩
    ·have d0 : ((pos : Int) == 0) = false := by simp; omega
     cases hd : digR c with
     | true =>
      rw [hd] at HX
      go_wp2_with fail
      (with_reducible refine (CL.out c _).mono ?_); rintro e w3 ⟨rfl, rfl⟩
      rw [hl]
      go_wp2_with fail
      (with_reducible refine (CD.out c _).mono ?_); rintro e w3 ⟨rfl, rfl⟩
      rw [hd]
      go_wp2_with fail
      go_roundg (s.size - (pos + wd))
      case measure => omega
      case rel => exact ⟨pos + wd, k, rfl, hit2, hb2, lid (by rw [HR.out, HX.out]; simp [h0]), by omega⟩
     | false =>
      have HE : Hid (runesW s (k + 1) pos = false) := lid (by rw [HX.out, hd]; simp)
      go_wp2_with fail
      (with_reducible refine (CL.out c _).mono ?_); rintro e w3 ⟨rfl, rfl⟩
      rw [hl]
      go_wp2_with fail
      (with_reducible refine (CD.out c _).mono ?_); rintro e w3 ⟨rfl, rfl⟩
      rw [hd]
      go_wp2_with fail
      go_ret
      exact ⟨retb (by rw [HV.out, HR.out, HE.out]), hb2⟩
  ·have hnx : ∀ ty, (Instr.next (.pointer (some ⟨w.heap.size, 0, none⟩)) true ty).run Tryz.prog wr = _ := fun ty => Lib.run_next_end_at wr w.heap.size s pos ty hit hp
   have HE : Hid (runesW s k pos = true) := lid (by cases k with | zero => rfl | succ k => rw [runesW, if_neg hp])
   go_wp2_with fail
   go_ret
   exact ⟨retb (by rw [HV.out, HR.out, HE.out]), hb⟩
end Go.Proofs.YtgcceepadlmelaaGreatDoor
namespace Go.Proofs.YtgcceepadlmelaaGreatDoor
open Go.RowKit
theorem SA.kl {w W : World} {ao : Option Addr} {n cap : Nat} {l : List ByteArray} (h : SA w ao n cap l) (hk : KL w W) : SA W ao n cap l := ⟨h.len, h.sl.kl hk, h.le, h.max, h.sz, h.nil⟩
theorem DwA.kl {w W : World} {d : Dw} (h : DwA w d) (hk : KL w W) : DwA W d := ⟨h.id, h.kind, h.names.kl hk, h.body.kl hk⟩
theorem DLA.kl {w W : World} {ao : Option Addr} {n cap : Nat} {l : List Dw} (h : DLA w ao n cap l) (hk : KL w W) : DLA W ao n cap l := ⟨h.len, h.sl.kl hk, h.le, h.max, fun s hs => (h.el s hs).kl hk, h.nil⟩
theorem MwA.kl {w W : World} {m : Mw} (h : MwA w m) (hk : KL w W) : MwA W m := ⟨h.sz, h.uses.kl hk, h.decls.kl hk⟩
theorem KwA.kl {w W : World} {k : Kw} (h : KwA w k) (hk : KL w W) : KwA W k := ⟨h.pack, h.text, h.old.kl hk, h.new.kl hk⟩
theorem MLA.kl {w W : World} {ao : Option Addr} {n cap : Nat} {l : List Mw} (h : MLA w ao n cap l) (hk : KL w W) : MLA W ao n cap l := ⟨h.len, h.sl.kl hk, h.le, h.max, fun s hs => (h.el s hs).kl hk, h.nil⟩
theorem KLA.kl {w W : World} {ao : Option Addr} {n cap : Nat} {l : List Kw} (h : KLA w ao n cap l) (hk : KL w W) : KLA W ao n cap l := ⟨h.len, h.sl.kl hk, h.le, h.max, fun s hs => (h.el s hs).kl hk, h.nil⟩
theorem KL.trans {X Y Z : World} (h : KL X Y) (k : KL Y Z) : KL X Z := ⟨Nat.le_trans h.size k.size, fun i cs t f e => k.cells i cs t f (h.cells i cs t f e)⟩
def ersO (g : Option Nat) (w : World) : World := match g with
 | none => w
 | some g => w.putObj g (.map #[] 0)
theorem ersO_size (g : Option Nat) (w : World) : (ersO g w).heap.size = w.heap.size := by cases g <;> simp [ersO]
theorem ersO_other {g : Option Nat} {w : World} {k : Nat} (h : g ≠ some k) : (ersO g w).heap[k]? = w.heap[k]? := by
 cases g with
 | none => rfl
 | some g => exact World.putObj_heap_other (fun e => h (by rw [e]))
theorem ersO_cells {g : Option Nat} {w : World} {k : Nat} {cs : Array Value} {t : TypeId} {f : Nat × Nat} (h : (ersO g w).heap[k]? = some (.cells cs t f)) : g ≠ some k ∧ w.heap[k]? = some (.cells cs t f) := by
 have hne : g ≠ some k := by
  rintro rfl
  have hlt : k < w.heap.size := by have := row_lt h; rwa [ersO_size] at this
  rw [show (ersO (some k) w).heap[k]? = some (.map #[] 0) from World.putObj_heap_same hlt] at h
  cases h
 rw [ersO_other hne] at h
 exact ⟨hne, h⟩
theorem kl_ers (g : Option Nat) (w : World) : KL (ersO g w) w := ⟨Nat.le_of_eq (ersO_size g w), fun _ _ _ _ h => (ersO_cells h).2⟩
theorem kl_ers_grown {g g' : Option Nat} {w w' : World} (hg : w.grownBy w' g) (h : g' = g ∨ ∃ b, g' = some b ∧ w.heap.size ≤ b) : KL (ersO g w) (ersO g' w') := by
 refine ⟨by rw [ersO_size, ersO_size]; exact hg.size, fun k cs t f e => ?_⟩
 obtain ⟨hne, e2⟩ := ersO_cells e
 have hlt := row_lt e2
 have hne' : g' ≠ some k := by
  rcases h with rfl | ⟨b, rfl, hb⟩
  ·exact hne
  ·intro e3
   have := Option.some.inj e3
   omega
 rw [ersO_other hne']
 exact (hg.block k hlt (fun e3 => hne e3.symm)).trans e2
theorem kl_ers_base {g : Option Nat} {w0 w : World} (hb : Below w0.heap.size w0 w) (h : ∀ b, g = some b → w0.heap.size ≤ b) : KL w0 (ersO g w) := by
 refine ⟨by rw [ersO_size]; exact hb.size, fun k cs t f e => ?_⟩
 have hlt := row_lt e
 rw [ersO_other (fun e2 => by have := h _ e2; omega)]
 exact (hb.block k hlt).trans e
theorem kl_ers_below {g : Option Nat} {w w' : World} (hb : Below w.heap.size w w') : KL (ersO g w) (ersO g w') := by
 refine ⟨by rw [ersO_size, ersO_size]; exact hb.size, fun k cs t f e => ?_⟩
 obtain ⟨hne, e2⟩ := ersO_cells e
 rw [ersO_other hne]
 exact (hb.block k (row_lt e2)).trans e2
end Go.Proofs.YtgcceepadlmelaaGreatDoor
namespace Go.Proofs.YtgcceepadlmelaaGreatDoor
set_option maxRecDepth 100000
set_option maxHeartbeats 4000000
open Go.RowKit
theorem not_mem_succ {S : List ByteArray} {k : Nat} {s : ByteArray} (hk : k < S.length) (h : ¬ s ∈ S.take k) (e : ¬ s = S[k]) : ¬ s ∈ S.take (k + 1) := by
 rw [List.take_succ_eq_append_getElem hk, List.mem_append]
 rintro (h' | h')
 ·exact h h'
 ·exact e (List.mem_singleton.1 h')
def inS (S : List ByteArray) (s : ByteArray) : Bool := S.any fun x => decide (x = s)
theorem inS_iff {S : List ByteArray} {s : ByteArray} : inS S s = true ↔ s ∈ S := by
 unfold inS
 rw [List.any_eq_true]
 exact ⟨fun ⟨x, hx, e⟩ => by rw [← of_decide_eq_true e]; exact hx, fun h => ⟨s, h, decide_eq_true rfl⟩⟩
def IdxS (S : List ByteArray) (s : ByteArray) (i : Int) : Prop := decide (0 ≤ i) = inS S s
theorem IndexS_any (S : List ByteArray) (n cap : Nat) (ao : Option Addr) (s : ByteArray) (w : World) (hm : n ≤ 1000000) (hn : S.length = n) (hs : Sl w 1 ao n (svals S)) :
  Calls Tryz.prog 64 #[.slice ao n cap, .string s] w fun e w' => ∃ i : Int, e = .returned (.int .i64 i) ∧ IdxS S s i ∧ w = w' := by
 have HN := lid hn
 have HS := lid hs
 clear hn hs
 go_enter Tryz.func64, Tryz.ntmps64
 go_wp2_with fail
 go_loop [5, 8] (fun _ i => ∃ k : Nat, k ≤ n ∧ i = .int .i64 k ∧ Hid (¬ s ∈ S.take k)) (fun _ i => n - (intOf i).toNat)
 case atStart => exact ⟨0, Nat.zero_le _, rfl, lid (by simp)⟩
 case round =>
  obtain ⟨k, hk, rfl, HT⟩ := hrel
  by_cases hlt : k < n
  ·have hkl : k < S.length := by rw [HN.out]; exact hlt
   obtain ⟨b1, o1, rfl, hlb1, hcell⟩ := HS.out.at_ hlt
   have x0 := hcell k _ (svals_at hkl)
   have HY : Hid (s = S[k] → IdxS S s (k : Int)) := lid (fun e => by
    unfold IdxS
    rw [decide_eq_true (show (0 : Int) ≤ k by omega), inS_iff.2 (by rw [e]; exact List.getElem_mem hkl)])
   have HX := lid (fun e => not_mem_succ hkl HT.out e)
   have dk : decide ((k : Int) < (n : Int)) = true := by simp; omega
   obtain ⟨x, hx⟩ : ∃ x, S[k] = x := ⟨_, rfl⟩
   rw [hx] at x0 HY HX
   clear hcell hx
   by_cases he : s = x
   ·have HV := lid (HY.out he)
    have d := str_eq he
    clear he HY HX
    go_wp2_with fail
    go_ret
    exact ⟨_, rfl, HV.out, rfl⟩
   ·have HV := lid (HX.out he)
    have d := str_ne he
    clear he HY HX
    go_wp2_with fail
    go_round
    case rel => exact ⟨k + 1, by omega, by go_num, HV⟩
    case measure => simp [intOf]; omega
  ·obtain rfl : k = n := by omega
   have HV : Hid (IdxS S s (-1)) := lid (by
    unfold IdxS
    have := HT.out
    rw [List.take_of_length_le (Nat.le_of_eq HN.out)] at this
    cases hh : inS S s with
    | true => exact absurd (inS_iff.1 hh) this
    | false => rfl)
   have dk : decide ((k : Int) < (k : Int)) = false := by simp
   go_wp2_with fail
   go_ret
   exact ⟨_, rfl, HV.out, rfl⟩
theorem ContainsS_any (S : List ByteArray) (n cap : Nat) (ao : Option Addr) (s : ByteArray) (w : World) (hm : n ≤ 1000000) (hn : S.length = n) (hs : Sl w 1 ao n (svals S)) :
  Calls Tryz.prog 37 #[.slice ao n cap, .string s] w fun e w' => e = .returned (.bool (inS S s)) ∧ w = w' := by
 have HC := lid (IndexS_any S n cap ao s w hm hn hs)
 clear hn hs
 go_enter Tryz.func37, Tryz.ntmps37
 go_wp2_with fail
 (with_reducible refine (HC.out).mono ?_); rintro e w1 ⟨i, rfl, hi, rfl⟩
 have HI := lid hi
 clear hi
 have hi := HI.out
 unfold IdxS at hi
 go_wp2_with fail
 go_ret
 exact ⟨rfl, rfl⟩
end Go.Proofs.YtgcceepadlmelaaGreatDoor
namespace Go.Proofs.YtgcceepadlmelaaGreatDoor
open Go.RowKit
def keyS (c : ByteArray) : Lit := .string c.data.toList
theorem keyS_key (s : ByteArray) : WideAt.IsKeyLit (keyS s) := by exact True.intro
theorem keyS_inj {a b : ByteArray} (h : keyS a = keyS b) : a = b := by
 have h1 : a.data.toList = b.data.toList := by simpa [keyS] using h
 exact ByteArray.ext (by rw [← Array.toList_inj, h1])
theorem kstr : Maps.Keyed Tryz.prog 9 := Maps.string_keyed Tryz.underlying9
theorem key_of {s : ByteArray} (h : s.size ≤ maxLen) : keyOf Tryz.prog 9 (.string s) = some (keyS s) := WideMaps.keyOf_string_mk Tryz.underlying9 h
def hasS (x : ByteArray) (S : List ByteArray) : Bool := S.any fun y => decide (y = x)
theorem hasS_snoc (x c : ByteArray) (S : List ByteArray) : hasS x (S ++ [c]) = (hasS x S || decide (c = x)) := by simp [hasS]
def setD (S : List ByteArray) : DataW Unit := S.foldl (fun D c => D.put (keyS c) (.lit (.bool true))) (.map [])
theorem setD_snoc (S : List ByteArray) (c : ByteArray) : setD (S ++ [c]) = (setD S).put (keyS c) (.lit (.bool true)) := by simp [setD]
theorem setD_map (S : List ByteArray) : Maps.IsMap (setD S) := by
 unfold setD
 have : ∀ (l : List ByteArray) (D : DataW Unit), Maps.IsMap D → Maps.IsMap (l.foldl (fun D c => D.put (keyS c) (.lit (.bool true))) D) := by
  intro l
  induction l with
  | nil => intro D h; exact h
  | cons c l ih => intro D h; exact ih _ (h.put _ _)
 exact this S _ Maps.isMap_empty
theorem setD_at (S : List ByteArray) (x : ByteArray) : (setD S).atKey (keyS x) (.lit (.bool false)) = .lit (.bool (hasS x S)) := by
 suffices h : ∀ n (S : List ByteArray), S.length = n → (setD S).atKey (keyS x) (.lit (.bool false)) = .lit (.bool (hasS x S)) from h _ S rfl
 intro n
 induction n with
 | zero =>
  intro S h
  obtain rfl := List.eq_nil_of_length_eq_zero h
  rfl
 | succ n ih =>
  intro S h
  have hne : S ≠ [] := by rintro rfl; cases h
  rw [← List.dropLast_concat_getLast hne, setD_snoc, hasS_snoc]
  have hl : S.dropLast.length = n := by simp [h]
  by_cases e : S.getLast hne = x
  ·rw [e, Maps.atKey_put_same (setD_map _) (keyS_key _)]
   simp
  ·rw [Maps.atKey_put_other (fun h => e (keyS_inj h).symm), ih _ hl]
   simp [e]
def OwnSet (w : World) (b n : Nat) (S : List ByteArray) : Prop := w.ownsMap Tryz.prog 9 (plainElem Tryz.prog 4) b n (setD S)
theorem plainElem_bool_inv {P : Program} {e : TypeId} (he : P.underlying e = some .bool) {v : Value} {z : DataW Unit × List MemPlace} (h : plainElem P e v = some z) : ∃ x, v = .bool x ∧ z = (.lit (.bool x), []) := by
 unfold plainElem at h
 rw [he] at h
 cases v <;> simp at h
 exact ⟨_, rfl, h.symm⟩
theorem zero_bool (w : World) : (zeroValue 4).run Tryz.prog w = .ok (.bool false) w := by kernel_rfl
theorem OwnSet.look {w : World} {b n : Nat} {S : List ByteArray} (h : OwnSet w b n S) (x : ByteArray) (hx : x.size ≤ maxLen) : (Instr.lookup 137 (.map (some b)) (.string x) false).run Tryz.prog w = .ok (.bool (hasS x S)) w := by
 obtain ⟨v, ps, hrun, hv⟩ := World.ownsMap.lookup h (Maps.string_keyed Tryz.underlying9) Tryz.underlying137 (zero_bool w) (plainElem_bool Tryz.underlying4 false) (WideMaps.keyOf_string_mk Tryz.underlying9 hx)
 obtain ⟨y, rfl, hy⟩ := plainElem_bool_inv Tryz.underlying4 hv
 have := setD_at S x
 rw [keyS] at this
 rw [this] at hy
 simp only [Prod.mk.injEq, DataW.lit.injEq, Lit.bool.injEq] at hy
 rw [hrun, hy.1]
end Go.Proofs.YtgcceepadlmelaaGreatDoor
