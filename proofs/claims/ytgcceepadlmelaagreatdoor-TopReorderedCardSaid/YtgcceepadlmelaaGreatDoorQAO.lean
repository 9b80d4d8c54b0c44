import Derived.Test.YtgcceepadlmelaaGreatDoorEdMove
import Derived.Test.YtgcceepadlmelaaGreatDoorQAA
import Derived.Test.YtgcceepadlmelaaGreatDoorQAC
import Derived.Test.YtgcceepadlmelaaGreatDoorQAJ
import Derived.Test.YtgcceepadlmelaaGreatDoorRows
import Derived.WalkKit
import Derived.Lib.Bytealg
import Derived.Lib.Walk
namespace Go.Proofs.YtgcceepadlmelaaGreatDoor
def idX (l : List Dx) : Int := match l with | d :: _ => d.id | [] => 0
def conC (k : Kc) : Con :=
 if k.kind = 3 ∨ k.kind = 4 then (k.text, 0, 0) else if k.kind = 5 then (⟨#[]⟩, idX k.new, 0) else if k.kind = 6 then (⟨#[]⟩, idX k.old, 0) else if 7 ≤ k.kind then (⟨#[]⟩, idX k.old, k.kind) else (⟨#[]⟩, 0, 0)
theorem idL_x (l : List Dw) : idL l = idX (l.map Dw.x) := by cases l <;> rfl
theorem con_x (k : Kw) : conK k = conC k.x := by
 unfold conK conC
 rw [idL_x, idL_x]
 rfl
def Ac.con : Ac → Con
 | .add => zCon
 | .rem => zCon
 | .mod (.use u _) => (u, 0, 0)
 | .mod (.dec i a) => (⟨#[]⟩, i, a.part)
theorem con_ed {e : Ed} (h : e.fit) : conC e.k = e.a.con := by
 obtain ⟨l, a⟩ := e
 cases a with
 | add => rfl
 | rem => rfl
 | mod m =>
  cases m with
  | use u n => cases n <;> rfl
  | dec i a =>
   have hf : a.fit i := h _ rfl
   cases a with
   | add d => have : d.id = i := hf; rw [← this]; rfl
   | rem d => have : d.id = i := hf; rw [← this]; rfl
   | nam o n => rfl
   | bod o n => rfl
   | hed o n => rfl
def Ed.named (e : Ed) : Prop := match e.a with
 | .mod (.use u _) => u ≠ ⟨#[]⟩
 | .mod (.dec i _) => 1 ≤ i
 | _ => True
theorem ind_ed {e f : Ed} (he : e.fit) (hf : f.fit) (ne : e.named) (nf : f.named) : (if e.l ≠ f.l then true else indC (conC e.k) (conC f.k)) = true ↔ e.ind f := by
 rw [con_ed he, con_ed hf]
 unfold Ed.ind
 by_cases hl : e.l = f.l
 case neg => simp [hl]
 rw [if_neg (by simp [hl])]
 obtain ⟨l, a⟩ := e
 obtain ⟨l', b⟩ := f
 simp only at hl
 cases a with
 | add => simp [Ac.con, indC, hl]
 | rem => simp [Ac.con, indC, hl]
 | mod m =>
  cases b with
  | add => simp [Ac.con, indC, hl]
  | rem => simp [Ac.con, indC, hl]
  | mod m' =>
   cases m with
   | use u n =>
    have nu : u ≠ ⟨#[]⟩ := ne
    cases m' with
    | use v n' =>
     have nv : v ≠ ⟨#[]⟩ := nf
     by_cases huv : u = v <;> simp [Ac.con, indC, hl, zCon, MA.ind, nu, nv, huv]
    | dec j c =>
     have nj : 1 ≤ j := nf
     have : ¬ j = 0 := by omega
     have : ¬ 0 = j := by omega
     simp [Ac.con, indC, zCon, MA.ind, *]
   | dec i c =>
    have ni : 1 ≤ i := ne
    have : ¬ i = 0 := by omega
    have : ¬ 0 = i := by omega
    cases m' with
    | use v n' =>
     have nv : v ≠ ⟨#[]⟩ := nf
     simp [Ac.con, indC, zCon, MA.ind, *]
    | dec j d =>
     have nj : 1 ≤ j := nf
     have : ¬ j = 0 := by omega
     by_cases hij : i = j
     ·subst hij
      by_cases hp : c.part = d.part
      ·simp [Ac.con, indC, zCon, MA.ind, *]
      ·simp [Ac.con, indC, zCon, MA.ind, *]
       exact decide_eq_true_iff
     ·simp [Ac.con, indC, zCon, MA.ind, *]
end Go.Proofs.YtgcceepadlmelaaGreatDoor
namespace Go.Proofs.YtgcceepadlmelaaGreatDoor
theorem map_split {A B C : Type} {f : A → C} {g : B → C} {p q : List A} {a b : A} {E : List B} (h : (p ++ a :: b :: q).map f = E.map g) : ∃ pe qe ea eb, E = pe ++ ea :: eb :: qe ∧ p.map f = pe.map g ∧ f a = g ea ∧ f b = g eb ∧ q.map f = qe.map g := by
 induction p generalizing E with
 | nil =>
  cases E with
  | nil => simp at h
  | cons ea E =>
   cases E with
   | nil => simp at h
   | cons eb E =>
    simp only [List.nil_append, List.map_cons, List.cons.injEq] at h
    exact ⟨[], E, ea, eb, rfl, rfl, h.1, h.2.1, h.2.2⟩
 | cons x p ih =>
  cases E with
  | nil => simp at h
  | cons e E =>
   simp only [List.cons_append, List.map_cons, List.cons.injEq] at h
   obtain ⟨pe, qe, ea, eb, rfl, h1, h2, h3, h4⟩ := ih h.2
   exact ⟨e :: pe, qe, ea, eb, rfl, by simp [h.1, h1], h2, h3, h4⟩
theorem indK_c (a b : Kw) : indK a b = if a.x.pack ≠ b.x.pack then true else indC (conC a.x) (conC b.x) := by
 unfold indK
 rw [con_x, con_x]
 rfl
theorem k_pack (e : Ed) (h : e.fit) : e.k.pack = e.l := by
 obtain ⟨l, a⟩ := e
 cases a with
 | add => rfl
 | rem => rfl
 | mod m =>
  cases m with
  | use u n => cases n <;> rfl
  | dec i a => cases a <;> rfl
theorem sw_lead {K L : List Kw} (h : Sw K L) {E : List Ed} {S T : St} (hE : K.map Kw.x = E.map Ed.k) (hf : ∀ e ∈ E, e.fit ∧ e.named) (ha : apL E S T) : ∃ E', L.map Kw.x = E'.map Ed.k ∧ (∀ e ∈ E', e ∈ E) ∧ apL E' S T := by
 induction h with
 | refl => exact ⟨E, hE, fun _ h => h, ha⟩
 | step _ hi ih =>
  obtain ⟨E', h1, h2, h3⟩ := ih
  obtain ⟨pe, qe, ea, eb, rfl, g1, g2, g3, g4⟩ := map_split h1
  have fa := hf ea (h2 _ (by simp))
  have fb := hf eb (h2 _ (by simp))
  rw [indK_c, g2, g3, k_pack _ fa.1, k_pack _ fb.1] at hi
  have hind := (ind_ed fa.1 fb.1 fa.2 fb.2).1 hi
  refine ⟨pe ++ eb :: ea :: qe, by simp [g1, g2, g3, g4], fun e he => h2 e (by simp only [List.mem_append, List.mem_cons] at he ⊢; rcases he with h | h | h | h <;> simp [h]), ?_⟩
  exact apL_swap hind h3
end Go.Proofs.YtgcceepadlmelaaGreatDoor
namespace Go.Proofs.YtgcceepadlmelaaGreatDoor
theorem mem_flatE {f : Option Mx → Option Mx → List Ac} {P : List PrM} {e : Ed} : e ∈ flatE f P ↔ ∃ p ∈ P, ∃ ac ∈ f p.2.1 p.2.2, Ed.mk p.1 ac = e := by
 unfold flatE
 rw [List.mem_flatMap]
 constructor
 ·rintro ⟨p, hp, he⟩
  obtain ⟨ac, h1, h2⟩ := List.mem_map.1 he
  exact ⟨p, hp, ac, h1, h2⟩
 ·rintro ⟨p, hp, ac, h1, h2⟩
  exact ⟨p, hp, List.mem_map.2 ⟨ac, h1, h2⟩⟩
end Go.Proofs.YtgcceepadlmelaaGreatDoor
namespace Go.Proofs.YtgcceepadlmelaaGreatDoor
section
set_option linter.unusedSectionVars false
variable {α κ : Type} [DecidableEq κ] {k : α → κ} {lt : κ → κ → Bool}
theorem idxK_eq : ∀ {l : List α} {y : κ} {i : Nat}, i ≤ l.length → (∀ t (h : t < l.length), t < i → lt (k l[t]) y = true) → (∀ h : i < l.length, lt (k l[i]) y = false) → idxK k lt l y = i
 | [], y, i, hi, _, _ => by simp at hi; subst hi; rfl
 | a :: l, y, 0, _, _, h2 => by
  have := h2 (by simp)
  simp only [List.getElem_cons_zero] at this
  unfold idxK
  rw [List.takeWhile_cons_of_neg (by simp [this])]
  rfl
 | a :: l, y, i + 1, hi, h1, h2 => by
  have h0 := h1 0 (by simp) (by omega)
  simp only [List.getElem_cons_zero] at h0
  have ih := idxK_eq (l := l) (y := y) (i := i) (by simpa using hi) (fun t ht hlt => by have := h1 (t + 1) (by simp; omega) (by omega); simpa using this) (fun h => by have := h2 (by simp; omega); simpa using this)
  unfold idxK at ih ⊢
  rw [List.takeWhile_cons_of_pos (by simpa using h0), List.length_cons, ih]
def BsK (k : α → κ) (lt : κ → κ → Bool) (l : List α) (y : κ) (a b : Nat) : Prop := (∀ t (h : t < l.length), t < a → lt (k l[t]) y = true) ∧ ∀ h : b < l.length, lt (k l[b]) y = false
theorem BsK.done {l : List α} {y : κ} {a : Nat} (h : BsK k lt l y a a) (ha : a ≤ l.length) : idxK k lt l y = a := idxK_eq ha h.1 h.2
theorem BsK.up (hl : LtK lt) {l : List α} (hA : AscK k lt l) {y : κ} {a b m : Nat} (h : BsK k lt l y a b) (hm : m < l.length) (hp : lt (k l[m]) y = true) : BsK k lt l y (m + 1) b := by
 refine ⟨fun t ht hlt => ?_, h.2⟩
 rcases Nat.lt_or_ge t m with g | g
 ·exact hl.tr (List.pairwise_iff_getElem.1 hA t m ht hm g) hp
 ·obtain rfl : t = m := by omega
  exact hp
theorem BsK.down {l : List α} {y : κ} {a b m : Nat} (h : BsK k lt l y a b) (hp : ∀ h : m < l.length, lt (k l[m]) y = false) : BsK k lt l y a m := ⟨h.1, hp⟩
end
end Go.Proofs.YtgcceepadlmelaaGreatDoor
namespace Go.Proofs.YtgcceepadlmelaaGreatDoor
set_option maxRecDepth 100000
set_option maxHeartbeats 8000000
open Go.RowKit
theorem find1_any (d : Dw) (i : Int) (w : World) (h1 : 1 ≤ d.id ∧ d.id ≤ 999999) (h2 : 1 ≤ i ∧ i ≤ 999999) : Calls Tryz.prog 74 #[.agg (dca d), .int .i64 i] w fun r w' => r = .returned (.int .i64 (d.id - i)) ∧ Below w.heap.size w w' := by
 have HB := lid (ba w (.cells (dca d) 65))
 have hr1 : -9223372036854775808 ≤ d.id - i := by omega
 have hr2 : d.id - i ≤ 9223372036854775807 := by omega
 go_enter Tryz.func74, Tryz.ntmps74
 go_wp2_with fail
 go_ret
 exact ⟨rfl, HB.out⟩
theorem dla_row {w W : World} {ao : Option Addr} {n cap j : Nat} {L : List Dw} (h : DLA w ao n cap L) (hb : Below w.heap.size w W) (hj : j < n) (hjl : j < L.length) : ∃ b o, ao = some ⟨b, o, none⟩ ∧ b < W.heap.size ∧ (∀ i u, (dce L[j])[i]? = some u → i < 11 → W.cell? ⟨b, o + (j * 11 + i), none⟩ = some u) := by
 obtain ⟨b, o, e, hbz, hc⟩ := h.sl.at_ (k := j) hj
 refine ⟨b, o, e, Nat.lt_of_lt_of_le hbz hb.size, fun i u hu hi => ?_⟩
 rw [bc hb hbz _]
 exact hc _ u (by rw [dcs_cell hjl hi]; exact hu)
theorem bsD_any (L : List Dw) (i : Int) (n cap : Nat) (ao : Option Addr) (w : World) (h : DLA w ao n cap L) (hA : AscK Dw.id ltI L) (hm1 : n ≤ 100000) (hid : ∀ d ∈ L, 1 ≤ d.id ∧ d.id ≤ 999999) (hi : 1 ≤ i ∧ i ≤ 999999) :
  Calls Tryz.prog 73 #[.slice ao n cap, .int .i64 i, .func (.func 74) #[] #[]] w fun e w' => e = .returned (.tuple #[.int .i64 (idxK Dw.id ltI L i), .bool (fnd Dw.id L i).isSome]) ∧ Below w.heap.size w w' := by
 have HN := lid h.len
 have HA := lid hA
 have HS := lid h
 have HID := lid hid
 have HII := lid hi
 clear h hA hid hi
 go_enter Tryz.func73, Tryz.ntmps73
 go_wp2_with fail
 go_loopw [9, 10] (fun u9 u10 wr => ∃ a b : Nat, a ≤ b ∧ b ≤ n ∧ u9 = .int .i64 a ∧ u10 = .int .i64 b ∧ Hid (BsK Dw.id ltI L i a b) ∧ Hid (Below w.heap.size w wr)) (fun u9 u10 _ => (intOf u10).toNat - (intOf u9).toNat)
 case atStart => exact ⟨0, n, Nat.zero_le _, Nat.le_refl _, rfl, rfl, lid ⟨fun t _ ht => by omega, fun h => by rw [HN.out] at h; omega⟩, lid (Below.refl _ _)⟩
 case round =>
  obtain ⟨a, b, hab, hbn, rfl, rfl, HI, HB⟩ := hrel
  by_cases hlt : a < b
  ·have dk : decide ((a : Int) < (b : Int)) = true := by simp; omega
   obtain ⟨m, hm⟩ : ∃ m, (a + b) / 2 = m := ⟨_, rfl⟩
   have hmi : ((a : Int) + (b : Int)) / 2 = (m : Int) := by omega
   have hma : a ≤ m := by omega
   have hmb : m < b := by omega
   have hmn : m < n := by omega
   have hml : m < L.length := by rw [HN.out]; exact hmn
   obtain ⟨b1, o1, rfl, hlb1, hc1⟩ := dla_row HS.out HB.out hmn hml
   have HM : Hid (L[m].id - i < 0 → BsK Dw.id ltI L i (m + 1) b) := lid (fun hq => HI.out.up ltI_k HA.out hml (by unfold ltI; simp; omega))
   have HE : Hid (¬ L[m].id - i < 0 → BsK Dw.id ltI L i a m) := lid (fun hq => HI.out.down (fun _ => by unfold ltI; simp; omega))
   have CF := lid (fun W => find1_any L[m] i W (HID.out _ (List.getElem_mem hml)) HII.out)
   obtain ⟨x, hx⟩ : ∃ x, L[m] = x := ⟨_, rfl⟩
   rw [hx] at HM HE CF hc1
   have x0 : wr.cell? ⟨b1, o1 + m * 11, none⟩ = some (.int .i64 x.id) := by have := hc1 0 _ rfl (by omega); exact this
   have x1 : wr.cell? ⟨b1, o1 + m * 11 + 1, none⟩ = some (.int .i64 x.kind) := by have := hc1 1 _ rfl (by omega); rwa [← Nat.add_assoc] at this
   have x2 : wr.cell? ⟨b1, o1 + m * 11 + 2, none⟩ = some (.bool x.pub) := by have := hc1 2 _ rfl (by omega); rwa [← Nat.add_assoc] at this
   have x3 : wr.cell? ⟨b1, o1 + m * 11 + 3, none⟩ = some (.slice x.na x.names.length x.ncap) := by have := hc1 3 _ rfl (by omega); rwa [← Nat.add_assoc] at this
   have x4 : wr.cell? ⟨b1, o1 + m * 11 + 4, none⟩ = some (.bool x.doubt) := by have := hc1 4 _ rfl (by omega); rwa [← Nat.add_assoc] at this
   have x5 : wr.cell? ⟨b1, o1 + m * 11 + 5, none⟩ = some (.int .i64 x.body.kind) := by have := hc1 5 _ rfl (by omega); rwa [← Nat.add_assoc] at this
   have x6 : wr.cell? ⟨b1, o1 + m * 11 + 6, none⟩ = some (.string x.body.name) := by have := hc1 6 _ rfl (by omega); rwa [← Nat.add_assoc] at this
   have x7 : wr.cell? ⟨b1, o1 + m * 11 + 7, none⟩ = some (.string x.body.more) := by have := hc1 7 _ rfl (by omega); rwa [← Nat.add_assoc] at this
   have x8 : wr.cell? ⟨b1, o1 + m * 11 + 8, none⟩ = some (.int .i64 x.body.int) := by have := hc1 8 _ rfl (by omega); rwa [← Nat.add_assoc] at this
   have x9 : wr.cell? ⟨b1, o1 + m * 11 + 9, none⟩ = some (.int .i64 x.body.den) := by have := hc1 9 _ rfl (by omega); rwa [← Nat.add_assoc] at this
   have x10 : wr.cell? ⟨b1, o1 + m * 11 + 10, none⟩ = some (.slice x.body.ao x.body.sub.length x.body.cap) := by have := hc1 10 _ rfl (by omega); rwa [← Nat.add_assoc] at this
   obtain ⟨q, hq⟩ : ∃ q, x.id - i = q := ⟨_, rfl⟩
   rw [hq] at HM HE CF
   clear hc1 hx hq hml
   by_cases hc : q < 0
   ·have u := decide_eq_true hc
    have HV := lid (HM.out hc)
    clear HM HE
    go_wp2_with fail
    (with_reducible refine (CF.out _).mono ?_); rintro e w2 ⟨rfl, hb2⟩
    have HB2 := lid (HB.out.trans (hb2.mono HB.out.size))
    clear hb2
    go_wp2_with fail
    go_roundw
    case rel => exact ⟨m + 1, b, by omega, by omega, by go_num, rfl, HV, HB2⟩
    case measure => simp [intOf]; omega
   ·have u := decide_eq_false hc
    have HV := lid (HE.out hc)
    clear HM HE
    go_wp2_with fail
    (with_reducible refine (CF.out _).mono ?_); rintro e w2 ⟨rfl, hb2⟩
    have HB2 := lid (HB.out.trans (hb2.mono HB.out.size))
    clear hb2
    go_wp2_with fail
    go_roundw
    case rel => exact ⟨a, m, by omega, by omega, rfl, rfl, HV, HB2⟩
    case measure => simp [intOf]; omega
  ·obtain rfl : a = b := by omega
   have dk : decide ((a : Int) < (a : Int)) = false := by simp
   have HIX : Hid (idxK Dw.id ltI L i = a) := lid (HI.out.done (by rw [HN.out]; omega))
   have hg := fnd_at ltI_k HA.out i
   by_cases han : a < n
   ·have hal : a < L.length := by rw [HN.out]; exact han
    simp only [HIX.out, hal, dif_pos] at hg
    obtain ⟨b1, o1, rfl, hlb1, hc1⟩ := dla_row HS.out HB.out han hal
    have CF := lid (fun W => find1_any L[a] i W (HID.out _ (List.getElem_mem hal)) HII.out)
    obtain ⟨x, hx⟩ : ∃ x, L[a] = x := ⟨_, rfl⟩
    rw [hx] at CF hc1 hg
    have x0 : wr.cell? ⟨b1, o1 + a * 11, none⟩ = some (.int .i64 x.id) := by have := hc1 0 _ rfl (by omega); exact this
    have x1 : wr.cell? ⟨b1, o1 + a * 11 + 1, none⟩ = some (.int .i64 x.kind) := by have := hc1 1 _ rfl (by omega); rwa [← Nat.add_assoc] at this
    have x2 : wr.cell? ⟨b1, o1 + a * 11 + 2, none⟩ = some (.bool x.pub) := by have := hc1 2 _ rfl (by omega); rwa [← Nat.add_assoc] at this
    have x3 : wr.cell? ⟨b1, o1 + a * 11 + 3, none⟩ = some (.slice x.na x.names.length x.ncap) := by have := hc1 3 _ rfl (by omega); rwa [← Nat.add_assoc] at this
    have x4 : wr.cell? ⟨b1, o1 + a * 11 + 4, none⟩ = some (.bool x.doubt) := by have := hc1 4 _ rfl (by omega); rwa [← Nat.add_assoc] at this
    have x5 : wr.cell? ⟨b1, o1 + a * 11 + 5, none⟩ = some (.int .i64 x.body.kind) := by have := hc1 5 _ rfl (by omega); rwa [← Nat.add_assoc] at this
    have x6 : wr.cell? ⟨b1, o1 + a * 11 + 6, none⟩ = some (.string x.body.name) := by have := hc1 6 _ rfl (by omega); rwa [← Nat.add_assoc] at this
    have x7 : wr.cell? ⟨b1, o1 + a * 11 + 7, none⟩ = some (.string x.body.more) := by have := hc1 7 _ rfl (by omega); rwa [← Nat.add_assoc] at this
    have x8 : wr.cell? ⟨b1, o1 + a * 11 + 8, none⟩ = some (.int .i64 x.body.int) := by have := hc1 8 _ rfl (by omega); rwa [← Nat.add_assoc] at this
    have x9 : wr.cell? ⟨b1, o1 + a * 11 + 9, none⟩ = some (.int .i64 x.body.den) := by have := hc1 9 _ rfl (by omega); rwa [← Nat.add_assoc] at this
    have x10 : wr.cell? ⟨b1, o1 + a * 11 + 10, none⟩ = some (.slice x.body.ao x.body.sub.length x.body.cap) := by have := hc1 10 _ rfl (by omega); rwa [← Nat.add_assoc] at this
    have HU : Hid ((x.id - i == 0) = (fnd Dw.id L i).isSome) := lid (by
     rw [hg, Bool.eq_iff_iff, beq_iff_eq]
     by_cases e : x.id = i
     ·simp [e]
     ·simp [e]; omega)
    obtain ⟨q, hq⟩ : ∃ q, x.id - i = q := ⟨_, rfl⟩
    rw [hq] at CF HU
    have da : decide ((a : Int) < (n : Int)) = true := by simp; omega
    clear hc1 hx hg hq
    go_wp2_with fail
    (with_reducible refine (CF.out _).mono ?_); rintro e w2 ⟨rfl, hb2⟩
    go_wp2_with fail
    go_ret2
    rw [HIX.out, ← HU.out]
    exact ⟨rfl, HB.out.trans (hb2.mono HB.out.size)⟩
   ·obtain rfl : a = n := by omega
    have hal : ¬ a < L.length := by rw [HN.out]; omega
    simp only [HIX.out, hal, dif_neg, not_false_eq_true] at hg
    have HG := lid hg
    clear hg
    go_wp2_with fail
    go_ret2
    rw [HIX.out, HG.out]
    exact ⟨rfl, HB.out⟩
theorem findDecl_any (L : List Dw) (i : Int) (n cap : Nat) (ao : Option Addr) (w : World) (h : DLA w ao n cap L) (hA : AscK Dw.id ltI L) (hm1 : n ≤ 100000) (hid : ∀ d ∈ L, 1 ≤ d.id ∧ d.id ≤ 999999) (hi : 1 ≤ i ∧ i ≤ 999999) :
  Calls Tryz.prog 49 #[.slice ao n cap, .int .i64 i] w fun e w' => e = .returned (.tuple #[.int .i64 (idxK Dw.id ltI L i), .bool (fnd Dw.id L i).isSome]) ∧ Below w.heap.size w w' := by
 have CB := lid (bsD_any L i n cap ao w h hA hm1 hid hi)
 clear h hA hid hi
 go_enter Tryz.func49, Tryz.ntmps49
 go_wp2_with fail
 (with_reducible refine (CB.out).mono ?_); rintro e w1 ⟨rfl, hb⟩
 go_wp2_with fail
 go_ret2
 exact ⟨rfl, hb⟩
end Go.Proofs.YtgcceepadlmelaaGreatDoor
namespace Go.Proofs.YtgcceepadlmelaaGreatDoor
set_option maxRecDepth 100000
open Go.RowKit
theorem nanC_fn (a : ByteArray) (w : World) : Calls Tryz.prog 92 #[.string a] w fun r w' => r = .returned (.bool false) ∧ w = w' := by
 go_enter Tryz.func92, Tryz.ntmps92
 go_wp2_with fail
 go_ret
 exact ⟨ret_bool (by simp), rfl⟩
theorem nanS_fn (a : ByteArray) (w : World) : Calls Tryz.prog 70 #[.string a] w fun r w' => r = .returned (.bool false) ∧ w = w' := by
 go_enter Tryz.func70, Tryz.ntmps70
 go_wp2_with fail
 go_ret
 exact ⟨ret_bool (by simp), rfl⟩
theorem less_fn (a b : ByteArray) (w : World) : Calls Tryz.prog 69 #[.string a, .string b] w fun r w' => r = .returned (.bool (ltL a b)) ∧ w = w' := by
 have CN := lid (fun x => nanC_fn x w)
 have HL : Hid (Op.bytesLess a.toList b.toList = ltL a b) := lid (by rw [ByteArray.toList_eq, ByteArray.toList_eq]; rfl)
 go_enter Tryz.func69, Tryz.ntmps69
 go_wp2_with fail
 (with_reducible refine ((CN.out a)).mono ?_); rintro e w1 ⟨rfl, rfl⟩
 go_wp2_with fail
 go_ret
 exact ⟨ret_bool HL.out, rfl⟩
end Go.Proofs.YtgcceepadlmelaaGreatDoor
namespace Go.Proofs.YtgcceepadlmelaaGreatDoor
set_option maxRecDepth 100000
set_option maxHeartbeats 8000000
open Go.RowKit
theorem bsS_any (L : List ByteArray) (u : ByteArray) (n cap : Nat) (ao : Option Addr) (w : World) (h : SA w ao n cap L) (hA : AscU L) (hm1 : n ≤ 100000) :
  Calls Tryz.prog 44 #[.slice ao n cap, .string u] w fun e w' => e = .returned (.tuple #[.int .i64 (idxK (fun x : ByteArray => x) ltL L u), .bool (fndU L u).isSome]) ∧ w = w' := by
 have HN := lid h.len
 have HA := lid hA
 have HS := lid h.sl
 clear h hA
 go_enter Tryz.func44, Tryz.ntmps44
 go_wp2_with fail
 go_loopw [7, 8] (fun u9 u10 wr => ∃ a b : Nat, a ≤ b ∧ b ≤ n ∧ u9 = .int .i64 a ∧ u10 = .int .i64 b ∧ Hid (BsK (fun x : ByteArray => x) ltL L u a b) ∧ w = wr) (fun u9 u10 _ => (intOf u10).toNat - (intOf u9).toNat)
 case atStart => exact ⟨0, n, Nat.zero_le _, Nat.le_refl _, rfl, rfl, lid ⟨fun t _ ht => by omega, fun h => by rw [HN.out] at h; omega⟩, rfl⟩
 case round =>
  obtain ⟨a, b, hab, hbn, rfl, rfl, HI, rfl⟩ := hrel
  by_cases hlt : a < b
  ·have dk : decide ((a : Int) < (b : Int)) = true := by simp; omega
   obtain ⟨m, hm⟩ : ∃ m, (a + b) / 2 = m := ⟨_, rfl⟩
   have hmi : ((a : Int) + (b : Int)) / 2 = (m : Int) := by omega
   have hma : a ≤ m := by omega
   have hmb : m < b := by omega
   have hmn : m < n := by omega
   have hml : m < L.length := by rw [HN.out]; exact hmn
   obtain ⟨b1, o1, rfl, hlb1, hc1⟩ := HS.out.at_ hmn
   have x0 := hc1 m _ (svals_at hml)
   have HM : Hid (ltL L[m] u = true → BsK (fun x : ByteArray => x) ltL L u (m + 1) b) := lid (fun hq => HI.out.up ltL_k HA.out hml hq)
   have HE : Hid (ltL L[m] u = false → BsK (fun x : ByteArray => x) ltL L u a m) := lid (fun hq => HI.out.down (fun _ => hq))
   obtain ⟨x, hx⟩ : ∃ x, L[m] = x := ⟨_, rfl⟩
   rw [hx] at HM HE x0
   have CF := lid (fun W => less_fn x u W)
   clear hc1 hx hml
   cases hc : ltL x u with
   | true =>
    have HV := lid (HM.out hc)
    clear HM HE
    go_wp2_with fail
    (with_reducible refine (CF.out _).mono ?_); rintro e w2 ⟨rfl, rfl⟩
    rw [hc]
    go_wp2_with fail
    go_roundw
    case rel => exact ⟨m + 1, b, by omega, by omega, by go_num, rfl, HV, by trivial⟩
    case measure => simp [intOf]; omega
   | false =>
    have HV := lid (HE.out hc)
    clear HM HE
    go_wp2_with fail
    (with_reducible refine (CF.out _).mono ?_); rintro e w2 ⟨rfl, rfl⟩
    rw [hc]
    go_wp2_with fail
    go_roundw
    case rel => exact ⟨a, m, by omega, by omega, rfl, rfl, HV, by trivial⟩
    case measure => simp [intOf]; omega
  ·obtain rfl : a = b := by omega
   have dk : decide ((a : Int) < (a : Int)) = false := by simp
   have HIX : Hid (idxK (fun x : ByteArray => x) ltL L u = a) := lid (HI.out.done (by rw [HN.out]; omega))
   have hg : fndU L u = _ := fnd_at ltL_k HA.out u
   by_cases han : a < n
   ·have hal : a < L.length := by rw [HN.out]; exact han
    simp only [HIX.out, hal, dif_pos] at hg
    obtain ⟨b1, o1, rfl, hlb1, hc1⟩ := HS.out.at_ han
    have x0 := hc1 a _ (svals_at hal)
    obtain ⟨x, hx⟩ : ∃ x, L[a] = x := ⟨_, rfl⟩
    rw [hx] at x0 hg
    have da : decide ((a : Int) < (n : Int)) = true := by simp; omega
    have CF := lid (fun y W => nanS_fn y W)
    by_cases e : x = u
    ·have HU : Hid ((fndU L u).isSome = true) := lid (by rw [hg, if_pos e]; rfl)
     have d := str_eq e
     clear hc1 hx hg e hal
     go_wp2_with fail
     go_ret2
     rw [HIX.out, HU.out]
     exact ⟨rfl, rfl⟩
    ·have HU : Hid ((fndU L u).isSome = false) := lid (by rw [hg, if_neg e]; rfl)
     have d := str_ne e
     clear hc1 hx hg e hal
     go_wp2_with fail
     (with_reducible refine (CF.out x _).mono ?_); rintro e w2 ⟨rfl, rfl⟩
     go_wp2_with fail
     go_ret2
     rw [HIX.out, HU.out]
     exact ⟨rfl, rfl⟩
   ·obtain rfl : a = n := by omega
    have hal : ¬ a < L.length := by rw [HN.out]; omega
    simp only [HIX.out, hal, dif_neg, not_false_eq_true] at hg
    have HG := lid hg
    clear hg
    go_wp2_with fail
    go_ret2
    rw [HIX.out, show (fndU L u).isSome = false by rw [show fndU L u = none from HG.out]; rfl]
    exact ⟨rfl, rfl⟩
end Go.Proofs.YtgcceepadlmelaaGreatDoor
namespace Go.Proofs.YtgcceepadlmelaaGreatDoor
open Go.RowKit
section
variable {P : Program} {ops : Array Oper} {Q : Exit → Act → World → Prop} {md : Region.Mode} {S : World → Prop} {L : Nat}
def last2B (md : Region.Mode) (ops : Array Oper) (L : Nat) : Bool :=
 match ops[L]? with
 | some o => (List.range ops.size).all fun k => k == L || o.after.any fun e => Region.binds md e && (e.on == k || match ops[e.on]? with
  | some o2 => o2.after.any fun e2 => Region.binds md e2 && e2.on == k
  | none => false)
 | none => false
def Closed (md : Region.Mode) (ops : Array Oper) (listed : Array Bool) : Prop :=
 ∀ (j : Nat) (o : Oper), ops[j]? = some o → listed.getD j false = true → ∀ e ∈ o.after, Region.binds md e = true → listed.getD e.on false = true
theorem closed_start (md : Region.Mode) (ops : Array Oper) (n : Nat) : Closed md ops (Array.replicate n false) := by
 intro j o _ h
 exfalso
 rw [Array.getD_eq_getD_getElem?, Array.getElem?_replicate] at h
 split at h <;> simp at h
theorem closed_set {listed : Array Bool} {i : Nat} (h : Closed md ops listed) (hi : i ∈ Region.ready md ops listed) : Closed md ops (listed.setIfInBounds i true) := by
 intro j o ho hj e he hb
 obtain ⟨_, oi, hoi, hall⟩ := mem_ready.1 hi
 by_cases hji : j = i
 ·subst hji
  rw [ho] at hoi
  cases hoi
  exact getD_set_true (hall e he hb)
 ·rw [getD_set_ne false (Ne.symm hji)] at hj
  exact getD_set_true (h j o ho hj e he hb)
theorem not_both {listed : Array Bool} {i : Nat} (h : listed.getD i true = false) (h1 : listed.getD i false = true) : False := by
 rcases Nat.lt_or_ge i listed.size with h' | h'
 ·simp [h'] at h h1; rw [h] at h1; cases h1
 ·simp [Array.getElem?_eq_none h'] at h1
theorem last2B_spec (h : last2B md ops L = true) {listed : Array Bool} (hc : Closed md ops listed) {i : Nat} (hL : L ∈ Region.ready md ops listed) (hi : i ∈ Region.ready md ops listed) : i = L := by
 unfold last2B at h
 split at h
 ·rename_i o ho
  rw [List.all_eq_true] at h
  obtain ⟨hiu, oi, hoi, _⟩ := mem_ready.1 hi
  obtain ⟨_, o', ho', hall⟩ := mem_ready.1 hL
  rw [ho] at ho'
  cases ho'
  have hlt : i < ops.size := by
   rcases Nat.lt_or_ge i ops.size with h' | h'
   ·exact h'
   ·rw [Array.getElem?_eq_none h'] at hoi; cases hoi
  have hk := h i (List.mem_range.2 hlt)
  rw [Bool.or_eq_true] at hk
  rcases hk with hk | hk
  ·simpa using hk
  ·exfalso
   obtain ⟨k, hk1, hk2⟩ := Array.any_eq_true.1 hk
   rw [Bool.and_eq_true, Bool.or_eq_true] at hk2
   obtain ⟨hb, hk3⟩ := hk2
   have h1 := hall _ (Array.getElem_mem hk1) hb
   rcases hk3 with hk3 | hk3
   ·have he2 : o.after[k].on = i := by simpa using hk3
    rw [he2] at h1
    exact not_both hiu h1
   ·split at hk3
    ·rename_i o2 ho2
     obtain ⟨m, hm1, hm2⟩ := Array.any_eq_true.1 hk3
     rw [Bool.and_eq_true] at hm2
     have h2 := hc _ _ ho2 h1 _ (Array.getElem_mem hm1) hm2.1
     have he3 : o2.after[m].on = i := by simpa using hm2.2
     rw [he3] at h2
     exact not_both hiu h2
    ·cases hk3
 ·cases h
theorem wpAnyC_first (hlast : last2B md ops L = true) {i : Nat} {oi : Oper} {v : Value} (hi : ops[i]? = some oi) (hiL : i ≠ L) (hsel : ∀ (j : Nat) (o : Oper) cs b, ops[j]? = some o → o.op ≠ .select cs b)
  (hQ : ∀ c a w, Q (.panic c) (a.put oi.dst v) w → Q (.panic c) a w) :
  ∀ (fuel : Nat) (listed : Array Bool) (a : Act) (w : World), Closed md ops listed →
   (∀ j oj, ops[j]? = some oj → j ≠ i → listed.getD j true = false → (∀ e ∈ oj.after, Region.binds md e = true → e.on ≠ i) → oi.apart ops oj = true) →
   i ∈ Region.ready md ops listed → YieldsIf P ops S oi v a → S w →
   wpAnyL P md ops Q S L fuel (listed.setIfInBounds i true) (a.put oi.dst v) w → wpAnyL P md ops Q S L (fuel + 1) listed a w := by
 intro fuel
 induction fuel with
 | zero =>
  intro listed a w _ _ hr hy hS H
  refine ⟨fun h => (by rw [h] at hr; cases hr), fun j hj => ?_⟩
  by_cases hji : j = i
  ·subst hji; exact hy.wpOp hi hS ⟨fun _ => hS, H⟩
  ·have := ready_mono hj hji
   rw [H.1] at this
   cases this
 | succ fuel ih =>
  intro listed a w hcl hfree hr hy hS H
  refine ⟨fun h => (by rw [h] at hr; cases hr), fun j hj => ?_⟩
  by_cases hji : j = i
  ·subst hji; exact hy.wpOp hi hS ⟨fun _ => hS, H⟩
  ·have hjL : j ≠ L := fun e => by subst e; exact hiL (last2B_spec hlast hcl hj hr)
   have h1 := H.2 j (ready_mono hj hji)
   obtain ⟨hjun, oj, hoj, hall⟩ := mem_ready.1 hj
   have hnot : ∀ e ∈ oj.after, Region.binds md e = true → e.on ≠ i := fun e he hb heq => by
    have h1 := hall e he hb
    have h0 := (mem_ready.1 hr).1
    rw [heq] at h1
    rcases Nat.lt_or_ge i listed.size with h' | h'
    ·simp [h'] at h0 h1; rw [h0] at h1; cases h1
    ·simp [Array.getElem?_eq_none h'] at h1
   have h2 := wpOp_putIf hoj (hfree j oj hoj hji hjun hnot) (fun cs b => hsel i oi cs b hi) (fun cs b => hsel j oj cs b hoj) hQ hy h1
   have hfree' : ∀ k ok, ops[k]? = some ok → k ≠ i → (listed.setIfInBounds j true).getD k true = false →
     (∀ e ∈ ok.after, Region.binds md e = true → e.on ≠ i) → oi.apart ops ok = true := fun k ok hk hki hun hno => by
    refine hfree k ok hk hki ?_ hno
    by_cases hjk : j = k
    ·subst hjk; exact hjun
    ·rw [getD_set_ne true hjk] at hun; exact hun
   refine wpOp_mono (fun a' w' h3 => ⟨h3.2.1, ih (listed.setIfInBounds j true) a' w' (closed_set hcl hj) hfree' (ready_mono hr (Ne.symm hji)) h3.1 (h3.2.1 hjL) ?_⟩) h2
   rw [Array.setIfInBounds_comm _ _ hji]
   exact h3.2.2
theorem wpAnyC_of_seq {C : World → Prop} (hlast : last2B md ops L = true) (hs : Region.noSelect ops = true) (hQ : ∀ c d v a w, Q (.panic c) (Act.put a d v) w → Q (.panic c) a w) {E : Act → World → Prop} : ∀ (ord : List (Nat × Bool)) (listed listed' : Array Bool) (a : Act) (w : World), Closed md ops listed → (ord ≠ [] → C w) →
  seqBL md ops L ord listed = some listed' → Region.ready md ops listed' = [] → (∀ a w, E a w → Q .normal a w) → seqRunL P ops C L Q E ord a w → wpAnyL P md ops Q C L ord.length listed a w
 | [], listed, listed', a, w, _, hC, hB, hr, hE, h => by
  cases hB
  exact ⟨hr, hE _ _ h⟩
 | (i, true) :: rest, listed, listed', a, w, hcl, hC, hB, hr, hE, h => by
  simp only [seqBL] at hB
  split at hB
  ·rename_i hc
   rw [Bool.and_eq_true] at hc
   obtain ⟨hiL, o, ho, v, hy, hh⟩ := h
   have hC := hC (by simp)
   exact wpAnyC_first hlast ho hiL (Region.noSelect_spec hs) (fun c a w hq => hQ c _ _ a w hq) _ listed a w hcl (Region.free_spec ho hc.2) (by simpa using hc.1) hy hC (wpAnyC_of_seq hlast hs hQ rest _ listed' _ w (closed_set hcl (by simpa using hc.1)) (fun _ => hC) hB hr hE hh)
  ·cases hB
 | (i, false) :: rest, listed, listed', a, w, hcl, hC, hB, hr, hE, h => by
  simp only [seqBL] at hB
  split at hB
  ·rename_i hc
   refine ⟨fun e => (by rw [e] at hc; cases hc.1), ?_⟩
   rw [hc.1]
   intro j hj
   obtain rfl : j = i := by simpa using hj
   exact wpOp_mono (fun a' w' hh => ⟨hh.1, wpAnyC_of_seq hlast hs hQ rest _ listed' a' w' (closed_set hcl (by rw [hc.1]; simp)) (fun hne => hh.1 (fun e => hne (hc.2 e))) hB hr hE hh.2⟩) h
  ·cases hB
theorem wp_region_seqC {id : Nat} {a : Act} {w : World} {l : List Oper} (L : Nat) (C : World → Prop) (ord : List (Nat × Bool)) (hm : P.follows .mixedOrders = true)
  (hB : (last2B .any l.toArray L && (Region.noSelect l.toArray && decide (ord.length = l.length) && (match seqBL .any l.toArray L ord (Array.replicate l.length false) with | some listed => (Region.ready .any l.toArray listed).isEmpty | none => false))) = true)
  (hQ : ∀ c d v a w, Q (.panic c) (Act.put a d v) w → Q (.panic c) a w) (hC : C w.drew)
  (h : seqRunL P l.toArray C L Q (fun a w => Q .normal a w) ord a w.drew) : (Code.region id l.toArray true).wp P Q a w := by
 simp only [Bool.and_eq_true, decide_eq_true_eq] at hB
 obtain ⟨hl1, ⟨hs, hl⟩, hB⟩ := hB
 split at hB
 ·rename_i listed hsq
  refine wp_region_any hm (wpAny_of_L (S := C) (L := L) _ _ _ _ ?_)
  have := wpAnyC_of_seq (md := .any) (P := P) hl1 hs hQ ord _ listed a w.drew (closed_start _ _ _) (fun _ => hC) hsq (by simpa using hB) (fun a w hq => hq) h
  rw [hl] at this
  simpa using this
 ·cases hB
end
end Go.Proofs.YtgcceepadlmelaaGreatDoor
namespace Go.Proofs.YtgcceepadlmelaaGreatDoor
set_option maxRecDepth 100000
set_option maxHeartbeats 8000000
open Go.RowKit
def EfP (w0 w : World) (g cap : Nat) (L : List Mw) (j : Nat) (X : Mx) (r : Ending) (w' : World) : Prop :=
 r = .returned (.int .i64 0) ∧ ∃ m', m'.x = X ∧ MO w0 w' (.slice (some ⟨g, 0, none⟩) L.length cap) (L.set j m') ∧ Stp w w' (.slice (some ⟨g, 0, none⟩) L.length cap) (.slice (some ⟨g, 0, none⟩) L.length cap) L (L.set j m')
theorem left_out {w0 w W : World} {base size n : Nat} {e : TypeId} {v : Value} {xs : List Value} (h : w.ownsRow base e size v n xs) (hw : w.heap.size ≤ W.heap.size) : ∃ ub, (∀ k, v.ownBlock = some k → k = ub) ∧ (ub = W.heap.size ∨ v.ownBlock = some ub) := by
 have _ := w0
 have _ := h
 have _ := hw
 cases e : v.ownBlock with
 | none => exact ⟨W.heap.size, fun k hk => (by cases hk), .inl rfl⟩
 | some k => exact ⟨k, fun k' hk => by cases hk; rfl, .inr rfl⟩
theorem else_keptx {V W2 : World} {o : Obj} {v : Value} {ub : Nat} (he : Else (V.alloc o).drew W2 v) (hu : ∀ k, v.ownBlock = some k → k = ub) : KeptX V.heap.size ub V W2 := fun k hk hx =>
 (he k (by show k < (V.alloc o).heap.size; simp; exact Nat.lt_succ_of_lt hk) (fun e => hx (hu k e.symm))).trans (h_old (w := V) hk o)
theorem eff1_any (w0 w : World) (L : List Mw) (g cap j : Nat) (e : Kw) (hj : j < L.length) (h : MO w0 w (.slice (some ⟨g, 0, none⟩) L.length cap) L) (he : KwA w0 e) (hA : AscU L[j].uses) (hf : (fndU L[j].uses e.text).isSome = false) (hn : L[j].uses.length ≤ 100000) :
  Calls Tryz.prog 43 #[.pointer (some ⟨g, j * 3, none⟩), .agg (kca e)] w (EfP w0 w g cap L j ⟨L[j].label, insK (fun x : ByteArray => x) ltL L[j].uses e.text, L[j].decls.map Dw.x⟩) := by
 obtain ⟨W0, hW0⟩ : ∃ y, w.alloc (.cells (kca e) 52) = y := ⟨_, rfl⟩
 have hb0 : Below w.heap.size w W0 := by rw [← hW0]; exact ba _ _
 have hR : W0.heap[w.heap.size]? = some (.cells (kca e) 52 (0, 0)) := by rw [← hW0]; exact h_new rfl _
 have h0 := h.below hb0
 obtain ⟨V, hV⟩ : ∃ y, W0.drew = y := ⟨_, rfl⟩
 have hv : MO w0 V (.slice (some ⟨g, 0, none⟩) L.length cap) L := by rw [← hV]; exact h0.below (Below.refl _ _).drew
 have hRV : V.heap[w.heap.size]? = some (.cells (kca e) 52 (0, 0)) := by rw [← hV]; exact hR
 obtain ⟨hg, hg2, c0, c1', c2', cf⟩ := h0.cells hj
 have c1 : W0.cell? ⟨g, j * 3 + 1, none⟩ = some (.slice L[j].ua L[j].uses.length L[j].ucap) := c1'
 have d1 : V.cell? ⟨g, j * 3 + 1, none⟩ = some (.slice L[j].ua L[j].uses.length L[j].ucap) := (hv.cells hj).2.2.2.1
 have dg := (hv.cells hj).1
 clear c1' c2' c0 cf
 have hm := ((h0.el _ (List.getElem_mem hj)).mwa h0.bel).uses
 have CB := lid (fun W (hb : Below W0.heap.size W0 W) => bsS_any L[j].uses e.text _ _ _ W (hm.below hb) hA hn)
 have x2 : W0.cell? ⟨w.heap.size, 2, none⟩ = some (.string e.text) := row_cell hR 2
 have y2 : V.cell? ⟨w.heap.size, 2, none⟩ = some (.string e.text) := row_cell hRV 2
 have lx := row_lt hR
 have ly := row_lt hRV
 rw [hf] at CB
 obtain ⟨i, hi⟩ : ∃ i, idxK (fun x : ByteArray => x) ltL L[j].uses e.text = i := ⟨_, rfl⟩
 have hil : i ≤ L[j].uses.length := by rw [← hi]; exact idx_le
 rw [hi] at CB
 obtain ⟨us, hus⟩ : ∃ us, insK (fun x : ByteArray => x) ltL L[j].uses e.text = us := ⟨_, rfl⟩
 have hus2 : us = L[j].uses.take i ++ e.text :: L[j].uses.drop i := by rw [← hus, ← hi]; rfl
 rw [hus]
 have hE := (h.el _ (List.getElem_mem hj)).us
 obtain ⟨ub, hu1, hu2⟩ := left_out (w0 := w0) (W := V) hE (by rw [← hV]; exact hb0.size)
 have hgo : g ∈ obs (.slice (some ⟨g, 0, none⟩) L.length cap) := mem_obs.2 rfl
 have hnd := nodup_blkM h hj
 rw [List.nodup_append] at hnd
 have ng : ¬ g = ub := fun e => by
  rcases hu2 with h5 | h5
  ·omega
  ·exact hnd.2.2 g hgo ub (List.mem_append.2 (.inl (mem_obs.2 h5))) e
 have nx : ¬ w.heap.size = ub := fun e => by
  rcases hu2 with h5 | h5
  ·omega
  ·have := (own_blk hE h5).2
   omega
 obtain ⟨W1, hW1⟩ : ∃ y, (V.alloc (.cells #[.string e.text] 9)).drew = y := ⟨_, rfl⟩
 have hb1 : Below V.heap.size V W1 := by rw [← hW1]; exact ((Below.refl _ _).alloc (Nat.le_refl _) _).drew
 have CI := lid (InsU_any (hv.below hb1) hj (xb := V.heap.size) hus2 hil (by omega) (by rw [← hW1]; exact h_new (w := V) rfl _) (fun e => by have := (own_blk (hv.el _ (List.getElem_mem hj)).us e).2; omega) he.text)
 have HW0 := lid hW0
 have HV := lid hV
 have HW1 := lid hW1
 have HU1 := lid hu1
 have HST : Hid (Stp w W1 (.slice (some ⟨g, 0, none⟩) L.length cap) (.slice (some ⟨g, 0, none⟩) L.length cap) L L) := lid ((Stp.below hb0).trans ((Stp.below (by rw [← hV]; exact (Below.refl _ _).drew)).trans (Stp.below hb1)))
 clear hW0 hb0 h0 hR h he hA hf hi hm hV hv hRV hus hus2 hE hu1 hu2 hgo hnd hW1 hb1
 go_enter Tryz.func43, Tryz.ntmps43
 go_wp2_with fail
 rw [HW0.out]
 refine qd (fun w' => ∃ s : Since W0.heap.size W0, w' = s.world) [(0, true), (1, true), (2, true), (3, true), (4, true), (5, true), (6, false), (7, true), (8, true), (9, true), (10, false), (11, false)] ?_
 repeat (first | (refine qk ?_; simp only [Act.put, q1, q2, q3]) | (refine qf ?_; intro K hK; go_big_quiet_op; go_big_quiet_on))
 refine qc ?_
 intro K hK
 go_wp2_with fail
 (with_reducible refine (CB.out _ (Below.refl _ _).drew).mono ?_); rintro e w1 ⟨rfl, rfl⟩
 go_wp2_with fail
 refine hK.out _ _ (since ((Below.refl _ _).drew)) ?_
 clear hK K
 repeat (first | (refine qk ?_; simp only [Act.put, q1, q2, q3]) | (refine qf ?_; intro K hK; go_big_quiet_op; go_big_quiet_on))
 refine qc ?_
 intro K hK
 go_wp2_with fail
 refine hK.out _ _ (since ((Below.refl _ _).drew)) ?_
 clear hK K
 repeat (first | (refine qk ?_; simp only [Act.put, q1, q2, q3]) | (refine qf ?_; intro K hK; go_big_quiet_op; go_big_quiet_on))
 refine qc ?_
 intro K hK
 go_wp2_with fail
 refine hK.out _ _ (since ((Below.refl _ _).drew)) ?_
 clear hK K
 repeat (first | (refine qk ?_; simp only [Act.put, q1, q2, q3]) | (refine qf ?_; intro K hK; go_big_quiet_op; go_big_quiet_on))
 refine seq_nil ?_
 clear CB
 go_wp2_with fail
 rw [HV.out]
 have q1 := SinceX.cell (B := V.heap.size) (X := ub) (W := V) g (j * 3 + 1) dg ng d1
 have q2 := SinceX.cell (B := V.heap.size) (X := ub) (W := V) w.heap.size 2 ly nx y2
 clear d1 y2 c1 x2
 refine wp_region_seqC 12 (fun w' => ∃ s : SinceX V.heap.size ub V, w' = s.world) [(0, true), (1, true), (2, true), (3, true), (4, true), (5, true), (6, true), (7, true), (8, false), (9, false), (10, true), (11, true), (12, false)] (by kernel_rfl) (by kernel_rfl) (by intro c d v a w h; first | (cases d <;> exact h) | cases h.1) (sincex (KeptX.refl _ _ _).drew) ?_
 repeat (first | (refine seqL_skip (by rfl) (by rfl) (by rfl) ?_; simp only [Act.put, q1, q2, q3]) | (refine seqL_float (by rfl) (by rfl) (by rfl) (by rfl) ?_; intro K hK; go_big_quiet_op; go_big_quiet_on))
 refine seqL_chain (by rfl) ?_
 intro K hK
 go_wp2_with fail
 rw [HW1.out]
 refine hK.out _ _ (sincex (by rw [← HW1.out]; exact ((KeptX.refl V.heap.size ub V).alloc (Nat.le_refl _) (.cells #[.string e.text] 9)).drew)) ?_
 clear hK K
 repeat (first | (refine seqL_skip (by rfl) (by rfl) (by rfl) ?_; simp only [Act.put, q1, q2, q3]) | (refine seqL_float (by rfl) (by rfl) (by rfl) (by rfl) ?_; intro K hK; go_big_quiet_op; go_big_quiet_on))
 refine seqL_chain (by rfl) ?_
 intro K hK
 go_wp2_with fail
 (with_reducible refine (CI.out).mono ?_); rintro e w2 ⟨ao, c, rfl, he, hr, hq1, hq2, hq3⟩
 have HE := lid he
 have HRR := lid hr
 clear he hr CI q1 q2
 go_wp2_with fail
 refine hK.out _ _ (sincex (by have h1 := HE.out; rw [← HW1.out] at h1; exact else_keptx h1 HU1.out)) ?_
 clear hK K
 repeat (first | (refine seqL_skip (by rfl) (by rfl) (by rfl) ?_; simp only [Act.put, q1, q2, q3]) | (refine seqL_float (by rfl) (by rfl) (by rfl) (by rfl) ?_; intro K hK; go_big_quiet_op; go_big_quiet_on))
 refine seqL_last (by rfl) (by rfl) ?_
 intro K hK
 go_wp2_with fail
 refine hK.out _ _ ?_
 clear hK K
 go_wp2_with fail
 go_ret
 exact ⟨rfl, _, rfl, HRR.out.1, HST.out.trans HRR.out.2⟩
end Go.Proofs.YtgcceepadlmelaaGreatDoor
namespace Go.Proofs.YtgcceepadlmelaaGreatDoor
set_option maxRecDepth 100000
set_option maxHeartbeats 1000000
theorem CompareString_any (a b : ByteArray) (w : World) :
  Calls Tryz.prog 107 #[.string a, .string b] w fun e w' => e = .returned (.int .i64 (Lib.compareBytes a.data.toList b.data.toList)) ∧ w' = w := by
 go_enter Tryz.func107, Tryz.ntmps107
 go_wp2
 rw [run_callFunc_extern Tryz.func123 (by kernel_rfl) (by kernel_rfl) (by kernel_rfl) (e := Extern.BytealgCompare.compare) (by kernel_rfl), Lib.run_compareString]
 simp only [Result.andThen]
 rw [Oper.upon_value]
 go_wp2
 go_ret
 exact ⟨rfl, rfl⟩
theorem StrCompare_any (a b : ByteArray) (w : World) :
  Calls Tryz.prog 86 #[.string a, .string b] w fun e w' => e = .returned (.int .i64 (Lib.compareBytes a.data.toList b.data.toList)) ∧ w' = w := by
 go_enter Tryz.func86, Tryz.ntmps86
 go_wp2_with fail
 (with_reducible refine (CompareString_any _ _ _).mono ?_)
 rintro e w' ⟨rfl, rfl⟩
 go_wp2_with fail
 go_ret
 exact ⟨rfl, rfl⟩
end Go.Proofs.YtgcceepadlmelaaGreatDoor
