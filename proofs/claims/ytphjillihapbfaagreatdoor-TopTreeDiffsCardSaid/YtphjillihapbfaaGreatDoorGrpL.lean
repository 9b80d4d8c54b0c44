/-
  TreeP TreeS TreeC.
-/
import Derived.Test.YtphjillihapbfaaGreatDoorGrpD
import Derived.Test.YtphjillihapbfaaGreatDoorGrpI
import Derived.Test.YtphjillihapbfaaGreatDoorOwnTree
namespace Go.Proofs.YtphjillihapbfaaGreatDoor
open Go.RowKit

/-- An object that a pool can have. -/
structure OkO (o : Ob) : Prop where
  chk : checkO o = 0
  dat : o.data.size ≤ 60000
  enc : (encL o).length ≤ 60000
structure GoodP (p : List It) : Prop where
  asc : Asc p
  ob : ∀ x ∈ p, ∃ o, OkO o ∧ x = (ofU (encL o), bstr (encL o))
theorem GoodP.nil : GoodP [] := ⟨List.Pairwise.nil, fun _ h => by cases h⟩
def Sub (p q : List It) : Prop := ∀ x ∈ p, x ∈ q
theorem Sub.refl (p : List It) : Sub p p := fun _ h => h
theorem Sub.trans {p q r : List It} (h : Sub p q) (g : Sub q r) : Sub p r := fun x hx => g x (h x hx)
/-- The object of a digest. -/
def getO (p : List It) (d : Dg) : Option Ob := (getP p d).map fun s => oR s.data.toList
/-- A pool with an object, and its digest. -/
def putP (p : List It) (o : Ob) : Option (List It × Dg) := if checkO o = 0 then (insP p (ofU (encL o)) (bstr (encL o))).map fun q => (q, ofU (encL o)) else none
theorem putP_good {p q : List It} {d : Dg} {o : Ob} (hp : GoodP p) (ho : o.data.size ≤ 60000) (he : (encL o).length ≤ 60000) (h : putP p o = some (q, d)) : GoodP q ∧ Sub p q ∧ getO q d = some o := by
  unfold putP at h
  split at h
  · rename_i hc
    rw [Option.map_eq_some_iff] at h
    obtain ⟨q', hq, e⟩ := h
    obtain ⟨rfl, rfl⟩ := Prod.mk.inj e
    have hA := insP_asc hp.asc hq
    have hm := insP_mem hq
    refine ⟨⟨hA, fun x hx => ?_⟩, fun x hx => (hm x).2 (.inl hx), ?_⟩
    · rcases (hm x).1 hx with h1 | rfl
      · exact hp.ob x h1
      · exact ⟨o, ⟨hc, ho, he⟩, rfl⟩
    · unfold getO
      rw [(getP_iff hA).2 ((hm _).2 (.inr rfl)), Option.map_some, bstr_list, (oR_enc hc (by omega)).1]
  · cases h
theorem getO_mono {p q : List It} (hq : GoodP q) (hs : Sub p q) {d : Dg} {o : Ob} (h : getO p d = some o) : getO q d = some o := by
  unfold getO at h ⊢
  rw [Option.map_eq_some_iff] at h
  obtain ⟨s, hs', rfl⟩ := h
  rw [(getP_iff hq.asc).2 (hs _ (getP_mem hs'))]
  rfl

/-- The first name of a path, and what follows the slash behind it. -/
def firstL (l : List UInt8) : List UInt8 := l.takeWhile fun c => decide (c ≠ 47)
def restL (l : List UInt8) : Option (List UInt8) := match l.dropWhile fun c => decide (c ≠ 47) with | [] => none | _ :: t => some t
def firstB (s : ByteArray) : ByteArray := bstr (firstL s.data.toList)
def restB (s : ByteArray) : Option ByteArray := (restL s.data.toList).map bstr
theorem path_join (l : List UInt8) : l = (match restL l with | none => firstL l | some t => firstL l ++ 47 :: t) := by
  have h := List.takeWhile_append_dropWhile (p := fun c : UInt8 => decide (c ≠ 47)) (l := l)
  unfold restL firstL
  cases hd : l.dropWhile fun c => decide (c ≠ 47) with
  | nil => rw [hd, List.append_nil] at h; exact h.symm
  | cons c t =>
    have hc : c = 47 := by
      have := List.head_dropWhile_not (p := fun c : UInt8 => decide (c ≠ 47)) (l := l) (by rw [hd]; simp)
      simp only [hd, List.head_cons] at this
      simpa using this
    subst hc
    rw [hd] at h
    exact h.symm
theorem data_inj {a b : ByteArray} (h : a.data.toList = b.data.toList) : a = b := by
  cases a; cases b
  congr 1
  exact Array.toList_inj.1 h
theorem first_none {s : ByteArray} (h : restB s = none) : firstB s = s := by
  unfold restB at h
  have hr : restL s.data.toList = none := by simpa using h
  have this : s.data.toList = firstL s.data.toList := by
    have h1 := path_join s.data.toList
    rw [hr] at h1
    exact h1
  exact data_inj this.symm
theorem first_some {s t : ByteArray} (h : restB s = some t) : s.data.toList = (firstB s).data.toList ++ 47 :: t.data.toList := by
  unfold restB at h
  rw [Option.map_eq_some_iff] at h
  obtain ⟨r, hr, rfl⟩ := h
  have := path_join s.data.toList
  rw [hr] at this
  exact this

/-- The order of strings. -/
def ltB (a b : ByteArray) : Bool := Op.bytesLess a.data.toList b.data.toList
theorem less_irrefl (a : List UInt8) : Op.bytesLess a a = false := by
  have := less_total a a
  cases h : Op.bytesLess a a with
  | false => rfl
  | true => rw [h] at this; simp at this
theorem less_trans : ∀ {a b c : List UInt8}, Op.bytesLess a b = true → Op.bytesLess b c = true → Op.bytesLess a c = true
  | [], [], _, h, _ => by simp [Op.bytesLess] at h
  | [], _ :: _, [], _, h => by simp [Op.bytesLess] at h
  | [], _ :: _, _ :: _, _, _ => by simp [Op.bytesLess]
  | _ :: _, [], _, h, _ => by simp [Op.bytesLess] at h
  | _ :: _, _ :: _, [], _, h => by simp [Op.bytesLess] at h
  | x :: a, y :: b, z :: c, h, g => by
    unfold Op.bytesLess at h g ⊢
    simp only [Bool.or_eq_true, Bool.and_eq_true, decide_eq_true_eq, beq_iff_eq] at h g ⊢
    rcases h with h | ⟨rfl, h⟩
    · rcases g with g | ⟨rfl, _⟩
      · exact .inl (UInt8.lt_trans h g)
      · exact .inl h
    · rcases g with g | ⟨rfl, g⟩
      · exact .inl g
      · exact .inr ⟨rfl, less_trans h g⟩
theorem ltB_irrefl (a : ByteArray) : ltB a a = false := less_irrefl _
theorem ltB_trans {a b c : ByteArray} (h : ltB a b = true) (g : ltB b c = true) : ltB a c = true := less_trans h g
theorem ltB_tri {a b : ByteArray} (h : ltB a b = false) (g : a ≠ b) : ltB b a = true := by
  have := less_total a.data.toList b.data.toList
  unfold ltB at h ⊢
  rw [h] at this
  cases hb : Op.bytesLess b.data.toList a.data.toList with
  | true => rfl
  | false =>
    rw [hb] at this
    simp at this
    exact absurd (data_inj (by simpa using this.symm)) g
/-- Strictly ascending. -/
def AscS (l : List ByteArray) : Prop := l.Pairwise fun x y => ltB x y = true
def insN (s : ByteArray) : List ByteArray → List ByteArray
  | [] => [s]
  | a :: l => if s = a then a :: l else if ltB s a = true then s :: a :: l else a :: insN s l
theorem mem_insN {s x : ByteArray} : ∀ {l : List ByteArray}, x ∈ insN s l ↔ x = s ∨ x ∈ l
  | [] => by simp [insN]
  | a :: l => by
    unfold insN
    split
    · rename_i h; subst h; simp
    · split
      · simp
      · simp only [List.mem_cons, mem_insN (l := l)]
        constructor
        · rintro (h | h | h) <;> simp [h]
        · rintro (h | h | h) <;> simp [h]
theorem asc_insN {s : ByteArray} : ∀ {l : List ByteArray}, AscS l → AscS (insN s l)
  | [], _ => by simp [insN, AscS]
  | a :: l, h => by
    have h' := List.pairwise_cons.1 h
    unfold insN
    split
    · exact h
    · rename_i hne
      split
      · rename_i hlt
        exact List.pairwise_cons.2 ⟨fun y hy => by
          rcases List.mem_cons.1 hy with rfl | hy
          · exact hlt
          · exact ltB_trans hlt (h'.1 y hy), h⟩
      · rename_i hlt
        have hlt' : ltB a s = true := ltB_tri (by simpa using hlt) hne
        exact List.pairwise_cons.2 ⟨fun y hy => by
          rcases mem_insN.1 hy with rfl | hy
          · exact hlt'
          · exact h'.1 y hy, asc_insN h'.2⟩
theorem AscS.nodup {l : List ByteArray} (h : AscS l) : l.Nodup := List.Pairwise.imp (fun {a b} hab e => by subst e; rw [ltB_irrefl] at hab; cases hab) h
/-- The first names of files, in ascending order. -/
def namesP (l : List Fl) : List ByteArray := l.foldr (fun f acc => insN (firstB f.1) acc) []
theorem mem_namesP {l : List Fl} {n : ByteArray} : n ∈ namesP l ↔ ∃ f ∈ l, firstB f.1 = n := by
  induction l with
  | nil => simp [namesP]
  | cons a l ih =>
    show n ∈ insN (firstB a.1) (namesP l) ↔ _
    rw [mem_insN, ih]
    simp only [List.mem_cons, exists_eq_or_imp]
    exact or_congr eq_comm Iff.rfl
theorem asc_namesP (l : List Fl) : AscS (namesP l) := by
  induction l with
  | nil => exact List.Pairwise.nil
  | cons a l ih => exact asc_insN ih
/-- The files within a directory. -/
def subP (n : ByteArray) (l : List Fl) : List Fl := l.filterMap fun f => if firstB f.1 = n then (restB f.1).map fun r => (r, f.2) else none
def isFile (n : ByteArray) (f : Fl) : Bool := decide (f.1 = n) && decide (restB f.1 = none)
def fileP (n : ByteArray) (l : List Fl) : Option ByteArray := (l.find? (isFile n)).map (·.2)
/-- No path twice, none a directory of another one. -/
structure NF (l : List Fl) : Prop where
  nd : l.Pairwise fun f g => f.1 ≠ g.1
  nest : ∀ f ∈ l, ∀ g ∈ l, ∀ t, g.1.data.toList ≠ f.1.data.toList ++ 47 :: t
theorem sub_some {n : ByteArray} {f g : Fl} (h : (if firstB f.1 = n then (restB f.1).map fun r => (r, f.2) else none) = some g) : firstB f.1 = n ∧ restB f.1 = some g.1 ∧ f.2 = g.2 := by
  split at h
  · rename_i h1
    rw [Option.map_eq_some_iff] at h
    obtain ⟨r, hr, rfl⟩ := h
    exact ⟨h1, hr, rfl⟩
  · cases h
theorem NF.sub {l : List Fl} (h : NF l) (n : ByteArray) : NF (subP n l) := by
  constructor
  · refine List.Pairwise.filterMap _ ?_ h.nd
    intro f g hne x hx y hy e
    obtain ⟨a1, a2, _⟩ := sub_some hx
    obtain ⟨b1, b2, _⟩ := sub_some hy
    apply hne
    apply data_inj
    rw [first_some a2, first_some b2, a1, b1, e]
  · intro f hf g hg t e
    obtain ⟨f', hf', e1⟩ := List.mem_filterMap.1 hf
    obtain ⟨g', hg', e2⟩ := List.mem_filterMap.1 hg
    obtain ⟨a1, a2, _⟩ := sub_some e1
    obtain ⟨b1, b2, _⟩ := sub_some e2
    refine h.nest f' hf' g' hg' t ?_
    rw [first_some a2, first_some b2, a1, b1, e]
    simp
/-- Files sorted into groups. -/
theorem group_perm {α β : Type} [DecidableEq β] (key : α → β) : ∀ (ns : List β) (l : List α), ns.Nodup → (∀ x ∈ l, key x ∈ ns) → l.Perm (ns.flatMap fun n => l.filter fun x => decide (key x = n))
  | [], l, _, h => by
    cases l with
    | nil => exact List.Perm.refl _
    | cons a l => exact absurd (h a (List.mem_cons_self ..)) (by simp)
  | n :: ns, l, hn, h => by
    have hn' := List.nodup_cons.1 hn
    have ih := group_perm key ns (l.filter fun x => !decide (key x = n)) hn'.2 (fun x hx => by
      obtain ⟨h1, h2⟩ := List.mem_filter.1 hx
      rcases List.mem_cons.1 (h x h1) with e | e
      · simp [e] at h2
      · exact e)
    have e : (ns.flatMap fun m => (l.filter fun x => !decide (key x = n)).filter fun x => decide (key x = m)) = ns.flatMap fun m => l.filter fun x => decide (key x = m) := by
      rw [List.flatMap_def, List.flatMap_def]
      congr 1
      apply List.map_congr_left
      intro m hm
      rw [List.filter_filter]
      congr 1
      funext x
      by_cases hx : key x = m
      · have : ¬ key x = n := fun e => hn'.1 (by rw [← e, hx]; exact hm)
        simp [hx]
        intro e; exact this (hx.trans e)
      · simp [hx]
    rw [e] at ih
    rw [List.flatMap_cons]
    exact (List.filter_append_perm (fun x => decide (key x = n)) l).symm.trans (List.Perm.append_left _ ih)
def addP (pre : List UInt8) (f : Fl) : Fl := (bstr (pre ++ f.1.data.toList), f.2)
/-- The group of a file has that file alone. -/
theorem group_file {l : List Fl} (h : NF l) {n data : ByteArray} (hf : fileP n l = some data) : (l.filter fun f => decide (firstB f.1 = n)) = [(n, data)] := by
  unfold fileP at hf
  rw [Option.map_eq_some_iff] at hf
  obtain ⟨f, hf, rfl⟩ := hf
  have hm := List.mem_of_find?_eq_some hf
  have hp := List.find?_some hf
  unfold isFile at hp
  rw [Bool.and_eq_true, decide_eq_true_eq, decide_eq_true_eq] at hp
  obtain ⟨rfl, hr⟩ := hp
  have hff : firstB f.1 = f.1 := first_none hr
  have hall : ∀ g ∈ l.filter (fun g => decide (firstB g.1 = f.1)), g.1 = f.1 := fun g hg => by
    obtain ⟨h1, h2⟩ := List.mem_filter.1 hg
    have h2 : firstB g.1 = f.1 := by simpa using h2
    cases hg' : restB g.1 with
    | none => rw [← h2]; exact (first_none hg').symm
    | some t => exact absurd (by rw [first_some hg', h2]) (h.nest f hm g h1 t.data.toList)
  have hnd := h.nd.sublist (List.filter_sublist (p := fun g : Fl => decide (firstB g.1 = f.1)))
  have hmf : f ∈ l.filter (fun g => decide (firstB g.1 = f.1)) := List.mem_filter.2 ⟨hm, by simpa using hff⟩
  generalize l.filter (fun g => decide (firstB g.1 = f.1)) = L at *
  match L, hall, hnd, hmf with
  | [], _, _, hx => cases hx
  | [a], _, _, hx => rw [List.mem_singleton.1 hx]
  | a :: b :: r, hall, hnd, _ => exact absurd ((hall a (by simp)).trans (hall b (by simp)).symm) ((List.pairwise_cons.1 hnd).1 b (by simp))
/-- The group of a directory has the files within it. -/
theorem group_dir {l : List Fl} {n : ByteArray} (hf : fileP n l = none) : (l.filter fun f => decide (firstB f.1 = n)) = (subP n l).map (addP (n.data.toList ++ [47])) := by
  unfold fileP at hf
  have hno : ∀ f ∈ l, isFile n f = false := by
    intro f hm
    have : l.find? (isFile n) = none := by simpa using hf
    simpa using List.find?_eq_none.1 this f hm
  clear hf
  induction l with
  | nil => rfl
  | cons a l ih =>
    have ih := ih fun f hm => hno f (List.mem_cons_of_mem _ hm)
    have ha := hno a (List.mem_cons_self ..)
    by_cases h1 : firstB a.1 = n
    · cases hr : restB a.1 with
      | none =>
        have := first_none hr
        unfold isFile at ha
        rw [hr, ← this, h1] at ha
        simp at ha
      | some t =>
        have e := first_some hr
        rw [h1] at e
        have e2 : subP n (a :: l) = (t, a.2) :: subP n l := by
          unfold subP
          rw [List.filterMap_cons]
          simp [h1, hr]
        rw [e2, List.filter_cons_of_pos (by simpa using h1), List.map_cons, ih]
        congr 1
        unfold addP
        refine Prod.ext (data_inj ?_) rfl
        rw [e]
        simp [bstr]
    · have e2 : subP n (a :: l) = subP n l := by
        unfold subP
        rw [List.filterMap_cons]
        simp [h1]
      rw [e2, List.filter_cons_of_neg (by simpa using h1), ih]

/-- Storing the files of the names. -/
def goP (st : List It → List Fl → Option (List It × Dg)) (l : List Fl) : List It → List ByteArray → Option (List It × List Ent)
  | p, [] => some (p, [])
  | p, n :: ns =>
    match (match fileP n l with | some data => (putP p (obB data)).map fun x => (x, false) | none => (st p (subP n l)).map fun x => (x, true)) with
    | none => none
    | some ((q, d), dir) => (goP st l q ns).map fun x => (x.1, (n, dir, d) :: x.2)
def storeP : Nat → List It → List Fl → Option (List It × Dg)
  | 0, _, _ => none
  | k + 1, p, l => (goP (storeP k) l p (namesP l)).bind fun x => putP x.1 (obE x.2)
/-- Loading entries. -/
def goL (ld : Dg → List UInt8 → Option (List Fl)) (p : List It) (pre : List UInt8) : List Ent → Option (List Fl)
  | [] => some []
  | e :: es =>
    if 100 < pre.length + e.1.size then none else
    (if e.2.1 = true then ld e.2.2 (pre ++ e.1.data.toList ++ [47]) else (getO p e.2.2).bind fun o => if o.kind = 1 then some [(bstr (pre ++ e.1.data.toList), o.data)] else none).bind fun a => (goL ld p pre es).map fun b => a ++ b
def loadP (p : List It) : Nat → Dg → List UInt8 → Option (List Fl)
  | 0, _, _ => none
  | k + 1, d, pre => (getO p d).bind fun o => if o.kind = 2 ∧ (o.ents ≠ [] ∨ pre = []) then goL (loadP p k) p pre o.ents else none
theorem goL_mono {p q : List It} (hq : GoodP q) (hs : Sub p q) {ld ld' : Dg → List UInt8 → Option (List Fl)} (hl : ∀ d pre L, ld d pre = some L → ld' d pre = some L) {pre : List UInt8} :
    ∀ {es : List Ent} {L : List Fl}, goL ld p pre es = some L → goL ld' q pre es = some L
  | [], L, h => h
  | e :: es, L, h => by
    unfold goL at h ⊢
    split at h
    · cases h
    · rename_i h100
      rw [if_neg h100]
      rw [Option.bind_eq_some_iff] at h
      obtain ⟨a, ha, h⟩ := h
      rw [Option.map_eq_some_iff] at h
      obtain ⟨b, hb, rfl⟩ := h
      have hb' := goL_mono hq hs hl hb
      rw [Option.bind_eq_some_iff]
      refine ⟨a, ?_, by rw [hb']; rfl⟩
      split at ha
      · rename_i hd
        rw [if_pos hd]
        exact hl _ _ _ ha
      · rename_i hd
        rw [if_neg hd]
        rw [Option.bind_eq_some_iff] at ha ⊢
        obtain ⟨o, ho, ha⟩ := ha
        exact ⟨o, getO_mono hq hs ho, ha⟩
theorem loadP_mono {p q : List It} (hq : GoodP q) (hs : Sub p q) : ∀ {k : Nat} (d : Dg) (pre : List UInt8) (L : List Fl), loadP p k d pre = some L → loadP q k d pre = some L
  | 0, _, _, _, h => by cases h
  | k + 1, d, pre, L, h => by
    unfold loadP at h ⊢
    rw [Option.bind_eq_some_iff] at h ⊢
    obtain ⟨o, ho, h⟩ := h
    refine ⟨o, getO_mono hq hs ho, ?_⟩
    split at h
    · rename_i hc
      rw [if_pos hc]
      exact goL_mono hq hs (fun d pre L => loadP_mono hq hs d pre L) h
    · cases h
end Go.Proofs.YtphjillihapbfaaGreatDoor

namespace Go.Proofs.YtphjillihapbfaaGreatDoor
open Go.RowKit

theorem tree_len {es : List Ent} (h : checkO (obE es) = 0) : (encL (obE es)).length ≤ 60000 := by
  have h1 := (checkO_ents h rfl).1
  have h2 := checkO_names h rfl
  have h3 := flat_len (f := entL) (l := es) (m := 52) fun e he => entL_len (h2 e he)
  have e : encL (obE es) = putI 2 ++ (putI es.length ++ (es.take es.length).flatMap entL) := rfl
  rw [e, List.take_length, List.length_append, List.length_append]
  have h4 := oputI_len 2
  have h5 := oputI_len es.length
  have h1 : es.length ≤ 200 := h1
  omega
theorem blob_len {s : ByteArray} (h : s.size ≤ 200) : (encL (obB s)).length ≤ 60000 := by
  have e : encL (obB s) = putI 1 ++ putX s.data.toList := rfl
  rw [e, List.length_append]
  have h4 := oputI_len 1
  have h5 := oputX_len s.data.toList
  have h6 : s.data.toList.length = s.size := rfl
  omega
theorem addP_addP (a b : List UInt8) (f : Fl) : addP a (addP b f) = addP (a ++ b) f := by
  unfold addP
  refine Prod.ext (data_inj ?_) rfl
  simp [bstr]
/-- What a digest's tree has. -/
def LD (q : List It) (k : Nat) (d : Dg) (l : List Fl) : Prop := ∀ pre : List UInt8, (∀ f ∈ l, pre.length + f.1.size ≤ 100) → (l ≠ [] ∨ pre = []) → ∃ L, loadP q k d pre = some L ∧ L.Perm (l.map (addP pre))
theorem LD.mono {p q : List It} {k : Nat} {d : Dg} {l : List Fl} (h : LD p k d l) (hq : GoodP q) (hs : Sub p q) : LD q k d l := fun pre h1 h2 => by
  obtain ⟨L, e, g⟩ := h pre h1 h2
  exact ⟨L, loadP_mono hq hs _ _ _ e, g⟩
theorem find_mem {l : List Fl} {n data : ByteArray} (h : fileP n l = some data) : (n, data) ∈ l := by
  unfold fileP at h
  rw [Option.map_eq_some_iff] at h
  obtain ⟨f, hf, rfl⟩ := h
  have hm := List.mem_of_find?_eq_some hf
  have hp := List.find?_some hf
  unfold isFile at hp
  rw [Bool.and_eq_true, decide_eq_true_eq] at hp
  rw [← hp.1]
  exact hm
theorem sub_mem {n : ByteArray} {l : List Fl} {g : Fl} (h : g ∈ subP n l) : ∃ f ∈ l, f.2 = g.2 ∧ f.1.data.toList = n.data.toList ++ 47 :: g.1.data.toList := by
  obtain ⟨f, hf, e⟩ := List.mem_filterMap.1 h
  obtain ⟨a1, a2, a3⟩ := sub_some e
  exact ⟨f, hf, a3, by rw [first_some a2, a1]⟩
theorem size_list (s : ByteArray) : s.data.toList.length = s.size := rfl
theorem goP_load {k : Nat} {st : List It → List Fl → Option (List It × Dg)} (hst : ∀ p l q d, GoodP p → NF l → (∀ f ∈ l, f.2.size ≤ 200) → st p l = some (q, d) → GoodP q ∧ Sub p q ∧ LD q k d l) {l : List Fl} (hl : NF l) (hz : ∀ f ∈ l, f.2.size ≤ 200) :
    ∀ {ns : List ByteArray} {p q : List It} {es : List Ent}, GoodP p → (∀ n ∈ ns, ∃ f ∈ l, firstB f.1 = n) → goP st l p ns = some (q, es) →
      GoodP q ∧ Sub p q ∧ es.length = ns.length ∧ ∀ r, GoodP r → Sub q r → ∀ pre : List UInt8, (∀ f ∈ l, pre.length + f.1.size ≤ 100) → ∃ L, goL (loadP r k) r pre es = some L ∧ L.Perm (ns.flatMap fun n => (l.filter fun f => decide (firstB f.1 = n)).map (addP pre))
  | [], p, q, es, hp, _, h => by
    unfold goP at h
    obtain ⟨rfl, rfl⟩ := Prod.mk.inj (Option.some.inj h)
    exact ⟨hp, Sub.refl _, rfl, fun r _ _ pre _ => ⟨[], rfl, List.Perm.refl _⟩⟩
  | n :: ns, p, q, es, hp, hn, h => by
    unfold goP at h
    cases hf : fileP n l with
    | some data =>
      rw [hf] at h
      simp only at h
      have hm := find_mem hf
      cases hpu : putP p (obB data) with
      | none => rw [hpu] at h; simp at h
      | some x =>
        obtain ⟨q1, d⟩ := x
        rw [hpu] at h
        simp only [Option.map_some] at h
        rw [Option.map_eq_some_iff] at h
        obtain ⟨⟨q', es'⟩, h, e⟩ := h
        obtain ⟨rfl, rfl⟩ := Prod.mk.inj e
        have hd := hz _ hm
        obtain ⟨g1, g2, g3⟩ := putP_good hp (show (obB data).data.size ≤ 60000 from Nat.le_trans hd (by omega)) (blob_len hd) hpu
        obtain ⟨i1, i2, i3, i4⟩ := goP_load hst hl hz g1 (fun m hm => hn m (List.mem_cons_of_mem _ hm)) h
        refine ⟨i1, g2.trans i2, by simp [i3], fun r hr hs pre hpre => ?_⟩
        obtain ⟨L, e1, e2⟩ := i4 r hr hs pre hpre
        refine ⟨[(bstr (pre ++ n.data.toList), data)] ++ L, ?_, ?_⟩
        · unfold goL
          have h100 := hpre _ hm
          rw [if_neg (by simp only; simp only at h100; omega)]
          simp only [Bool.false_eq_true, if_false]
          rw [getO_mono hr (i2.trans hs) g3, Option.bind_some, if_pos (show (obB data).kind = 1 from rfl), Option.bind_some, e1, Option.map_some]
          rfl
        · rw [List.flatMap_cons, group_file hl hf]
          exact List.Perm.append_left _ e2
    | none =>
      rw [hf] at h
      simp only at h
      cases hpu : st p (subP n l) with
      | none => rw [hpu] at h; simp at h
      | some x =>
        obtain ⟨q1, d⟩ := x
        rw [hpu] at h
        simp only [Option.map_some] at h
        rw [Option.map_eq_some_iff] at h
        obtain ⟨⟨q', es'⟩, h, e⟩ := h
        obtain ⟨rfl, rfl⟩ := Prod.mk.inj e
        obtain ⟨g1, g2, g3⟩ := hst p (subP n l) q1 d hp (hl.sub n) (fun f hf' => by obtain ⟨f', hm, e, _⟩ := sub_mem hf'; rw [← e]; exact hz _ hm) hpu
        obtain ⟨i1, i2, i3, i4⟩ := goP_load hst hl hz g1 (fun m hm => hn m (List.mem_cons_of_mem _ hm)) h
        refine ⟨i1, g2.trans i2, by simp [i3], fun r hr hs pre hpre => ?_⟩
        obtain ⟨L, e1, e2⟩ := i4 r hr hs pre hpre
        have hgd := group_dir (l := l) hf
        have hne : subP n l ≠ [] := by
          intro e0
          rw [e0, List.map_nil] at hgd
          obtain ⟨f, hm, hff⟩ := hn n (List.mem_cons_self ..)
          have : f ∈ l.filter fun f => decide (firstB f.1 = n) := List.mem_filter.2 ⟨hm, by simpa using hff⟩
          rw [hgd] at this
          cases this
        have hsz : ∀ f ∈ subP n l, (pre ++ n.data.toList ++ [47]).length + f.1.size ≤ 100 := fun f hf' => by
          obtain ⟨f', hm, _, e⟩ := sub_mem hf'
          have h1 := hpre f' hm
          have h2 := congrArg List.length e
          rw [List.length_append, List.length_cons, size_list, size_list, size_list] at h2
          rw [List.length_append, List.length_append, size_list]
          simp only [List.length_cons, List.length_nil]
          omega
        have hn100 : ¬ 100 < pre.length + n.size := by
          obtain ⟨f, hf'⟩ := List.exists_mem_of_ne_nil _ hne
          have := hsz f hf'
          rw [List.length_append, List.length_append, size_list] at this
          omega
        obtain ⟨L1, k1, k2⟩ := (g3.mono hr (i2.trans hs)) (pre ++ n.data.toList ++ [47]) hsz (.inl hne)
        refine ⟨L1 ++ L, ?_, ?_⟩
        · unfold goL
          rw [if_neg hn100]
          simp only [if_true]
          rw [k1, Option.bind_some, e1, Option.map_some]
        · rw [List.flatMap_cons, hgd, List.map_map]
          refine List.Perm.append ?_ e2
          have : (addP pre ∘ addP (n.data.toList ++ [47])) = addP (pre ++ n.data.toList ++ [47]) := by
            funext f
            show addP pre (addP _ f) = _
            rw [addP_addP, List.append_assoc]
          rw [this]
          exact k2
theorem store_load : ∀ {k : Nat} {p : List It} {l : List Fl} {q : List It} {d : Dg}, GoodP p → NF l → (∀ f ∈ l, f.2.size ≤ 200) → storeP k p l = some (q, d) → GoodP q ∧ Sub p q ∧ LD q k d l
  | 0, _, _, _, _, _, _, _, h => by cases h
  | k + 1, p, l, q, d, hp, hl, hz, h => by
    unfold storeP at h
    rw [Option.bind_eq_some_iff] at h
    obtain ⟨⟨q', es⟩, h1, h2⟩ := h
    obtain ⟨i1, i2, i3, i4⟩ := goP_load (k := k) (fun p l q d a b c e => store_load a b c e) hl hz hp (fun n hn => mem_namesP.1 hn) h1
    have hc : checkO (obE es) = 0 := by
      unfold putP at h2
      split at h2
      · assumption
      · cases h2
    obtain ⟨g1, g2, g3⟩ := putP_good i1 (show (obE es).data.size ≤ 60000 from Nat.zero_le _) (tree_len hc) h2
    refine ⟨g1, i2.trans g2, fun pre hpre hne => ?_⟩
    obtain ⟨L, e1, e2⟩ := i4 q g1 g2 pre hpre
    have hes : es ≠ [] ∨ pre = [] := by
      rcases hne with h0 | h0
      · left
        intro e
        rw [e] at i3
        obtain ⟨f, hf⟩ := List.exists_mem_of_ne_nil _ h0
        have := mem_namesP.2 ⟨f, hf, rfl⟩
        rw [List.length_eq_zero_iff.1 i3.symm] at this
        cases this
      · exact .inr h0
    refine ⟨L, ?_, e2.trans ?_⟩
    · unfold loadP
      rw [g3, Option.bind_some, if_pos ⟨rfl, hes⟩]
      exact e1
    · have := (group_perm (fun f : Fl => firstB f.1) (namesP l) l (asc_namesP l).nodup (fun x hx => mem_namesP.2 ⟨x, hx, rfl⟩)).map (addP pre)
      rw [List.map_flatMap] at this
      exact this.symm
end Go.Proofs.YtphjillihapbfaaGreatDoor

namespace Go.Proofs.YtphjillihapbfaaGreatDoor
open Go.RowKit

/-- Files in strictly ascending order of their paths. -/
def AscF (l : List Fl) : Prop := l.Pairwise fun f g => ltB f.1 g.1 = true
theorem leB_false {a b : ByteArray} (h : leB a b = false) : ltB b a = true := by
  rw [← ge_le, ByteArray.toList_eq, ByteArray.toList_eq] at h
  unfold ltB
  simpa using h
theorem treeGo_zero : ∀ {l : List Fl} {q : Option ByteArray}, treeGo q l = 0 → (∀ f ∈ l, pathB f.1 = true) ∧ AscF l ∧ ∀ s, q = some s → ∀ f ∈ l, ltB s f.1 = true
  | [], _, _ => ⟨(fun f hf => by cases hf), List.Pairwise.nil, fun _ _ f hf => by cases hf⟩
  | a :: l, q, h => by
    cases hp : pathB a.1 with
    | false => rw [tree_name hp] at h; cases h
    | true =>
      have ho : ∀ s, q = some s → leB a.1 s = false := by
        intro s hs
        subst hs
        cases hl : leB a.1 s with
        | false => rfl
        | true => rw [tree_order hp hl] at h; cases h
      rw [tree_next hp ho] at h
      obtain ⟨h1, h2, h3⟩ := treeGo_zero h
      refine ⟨fun f hf => ?_, List.pairwise_cons.2 ⟨h3 _ rfl, h2⟩, fun s hs f hf => ?_⟩
      · rcases List.mem_cons.1 hf with rfl | hf
        · exact hp
        · exact h1 f hf
      · have h4 := leB_false (ho s hs)
        rcases List.mem_cons.1 hf with rfl | hf
        · exact h4
        · exact ltB_trans h4 (h3 _ rfl f hf)
theorem pathB_size {s : ByteArray} (h : pathB s = true) : s.size ≤ 100 := by
  unfold pathB at h
  rw [Bool.and_eq_true, decide_eq_true_eq] at h
  exact h.1
structure Valid (l : List Fl) : Prop where
  len : l.length ≤ 200
  path : ∀ f ∈ l, pathB f.1 = true
  asc : AscF l
  nf : NF l
theorem treeC_zero {l : List Fl} (h : treeC l = 0) : Valid l := by
  unfold treeC at h
  split at h
  · cases h
  · rename_i h200
    split at h
    · rename_i hg
      obtain ⟨h1, h2, _⟩ := treeGo_zero hg
      split at h
      · cases h
      · rename_i hn
        refine ⟨by omega, h1, h2, ⟨List.Pairwise.imp (fun {a b} hab e => by rw [e, ltB_irrefl] at hab; cases hab) h2, fun f hf g hg t e => hn ?_⟩⟩
        rw [List.any_eq_true]
        refine ⟨g, hg, ?_⟩
        unfold nestF
        rw [List.any_eq_true]
        have hl := congrArg List.length e
        rw [List.length_append, List.length_cons, size_list, size_list] at hl
        refine ⟨f.1.size, by rw [List.mem_range]; omega, ?_⟩
        unfold nestI
        rw [Bool.and_eq_true]
        constructor
        · rw [decide_eq_true_eq, e, List.getElem?_append_right (by rw [size_list]; omega), size_list]
          simp
        · have hx : g.1.extract 0 f.1.size = f.1 := by
            apply data_inj
            rw [show (g.1.extract 0 f.1.size).data.toList = g.1.data.toList.take f.1.size by simp [ByteArray.data_extract], e, ← size_list]
            simp
          rw [hx]
          exact List.any_eq_true.2 ⟨f.1, List.mem_map.2 ⟨f, hf, rfl⟩, by simp⟩
    · rename_i hg
      exact absurd h hg
/-- Two lists in strictly ascending order with the same members are one. -/
theorem asc_unique {α : Type} {r : α → α → Bool} (hi : ∀ a, r a a = false) (ht : ∀ {a b c}, r a b = true → r b c = true → r a c = true) : ∀ {l m : List α}, l.Pairwise (fun x y => r x y = true) → m.Pairwise (fun x y => r x y = true) → (∀ x, x ∈ l ↔ x ∈ m) → l = m
  | [], [], _, _, _ => rfl
  | [], b :: m, _, _, h => by have := (h b).2 (by simp); cases this
  | a :: l, [], _, _, h => by have := (h a).1 (by simp); cases this
  | a :: l, b :: m, hl, hm, h => by
    rw [List.pairwise_cons] at hl hm
    have e : a = b := by
      rcases List.mem_cons.1 ((h a).1 (by simp)) with e | h1
      · exact e
      · rcases List.mem_cons.1 ((h b).2 (by simp)) with e | h2
        · exact e.symm
        · have := ht (hm.1 a h1) (hl.1 b h2)
          rw [hi] at this
          cases this
    subst e
    congr 1
    refine asc_unique hi ht hl.2 hm.2 fun x => ⟨fun hx => ?_, fun hx => ?_⟩
    · rcases List.mem_cons.1 ((h x).1 (List.mem_cons_of_mem _ hx)) with rfl | h1
      · have := hl.1 _ hx
        rw [hi] at this
        cases this
      · exact h1
    · rcases List.mem_cons.1 ((h x).2 (List.mem_cons_of_mem _ hx)) with rfl | h1
      · have := hm.1 _ hx
        rw [hi] at this
        cases this
      · exact h1
theorem ascF_unique {l m : List Fl} (hl : AscF l) (hm : AscF m) (h : ∀ x, x ∈ l ↔ x ∈ m) : l = m := asc_unique (r := fun f g : Fl => ltB f.1 g.1) (fun _ => ltB_irrefl _) (fun h g => ltB_trans h g) hl hm h
/-- The data of a path determine the files. -/
theorem find_asc {l : List Fl} (hl : AscF l) {p d : ByteArray} : findF l p = some d ↔ (p, d) ∈ l := by
  unfold findF
  induction l with
  | nil => simp
  | cons a l ih =>
    rw [AscF, List.pairwise_cons] at hl
    have ih := ih hl.2
    by_cases h : a.1 = p
    · simp only [List.find?_cons, h, decide_true, Option.map_some, Option.some.injEq, List.mem_cons]
      constructor
      · intro e
        exact .inl (Prod.ext h.symm e.symm)
      · rintro (e | hm)
        · rw [← e]
        · have := hl.1 _ hm
          rw [h, ltB_irrefl] at this
          cases this
    · simp only [List.find?_cons, h, decide_false, List.mem_cons]
      rw [ih]
      constructor
      · exact .inr
      · rintro (e | hm)
        · exact absurd (by rw [← e]) h
        · exact hm
theorem ascF_find {l m : List Fl} (hl : AscF l) (hm : AscF m) (h : ∀ p, findF l p = findF m p) : l = m :=
  ascF_unique hl hm fun x => by rw [show x = (x.1, x.2) from rfl, ← find_asc hl, ← find_asc hm, h]

/-- A change: path, what was there, what is there. -/
abbrev Ch := ByteArray × Option ByteArray × Option ByteArray
/-- c leads from a to b. -/
structure Chg (a b : List Fl) (c : List Ch) : Prop where
  asc : c.Pairwise fun x y => ltB x.1 y.1 = true
  mem : ∀ x ∈ c, pathB x.1 = true ∧ x.2.1 = findF a x.1 ∧ x.2.2 = findF b x.1 ∧ x.2.1 ≠ x.2.2
  all : ∀ p, findF a p ≠ findF b p → ∃ x ∈ c, x.1 = p
def oppC (x : Ch) : Ch := (x.1, x.2.2, x.2.1)
theorem Chg.opp {a b : List Fl} {c : List Ch} (h : Chg a b c) : Chg b a (c.map oppC) := by
  refine ⟨?_, fun x hx => ?_, fun p hp => ?_⟩
  · rw [List.pairwise_map]
    exact h.asc
  · obtain ⟨y, hy, rfl⟩ := List.mem_map.1 hx
    obtain ⟨h1, h2, h3, h4⟩ := h.mem y hy
    exact ⟨h1, h3, h2, fun e => h4 e.symm⟩
  · obtain ⟨x, hx, rfl⟩ := h.all p (fun e => hp e.symm)
    exact ⟨oppC x, List.mem_map.2 ⟨x, hx, rfl⟩, rfl⟩
end Go.Proofs.YtphjillihapbfaaGreatDoor
