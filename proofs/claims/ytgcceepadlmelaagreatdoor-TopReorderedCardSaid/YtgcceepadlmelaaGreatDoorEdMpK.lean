import Derived.Test.YtgcceepadlmelaaGreatDoorEdVld
namespace Go.Proofs.YtgcceepadlmelaaGreatDoor
section
set_option linter.unusedSectionVars false
variable {α β κ : Type} [DecidableEq κ] {f : α → β} {k : α → κ} {k' : β → κ} {lt : κ → κ → Bool}
theorem asc_mapK (hk : ∀ a, k' (f a) = k a) {l : List α} : AscK k' lt (l.map f) ↔ AscK k lt l := by
 unfold AscK
 rw [List.pairwise_map]
 simp only [hk]
theorem fnd_mapK (hk : ∀ a, k' (f a) = k a) {l : List α} {y : κ} : fnd k' (l.map f) y = (fnd k l y).map f := by
 unfold fnd
 rw [List.find?_map]
 congr 2
 funext a
 simp [hk]
theorem idx_mapK (hk : ∀ a, k' (f a) = k a) {l : List α} {y : κ} : idxK k' lt (l.map f) y = idxK k lt l y := by
 unfold idxK
 rw [List.takeWhile_map, List.length_map]
 congr 2
 funext a
 simp [hk]
theorem ins_mapK (hk : ∀ a, k' (f a) = k a) {l : List α} {x : α} : insK k' lt (l.map f) (f x) = (insK k lt l x).map f := by
 unfold insK
 rw [idx_mapK hk, hk]
 simp
end
theorem mx_lab (m : Mw) : m.x.label = m.label := rfl
theorem dx_id (d : Dw) : d.x.id = d.id := rfl
def VdX (T : List Mx) : Prop := ∀ m ∈ T, ∀ d ∈ m.decls, declX m.label d
def LenX (T : List Mx) (k : Nat) : Prop := T.length ≤ k ∧ ∀ m ∈ T, m.uses.length ≤ k ∧ m.decls.length ≤ k
theorem mem_insK {α κ : Type} {k : α → κ} {lt : κ → κ → Bool} {l : List α} {x y : α} (h : y ∈ insK k lt l x) : y = x ∨ y ∈ l := by
 unfold insK at h
 rcases List.mem_append.1 h with h | h
 ·exact .inr (List.mem_of_mem_take h)
 ·rcases List.mem_cons.1 h with h | h
  ·exact .inl h
  ·exact .inr (List.mem_of_mem_drop h)
theorem mem_era {α : Type} {l : List α} {i : Nat} {y : α} (h : y ∈ l.take i ++ l.drop (i + 1)) : y ∈ l := by
 rcases List.mem_append.1 h with h | h
 ·exact List.mem_of_mem_take h
 ·exact List.mem_of_mem_drop h
theorem era_len {α : Type} {l : List α} {i : Nat} : (l.take i ++ l.drop (i + 1)).length ≤ l.length := by
 rw [List.length_append, List.length_take, List.length_drop]
 omega
theorem declX_new {l : ByteArray} {d : Dx} (h : declX l d) {d' : Dx} (h1 : d'.id = d.id) (h2 : kindV d'.kind) (h3 : namesE d'.names = 0) (h4 : bodyX l d'.body) : declX l d' := by
 obtain ⟨b, hb, hbw⟩ := h4
 refine ⟨⟨d'.id, d'.kind, d'.pub, none, d'.names, 0, d'.doubt, b⟩, ?_, ?_⟩
 ·unfold Dw.x
  simp only
  rw [hb]
 ·exact ⟨by rw [show ({ id := d'.id, kind := d'.kind, pub := d'.pub, na := none, names := d'.names, ncap := 0, doubt := d'.doubt, body := b } : Dw).id = d.id from h1]; exact declX_id h, h2, h3, hbw⟩
theorem oneD_vd {l : ByteArray} {ds : List Dx} (h : ∀ d ∈ ds, declX l d) {i : Int} {a : DA} (ha : a.vld l i) : ∀ d ∈ oneD ds i a, declX l d := by
 have hs : ∀ {d d' : Dx}, fndD ds i = some d → declX l d' → ∀ x ∈ ds.set (idxK Dx.id ltI ds i) d', declX l x := fun {d d'} _ h2 x hx => by
  rcases List.mem_or_eq_of_mem_set hx with hx | rfl
  ·exact h x hx
  ·exact h2
 intro d hd
 cases a with
 | add x =>
  rcases mem_insK (show d ∈ insK Dx.id ltI ds x from hd) with rfl | h2
  ·exact ha.1
  ·exact h d h2
 | rem x => exact h d (mem_era (show d ∈ ds.take _ ++ ds.drop _ from hd))
 | nam o n =>
  simp only [oneD] at hd
  cases e : fndD ds i with
  | none => rw [e] at hd; exact h d hd
  | some x =>
   rw [e] at hd
   have hx := h x (fnd_key e).2
   obtain ⟨p1, p2, p3, p4⟩ := declX_parts hx
   exact hs e (declX_new hx (d' := { x with names := n }) rfl p2 ha.2.2.1 p4) d hd
 | bod o n =>
  simp only [oneD] at hd
  cases e : fndD ds i with
  | none => rw [e] at hd; exact h d hd
  | some x =>
   rw [e] at hd
   have hx := h x (fnd_key e).2
   obtain ⟨p1, p2, p3, p4⟩ := declX_parts hx
   exact hs e (declX_new hx (d' := { x with body := n }) rfl p2 p3 ha.2.2.1) d hd
 | hed o n =>
  simp only [oneD] at hd
  cases e : fndD ds i with
  | none => rw [e] at hd; exact h d hd
  | some x =>
   rw [e] at hd
   have hx := h x (fnd_key e).2
   obtain ⟨p1, p2, p3, p4⟩ := declX_parts hx
   exact hs e (declX_new hx (d' := { x with kind := n.1, pub := n.2.1, doubt := n.2.2 }) rfl ha.2.2.1 p3 p4) d hd
theorem oneE_vd {T : List Mx} (h : VdX T) {E : Ed} (hE : E.vld) : VdX (oneE T E) := by
 obtain ⟨lb, a⟩ := E
 intro m hm d hd
 cases a with
 | add =>
  rcases mem_insK (show m ∈ insK Mx.label ltL T ⟨lb, [], []⟩ from hm) with rfl | h2
  ·cases hd
  ·exact h m h2 d hd
 | rem => exact h m (mem_era (show m ∈ T.take _ ++ T.drop _ from hm)) d hd
 | mod a =>
  simp only [oneE] at hm
  cases e : fndM T lb with
  | none => rw [e] at hm; exact h m hm d hd
  | some x =>
   rw [e] at hm
   obtain ⟨hl, hx⟩ := fnd_key e
   rcases List.mem_or_eq_of_mem_set hm with hm | rfl
   ·exact h m hm d hd
   ·cases a with
    | use u n => exact h x hx d hd
    | dec i a =>
     have h2 := hE.2
     rw [← hl] at h2
     exact oneD_vd (h x hx) (i := i) (a := a) h2 d hd
theorem oneE_len {T : List Mx} {k : Nat} (h : LenX T k) (E : Ed) : LenX (oneE T E) (k + 1) := by
 obtain ⟨lb, a⟩ := E
 obtain ⟨h1, h2⟩ := h
 have h2' : ∀ m ∈ T, m.uses.length ≤ k + 1 ∧ m.decls.length ≤ k + 1 := fun m hm => ⟨Nat.le_succ_of_le (h2 m hm).1, Nat.le_succ_of_le (h2 m hm).2⟩
 cases a with
 | add =>
  refine ⟨by show (insK Mx.label ltL T ⟨lb, [], []⟩).length ≤ _; rw [insK_len]; omega, fun m hm => ?_⟩
  rcases mem_insK (show m ∈ insK Mx.label ltL T ⟨lb, [], []⟩ from hm) with rfl | h3
  ·simp
  ·exact h2' m h3
 | rem => exact ⟨Nat.le_trans era_len (by omega), fun m hm => h2' m (mem_era (show m ∈ T.take _ ++ T.drop _ from hm))⟩
 | mod a =>
  simp only [oneE]
  cases e : fndM T lb with
  | none => exact ⟨by simp only; omega, h2'⟩
  | some x =>
   simp only
   obtain ⟨hl, hx⟩ := fnd_key e
   obtain ⟨hu, hd⟩ := h2 x hx
   refine ⟨by rw [List.length_set]; omega, fun m hm => ?_⟩
   rcases List.mem_or_eq_of_mem_set hm with hm | rfl
   ·exact h2' m hm
   ·cases a with
    | use u n =>
     refine ⟨?_, Nat.le_succ_of_le hd⟩
     show (oneU x.uses u n).length ≤ _
     cases n with
     | true => show (insK (fun x : ByteArray => x) ltL x.uses u).length ≤ _; rw [insK_len]; omega
     | false => exact Nat.le_trans era_len (by omega)
    | dec i a =>
     refine ⟨Nat.le_succ_of_le hu, ?_⟩
     show (oneD x.decls i a).length ≤ _
     cases a with
     | add d => show (insK Dx.id ltI x.decls d).length ≤ _; rw [insK_len]; omega
     | rem d => exact Nat.le_trans era_len (by omega)
     | nam o n => simp only [oneD]; split <;> (try rw [List.length_set]) <;> omega
     | bod o n => simp only [oneD]; split <;> (try rw [List.length_set]) <;> omega
     | hed o n => simp only [oneD]; split <;> (try rw [List.length_set]) <;> omega
end Go.Proofs.YtgcceepadlmelaaGreatDoor
