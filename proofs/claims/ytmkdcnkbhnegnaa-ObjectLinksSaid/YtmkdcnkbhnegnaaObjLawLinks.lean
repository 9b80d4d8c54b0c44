/-
  The law ObjectLinks at any object.
-/
import Derived.Test.YtmkdcnkbhnegnaaObjLawCheck
namespace Go.Proofs.Ytmkdcnkbhnegnaa
open Go.RowKit

theorem pars_nonzero : ∀ {l s : List Dg}, parsGo s l = 0 → ∀ d ∈ l, zeroB d = false
  | [], _, _, d, hd => by cases hd
  | x :: l, s, h, d, hd => by
    cases hz : zeroB x with
    | true => rw [pars_zero hz] at h; cases h
    | false =>
      cases hs : decide (x ∈ s) with
      | true => rw [pars_twice hz hs] at h; cases h
      | false =>
        rw [pars_next hz hs] at h
        rcases List.mem_cons.1 hd with rfl | hd
        · exact hz
        · exact pars_nonzero h d hd
theorem comm_nonzero {o : Ob} (h : checkO o = 0) (hk : o.kind = 3) : zeroB o.tree = false ∧ ∀ d ∈ o.pars, zeroB d = false := by
  unfold checkO at h
  rw [if_neg (by omega), if_neg (by omega), if_pos hk] at h
  split at h
  · cases h
  · unfold commE at h
    split at h
    · cases h
    · rename_i hz
      split at h
      · cases h
      · split at h
        · rename_i hp
          exact ⟨by simpa using hz, pars_nonzero hp⟩
        · exact absurd h ‹_›
theorem links_nonzero (o : Ob) : ∀ d ∈ linksL o, zeroB d = false := by
  intro d hd
  unfold linksL at hd
  split at hd
  · rename_i h
    rcases List.mem_append.1 hd with hd | hd
    · unfold entD at hd
      obtain ⟨e, he, rfl⟩ := List.mem_map.1 hd
      by_cases hk : o.kind = 2
      · exact (ents_names (checkO_ents h hk).2 e (List.mem_of_mem_take he)).2
      · rw [checkO_noents h hk] at he; simp at he
    · split at hd
      · rename_i hk
        obtain ⟨h1, h2⟩ := comm_nonzero h hk
        rcases List.mem_cons.1 hd with rfl | hd
        · exact h1
        · exact h2 d hd
      · cases hd
  · cases hd
theorem links_len0 {o : Ob} (h : ¬ checkO o = 0) : (linksL o).length = 0 := by unfold linksL; rw [if_neg h]; rfl
theorem links_len3 {o : Ob} (h : checkO o = 0) (hk : o.kind = 3) : (linksL o).length = o.ents.length + o.pars.length + 1 := by
  unfold linksL entD; rw [if_pos h, if_pos hk]; simp; omega
theorem links_lenn {o : Ob} (h : checkO o = 0) (hk : ¬ o.kind = 3) : (linksL o).length = o.ents.length + o.pars.length := by
  unfold linksL entD; rw [if_pos h, if_neg hk, checkO_nopars h hk]; simp

set_option maxRecDepth 100000 in
set_option maxHeartbeats 16000000 in
theorem LawLinks_any (o : Ob) (ae ap : Option Addr) (ne ce np cp : Nat) (w : World) (h : ObjA w ae ne ap np o) (hc : np ≤ cp) (hz : ap = none → cp = 0) :
    Calls Try.prog 4 #[.agg (ocells o ae ne ce ap np cp)] w fun e w' => e = .returned (.bool true) ∧ Below w.heap.size w w' := by
  have hb0 := ba w (Obj.cells (ocells o ae ne ce ap np cp) 28)
  have HO0 := OBox.new w o ae ne ce ap np cp 28
  obtain ⟨W, hW⟩ : ∃ W, w.alloc (Obj.cells (ocells o ae ne ce ap np cp) 28) = W := ⟨_, rfl⟩
  rw [hW] at hb0 HO0
  have HA := lid (h.below hb0)
  have HW := lid hW
  have HEN := lid HW.out
  have HO := lid HO0
  have CG := lid (fun w (h : ObjA w ae ne ap np o) => Great_any o ae ap ne ce np cp w h)
  have CA := lid awake_any
  have HH := lid hc
  have HZ := lid hz
  clear hW h HO0 hz
  obtain ⟨l0, c0, c1, c2, c3, c4, c5, c6, c7, c8⟩ := HO.out
  rw [← HW.out] at c0 c1 c2 c3 c4 c5 c6 c7 c8
  go_enter Try.func4, Try.ntmps4
  go_wp2_with fail
  rw [HW.out]
  clear HW HEN c0 c1 c2 c3 c4 c5 c6 c7 c8
  (with_reducible refine (CG.out _ HA.out).mono ?_); rintro e w1 ⟨rfl, hb1⟩
  have hw1 := hb0.trans (hb1.mono hb0.size)
  cases hS : smallB o with
  | false =>
    clear hS
    simp only [Bool.not_false]
    go_wp2_with fail
    (with_reducible refine (CA.out _).mono ?_); rintro e w2 ⟨rfl, hb2⟩
    go_wp2_with fail
    go_ret
    exact ⟨rfl, hw1.trans (hb2.mono hw1.size)⟩
  | true =>
  have HSM := lid (small_of hS)
  have hd : Hid (o.data.size ≤ 60000) := lid (by have := HSM.out.1; omega)
  clear hS
  simp only [Bool.not_true]
  have HO1 := lid (HO.out.below hb1)
  have HA1 := lid (HA.out.below hb1)
  have C1 := lid (fun w (h : ObjA w ae ne ap np o) => objCheck_any o ae ap ne ce np cp w h HH.out hd.out)
  have C3 := lid (fun w (h : ObjA w ae ne ap np o) => objLinks_any o ae ap ne ce np cp w h HH.out HZ.out hd.out)
  obtain ⟨l1, c0, c1, c2, c3, c4, c5, c6, c7, c8⟩ := HO1.out
  have n12 : ne ≤ 12 := by have := HSM.out.2.1; rw [HA.out.elen] at this; exact this
  have p12 : np ≤ 12 := by have := HSM.out.2.2.1; rw [HA.out.plen] at this; exact this
  go_wp2_with fail
  (with_reducible refine (C3.out _ HA1.out).mono ?_); rintro e w2 ⟨a1, n1, q1, rfl, hn1, hq1, HL1, hb2⟩
  have H1 := lid (And.intro hn1 HL1)
  have n300 : n1 ≤ 300 := by rw [← hn1]; exact linksL_len o
  clear hn1 HL1 c0 c1 c2 c3 c4 c5 c6 c7 c8
  obtain ⟨l2, c0, c1, c2, c3, c4, c5, c6, c7, c8⟩ := HO1.out.below hb2
  go_wp2_with fail
  (with_reducible refine (C1.out _ (HA1.out.below hb2)).mono ?_); rintro e w3 ⟨rfl, hb3⟩
  have hs3 := hb2.trans (hb3.mono hb2.size)
  clear c0 c1 c2 c3 c4 c5 c6 c7 c8
  obtain ⟨l3, c0, c1, c2, c3, c4, c5, c6, c7, c8⟩ := HO1.out.below hs3
  by_cases hv : checkO o = 0
  case neg =>
    have uK : (checkO o == 0) = false := by simpa using hv
    have hT : (n1 : Int) = 0 := by have h1 := H1.out.1; have h2 := links_len0 hv; omega
    clear hv
    have HT : Hid ((n1 : Int) = 0) := lid hT
    clear hT
    go_wp2_with fail
    go_loopw [6, 29] (fun _ i wr => ∃ k : Nat, k ≤ n1 ∧ i = .int .i64 k ∧ Below w3.heap.size w3 wr) (fun _ i _ => n1 - (intOf i).toNat)
    case atStart => exact ⟨0, Nat.zero_le _, rfl, Below.refl _ _⟩
    case round =>
      obtain ⟨k, hk, rfl, hb⟩ := hrel
      have hwr := hs3.trans (hb.mono hs3.size)
      by_cases hlt : k < n1
      · have hkl : k < (linksL o).length := by have := H1.out.1; omega
        obtain ⟨b1, o1, rfl, hlb, hcell⟩ := (H1.out.2.below (hb3.trans (hb.mono hb3.size))).at_ hlt
        have x0 := hcell (k * 2) _ (dcells_at hkl).1
        have x1 := hcell (k * 2 + 1) _ (dcells_at hkl).2
        rw [← Nat.add_assoc] at x1
        have HNZ := lid (links_nonzero o _ (List.getElem_mem hkl))
        obtain ⟨d, hd⟩ : ∃ d, (linksL o)[k] = d := ⟨_, rfl⟩
        rw [hd] at x0 x1 HNZ
        have z0 := zeroB_spell d
        rw [HNZ.out] at z0
        have dk : decide ((k : Int) < (n1 : Int)) = true := by simp; omega
        clear hcell hd
        go_wp2_with fail
        go_roundw
        case rel => exact ⟨k + 1, by omega, by go_num, hb.trans ((ba wr _).mono hb.size)⟩
        case measure => simp [intOf]; omega
      · obtain rfl : k = n1 := by omega
        have e1 : ((k : Int) == 0) = true := by rw [← HT.out]; simp
        go_wp2_with fail
        (with_reducible refine (CA.out _).mono ?_); rintro e w4 ⟨rfl, hb4⟩
        go_wp2_with fail
        go_ret
        exact ⟨rfl, hw1.trans ((hwr.trans (hb4.mono hwr.size)).mono hw1.size)⟩
  have hE := HA.out.elen
  have hP := HA.out.plen
  by_cases kk : o.kind = 3
  · have k3 : (o.kind == 3) = true := by simpa using kk
    have hT : (n1 : Int) = (ne : Int) + np + 1 := by have h1 := H1.out.1; have h2 := links_len3 hv kk; omega
    rw [hv]
    clear hv kk hE hP
    have HT : Hid ((n1 : Int) = (ne : Int) + np + 1) := lid hT
    clear hT
    go_wp2_with fail
    go_loopw [6, 29] (fun _ i wr => ∃ k : Nat, k ≤ n1 ∧ i = .int .i64 k ∧ Below w3.heap.size w3 wr) (fun _ i _ => n1 - (intOf i).toNat)
    case atStart => exact ⟨0, Nat.zero_le _, rfl, Below.refl _ _⟩
    case round =>
      obtain ⟨k, hk, rfl, hb⟩ := hrel
      have hwr := hs3.trans (hb.mono hs3.size)
      by_cases hlt : k < n1
      · have hkl : k < (linksL o).length := by have := H1.out.1; omega
        obtain ⟨b1, o1, rfl, hlb, hcell⟩ := (H1.out.2.below (hb3.trans (hb.mono hb3.size))).at_ hlt
        have x0 := hcell (k * 2) _ (dcells_at hkl).1
        have x1 := hcell (k * 2 + 1) _ (dcells_at hkl).2
        rw [← Nat.add_assoc] at x1
        have HNZ := lid (links_nonzero o _ (List.getElem_mem hkl))
        obtain ⟨d, hd⟩ : ∃ d, (linksL o)[k] = d := ⟨_, rfl⟩
        rw [hd] at x0 x1 HNZ
        have z0 := zeroB_spell d
        rw [HNZ.out] at z0
        have dk : decide ((k : Int) < (n1 : Int)) = true := by simp; omega
        clear hcell hd
        go_wp2_with fail
        go_roundw
        case rel => exact ⟨k + 1, by omega, by go_num, hb.trans ((ba wr _).mono hb.size)⟩
        case measure => simp [intOf]; omega
      · obtain rfl : k = n1 := by omega
        have e1 : ((k : Int) == (ne : Int) + np + 1) = true := by rw [← HT.out]; simp
        go_wp2_with fail
        (with_reducible refine (CA.out _).mono ?_); rintro e w4 ⟨rfl, hb4⟩
        go_wp2_with fail
        go_ret
        exact ⟨rfl, hw1.trans ((hwr.trans (hb4.mono hwr.size)).mono hw1.size)⟩
  · have k3 : (o.kind == 3) = false := by simpa using kk
    have hT : (n1 : Int) = (ne : Int) + np := by have h1 := H1.out.1; have h2 := links_lenn hv kk; omega
    rw [hv]
    clear hv kk hE hP
    have HT : Hid ((n1 : Int) = (ne : Int) + np) := lid hT
    clear hT
    go_wp2_with fail
    go_loopw [6, 29] (fun _ i wr => ∃ k : Nat, k ≤ n1 ∧ i = .int .i64 k ∧ Below w3.heap.size w3 wr) (fun _ i _ => n1 - (intOf i).toNat)
    case atStart => exact ⟨0, Nat.zero_le _, rfl, Below.refl _ _⟩
    case round =>
      obtain ⟨k, hk, rfl, hb⟩ := hrel
      have hwr := hs3.trans (hb.mono hs3.size)
      by_cases hlt : k < n1
      · have hkl : k < (linksL o).length := by have := H1.out.1; omega
        obtain ⟨b1, o1, rfl, hlb, hcell⟩ := (H1.out.2.below (hb3.trans (hb.mono hb3.size))).at_ hlt
        have x0 := hcell (k * 2) _ (dcells_at hkl).1
        have x1 := hcell (k * 2 + 1) _ (dcells_at hkl).2
        rw [← Nat.add_assoc] at x1
        have HNZ := lid (links_nonzero o _ (List.getElem_mem hkl))
        obtain ⟨d, hd⟩ : ∃ d, (linksL o)[k] = d := ⟨_, rfl⟩
        rw [hd] at x0 x1 HNZ
        have z0 := zeroB_spell d
        rw [HNZ.out] at z0
        have dk : decide ((k : Int) < (n1 : Int)) = true := by simp; omega
        clear hcell hd
        go_wp2_with fail
        go_roundw
        case rel => exact ⟨k + 1, by omega, by go_num, hb.trans ((ba wr _).mono hb.size)⟩
        case measure => simp [intOf]; omega
      · obtain rfl : k = n1 := by omega
        have e1 : ((k : Int) == (ne : Int) + np) = true := by rw [← HT.out]; simp
        go_wp2_with fail
        (with_reducible refine (CA.out _).mono ?_); rintro e w4 ⟨rfl, hb4⟩
        go_wp2_with fail
        go_ret
        exact ⟨rfl, hw1.trans ((hwr.trans (hb4.mono hwr.size)).mono hw1.size)⟩
end Go.Proofs.Ytmkdcnkbhnegnaa
