/-
  The example of an approval, plain.
-/
import Derived.Test.YtefehgdckmajiaaGreatDoorAppMiss
namespace Go.Proofs.YtefehgdckmajiaaGreatDoor
open Go.RowKit

def allG : ByteArray := ⟨#[97, 108, 108, 32, 103, 114, 111, 117, 112, 32, 97, 110, 110, 32, 59]⟩
abbrev annB : ByteArray := ⟨#[97, 110, 110]⟩
def oldE : List Fl := [(ownB, allG), (⟨#[120]⟩, ⟨#[49]⟩)]
def newE : List Fl := [(ownB, allG), (⟨#[120]⟩, ⟨#[50]⟩)]
theorem ex_tree1 : treeC oldE = 0 := by decide +kernel
theorem ex_tree2 : treeC newE = 0 := by decide +kernel
theorem ex_parse : parseF allG = some [(⟨#[]⟩, [[annB]])] := by decide +kernel
theorem ex_diff : diffF oldE newE = [(⟨#[120]⟩, true, true, ⟨#[49]⟩, ⟨#[50]⟩)] := by decide +kernel
theorem ex_exam : examE oldE newE = 0 := by decide +kernel
theorem ex_req : reqF oldE newE = [[annB]] := by decide +kernel
theorem ex_stand : apS [(annB, 1, viewB annB (examL oldE newE))] 1 (examL oldE newE) = [annB] := by simp [apS, standsB]
theorem ex_m1 : missF [[annB]] [annB] = [] := by decide +kernel
theorem ex_m2 (L : List (Ch × List (List ByteArray))) : missF [[annB]] (apS [] 1 L) = [[annB]] := by
  show missF [[annB]] [] = _
  decide +kernel
theorem FA.lit {w : World} {b : Nat} {l : List Fl} {n : Nat} {cs : Array Value} (h : w.heap[b]? = some (.cells cs 27 (0, 0))) (hc : cs.toList = fcells l) (hn : l.length = n) (hm : n ≤ maxLen) (hz : ∀ f ∈ l, f.1.size ≤ maxLen ∧ f.2.size ≤ maxLen) : FA w (some ⟨b, 0, none⟩) n n l := by
  refine ⟨hn, ⟨by rw [fcells_length, hn], .inr ⟨b, 0, rfl, row_lt h, fun j u hu => ?_⟩⟩, Nat.le_refl _, hm, (fun e => by cases e), hz⟩
  rw [Nat.zero_add, row_cell h j, ← hu, ← hc]
  simp
theorem ex_small1 : ∀ f ∈ oldE, f.1.size ≤ 1000000 ∧ f.2.size ≤ 60000 := by
  intro f hf
  unfold oldE at hf
  simp only [List.mem_cons, List.not_mem_nil, or_false] at hf
  rcases hf with rfl | rfl <;> exact ⟨by decide, by decide⟩
theorem ex_small2 : ∀ f ∈ newE, f.1.size ≤ 1000000 ∧ f.2.size ≤ 60000 := by
  intro f hf
  unfold newE at hf
  simp only [List.mem_cons, List.not_mem_nil, or_false] at hf
  rcases hf with rfl | rfl <;> exact ⟨by decide, by decide⟩
theorem ex_big {l : List Fl} (h : ∀ f ∈ l, f.1.size ≤ 1000000 ∧ f.2.size ≤ 60000) : ∀ f ∈ l, f.1.size ≤ maxLen ∧ f.2.size ≤ maxLen := fun f hf => by
  have := h f hf
  simp only [maxLen]
  omega
set_option maxRecDepth 100000 in
set_option maxHeartbeats 8000000 in
theorem approved_awake (w : World) : Calls Tryz.prog 5 #[] w fun e w' => e = .returned (.bool true) ∧ Below w.heap.size w w' := by
  obtain ⟨W, hW⟩ : ∃ W, (w.alloc (Obj.cells #[.string ownB, .string allG, .string ⟨#[120]⟩, .string ⟨#[49]⟩] 27)).alloc (Obj.cells #[.string ownB, .string allG, .string ⟨#[120]⟩, .string ⟨#[50]⟩] 27) = W := ⟨_, rfl⟩
  have hbW : Below w.heap.size w W := by rw [← hW]; exact (ba _ _).alloc (by simp) _
  have hA : W.heap[w.heap.size]? = some (.cells #[.string ownB, .string allG, .string ⟨#[120]⟩, .string ⟨#[49]⟩] 27 (0, 0)) := by rw [← hW]; exact (h_old (by simp) _).trans (h_new rfl _)
  have hB : W.heap[w.heap.size + 1]? = some (.cells #[.string ownB, .string allG, .string ⟨#[120]⟩, .string ⟨#[50]⟩] 27 (0, 0)) := by rw [← hW]; exact h_new (by simp) _
  have HF1 : Hid (FA W (some ⟨w.heap.size, 0, none⟩) 2 2 oldE) := lid (FA.lit hA rfl rfl (by decide) (ex_big ex_small1))
  have HF2 : Hid (FA W (some ⟨w.heap.size + 1, 0, none⟩) 2 2 newE) := lid (FA.lit hB rfl rfl (by decide) (ex_big ex_small2))
  have CS := lid (Saw_any oldE newE 2 2 2 2 (some ⟨w.heap.size, 0, none⟩) (some ⟨w.heap.size + 1, 0, none⟩) annB W HF1.out HF2.out (by decide) (by decide) ex_small1 ex_small2)
  have HW := lid hW
  have HBW := lid hbW
  clear hA hB hbW hW
  go_enter Tryz.func5, Tryz.ntmps5
  go_wp2_with fail
  rw [show (w.alloc (Obj.cells #[.string ⟨#[79, 87, 78, 69, 82, 83]⟩, .string ⟨#[97, 108, 108, 32, 103, 114, 111, 117, 112, 32, 97, 110, 110, 32, 59]⟩, .string ⟨#[120]⟩, .string ⟨#[49]⟩] 27)).alloc (Obj.cells #[.string ⟨#[79, 87, 78, 69, 82, 83]⟩, .string ⟨#[97, 108, 108, 32, 103, 114, 111, 117, 112, 32, 97, 110, 110, 32, 59]⟩, .string ⟨#[120]⟩, .string ⟨#[50]⟩] 27) = W from HW.out]
  (with_reducible refine (CS.out).mono ?_); rintro e w1 ⟨s, x, rfl, hb1, hx, hs⟩
  obtain rfl : x = 0 := by rw [hx, ex_exam]
  obtain rfl : s = viewB annB (examL oldE newE) := hs rfl
  have HB1 := lid hb1
  have HF11 := lid (HF1.out.below hb1)
  have HF21 := lid (HF2.out.below hb1)
  obtain ⟨V, hV⟩ : ∃ V, viewB annB (examL oldE newE) = V := ⟨_, rfl⟩
  have HV := lid hV
  rw [hV]
  have CM := lid (Missing_any [(annB, 1, V)] 1 1 (some ⟨w1.heap.size, 0, none⟩) 1 oldE newE 2 2 2 2 (some ⟨w.heap.size, 0, none⟩) (some ⟨w.heap.size + 1, 0, none⟩) (w1.alloc (Obj.cells #[.string annB, .int .i64 1, .string V] 42)) rfl ⟨rfl, .inr ⟨w1.heap.size, 0, rfl, by simp, fun j u hu => by
    rw [Nat.zero_add]
    exact (cell_new_at rfl _ _ _).trans (by simpa [apcells] using hu)⟩⟩ (fun a ha => by simp only [List.mem_singleton] at ha; subst ha; exact (show (3 : Nat) ≤ maxLen by decide)) (Nat.le_refl _) (by decide) (HF11.out.below (ba _ _)) (HF21.out.below (ba _ _)) (by decide) (by decide) ex_small1 ex_small2)
  clear hx hs hb1 hV CS
  go_wp2_with fail
  (with_reducible refine (CM.out).mono ?_); rintro e w2 ⟨⟨av, nq, cv⟩, x, rfl, hb2, hx, hs, -⟩
  obtain rfl : x = 0 := by rw [hx, ex_exam]
  obtain rfl : nq = 0 := by
    have h1 := (hs rfl).len
    rw [← HV.out, ex_stand, ex_req, ex_m1] at h1
    exact h1.symm
  rw [show slv (av, 0, cv) = Value.slice av 0 cv from rfl]
  have hb12 : Below w1.heap.size w1 w2 := (ba w1 _).trans (hb2.mono (by simp))
  have HB2 := lid (HB1.out.trans (hb12.mono HB1.out.size))
  have CN := lid (Missing_any [] 0 0 none 1 oldE newE 2 2 2 2 (some ⟨w.heap.size, 0, none⟩) (some ⟨w.heap.size + 1, 0, none⟩) w2 rfl Sl.nil (fun a ha => by cases ha) (Nat.le_refl _) (by decide) (HF11.out.below hb12) (HF21.out.below hb12) (by decide) (by decide) ex_small1 ex_small2)
  clear hx hs hb2 hb12 CM
  go_wp2_with fail
  (with_reducible refine (CN.out).mono ?_); rintro e w3 ⟨⟨aw, nw, cw⟩, x, rfl, hb3, hx, hs, -⟩
  obtain rfl : x = 0 := by rw [hx, ex_exam]
  obtain rfl : nw = 1 := by
    have h1 := (hs rfl).len
    rw [ex_req, ex_m2] at h1
    exact h1.symm
  rw [show slv (aw, 1, cw) = Value.slice aw 1 cw from rfl]
  have HB3 := lid (HBW.out.trans ((HB2.out.trans (hb3.mono HB2.out.size)).mono HBW.out.size))
  clear hx hs hb3
  go_wp2_with fail
  go_ret
  exact ⟨rfl, HB3.out⟩
end Go.Proofs.YtefehgdckmajiaaGreatDoor
