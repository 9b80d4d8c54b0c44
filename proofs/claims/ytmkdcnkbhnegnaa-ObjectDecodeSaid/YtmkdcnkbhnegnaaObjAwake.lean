/-
  The chapter's examples, and which objects are small.
-/
import Derived.Test.YtmkdcnkbhnegnaaObjLinks
namespace Go.Proofs.Ytmkdcnkbhnegnaa
open Go.RowKit

def exBlob : Ob := ⟨1, ⟨#[104, 105]⟩, [], (0, 0), [], ⟨#[]⟩, 0, ⟨#[]⟩⟩
def exTree : Ob := ⟨2, ⟨#[]⟩, [], (0, 0), [], ⟨#[]⟩, 0, ⟨#[]⟩⟩
theorem exBlob_check : checkO exBlob = 0 := by decide
theorem exTree_check : checkO exTree = 0 := by decide
theorem putN_one : putN 1 = [1] := putN_lo (by omega)
theorem putN_two : putN 2 = [2] := putN_lo (by omega)
theorem putN_nought : putN 0 = [0] := putN_lo (by omega)
theorem exBlob_enc : bstr (encT exBlob) = ⟨#[1, 2, 104, 105]⟩ := by
  unfold encT encL
  rw [if_pos exBlob_check, if_neg (by decide), if_neg (by decide)]
  have h1 : putI exBlob.kind = [1] := by show (if putB 1 then putN 1 else []) = _; rw [putN_one]; rfl
  have h2 : putX exBlob.data.data.toList = [2, 104, 105] := by show (if 2 ≤ 65536 then putN 2 ++ [104, 105] else []) = _; rw [putN_two]; rfl
  rw [h1, h2]
  rfl
theorem exTree_enc : bstr (encT exTree) = ⟨#[2, 0]⟩ := by
  unfold encT encL entsL
  rw [if_pos exTree_check, if_pos (by decide)]
  have h1 : putI exTree.kind = [2] := by show (if putB 2 then putN 2 else []) = _; rw [putN_two]; rfl
  have h2 : putI (exTree.ents.length : Nat) = [0] := by show (if putB 0 then putN 0 else []) = _; rw [putN_nought]; rfl
  rw [h1, h2]
  rfl
theorem exObjA {o : Ob} (w : World) (h1 : o.ents = []) (h2 : o.pars = []) (h3 : o.data.size ≤ 2) (h4 : o.auth.size = 0) (h5 : o.msg.size = 0) : ObjA w none 0 none 0 o :=
  ⟨by rw [h1]; rfl, by rw [h1]; exact Sl.nil, by simp [maxLen], (by rw [h1]; intro e he; cases he), by rw [h2]; rfl, by rw [h2]; exact .inl rfl, by simp [maxLen], by simp [maxLen]; omega, by simp [maxLen]; omega, by simp [maxLen]; omega⟩

set_option maxRecDepth 100000 in
set_option maxHeartbeats 4000000 in
theorem awake_any (w : World) : Calls Try.prog 11 #[] w fun e w' => e = .returned (.bool true) ∧ Below w.heap.size w w' := by
  have C1 : Hid (∀ w, Calls Try.prog 17 #[.agg #[.int .i64 1, .string ⟨#[104, 105]⟩, .slice none 0 0, .int .u64 0, .int .u64 0, .slice none 0 0, .string ⟨#[]⟩, .int .i64 0, .string ⟨#[]⟩]] w fun e w' => e = .returned (.tuple #[.string (bstr (encT exBlob)), .int .i64 (checkO exBlob)]) ∧ Below w.heap.size w w') := lid (fun w => objEncode_any exBlob none none 0 0 0 0 w (exObjA w rfl rfl (by decide) rfl rfl) (Nat.le_refl _) (by decide))
  have C2 : Hid (∀ w, Calls Try.prog 17 #[.agg #[.int .i64 2, .string ⟨#[]⟩, .slice none 0 0, .int .u64 0, .int .u64 0, .slice none 0 0, .string ⟨#[]⟩, .int .i64 0, .string ⟨#[]⟩]] w fun e w' => e = .returned (.tuple #[.string (bstr (encT exTree)), .int .i64 (checkO exTree)]) ∧ Below w.heap.size w w') := lid (fun w => objEncode_any exTree none none 0 0 0 0 w (exObjA w rfl rfl (by decide) rfl rfl) (Nat.le_refl _) (by decide))
  have K1 : Hid (checkO exBlob = 0) := lid exBlob_check
  have K2 : Hid (checkO exTree = 0) := lid exTree_check
  have E1 := lid exBlob_enc
  have E2 := lid exTree_enc
  go_enter Try.func11, Try.ntmps11
  go_wp2_with fail
  (with_reducible refine (C1.out _).mono ?_); rintro e w1 ⟨rfl, hb1⟩
  rw [K1.out, E1.out]
  go_wp2_with fail
  (with_reducible refine (C2.out _).mono ?_); rintro e w2 ⟨rfl, hb2⟩
  rw [K2.out, E2.out]
  go_wp2_with fail
  go_ret
  exact ⟨rfl, hb1.trans (hb2.mono hb1.size)⟩

def smallB (o : Ob) : Bool := decide (o.data.size ≤ 200) && (decide (o.ents.length ≤ 12) && (decide (o.pars.length ≤ 12) && (decide (o.auth.size ≤ 50) && (decide (o.msg.size ≤ 250) && o.ents.all fun e => decide (e.1.size ≤ 50)))))
def Small (o : Ob) : Prop := o.data.size ≤ 200 ∧ o.ents.length ≤ 12 ∧ o.pars.length ≤ 12 ∧ o.auth.size ≤ 50 ∧ o.msg.size ≤ 250 ∧ ∀ e ∈ o.ents, e.1.size ≤ 50
theorem small_of {o : Ob} (h : smallB o = true) : Small o := by
  unfold smallB at h
  simp only [Bool.and_eq_true, decide_eq_true_eq, List.all_eq_true] at h
  exact h
theorem smallB_no {o : Ob} (h : ¬ (o.data.size ≤ 200 ∧ o.ents.length ≤ 12 ∧ o.pars.length ≤ 12 ∧ o.auth.size ≤ 50 ∧ o.msg.size ≤ 250)) : smallB o = false := by
  cases hb : smallB o with
  | false => rfl
  | true => obtain ⟨h1, h2, h3, h4, h5, _⟩ := small_of hb; exact absurd ⟨h1, h2, h3, h4, h5⟩ h
theorem smallB_name {o : Ob} {e : Ent} (he : e ∈ o.ents) (h : ¬ e.1.size ≤ 50) : smallB o = false := by
  cases hb : smallB o with
  | false => rfl
  | true => obtain ⟨_, _, _, _, _, h6⟩ := small_of hb; exact absurd (h6 e he) h
theorem smallB_yes {o : Ob} (h : o.data.size ≤ 200 ∧ o.ents.length ≤ 12 ∧ o.pars.length ≤ 12 ∧ o.auth.size ≤ 50 ∧ o.msg.size ≤ 250) (ha : ∀ e ∈ o.ents, e.1.size ≤ 50) : smallB o = true := by
  obtain ⟨h1, h2, h3, h4, h5⟩ := h
  unfold smallB
  simp only [Bool.and_eq_true, decide_eq_true_eq, List.all_eq_true]
  exact ⟨h1, h2, h3, h4, h5, ha⟩
end Go.Proofs.Ytmkdcnkbhnegnaa
