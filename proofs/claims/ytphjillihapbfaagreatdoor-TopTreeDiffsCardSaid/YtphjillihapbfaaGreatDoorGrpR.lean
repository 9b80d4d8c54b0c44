/-
  TreeCut AppAt.
-/
import Derived.Test.YtphjillihapbfaaGreatDoorGrpL
import Derived.Maps.AppendAt
import Derived.Test.YtphjillihapbfaaGreatDoorGrpA
import Derived.Test.YtphjillihapbfaaGreatDoorSl
namespace Go.Proofs.YtphjillihapbfaaGreatDoor
open Go.RowKit

theorem cut_no : ∀ {l : List UInt8}, Lib.indexByte l 47 = -1 → restL l = none
  | [], _ => rfl
  | c :: l, h => by
    rw [Lib.indexByte] at h
    split at h
    · omega
    · rename_i hc
      have hc' : c ≠ 47 := by simpa using hc
      have h2 : Lib.indexByte l 47 = -1 := by
        by_cases h3 : Lib.indexByte l 47 = -1
        · exact h3
        · rw [if_neg (by simpa using h3)] at h
          have := Lib.indexByte_ge l 47
          omega
      have ih := cut_no h2
      unfold restL at ih ⊢
      rw [List.dropWhile_cons_of_pos (by simp [hc'])]
      exact ih
theorem cut_at : ∀ {l : List UInt8} {i : Nat}, Lib.indexByte l 47 = (i : Int) → i < l.length ∧ firstL l = l.take i ∧ restL l = some (l.drop (i + 1))
  | [], i, h => by rw [Lib.indexByte] at h; omega
  | c :: l, i, h => by
    rw [Lib.indexByte] at h
    split at h
    · rename_i hc
      have hc' : c = 47 := by simpa using hc
      have hi : i = 0 := by omega
      subst hi; subst hc'
      refine ⟨by simp, ?_, ?_⟩
      · unfold firstL
        simp
      · unfold restL
        simp
    · rename_i hc
      have hc' : c ≠ 47 := by simpa using hc
      by_cases h3 : Lib.indexByte l 47 = -1
      · rw [if_pos (by simpa using h3)] at h
        omega
      · rw [if_neg (by simpa using h3)] at h
        have h4 := Lib.indexByte_ge l 47
        obtain ⟨j, hj⟩ : ∃ j : Nat, Lib.indexByte l 47 = j := ⟨(Lib.indexByte l 47).toNat, by omega⟩
        obtain ⟨h5, h6, h7⟩ := cut_at hj
        have hi : i = j + 1 := by omega
        subst hi
        refine ⟨by simp; omega, ?_, ?_⟩
        · unfold firstL at h6 ⊢
          rw [List.takeWhile_cons_of_pos (by simp [hc']), h6]
          rfl
        · unfold restL at h7 ⊢
          rw [List.dropWhile_cons_of_pos (by simp [hc'])]
          exact h7
set_option maxRecDepth 100000 in
set_option maxHeartbeats 2000000 in
theorem cut_any (s : ByteArray) (w : World) (hs : s.size ≤ 1000000) :
    Calls Tryz.prog 25 #[.string s, .string ⟨#[47]⟩] w fun e w' => e = .returned (.tuple #[.string (firstB s), .string ((restB s).getD ⟨#[]⟩), .bool (restB s).isSome]) ∧ Below w.heap.size w w' := by
  have CI := lid (fun w => stringslite_Index_one s 47 w)
  have HNO := lid (fun h => cut_no (l := s.data.toList) h)
  have HAT := lid (fun i h => cut_at (l := s.data.toList) (i := i) h)
  have HGE := lid (Lib.indexByte_ge s.data.toList 47)
  obtain ⟨q, hq⟩ : ∃ q, Lib.indexByte s.data.toList 47 = q := ⟨_, rfl⟩
  rw [hq] at CI HNO HAT HGE
  refine (show Calls Tryz.prog 43 #[.string s, .string ⟨#[47]⟩] w (fun e w' => e = .returned (.tuple #[.string (firstB s), .string ((restB s).getD ⟨#[]⟩), .bool (restB s).isSome]) ∧ Below w.heap.size w w') → _ from fun HC => ?_) ?_
  · have HC := lid HC
    go_enter Tryz.func25, Tryz.ntmps25
    go_wp2_with fail
    (with_reducible refine (HC.out).mono ?_); rintro e w1 ⟨rfl, hb⟩
    go_wp2_with fail
    refine bodyPost_ret (v := .tuple #[.string (firstB s), .string ((restB s).getD ⟨#[]⟩), .bool (restB s).isSome]) (by simp [results, Tryz.results25, go_sem]) rfl ⟨rfl, hb⟩
  · by_cases hc : q = -1
    · have hn := HNO.out hc
      have HR : Hid (firstB s = s ∧ restB s = none) := lid (by
        have hr : restB s = none := by unfold restB; rw [hn]; rfl
        exact ⟨first_none hr, hr⟩)
      subst hc
      clear hn HNO HAT hq
      go_enter Tryz.func43, Tryz.ntmps43
      go_wp2_with fail
      (with_reducible refine (CI.out w).mono ?_); rintro e w1 ⟨rfl, rfl⟩
      go_wp2_with fail
      refine bodyPost_ret (v := .tuple #[.string s, .string ⟨#[]⟩, .bool false]) (by simp [results, Tryz.results43, go_sem]) rfl ⟨?_, Below.refl _ _⟩
      rw [HR.out.1, HR.out.2]
      rfl
    · obtain ⟨i, hi⟩ : ∃ i : Nat, q = i := ⟨q.toNat, by have := HGE.out; omega⟩
      subst hi
      obtain ⟨h1, h2, h3⟩ := HAT.out i rfl
      have hsz : i < s.size := h1
      have HR : Hid (firstB s = s.extract 0 i ∧ restB s = some (s.extract (i + 1) s.size)) := lid (by
        constructor
        · apply data_inj
          rw [show (s.extract 0 i).data.toList = s.data.toList.take i by simp [ByteArray.data_extract], ← h2]
          rfl
        · unfold restB
          rw [h3, Option.map_some]
          congr 1
          apply data_inj
          rw [bstr_list]
          simp [ByteArray.data_extract]
          refine (List.take_of_length_le ?_).symm
          rw [List.length_drop]
          exact Nat.le_refl _)
      clear h1 h2 h3 HNO HAT hq hc
      go_enter Tryz.func43, Tryz.ntmps43
      go_wp2_with fail
      (with_reducible refine (CI.out w).mono ?_); rintro e w1 ⟨rfl, rfl⟩
      go_wp2_with fail
      refine wp_region_seq (fun w' => ∃ s : Since w1.heap.size w1, w' = s.world) [(0, true), (1, true), (2, true), (3, true), (4, true), (5, true), (6, true), (7, true), (8, true), (9, false), (10, false), (11, false)] (by kernel_rfl) (by kernel_rfl) (by intro c d v a w h; first | (cases d <;> exact h) | cases h.1) (since (Below.refl _ _).drew) ?_
      repeat (first | (refine seq_skip (by rfl) (by rfl) ?_; simp only [Act.put, List.setIfInBounds_toArray, List.set_cons_succ, List.set_cons_zero]) | (refine seq_float (by rfl) (by rfl) (by rfl) ?_; intro K hK; go_big_quiet_op; go_big_quiet_on))
      refine seq_chain (by rfl) ?_
      intro K hK
      go_wp2_with fail
      refine hK.out _ _ (since ((Below.refl w1.heap.size w1).drew)) ?_
      clear hK K
      repeat (first | (refine seq_skip (by rfl) (by rfl) ?_; simp only [Act.put, List.setIfInBounds_toArray, List.set_cons_succ, List.set_cons_zero]) | (refine seq_float (by rfl) (by rfl) (by rfl) ?_; intro K hK; go_big_quiet_op; go_big_quiet_on))
      refine seq_chain (by rfl) ?_
      intro K hK
      go_wp2_with fail
      refine hK.out _ _ (since ((Below.refl w1.heap.size w1).drew)) ?_
      clear hK K
      repeat (first | (refine seq_skip (by rfl) (by rfl) ?_; simp only [Act.put, List.setIfInBounds_toArray, List.set_cons_succ, List.set_cons_zero]) | (refine seq_float (by rfl) (by rfl) (by rfl) ?_; intro K hK; go_big_quiet_op; go_big_quiet_on))
      refine seq_chain (by rfl) ?_
      intro K hK
      go_wp2_with fail
      refine hK.out _ _ (since ((Below.refl w1.heap.size w1).drew)) ?_
      clear hK K
      repeat (first | (refine seq_skip (by rfl) (by rfl) ?_; simp only [Act.put, List.setIfInBounds_toArray, List.set_cons_succ, List.set_cons_zero]) | (refine seq_float (by rfl) (by rfl) (by rfl) ?_; intro K hK; go_big_quiet_op; go_big_quiet_on))
      refine seq_nil ?_
      go_wp2_with fail
      refine bodyPost_ret (v := .tuple #[.string (s.extract 0 i), .string (s.extract (i + 1) s.size), .bool true]) (by simp [results, Tryz.results43, go_sem]) rfl ⟨?_, (Below.refl _ _).drew⟩
      rw [HR.out.1, HR.out.2]
      rfl
end Go.Proofs.YtphjillihapbfaaGreatDoor

namespace Go.Proofs.YtphjillihapbfaaGreatDoor
open Go.RowKit

/-- 'append(out, x)', x just laid in a block of its own; where the new slice lies. -/
theorem wpList_append_new_at {P : Program} {ops : Array Oper} {rest : List Oper} {o : Oper} {a : Act} {Q : Exit → Act → World → Prop} {w : World} (us : Array Value) (hgd : o.guard = none) (s x : Operand) (t : TypeId)
    (ho : o.op = .call { callee := .builtin .append, args := #[s, x], argTypes := #[t, t] })
    (base : Nat) (e : TypeId) (z : Value) (size bytes : Nat) (hinfo : (P.info? e).map (fun i => (i.zero, i.size, i.bytes)) = some (some z, size, bytes)) (ht : P.underlying t = some (.slice e)) (hzs : z.cells.size = size) (hsz : 0 < size)
    (v : Value) (n : Nat) (xs : List Value) (hown : w.ownsRow base e size v n xs) (hs : a.eval s = v)
    (hx : a.eval x = .slice (some ⟨w.heap.size, 0, none⟩) 1 1) (hl : us.size = size) (h1 : ∀ u ∈ us.toList, u.oneCell' = true)
    (h63 : n + 1 ≤ maxLen) (hbytes : (n + 1) * bytes ≤ 140737488355328) (hbase : base ≤ w.heap.size)
    (h : ∀ v' w', w'.ownsRow base e size v' (n + 1) (xs ++ us.toList) → (w.alloc (.cells us e)).grownBy w' v.ownBlock → (v'.ownBlock = v.ownBlock ∨ v'.ownBlock = some (w.alloc (.cells us e)).heap.size) → wpList P ops Q rest (a.put o.dst v') w') : wpList P ops Q (o :: rest) a (w.alloc (.cells us e)) := by
  obtain ⟨i, hi, hz0, hz1, hz2⟩ := info_parts hinfo
  refine wpList_append_own_at _ hgd s x t ho base e i z size bytes ht hi hz0 hz1 hz2 hzs hsz v n xs hs (hown.alloc _) ⟨w.heap.size, 0, none⟩ 1 1 us.toList hx (by simp [hl]) ?_ h1 h63 hbytes (by simp; omega) ?_
  · intro j u hu
    rw [Addr.add_lit]
    simp only [World.cell?, Nat.zero_add]
    rw [heap_alloc_new]
    simpa using hu
  · intro v' w' hown' hg hn hat
    exact h v' w' hown' hg hat

end Go.Proofs.YtphjillihapbfaaGreatDoor
