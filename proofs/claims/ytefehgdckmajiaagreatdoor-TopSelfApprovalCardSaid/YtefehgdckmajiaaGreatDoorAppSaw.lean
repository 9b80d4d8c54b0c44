/-
  approval.Seen, approval.Saw.
-/
import Derived.Test.YtefehgdckmajiaaGreatDoorAppJudge
namespace Go.Proofs.YtefehgdckmajiaaGreatDoor
open Go.RowKit

theorem examL_len {l1 l2 : List Fl} : (examL l1 l2).length ≤ l1.length + l2.length := by
  unfold examL
  rw [List.length_map]
  exact diff_len
theorem examL_small {l1 l2 : List Fl} (h : ∀ f ∈ l1, f.2.size ≤ 60000) : smallL (examL l1 l2) := by
  intro e he
  unfold examL at he
  obtain ⟨c, _, rfl⟩ := List.mem_map.1 he
  have h2 : ∀ f ∈ rulesO l1, f.2.size ≤ 60000 := fun f hf => h f (rulesO_mem hf)
  refine ⟨Nat.le_trans (ownF_len c.1) (by omega), fun g hg => ?_⟩
  have := (ownF_small h2 c.1 g hg).1
  omega
theorem examL_smallC {l1 l2 : List Fl} (h1 : ∀ f ∈ l1, f.1.size ≤ maxLen ∧ f.2.size ≤ maxLen) (h2 : ∀ f ∈ l2, f.1.size ≤ maxLen ∧ f.2.size ≤ maxLen) : smallC (examL l1 l2) := by
  intro e he
  unfold examL at he
  obtain ⟨c, hc, rfl⟩ := List.mem_map.1 he
  exact diff_sizes h1 h2 c hc
set_option maxRecDepth 100000 in
set_option maxHeartbeats 8000000 in
theorem Seen_any (l1 l2 : List Fl) (n1 cap1 n2 cap2 : Nat) (a1 a2 : Option Addr) (who : ByteArray) (w : World) (h1 : FA w a1 n1 cap1 l1) (h2 : FA w a2 n2 cap2 l2) (hn1 : n1 ≤ 100000) (hn2 : n2 ≤ 100000) (hd1 : ∀ f ∈ l1, f.1.size ≤ 1000000 ∧ f.2.size ≤ 60000) (hd2 : ∀ f ∈ l2, f.1.size ≤ 1000000 ∧ f.2.size ≤ 60000) :
    Calls Tryz.prog 19 #[.slice a1 n1 cap1, .slice a2 n2 cap2, .string who] w fun e w' => ∃ (v : SV) (x : Int), e = .returned (.tuple #[slv v, .int .i64 x]) ∧ Below w.heap.size w w' ∧ x = examE l1 l2 ∧ (x = 0 → w'.ownsRow w.heap.size 61 5 (slv v) (seenF who (examL l1 l2)).length (chcells (seenF who (examL l1 l2)))) := by
  have CE := lid (examine_any l1 l2 n1 cap1 n2 cap2 a1 a2 w h1 h2 hn1 hn2 hd1 hd2)
  have HSM : Hid (smallL (examL l1 l2)) := lid (examL_small fun f hf => (hd1 f hf).2)
  have hlen : (examL l1 l2).length ≤ 1000000 := by
    have := examL_len (l1 := l1) (l2 := l2)
    have e1 := h1.len
    have e2 := h2.len
    omega
  clear h1 h2 hd1 hd2
  go_enter Tryz.func19, Tryz.ntmps19
  go_wp2_with fail
  (with_reducible refine (CE.out).mono ?_); rintro e w1 ⟨⟨av, nv', cv⟩, x, rfl, hb1, hx, hs⟩
  rw [show slv (av, nv', cv) = Value.slice av nv' cv from rfl]
  have HX := lid hx
  have HB1 := lid hb1
  have HS1 := lid hs
  clear hx hs hb1
  by_cases hx0 : x = 0
  · subst hx0
    have HS := lid (HS1.out rfl)
    have CS := lid (seen_fn (av, nv', cv) who w1)
    go_wp2_with fail
    (with_reducible refine (CS.out).mono ?_); rintro e w2 ⟨rfl, hw2⟩
    have hb2 : Below w1.heap.size w1 w2 := by rw [hw2]; exact (ba _ _).alloc (by simp) _
    have hz2 : w2.heap.size = w1.heap.size + 2 := by rw [hw2]; simp
    have ho2 : w2.heap[w1.heap.size]? = some (.cells #[slv (av, nv', cv)] 44 (0, 0)) := by rw [hw2]; exact (h_old (by simp) _).trans (h_new rfl _)
    have hwb2 : w2.heap[w1.heap.size + 1]? = some (.cells #[.string who] 9 (0, 0)) := by rw [hw2]; exact h_new (by simp) _
    have CC := lid (Collect_any w1.heap.size (w1.heap.size + 1) (av, nv', cv) who (examL l1 l2) w2 ho2 hwb2 ((HS.out.keep (KeepC.below hb2)).mono (fun k hk => by have hk : w.heap.size ≤ k ∧ k < w1.heap.size := hk; show k < w2.heap.size; omega)) HSM.out hlen)
    have HB2 := lid (HB1.out.trans (hb2.mono HB1.out.size))
    clear hw2 hz2 ho2 hwb2 hb2 CS
    go_wp2_with fail
    (with_reducible refine (CC.out).mono ?_); rintro e w3 ⟨⟨aq, nq, cq⟩, rfl, hown3, hb3⟩
    have HO := lid (ownsRow_base hown3 HB2.out.size)
    have hb03 := HB2.out.trans (hb3.mono HB2.out.size)
    clear hown3 hb3
    go_wp2_with fail
    go_ret2
    exact ⟨(aq, nq, cq), 0, rfl, hb03, HX.out, fun _ => HO.out⟩
  · have u : (x != 0) = true := by simpa using hx0
    have HX0 := lid hx0
    clear hx0
    go_wp2_with fail
    go_ret2
    exact ⟨nv, x, rfl, HB1.out, HX.out, fun e => absurd e HX0.out⟩
set_option maxRecDepth 100000 in
set_option maxHeartbeats 8000000 in
theorem Saw_any (l1 l2 : List Fl) (n1 cap1 n2 cap2 : Nat) (a1 a2 : Option Addr) (who : ByteArray) (w : World) (h1 : FA w a1 n1 cap1 l1) (h2 : FA w a2 n2 cap2 l2) (hn1 : n1 ≤ 100000) (hn2 : n2 ≤ 100000) (hd1 : ∀ f ∈ l1, f.1.size ≤ 1000000 ∧ f.2.size ≤ 60000) (hd2 : ∀ f ∈ l2, f.1.size ≤ 1000000 ∧ f.2.size ≤ 60000) :
    Calls Tryz.prog 12 #[.slice a1 n1 cap1, .slice a2 n2 cap2, .string who] w fun e w' => ∃ (s : ByteArray) (x : Int), e = .returned (.tuple #[.string s, .int .i64 x]) ∧ Below w.heap.size w w' ∧ x = examE l1 l2 ∧ (x = 0 → s = viewB who (examL l1 l2)) := by
  have CE := lid (Seen_any l1 l2 n1 cap1 n2 cap2 a1 a2 who w h1 h2 hn1 hn2 hd1 hd2)
  have HSC : Hid (smallC (examL l1 l2)) := lid (examL_smallC h1.sz h2.sz)
  have hlen : (seenF who (examL l1 l2)).length ≤ 200000 := by
    have := seenF_len (who := who) (L := examL l1 l2)
    have := examL_len (l1 := l1) (l2 := l2)
    have e1 := h1.len
    have e2 := h2.len
    omega
  clear h1 h2 hd1 hd2
  go_enter Tryz.func12, Tryz.ntmps12
  go_wp2_with fail
  (with_reducible refine (CE.out).mono ?_); rintro e w1 ⟨⟨av, nv', cv⟩, x, rfl, hb1, hx, hs⟩
  rw [show slv (av, nv', cv) = Value.slice av nv' cv from rfl]
  have HX := lid hx
  have HB1 := lid hb1
  have HS1 := lid hs
  clear hx hs hb1
  by_cases hx0 : x = 0
  · subst hx0
    obtain ⟨hsl3, hn3⟩ := SlC.of_own (c := fun _ => True) (HS1.out rfl) (fun _ _ => trivial)
    have hn3 : nv' = (seenF who (examL l1 l2)).length := hn3
    subst hn3
    have CN := lid (encode_any (seenF who (examL l1 l2)) _ cv av w1 rfl hsl3.sl hsl3.le hlen (seenF_small HSC.out))
    clear hsl3
    go_wp2_with fail
    (with_reducible refine (CN.out).mono ?_); rintro e w2 ⟨rfl, hb2⟩
    have hb02 := HB1.out.trans (hb2.mono HB1.out.size)
    go_wp2_with fail
    go_ret2
    exact ⟨_, 0, rfl, hb02, HX.out, fun _ => rfl⟩
  · have u : (x != 0) = true := by simpa using hx0
    have HX0 := lid hx0
    clear hx0
    go_wp2_with fail
    go_ret2
    exact ⟨⟨#[]⟩, x, rfl, HB1.out, HX.out, fun e => absurd e HX0.out⟩
end Go.Proofs.YtefehgdckmajiaaGreatDoor
