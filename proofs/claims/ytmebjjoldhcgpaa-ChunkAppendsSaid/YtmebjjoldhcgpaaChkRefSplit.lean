/-
  The reference's Split, Bounds and Manifest.
-/
import Derived.Lib.IndexBytes
import Derived.Test.YtmebjjoldhcgpaaChkEnd
import Derived.Test.YtmebjjoldhcgpaaChkSplit
import Derived.Test.YtmebjjoldhcgpaaChkManifest
import Derived.Test.YtmebjjoldhcgpaaDigRefOf
namespace Go.Proofs.Ytmebjjoldhcgpaa
open Go.RowKit

/-- The chunks, as strings. -/
def chunksOf (s : ByteArray) (l m v b : Nat) : List ByteArray := (pieces s.data.toList (lens l m v b s.data.toList)).map bstr
theorem chunksOf_nil {s : ByteArray} (l m v b : Nat) (h : s.size = 0) : chunksOf s l m v b = [] := by
  have : s.data.toList = [] := List.eq_nil_of_length_eq_zero h
  rw [chunksOf, this, lens_nil]
  rfl
theorem bytes_ext {a b : ByteArray} (h : a.data.toList = b.data.toList) : a = b := by
  cases a; cases b
  congr 1
  exact Array.toList_inj.1 h
theorem chunksOf_cons {s : ByteArray} (l m v b : Nat) (h : 1 ≤ s.size) : chunksOf s l m v b = s.extract 0 (firstLen l m v b s.data.toList) :: chunksOf (s.extract (firstLen l m v b s.data.toList) s.size) l m v b := by
  have hne : s.data.toList ≠ [] := List.length_pos_iff.1 h
  rw [chunksOf, lens_cons hne, pieces, List.map_cons, chunksOf, Lib.extract_to_end]
  congr 1
  apply bytes_ext
  rw [Lib.extract_data, bstr_list]
  simp
theorem sub_piece (s : ByteArray) (x : Nat × Nat) : sub s x = bstr (piece s.data.toList x) := by
  apply bytes_ext
  rw [sub, Lib.extract_data, bstr_list, piece]
theorem sub_chunks {l m v b : Nat} (hv : 1 ≤ v) (hvl : v ≤ l) (s : ByteArray) : (cuts s.data.toList l m v b).map (sub s) = chunksOf s l m v b := by
  rw [cuts_places hv hvl, chunksOf]
  have := pieces_places s.data.toList (lens l m v b s.data.toList) 0
  rw [List.drop_zero] at this
  rw [← this, List.map_map]
  exact List.map_congr_left (fun x _ => sub_piece s x)
/-- What is left of a string. -/
def strSize : Value → Nat
  | .string s => s.size
  | _ => 0

set_option maxHeartbeats 2000000 in
theorem refSplit_ok (s : ByteArray) (l m v b : Nat) (w : World) (hv1 : 1 ≤ v) (hvl : v ≤ l) (hlm : l ≤ m) (hm : m ≤ 65536) (hb16 : b ≤ 16) (hs : s.size ≤ 65536) :
    Calls Try.prog 18 #[.string s, .agg (pcells l m v b)] w fun e w' => ∃ v', e = .returned (.tuple #[v', .int .i64 0]) ∧
      w'.ownsRow w.heap.size 9 1 v' (chunksOf s l m v b).length (svals (chunksOf s l m v b)) ∧ Below w.heap.size w w' := by
  have hE : checkE l m v b = 0 := by unfold checkE; rw [if_neg (by omega)]
  have hs' : (s.size : Int) ≤ 65536 := by omega
  go_enter Try.func18, Try.ntmps18
  go_wp2_with fail
  (with_reducible refine (refCheck_any l m v b _).mono ?_); rintro e w1 ⟨rfl, hb1⟩
  rw [hE]
  have HE := lid hE
  clear hE
  have hbA : Below (w.heap.size + 1) (w.alloc (Obj.cells (pcells l m v b) 23)) w1 := by simpa using hb1
  have hz1 := hbA.size
  rw [World.size_alloc] at hz1
  have hbB : Below w.heap.size w w1 := ((Below.refl _ _).alloc (Nat.le_refl _) _).trans (hbA.mono (by omega))
  have c0 : w1.cell? ⟨w.heap.size, 0, none⟩ = some (.int .i64 l) := by rw [bc hbA (by omega)]; simp
  have c1 : w1.cell? ⟨w.heap.size, 1, none⟩ = some (.int .i64 m) := by rw [bc hbA (by omega)]; simp
  have c2 : w1.cell? ⟨w.heap.size, 2, none⟩ = some (.int .i64 v) := by rw [bc hbA (by omega)]; simp
  have c3 : w1.cell? ⟨w.heap.size, 3, none⟩ = some (.int .i64 b) := by rw [bc hbA (by omega)]; simp
  clear hb1
  go_wp2_with fail
  go_loopw [0, 7, 8] (fun sv out _ wr => ∃ (r : ByteArray) (L : List ByteArray), sv = .string r ∧ wr.ownsRow (w.heap.size + 1) 9 1 out L.length (svals L) ∧ Hid (chunksOf s l m v b = L ++ chunksOf r l m v b) ∧ L.length + r.size ≤ s.size ∧ Below (w.heap.size + 1) w1 wr ∧ w.heap.size + 1 ≤ wr.heap.size) (fun sv _ _ _ => strSize sv)
  case atStart => exact ⟨s, [], rfl, ownsRow_empty rfl hz1, lid rfl, by simp, (Below.refl _ _).alloc hz1 _, by simp; omega⟩
  case round =>
    obtain ⟨r, L, rfl, hown, HL, hlr, hbr, hzr⟩ := hrel
    have d0 := (bc hbr (by omega : w.heap.size < w.heap.size + 1) 0).trans c0
    have d1 := (bc hbr (by omega : w.heap.size < w.heap.size + 1) 1).trans c1
    have d2 := (bc hbr (by omega : w.heap.size < w.heap.size + 1) 2).trans c2
    have d3 := (bc hbr (by omega : w.heap.size < w.heap.size + 1) 3).trans c3
    by_cases h0 : 1 ≤ r.size
    · have hne : r.data.toList ≠ [] := List.length_pos_iff.1 h0
      obtain ⟨hn1, hn2, _⟩ := firstLen_spec (l := l) (m := m) (v := v) (b := b) hne
      have hn3 : firstLen l m v b r.data.toList ≤ r.size := hn2
      have HC : Hid (chunksOf r l m v b = r.extract 0 (firstLen l m v b r.data.toList) :: chunksOf (r.extract (firstLen l m v b r.data.toList) r.size) l m v b) := lid (chunksOf_cons l m v b h0)
      have hF : Hid (∀ W, Calls Try.prog 27 #[.string r, .agg #[.int .i64 l, .int .i64 m, .int .i64 v, .int .i64 b]] W fun e w' => e = .returned (.int .i64 (firstLen l m v b r.data.toList)) ∧ Below W.heap.size W w') := lid fun W => refEnd_any r l m v b W hv1 hvl hlm hm hb16 (by omega) h0
      generalize firstLen l m v b r.data.toList = n at *
      have hn4 : (n : Int) ≤ r.size := by omega
      have hn5 : (1 : Int) ≤ n := by omega
      clear hne hn2
      go_wp2_with fail
      (with_reducible refine (hF.out _).mono ?_); rintro e w2 ⟨rfl, hb2⟩
      have hown2 := ownsRow_below hown hb2
      have hz2 := hb2.size
      go_wp2_with (at_builtin; go_must (refine wpList_append_new #[.string (r.extract 0 n)] rfl _ _ 25 rfl (w.heap.size + 1) 9 (.string ByteArray.empty) 1 16 info_string Try.underlying25 rfl (by decide) _ L.length _ hown2 rfl rfl rfl (by simp [Value.oneCell']) (by simp [maxLen]; omega) (by omega) (by omega) ?_))
      intro v' w3 hown3 hb3 _
      go_wp2_with fail
      go_roundw
      case rel => exact ⟨r.extract n r.size, L ++ [r.extract 0 n], rfl, by simpa [svals] using hown3, lid (by rw [HL.out, HC.out]; simp), by simp [ByteArray.size_extract]; omega, (hbr.trans (hb2.mono hzr)).trans hb3, by have := hb3.size; omega⟩
      case measure => simp [strSize, ByteArray.size_extract]; omega
    · have h0' : r.size = 0 := by omega
      have HN := lid (chunksOf_nil l m v b h0')
      have h0z : (r.size : Int) ≤ 0 := by omega
      clear h0'
      go_wp2_with fail
      go_ret2
      refine ⟨_, rfl, ?_, hbB.trans (hbr.mono (by omega))⟩
      rw [HL.out, HN.out, List.append_nil]
      exact ownsRow_base hown (by omega)
end Go.Proofs.Ytmebjjoldhcgpaa
