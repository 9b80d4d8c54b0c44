/-
  subsets of the program, as its caller meets it.
-/
import Derived.Laws.EntriesVeiled
import Derived.Test.YtnjcoejnknpfoaaMinExt
namespace Go.Proofs.Ytnjcoejnknpfoaa
open Go.RowKit Go.Shelf
set_option maxRecDepth 100000 in
set_option maxHeartbeats 2000000 in
theorem subsets_fn (n size : Nat) (w : World) :
    Calls Try.prog 44 #[.int .i64 n, .int .i64 size] w fun e w' => e = .returned (.func (.func 51) #[] #[.pointer (some ⟨w.heap.size + 1, 0, none⟩), .pointer (some ⟨w.heap.size, 0, none⟩)]) ∧
      w' = (w.alloc (.cells #[.int .i64 n] 3)).alloc (.cells #[.int .i64 size] 3) := by
  go_enter Try.func44, Try.ntmps44
  go_wp2_with fail
  go_ret
  exact ⟨rfl, rfl⟩
set_option maxRecDepth 100000 in
set_option maxHeartbeats 4000000 in
theorem subs_any (size n l m B0 B bs bn : Nat) (hsz : size ≤ 5) (hn5 : n ≤ 5) (J : List (List Int) → World → Prop) (Jx : List (List Int) → Sw → World → Prop) (hJ : ∀ s, Ab B (J s))
    (hY : RoundC Try.prog m l B0 B swv (SwX B0) SwT J Jx) (W : World) (hs : W.heap[bs]? = some (.cells #[.int .i64 size] 3 (0, 0))) (hn : W.heap[bn]? = some (.cells #[.int .i64 n] 3 (0, 0))) (h1 : B0 ≤ bs) (h2 : B0 ≤ bn) (hB0 : B0 ≤ W.heap.size)
    (hJ0 : J (setsL n size 0) W) :
    Calls Try.prog 51 #[.func (.yield l) #[] #[], .pointer (some ⟨bs, 0, none⟩), .pointer (some ⟨bn, 0, none⟩)] W fun e W' => e = .returned (.tuple #[]) ∧ (J [] W' ∨ ∃ s x, Jx s x W') := by
  have HS := lid hs
  have HN := lid hn
  have HJ := lid hJ
  have HJ0 := lid hJ0
  clear hs hn hJ hJ0
  go_enter Try.func51, Try.ntmps51
  go_wp2_with fail
  obtain ⟨W2, hW2⟩ : ∃ y, (W.alloc (.cells #[.func (.yield l) #[] #[]] 78)).alloc (.cells #[.func (.func 52) #[] #[.pointer (some ⟨bs, 0, none⟩), .pointer (some ⟨W.heap.size, 0, none⟩), .pointer (some ⟨bn, 0, none⟩), .pointer (some ⟨W.heap.size + 1, 0, none⟩)]] 46) = y := ⟨_, rfl⟩
  have hb : Below W.heap.size W W2 := by rw [← hW2]; exact (ba _ _).alloc (by simp) _
  have hz : W2.heap.size = W.heap.size + 2 := by rw [← hW2]; simp
  have e1 : W2.heap[W.heap.size]? = some (.cells #[.func (.yield l) #[] #[]] 78 (0, 0)) := by
    rw [← hW2]
    exact (Below.heap_alloc _ _ _ (by simp)).trans (World.alloc_heap_new W _)
  have e2 : W2.heap[W.heap.size + 1]? = some (.cells #[.func (.func 52) #[] #[.pointer (some ⟨bs, 0, none⟩), .pointer (some ⟨W.heap.size, 0, none⟩), .pointer (some ⟨bn, 0, none⟩), .pointer (some ⟨W.heap.size + 1, 0, none⟩)]] 46 (0, 0)) := by
    rw [← hW2]
    have := World.alloc_heap_new (W.alloc (.cells #[.func (.yield l) #[] #[]] 78)) (.cells #[.func (.func 52) #[] #[.pointer (some ⟨bs, 0, none⟩), .pointer (some ⟨W.heap.size, 0, none⟩), .pointer (some ⟨bn, 0, none⟩), .pointer (some ⟨W.heap.size + 1, 0, none⟩)]] 46)
    rwa [World.size_alloc] at this
  have hE : Ebx W2 B0 size n bs bn W.heap.size (W.heap.size + 1) l := ⟨(hb.block _ (Array.getElem?_eq_some_iff.1 HS.out).1).trans HS.out, (hb.block _ (Array.getElem?_eq_some_iff.1 HN.out).1).trans HN.out, e1, e2, h1, h2, hB0, by omega⟩
  rw [hW2]
  have CI := ext_any size n l m B0 B bs bn W.heap.size (W.heap.size + 1) hsz hn5 J Jx HJ.out hY size (Nat.le_refl _) [] none 0 0 0 [] W2 rfl (by omega) (by omega) ⟨rfl, Sl.nil, Nat.le_refl _, by simp [maxLen], fun _ => rfl⟩ (fun b o e => by cases e) hE (by
    have h := (HJ.out _).below HJ0.out hb
    simpa using h) (by omega)
  rw [show ((0 : Nat) : Int) = 0 from rfl] at CI
  clear hE e1 e2 hW2
  (with_reducible refine CI.mono ?_)
  rintro e W' ⟨_, ⟨rfl, hJ'⟩ | ⟨rfl, s, x, hJx'⟩⟩
  · go_wp2_with fail
    go_end0
    exact ⟨rfl, .inl hJ'⟩
  · go_wp2_with fail
    go_end0
    exact ⟨rfl, .inr ⟨_, _, hJx'⟩⟩
end Go.Proofs.Ytnjcoejnknpfoaa
