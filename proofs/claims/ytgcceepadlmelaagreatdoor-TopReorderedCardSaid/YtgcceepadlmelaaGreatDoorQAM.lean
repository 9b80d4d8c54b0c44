import Derived.Test.YtgcceepadlmelaaGreatDoorEdDf
import Derived.Test.YtgcceepadlmelaaGreatDoorQAK
namespace Go.Proofs.YtgcceepadlmelaaGreatDoor
open Go.RowKit
theorem wpList_store_to {P : Program} {ops : Array Oper} {rest : List Oper} {op : Oper} {a : Act} {w : World} {Q : Exit → Act → World → Prop} (hgd : op.guard = none) (ty : TypeId) (x y : Operand) (ho : op.op = .store ty x y)
  (b o : Nat) (cells : Array Value) (hx : a.eval x = .pointer (some ⟨b, o, none⟩)) (hy : a.eval y = .agg cells)
  (ht : w.there b o cells.size) (hi : (P.info? ty).map (·.size) = some cells.size) (h1 : cells.all (·.oneCell') = true)
  (h : ∀ W, Hid (w.setCells b o cells.toList = W) → wpList P ops Q rest (a.put op.dst undef) W) : wpList P ops Q (op :: rest) a w :=
 wpList_store_mid hgd ty x y ho b o cells hx hy ht hi h1 (h _ (lid rfl))
def IvR (W : World) (x : Kw) (ok : Int) (s : Nat → Bool) (vs : List Value) (w : World) : Prop :=
 ∃ a b c d, vs = [a, b, c, d] ∧ W = w ∧ (s 1 = true → a = .int .i64 x.kind) ∧ (s 2 = true → b = .int .i64 ok) ∧ (s 4 = true → c = .slice x.na x.new.length x.ncap) ∧ (s 6 = true → d = .slice x.oa x.old.length x.ocap)
theorem IvR.s1 {W w : World} {x : Kw} {ok : Int} {s : Nat → Bool} {a b c d : Value} (h : IvR W x ok s [a, b, c, d] w) : IvR W x ok (upd s 1) [.int .i64 x.kind, b, c, d] w := by
 obtain ⟨_, _, _, _, e, h0, h1, h2, h3, h4⟩ := h
 cases e
 exact ⟨_, _, _, _, rfl, h0, fun _ => rfl, fun e => h2 (by simpa [upd] using e), fun e => h3 (by simpa [upd] using e), fun e => h4 (by simpa [upd] using e)⟩
theorem IvR.s2 {W w : World} {x : Kw} {ok : Int} {s : Nat → Bool} {a b c d : Value} (h : IvR W x ok s [a, b, c, d] w) : IvR W x ok (upd s 2) [a, .int .i64 ok, c, d] w := by
 obtain ⟨_, _, _, _, e, h0, h1, h2, h3, h4⟩ := h
 cases e
 exact ⟨_, _, _, _, rfl, h0, fun e => h1 (by simpa [upd] using e), fun _ => rfl, fun e => h3 (by simpa [upd] using e), fun e => h4 (by simpa [upd] using e)⟩
theorem IvR.s4 {W w : World} {x : Kw} {ok : Int} {s : Nat → Bool} {a b c d : Value} (h : IvR W x ok s [a, b, c, d] w) : IvR W x ok (upd s 4) [a, b, .slice x.na x.new.length x.ncap, d] w := by
 obtain ⟨_, _, _, _, e, h0, h1, h2, h3, h4⟩ := h
 cases e
 exact ⟨_, _, _, _, rfl, h0, fun e => h1 (by simpa [upd] using e), fun e => h2 (by simpa [upd] using e), fun _ => rfl, fun e => h4 (by simpa [upd] using e)⟩
theorem IvR.s6 {W w : World} {x : Kw} {ok : Int} {s : Nat → Bool} {a b c d : Value} (h : IvR W x ok s [a, b, c, d] w) : IvR W x ok (upd s 6) [a, b, c, .slice x.oa x.old.length x.ocap] w := by
 obtain ⟨_, _, _, _, e, h0, h1, h2, h3, h4⟩ := h
 cases e
 exact ⟨_, _, _, _, rfl, h0, fun e => h1 (by simpa [upd] using e), fun e => h2 (by simpa [upd] using e), fun e => h3 (by simpa [upd] using e), fun _ => rfl⟩
end Go.Proofs.YtgcceepadlmelaaGreatDoor
namespace Go.Proofs.YtgcceepadlmelaaGreatDoor
set_option maxRecDepth 100000
set_option maxHeartbeats 4000000
open Go.RowKit
abbrev Con := ByteArray × Int × Int
def idL (l : List Dw) : Int := match l with | d :: _ => d.id | [] => 0
def conK (k : Kw) : Con :=
 if k.kind = 3 ∨ k.kind = 4 then (k.text, 0, 0) else if k.kind = 5 then (⟨#[]⟩, idL k.new, 0) else if k.kind = 6 then (⟨#[]⟩, idL k.old, 0) else if 7 ≤ k.kind then (⟨#[]⟩, idL k.old, k.kind) else (⟨#[]⟩, 0, 0)
abbrev cna (c : Con) : Array Value := #[.string c.1, .int .i64 c.2.1, .int .i64 c.2.2]
theorem res_con {fn : Func} (hf : fn.results = #[.cell 2 104]) (t : Array Value) (w : World) (k : Nat) (m : Con) (h : t.getD 2 undef = .pointer (some ⟨k, 0, none⟩)) (e : w.heap[k]? = some (.cells (cna m) 104 (0, 0))) : (results fn t).run Tryz.prog w = .ok (.agg (cna m)) w := by
 have e0 : w.cell? ⟨k, 0, none⟩ = some (.string m.1) := row_cell e 0
 have e1 : w.cell? ⟨k, 1, none⟩ = some (.int .i64 m.2.1) := row_cell e 1
 have e2 : w.cell? ⟨k, 2, none⟩ = some (.int .i64 m.2.2) := row_cell e 2
 rw [Array.getD_eq_getD_getElem?] at h
 unfold results
 rw [hf]
 simp [go_sem, h, asAddr, e0, e1, e2]
theorem concerns_1 (p t : ByteArray) (oa na : Option Addr) (lo ln oc nc : Nat) (w : World)  : Calls Tryz.prog 62 #[.agg #[.int .i64 1, .string p, .string t, .slice oa lo oc, .slice na ln nc]] w fun r w' => r = .returned (.agg (cna (⟨#[]⟩, 0, 0))) ∧ Below w.heap.size w w' := by
 have HF := lid (show (((w.alloc (.cells #[.int .i64 1, .string p, .string t, .slice oa lo oc, .slice na ln nc] 52)).alloc (.cells (cna (⟨#[]⟩, 0, 0)) 104)).heap[w.heap.size + 1]? = some (.cells (cna (⟨#[]⟩, 0, 0)) 104 (0, 0)) ∧ Below w.heap.size w ((w.alloc (.cells #[.int .i64 1, .string p, .string t, .slice oa lo oc, .slice na ln nc] 52)).alloc (.cells (cna (⟨#[]⟩, 0, 0)) 104))) from ⟨h_new (by simp) _, (ba _ _).alloc (by simp) _⟩)
 go_enter Tryz.func62, Tryz.ntmps62
 go_wp2_with fail
 exact bodyPost_ret (res_con rfl _ _ (w.heap.size + 1) (⟨#[]⟩, 0, 0) rfl HF.out.1) rfl ⟨rfl, HF.out.2⟩
theorem concerns_2 (p t : ByteArray) (oa na : Option Addr) (lo ln oc nc : Nat) (w : World)  : Calls Tryz.prog 62 #[.agg #[.int .i64 2, .string p, .string t, .slice oa lo oc, .slice na ln nc]] w fun r w' => r = .returned (.agg (cna (⟨#[]⟩, 0, 0))) ∧ Below w.heap.size w w' := by
 have HF := lid (show (((w.alloc (.cells #[.int .i64 2, .string p, .string t, .slice oa lo oc, .slice na ln nc] 52)).alloc (.cells (cna (⟨#[]⟩, 0, 0)) 104)).heap[w.heap.size + 1]? = some (.cells (cna (⟨#[]⟩, 0, 0)) 104 (0, 0)) ∧ Below w.heap.size w ((w.alloc (.cells #[.int .i64 2, .string p, .string t, .slice oa lo oc, .slice na ln nc] 52)).alloc (.cells (cna (⟨#[]⟩, 0, 0)) 104))) from ⟨h_new (by simp) _, (ba _ _).alloc (by simp) _⟩)
 go_enter Tryz.func62, Tryz.ntmps62
 go_wp2_with fail
 exact bodyPost_ret (res_con rfl _ _ (w.heap.size + 1) (⟨#[]⟩, 0, 0) rfl HF.out.1) rfl ⟨rfl, HF.out.2⟩
theorem concerns_3 (p t : ByteArray) (oa na : Option Addr) (lo ln oc nc : Nat) (w : World)  : Calls Tryz.prog 62 #[.agg #[.int .i64 3, .string p, .string t, .slice oa lo oc, .slice na ln nc]] w fun r w' => r = .returned (.agg (cna (t, 0, 0))) ∧ Below w.heap.size w w' := by
 have HF := lid (show (((w.alloc (.cells #[.int .i64 3, .string p, .string t, .slice oa lo oc, .slice na ln nc] 52)).alloc (.cells (cna (t, 0, 0)) 104)).heap[w.heap.size + 1]? = some (.cells (cna (t, 0, 0)) 104 (0, 0)) ∧ Below w.heap.size w ((w.alloc (.cells #[.int .i64 3, .string p, .string t, .slice oa lo oc, .slice na ln nc] 52)).alloc (.cells (cna (t, 0, 0)) 104))) from ⟨h_new (by simp) _, (ba _ _).alloc (by simp) _⟩)
 go_enter Tryz.func62, Tryz.ntmps62
 go_wp2_with fail
 exact bodyPost_ret (res_con rfl _ _ (w.heap.size + 1) (t, 0, 0) rfl HF.out.1) rfl ⟨rfl, HF.out.2⟩
theorem concerns_4 (p t : ByteArray) (oa na : Option Addr) (lo ln oc nc : Nat) (w : World)  : Calls Tryz.prog 62 #[.agg #[.int .i64 4, .string p, .string t, .slice oa lo oc, .slice na ln nc]] w fun r w' => r = .returned (.agg (cna (t, 0, 0))) ∧ Below w.heap.size w w' := by
 have HF := lid (show (((w.alloc (.cells #[.int .i64 4, .string p, .string t, .slice oa lo oc, .slice na ln nc] 52)).alloc (.cells (cna (t, 0, 0)) 104)).heap[w.heap.size + 1]? = some (.cells (cna (t, 0, 0)) 104 (0, 0)) ∧ Below w.heap.size w ((w.alloc (.cells #[.int .i64 4, .string p, .string t, .slice oa lo oc, .slice na ln nc] 52)).alloc (.cells (cna (t, 0, 0)) 104))) from ⟨h_new (by simp) _, (ba _ _).alloc (by simp) _⟩)
 go_enter Tryz.func62, Tryz.ntmps62
 go_wp2_with fail
 exact bodyPost_ret (res_con rfl _ _ (w.heap.size + 1) (t, 0, 0) rfl HF.out.1) rfl ⟨rfl, HF.out.2⟩
theorem concerns_5 (p t : ByteArray) (oa na : Option Addr) (lo oc nc : Nat) (d : Dw) (w : World) (hl : DLA w na 1 nc [d]) : Calls Tryz.prog 62 #[.agg #[.int .i64 5, .string p, .string t, .slice oa lo oc, .slice na 1 nc]] w fun r w' => r = .returned (.agg (cna (⟨#[]⟩, d.id, 0))) ∧ Below w.heap.size w w' := by
 obtain ⟨b, o, rfl, hbz, hdw, hc⟩ := dla_first hl
 have hx := hc _ (ba w (.cells #[.int .i64 5, .string p, .string t, .slice oa lo oc, .slice (some ⟨b, o, none⟩) 1 nc] 52)) 0 _ rfl
 have hx0 : w.cell? ⟨b, o, none⟩ = some (.int .i64 d.id) := hc _ (Below.refl _ _) 0 _ rfl
 clear hc hdw hx hl
 have HF := lid (show (((w.alloc (.cells #[.int .i64 5, .string p, .string t, .slice oa lo oc, .slice (some ⟨b, o, none⟩) 1 nc] 52)).alloc (.cells (cna (⟨#[]⟩, d.id, 0)) 104)).heap[w.heap.size + 1]? = some (.cells (cna (⟨#[]⟩, d.id, 0)) 104 (0, 0)) ∧ Below w.heap.size w ((w.alloc (.cells #[.int .i64 5, .string p, .string t, .slice oa lo oc, .slice (some ⟨b, o, none⟩) 1 nc] 52)).alloc (.cells (cna (⟨#[]⟩, d.id, 0)) 104))) from ⟨h_new (by simp) _, (ba _ _).alloc (by simp) _⟩)
 go_enter Tryz.func62, Tryz.ntmps62
 go_wp2_with fail
 exact bodyPost_ret (res_con rfl _ _ (w.heap.size + 1) (⟨#[]⟩, d.id, 0) rfl HF.out.1) rfl ⟨rfl, HF.out.2⟩
theorem concerns_6 (p t : ByteArray) (oa na : Option Addr) (ln oc nc : Nat) (d : Dw) (w : World) (hl : DLA w oa 1 oc [d]) : Calls Tryz.prog 62 #[.agg #[.int .i64 6, .string p, .string t, .slice oa 1 oc, .slice na ln nc]] w fun r w' => r = .returned (.agg (cna (⟨#[]⟩, d.id, 0))) ∧ Below w.heap.size w w' := by
 obtain ⟨b, o, rfl, hbz, hdw, hc⟩ := dla_first hl
 have hx := hc _ (ba w (.cells #[.int .i64 6, .string p, .string t, .slice (some ⟨b, o, none⟩) 1 oc, .slice na ln nc] 52)) 0 _ rfl
 have hx0 : w.cell? ⟨b, o, none⟩ = some (.int .i64 d.id) := hc _ (Below.refl _ _) 0 _ rfl
 clear hc hdw hx hl
 have HF := lid (show (((w.alloc (.cells #[.int .i64 6, .string p, .string t, .slice (some ⟨b, o, none⟩) 1 oc, .slice na ln nc] 52)).alloc (.cells (cna (⟨#[]⟩, d.id, 0)) 104)).heap[w.heap.size + 1]? = some (.cells (cna (⟨#[]⟩, d.id, 0)) 104 (0, 0)) ∧ Below w.heap.size w ((w.alloc (.cells #[.int .i64 6, .string p, .string t, .slice (some ⟨b, o, none⟩) 1 oc, .slice na ln nc] 52)).alloc (.cells (cna (⟨#[]⟩, d.id, 0)) 104))) from ⟨h_new (by simp) _, (ba _ _).alloc (by simp) _⟩)
 go_enter Tryz.func62, Tryz.ntmps62
 go_wp2_with fail
 exact bodyPost_ret (res_con rfl _ _ (w.heap.size + 1) (⟨#[]⟩, d.id, 0) rfl HF.out.1) rfl ⟨rfl, HF.out.2⟩
theorem concerns_hi (k : Int) (p t : ByteArray) (oa na : Option Addr) (ln oc nc : Nat) (d : Dw) (w : World) (hk : 7 ≤ k) (hl : DLA w oa 1 oc [d]) : Calls Tryz.prog 62 #[.agg #[.int .i64 k, .string p, .string t, .slice oa 1 oc, .slice na ln nc]] w fun r w' => r = .returned (.agg (cna (⟨#[]⟩, d.id, k))) ∧ Below w.heap.size w w' := by
 obtain ⟨b, o, rfl, hbz, hdw, hc⟩ := dla_first hl
 have hx := hc _ (ba w (.cells #[.int .i64 k, .string p, .string t, .slice (some ⟨b, o, none⟩) 1 oc, .slice na ln nc] 52)) 0 _ rfl
 have hx0 : w.cell? ⟨b, o, none⟩ = some (.int .i64 d.id) := hc _ (Below.refl _ _) 0 _ rfl
 clear hc hdw hx hl
 have d1 : (k == 1) = false := by simp; omega
 have d2 : (k == 2) = false := by simp; omega
 have d3 : (k == 3) = false := by simp; omega
 have d4 : (k == 4) = false := by simp; omega
 have d5 : (k == 5) = false := by simp; omega
 have d6 : (k == 6) = false := by simp; omega
 have HF := lid (show (((w.alloc (.cells #[.int .i64 k, .string p, .string t, .slice (some ⟨b, o, none⟩) 1 oc, .slice na ln nc] 52)).alloc (.cells (cna (⟨#[]⟩, d.id, k)) 104)).heap[w.heap.size + 1]? = some (.cells (cna (⟨#[]⟩, d.id, k)) 104 (0, 0)) ∧ Below w.heap.size w ((w.alloc (.cells #[.int .i64 k, .string p, .string t, .slice (some ⟨b, o, none⟩) 1 oc, .slice na ln nc] 52)).alloc (.cells (cna (⟨#[]⟩, d.id, k)) 104))) from ⟨h_new (by simp) _, (ba _ _).alloc (by simp) _⟩)
 clear hk
 go_enter Tryz.func62, Tryz.ntmps62
 go_wp2_with fail
 have hbW : Below (w.heap.size + 1) (w.alloc (.cells #[.int .i64 k, .string p, .string t, .slice (some ⟨b, o, none⟩) 1 oc, .slice na ln nc] 52)) ((w.alloc (.cells #[.int .i64 k, .string p, .string t, .slice (some ⟨b, o, none⟩) 1 oc, .slice na ln nc] 52)).alloc (.cells #[.string ⟨#[]⟩, .int .i64 0, .int .i64 0] 104)) := (Below.refl _ _).alloc (by simp) _
 refine qs (fun w' => ∃ s : Since (w.heap.size + 1) (w.alloc (.cells #[.int .i64 k, .string p, .string t, .slice (some ⟨b, o, none⟩) 1 oc, .slice na ln nc] 52)), w' = s.world) [(0, true), (1, true), (2, true), (3, true), (4, true), (5, true), (6, true), (7, true), (8, false)] (since hbW.drew) ?_
 repeat (first | (refine qk ?_; simp only [Act.put, q1, q2, q3]) | (refine qf ?_; intro K hK; go_big_quiet_op; go_big_quiet_on))
 refine qc ?_
 intro K hK
 go_wp2_with fail
 refine hK.out _ _ (since ((Below.refl _ _).alloc (by simp) _).drew) ?_
 clear hK K
 refine seq_nil ?_
 go_wp2_with fail
 exact bodyPost_ret (res_con rfl _ _ (w.heap.size + 1) (⟨#[]⟩, d.id, k) rfl HF.out.1) rfl ⟨rfl, HF.out.2.drew⟩
theorem concerns_any (k : Kw) (w : World) (h : KwA w k) (hf : FitK k) : Calls Tryz.prog 62 #[.agg (kca k)] w fun r w' => r = .returned (.agg (cna (conK k))) ∧ Below w.heap.size w w' := by
 obtain ⟨kd, p, t, oa, old, oc, na, new, nc⟩ := k
 have ho := h.old
 have hn := h.new
 rw [show kca ⟨kd, p, t, oa, old, oc, na, new, nc⟩ = #[.int .i64 kd, .string p, .string t, .slice oa old.length oc, .slice na new.length nc] from rfl]
 rcases hf with ⟨hk, -, -, -⟩ | ⟨hk, -, -⟩ | ⟨hk, -, h1, d, h2⟩ | ⟨hk, -, ⟨d, h1⟩, h2⟩ | ⟨hk, -, a, b, h1, h2, -⟩
 ·rcases hk with rfl | rfl
  ·exact concerns_1 p t oa na _ _ oc nc w
  ·exact concerns_2 p t oa na _ _ oc nc w
 ·rcases hk with rfl | rfl
  ·exact concerns_3 p t oa na _ _ oc nc w
  ·exact concerns_4 p t oa na _ _ oc nc w
 ·simp only at hk h1 h2
  subst hk h1 h2
  exact concerns_5 p t oa na _ oc nc d w hn
 ·simp only at hk h1 h2
  subst hk h1 h2
  exact concerns_6 p t oa na _ oc nc d w ho
 ·simp only at hk h1 h2
  subst h1 h2
  have h7 : 7 ≤ kd := by omega
  have e : conK ⟨kd, p, t, oa, [a], oc, na, [b], nc⟩ = (⟨#[]⟩, a.id, kd) := by
   unfold conK
   rw [if_neg (by simp only; omega), if_neg (by simp only; omega), if_neg (by simp only; omega), if_pos h7]
   rfl
  rw [e]
  exact concerns_hi kd p t oa na _ oc nc a w h7 ho
end Go.Proofs.YtgcceepadlmelaaGreatDoor
namespace Go.Proofs.YtgcceepadlmelaaGreatDoor
set_option maxRecDepth 100000
set_option maxHeartbeats 16000000
open Go.RowKit
abbrev zcA : Array Value := #[.string ⟨#[]⟩, .int .i64 0, .int .i64 0]
def Fc2 (w0 : World) (a b : Con) (s : Nat → Bool) (vs : List Value) (w : World) : Prop :=
 ∃ x y p q, vs = [x, y, p, q] ∧ Below w0.heap.size w0 w ∧ (s 1 = true → x = .agg (cna a)) ∧ (s 3 = true → y = .agg (cna b)) ∧
  (s 4 = true → ∃ g, p = .pointer (some ⟨g, 0, none⟩) ∧ w0.heap.size ≤ g ∧ w.heap[g]? = some (.cells zcA 104 (0, 0))) ∧
  (s 5 = true → ∃ g, q = .pointer (some ⟨g, 0, none⟩) ∧ w0.heap.size ≤ g ∧ w.heap[g]? = some (.cells zcA 104 (0, 0))) ∧ (s 4 = true → s 5 = true → p ≠ q)
theorem Fc2.c1 {w0 w w' : World} {a b : Con} {s : Nat → Bool} {x y p q : Value} (h : Fc2 w0 a b s [x, y, p, q] w) (hb : Below w.heap.size w w') : Fc2 w0 a b (upd s 1) [.agg (cna a), y, p, q] w' := by
 obtain ⟨_, _, _, _, e, h1, h2, h3, h4, h5, h6⟩ := h
 cases e
 refine ⟨_, _, _, _, rfl, h1.trans (hb.mono h1.size), fun _ => rfl, fun e => h3 (by simpa [upd] using e), fun e => ?_, fun e => ?_, fun e1 e2 => h6 (by simpa [upd] using e1) (by simpa [upd] using e2)⟩
 ·obtain ⟨g, e, hg, hr⟩ := h4 (by simpa [upd] using e)
  exact ⟨g, e, hg, (hb.block _ (row_lt hr)).trans hr⟩
 ·obtain ⟨g, e, hg, hr⟩ := h5 (by simpa [upd] using e)
  exact ⟨g, e, hg, (hb.block _ (row_lt hr)).trans hr⟩
theorem Fc2.c3 {w0 w w' : World} {a b : Con} {s : Nat → Bool} {x y p q : Value} (h : Fc2 w0 a b s [x, y, p, q] w) (hb : Below w.heap.size w w') : Fc2 w0 a b (upd s 3) [x, .agg (cna b), p, q] w' := by
 obtain ⟨_, _, _, _, e, h1, h2, h3, h4, h5, h6⟩ := h
 cases e
 refine ⟨_, _, _, _, rfl, h1.trans (hb.mono h1.size), fun e => h2 (by simpa [upd] using e), fun _ => rfl, fun e => ?_, fun e => ?_, fun e1 e2 => h6 (by simpa [upd] using e1) (by simpa [upd] using e2)⟩
 ·obtain ⟨g, e, hg, hr⟩ := h4 (by simpa [upd] using e)
  exact ⟨g, e, hg, (hb.block _ (row_lt hr)).trans hr⟩
 ·obtain ⟨g, e, hg, hr⟩ := h5 (by simpa [upd] using e)
  exact ⟨g, e, hg, (hb.block _ (row_lt hr)).trans hr⟩
theorem Fc2.n4 {w0 w : World} {a b : Con} {s : Nat → Bool} {x y p q : Value} (h : Fc2 w0 a b s [x, y, p, q] w) : Fc2 w0 a b (upd s 4) [x, y, .pointer (some ⟨w.heap.size, 0, none⟩), q] (w.alloc (.cells zcA 104)) := by
 obtain ⟨_, _, _, _, e, h1, h2, h3, h4, h5, h6⟩ := h
 cases e
 refine ⟨_, _, _, _, rfl, h1.alloc h1.size _, fun e => h2 (by simpa [upd] using e), fun e => h3 (by simpa [upd] using e), fun _ => ⟨_, rfl, h1.size, h_new rfl _⟩, fun e => ?_, fun _ e2 => ?_⟩
 ·obtain ⟨g, e, hg, hr⟩ := h5 (by simpa [upd] using e)
  exact ⟨g, e, hg, (h_old (row_lt hr) _).trans hr⟩
 ·obtain ⟨g, rfl, hg, hr⟩ := h5 (by simpa [upd] using e2)
  exact ptr_ne (by have := row_lt hr; omega)
theorem Fc2.n5 {w0 w : World} {a b : Con} {s : Nat → Bool} {x y p q : Value} (h : Fc2 w0 a b s [x, y, p, q] w) : Fc2 w0 a b (upd s 5) [x, y, p, .pointer (some ⟨w.heap.size, 0, none⟩)] (w.alloc (.cells zcA 104)) := by
 obtain ⟨_, _, _, _, e, h1, h2, h3, h4, h5, h6⟩ := h
 cases e
 refine ⟨_, _, _, _, rfl, h1.alloc h1.size _, fun e => h2 (by simpa [upd] using e), fun e => h3 (by simpa [upd] using e), fun e => ?_, fun _ => ⟨_, rfl, h1.size, h_new rfl _⟩, fun e2 _ => ?_⟩
 ·obtain ⟨g, e, hg, hr⟩ := h4 (by simpa [upd] using e)
  exact ⟨g, e, hg, (h_old (row_lt hr) _).trans hr⟩
 ·obtain ⟨g, rfl, hg, hr⟩ := h4 (by simpa [upd] using e2)
  exact ptr_ne (by have := row_lt hr; omega)
def zCon : Con := (⟨#[]⟩, 0, 0)
def indC (x y : Con) : Bool := if x = zCon ∨ y = zCon ∨ x = y then false else if x.2.1 ≠ y.2.1 ∨ x.1 ≠ y.1 then true else decide (x.2.2 ≠ 0 ∧ y.2.2 ≠ 0)
theorem toL_iff (a b : ByteArray) : a.toList = b.toList ↔ a = b := ⟨fun h => by rw [ByteArray.toList_eq, ByteArray.toList_eq] at h; exact bytes_inj h, fun h => by rw [h]⟩
theorem toL_nil (a : ByteArray) : a.toList = [] ↔ a = ⟨#[]⟩ := by
 rw [← toL_iff a ⟨#[]⟩]
 rw [show (⟨#[]⟩ : ByteArray).toList = [] by rw [ByteArray.toList_eq]]
theorem indC_eq (u1 u2 : ByteArray) (i1 i2 t1 t2 : Int) : indC (u1, i1, t1) (u2, i2, t2) = if (u1.toList = [] ∧ i1 = 0 ∧ t1 = 0) ∨ (u2.toList = [] ∧ i2 = 0 ∧ t2 = 0) ∨ (u1.toList = u2.toList ∧ i1 = i2 ∧ t1 = t2) then false else if i1 ≠ i2 ∨ u1.toList ≠ u2.toList then true else (t1 != 0 && t2 != 0) := by
 simp only [indC, zCon, ne_eq, toL_iff, toL_nil, Prod.mk.injEq]
 have e : decide (t1 ≠ 0 ∧ t2 ≠ 0) = (t1 != 0 && t2 != 0) := by
  by_cases h1 : t1 = 0 <;> by_cases h2 : t2 = 0 <;> simp [h1, h2]
 simp only [ne_eq] at e
 rw [e]
def indK (a b : Kw) : Bool := if a.pack ≠ b.pack then true else indC (conK a) (conK b)
theorem independent_any (a b : Kw) (w : World) (ha : KwA w a) (hb : KwA w b) (hfa : FitK a) (hfb : FitK b) :
  Calls Tryz.prog 32 #[.agg (kca a), .agg (kca b)] w fun r w' => r = .returned (.bool (indK a b)) ∧ Below w.heap.size w w' := by
 obtain ⟨W0, hW0⟩ : ∃ y, (w.alloc (.cells (kca a) 52)).alloc (.cells (kca b) 52) = y := ⟨_, rfl⟩
 have hb0 : Below w.heap.size w W0 := by rw [← hW0]; exact (ba _ _).alloc (by simp) _
 have hRA : W0.heap[w.heap.size]? = some (.cells (kca a) 52 (0, 0)) := by rw [← hW0]; exact (h_old (by simp) _).trans (h_new rfl _)
 have hRB : W0.heap[w.heap.size + 1]? = some (.cells (kca b) 52 (0, 0)) := by rw [← hW0]; exact h_new (by simp) _
 have CA := lid (fun (W : World) (hW : Below w.heap.size w W) => concerns_any a W (ha.below hW) hfa)
 have CB := lid (fun (W : World) (hW : Below w.heap.size w W) => concerns_any b W (hb.below hW) hfb)
 obtain ⟨ca, hca⟩ : ∃ c, conK a = c := ⟨_, rfl⟩
 obtain ⟨cb, hcb⟩ : ∃ c, conK b = c := ⟨_, rfl⟩
 have HRES : Hid (indK a b = if a.pack ≠ b.pack then true else indC ca cb) := lid (by unfold indK; rw [hca, hcb])
 rw [hca] at CA
 rw [hcb] at CB
 have HW0 := lid hW0
 have HB0 := lid hb0
 have a0 : W0.cell? ⟨w.heap.size, 0, none⟩ = some (.int .i64 a.kind) := row_cell hRA 0
 have a1 : W0.cell? ⟨w.heap.size, 1, none⟩ = some (.string a.pack) := row_cell hRA 1
 have a2 : W0.cell? ⟨w.heap.size, 2, none⟩ = some (.string a.text) := row_cell hRA 2
 have a3 : W0.cell? ⟨w.heap.size, 3, none⟩ = some (.slice a.oa a.old.length a.ocap) := row_cell hRA 3
 have a4 : W0.cell? ⟨w.heap.size, 4, none⟩ = some (.slice a.na a.new.length a.ncap) := row_cell hRA 4
 have b0 : W0.cell? ⟨w.heap.size + 1, 0, none⟩ = some (.int .i64 b.kind) := row_cell hRB 0
 have b1 : W0.cell? ⟨w.heap.size + 1, 1, none⟩ = some (.string b.pack) := row_cell hRB 1
 have b2 : W0.cell? ⟨w.heap.size + 1, 2, none⟩ = some (.string b.text) := row_cell hRB 2
 have b3 : W0.cell? ⟨w.heap.size + 1, 3, none⟩ = some (.slice b.oa b.old.length b.ocap) := row_cell hRB 3
 have b4 : W0.cell? ⟨w.heap.size + 1, 4, none⟩ = some (.slice b.na b.new.length b.ncap) := row_cell hRB 4
 have la := row_lt hRA
 have lb := row_lt hRB
 clear ha hb hfa hfb hca hcb hW0 hb0 hRA hRB
 by_cases hp : a.pack = b.pack
 case neg =>
  have HV : Hid (indK a b = true) := lid (by rw [HRES.out, if_pos hp])
  have d := str_ne hp
  clear hp
  go_enter Tryz.func32, Tryz.ntmps32
  go_wp2_with fail
  rw [HW0.out]
  go_wp2_with fail
  go_ret
  exact ⟨by rw [HV.out]; rfl, HB0.out⟩
 have HV : Hid (indK a b = indC ca cb) := lid (by rw [HRES.out, if_neg (by simp [hp])])
 have d := str_eq hp
 clear hp HRES
 go_enter Tryz.func32, Tryz.ntmps32
 go_wp2_with fail
 rw [HW0.out]
 go_wp2_with fail
 refine wp_region_mix (fun w' => ∃ s : Since W0.heap.size W0, w' = s.world) [(0, true), (2, true)] [(1, []), (3, [1]), (4, []), (5, [])] [(6, false), (7, false)] (by kernel_rfl) (by kernel_rfl) (by intro c d v a w h; first | (cases d <;> exact h) | cases h.1) (since (Below.refl _ _).drew) ?_
 repeat (first | (refine qk ?_; simp only [Act.put, q1, q2, q3]) | (refine qf ?_; intro K hK; go_big_quiet_op; go_big_quiet_on))
 refine seq_nil (mix_go [14, 16, 5, 6] [undef, undef, undef, undef] (Fc2 W0 ca cb) rfl (by simp only [putAll, Act.put, q1, q2, q3]) (fun s h => ⟨_, _, _, _, rfl, (Below.refl _ _).drew, fun e => absurd e (by rw [h (1, []) (by simp)]; simp), fun e => absurd e (by rw [h (3, [1]) (by simp)]; simp), fun e => absurd e (by rw [h (4, []) (by simp)]; simp), fun e => absurd e (by rw [h (5, []) (by simp)]; simp), fun e => absurd e (by rw [h (4, []) (by simp)]; simp)⟩) ⟨?_, ?_, ?_, ?_, trivial⟩ ?_)
 ·intro s vs wm _ _ _ _ hR
  have hR' := lid hR
  obtain ⟨p1, p2, p3, p4, rfl, hB1, -⟩ := hR
  have HB1 := lid hB1
  simp only [putAll, Act.put, q1, q2, q3]
  refine mix_op (by rfl) ?_
  intro K hK
  clear hB1
  go_wp2_with fail
  (with_reducible refine (CA.out wm (HB0.out.trans (HB1.out.mono HB0.out.size))).mono ?_); rintro e w4 ⟨rfl, hb4⟩
  go_wp2_with fail
  exact hK.out _ _ ⟨since (HB1.out.trans (hb4.mono HB1.out.size)), [_, p2, p3, p4], rfl, by simp only [putAll, Act.put, q1, q2, q3], hR'.out.c1 hb4⟩
 ·intro s vs wm _ _ _ _ hR
  have hR' := lid hR
  obtain ⟨p1, p2, p3, p4, rfl, hB1, -⟩ := hR
  have HB1 := lid hB1
  simp only [putAll, Act.put, q1, q2, q3]
  refine mix_op (by rfl) ?_
  intro K hK
  clear hB1
  go_wp2_with fail
  (with_reducible refine (CB.out wm (HB0.out.trans (HB1.out.mono HB0.out.size))).mono ?_); rintro e w4 ⟨rfl, hb4⟩
  go_wp2_with fail
  exact hK.out _ _ ⟨since (HB1.out.trans (hb4.mono HB1.out.size)), [p1, _, p3, p4], rfl, by simp only [putAll, Act.put, q1, q2, q3], hR'.out.c3 hb4⟩
 ·intro s vs wm _ _ _ _ hR
  have hR' := lid hR
  obtain ⟨p1, p2, p3, p4, rfl, hB1, -⟩ := hR
  have HB1 := lid hB1
  simp only [putAll, Act.put, q1, q2, q3]
  refine mix_op (by rfl) ?_
  intro K hK
  clear hB1
  go_wp2_with fail
  exact hK.out _ _ ⟨since (HB1.out.alloc HB1.out.size _), [p1, p2, _, p4], rfl, by simp only [putAll, Act.put, q1, q2, q3], hR'.out.n4⟩
 ·intro s vs wm _ _ _ _ hR
  have hR' := lid hR
  obtain ⟨p1, p2, p3, p4, rfl, hB1, -⟩ := hR
  have HB1 := lid hB1
  simp only [putAll, Act.put, q1, q2, q3]
  refine mix_op (by rfl) ?_
  intro K hK
  clear hB1
  go_wp2_with fail
  exact hK.out _ _ ⟨since (HB1.out.alloc HB1.out.size _), [p1, p2, p3, _], rfl, by simp only [putAll, Act.put, q1, q2, q3], hR'.out.n5⟩
 intro s vs w8 _ hall _ hR
 obtain ⟨p1, p2, p3, p4, rfl, hB1, h4, h9, h10, h11, hpq⟩ := hR
 obtain rfl := h4 (hall (1, []) (by simp))
 obtain rfl := h9 (hall (3, [1]) (by simp))
 obtain ⟨g, rfl, hgz, hrg⟩ := h10 (hall (4, []) (by simp))
 obtain ⟨q, rfl, hqz, hrq⟩ := h11 (hall (5, []) (by simp))
 have hgq : g ≠ q := fun e => hpq (hall (4, []) (by simp)) (hall (5, []) (by simp)) (by rw [e])
 clear h4 h9 h10 h11 hpq hall
 simp only [putAll, Act.put, q1, q2, q3]
 refine qc ?_
 intro K hK
 refine wpList_store_mid rfl 104 _ _ rfl g 0 (cna ca) rfl rfl (there_row hrg (by simp)) (by kernel_rfl) (by simp [Value.oneCell']) ?_
 obtain ⟨w9, hw9⟩ : ∃ y, w8.setCells g 0 (cna ca).toList = y := ⟨_, rfl⟩
 have h9 : Below W0.heap.size W0 w9 := by rw [← hw9]; exact below_cells hgz _ _ _ hB1
 have hA9 : w9.heap[g]? = some (.cells (cna ca) 104 (0, 0)) := by rw [← hw9]; exact row_whole hrg rfl
 have hB9 : w9.heap[q]? = some (.cells zcA 104 (0, 0)) := by rw [← hw9]; exact (setCells_other (Ne.symm hgq) _ _ _).trans hrq
 rw [hw9]
 clear hw9
 simp only [Act.put]
 go_wp2_with fail
 refine hK.out _ _ (since h9) ?_
 clear hK K
 refine qc ?_
 intro K hK
 refine wpList_store_mid rfl 104 _ _ rfl q 0 (cna cb) rfl rfl (there_row hB9 (by simp)) (by kernel_rfl) (by simp [Value.oneCell']) ?_
 obtain ⟨w10, hw10⟩ : ∃ y, w9.setCells q 0 (cna cb).toList = y := ⟨_, rfl⟩
 have h10 : Below W0.heap.size W0 w10 := by rw [← hw10]; exact below_cells hqz _ _ _ h9
 have hB10 : w10.heap[q]? = some (.cells (cna cb) 104 (0, 0)) := by rw [← hw10]; exact row_whole hB9 rfl
 have hA10 : w10.heap[g]? = some (.cells (cna ca) 104 (0, 0)) := by rw [← hw10]; exact (setCells_other hgq _ _ _).trans hA9
 rw [hw10]
 simp only [Act.put]
 clear hw10 hrg hrq hA9 hB9 h9 hB1
 have H10 := lid (HB0.out.trans (h10.mono HB0.out.size))
 have HK10 := lid h10
 obtain ⟨u1, i1, t1⟩ := ca
 obtain ⟨u2, i2, t2⟩ := cb
 have p0 : w10.cell? ⟨g, 0, none⟩ = some (.string u1) := row_cell hA10 0
 have p1 : w10.cell? ⟨g, 1, none⟩ = some (.int .i64 i1) := row_cell hA10 1
 have p2 : w10.cell? ⟨g, 2, none⟩ = some (.int .i64 t1) := row_cell hA10 2
 have q0 : w10.cell? ⟨q, 0, none⟩ = some (.string u2) := row_cell hB10 0
 have q1 : w10.cell? ⟨q, 1, none⟩ = some (.int .i64 i2) := row_cell hB10 1
 have q2 : w10.cell? ⟨q, 2, none⟩ = some (.int .i64 t2) := row_cell hB10 2
 have lg := row_lt hA10
 have lq := row_lt hB10
 clear h10 hA10 hB10 hgz hqz hgq CA CB a0 a1 a2 a3 a4 b0 b1 b2 b3 b4 la lb
 go_wp2_with fail
 refine hK.out _ _ (since HK10.out) (seq_nil ?_)
 clear hK K
 rw [indC_eq] at HV
 go_wp2_with fail
 all_goals (refine bodyPost_ret (results_tmp rfl _ _ _) rfl ⟨?_, (H10.out.alloc H10.out.size _)⟩; rw [HV.out]; first | (simp [*]; done) | (simp [*]; omega) | (simp_all; done) | (simp_all; omega))
end Go.Proofs.YtgcceepadlmelaaGreatDoor
