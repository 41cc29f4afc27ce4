/- key.used, key.Of, key.Right. -/
import Derived.Test.YtbfefdedjcppaaaGreatDoorEQ6
import Derived.Test.YtbfefdedjcppaaaGreatDoorEL6
namespace Go.Proofs.YtbfefdedjcppaaaGreatDoor
set_option maxRecDepth 100000
set_option maxHeartbeats 16000000
open Go.RowKit
def usK6 (k : Nat) : Nat × Bool × Bool := if k = 2 then (16, false, false) else if k = 3 then (0, false, true) else if k = 4 then (4, false, false) else if k = 5 then (4, true, false) else if k = 6 then (4, true, true) else (0, false, false)
def usC6 (u : Nat × Bool × Bool) : List Value := [.int .i64 (u.1 : Int), .bool u.2.1, .bool u.2.2]
def usZ6 : Array Value := #[Value.int .i64 0, Value.bool false, Value.bool false]
theorem sizUse : (Tryz.prog.info? 227).map (·.size) = some 3 := by kernel_rfl
theorem bldU2 : Tryz.prog.built 227 [(0, .int .i64 16)] = some (usC6 (16, false, false)).toArray := by kernel_rfl
theorem bldU3 : Tryz.prog.built 227 [(2, .bool true)] = some (usC6 (0, false, true)).toArray := by kernel_rfl
theorem bldU4 : Tryz.prog.built 227 [(0, .int .i64 4)] = some (usC6 (4, false, false)).toArray := by kernel_rfl
theorem bldU5 : Tryz.prog.built 227 [(0, .int .i64 4), (1, .bool true)] = some (usC6 (4, true, false)).toArray := by kernel_rfl
theorem bldU6 : Tryz.prog.built 227 [(0, .int .i64 4), (1, .bool true), (2, .bool true)] = some (usC6 (4, true, true)).toArray := by kernel_rfl
theorem bldU0 : Tryz.prog.built 227 [] = some (usC6 (0, false, false)).toArray := by kernel_rfl
theorem used6_any (k : Nat) (w : World) : Calls Tryz.prog 147 #[.int .i64 (k : Int)] w fun e w' => e = .returned (.agg (usC6 (usK6 k)).toArray) ∧ Below w.heap.size w w' := by
 have HB0 := Lib.hid (below_alloc1 w (.cells usZ6 227))
 have HG0 := Lib.hid (heap_alloc_new w (.cells usZ6 227))
 obtain h | h | h | h | h | ⟨h2, h3, h4, h5, h6⟩ : k = 2 ∨ k = 3 ∨ k = 4 ∨ k = 5 ∨ k = 6 ∨ (k ≠ 2 ∧ k ≠ 3 ∧ k ≠ 4 ∧ k ≠ 5 ∧ k ≠ 6) := by omega
 · subst h
   go_enter Tryz.func147, Tryz.ntmps147
   go_upto_region 1 with fail
   rw [show (Obj.cells #[Value.int .i64 0, Value.bool false, Value.bool false] 227) = Obj.cells usZ6 227 from rfl]
   generalize w.alloc (.cells usZ6 227) = W1 at *
   go_wp2_with (first
     | ((with_reducible refine gate_bd 227 _ rfl ?_); refine wl_bd rfl _ [(0, .const (.int .i64 16))] rfl [(0, .int .i64 16)] rfl (usC6 (16, false, false)).toArray bldU2 ?_)
     | ((with_reducible refine gate_st 227 _ _ rfl ?_); refine wl_strG rfl 227 _ _ rfl w.heap.size (usC6 (16, false, false)).toArray usZ6 227 (by rw [sizUse]; rfl) rfl (by rw [← Array.all_toList]; rfl) rfl rfl HG0.out (fun W3 h1 h2 => ?_); have HG3 := Lib.hid h1; have HB3 := Lib.hid (HB0.out.trans (h2.below (B := w.heap.size) (fun k hk => by simp at hk; omega) HB0.out.size)); clear h1 h2; try simp only [Act.put]))
   refine bodyPost_ret (res_rowc (P := Tryz.prog) (T := 227) (T' := 227) rfl _ _ w.heap.size (usC6 (16, false, false)).toArray (0, 0) rfl HG3.out Tryz.underlying227 rfl (by rw [sizUse]; rfl)) rfl ⟨rfl, HB3.out⟩
 · subst h
   go_enter Tryz.func147, Tryz.ntmps147
   go_upto_region 1 with fail
   rw [show (Obj.cells #[Value.int .i64 0, Value.bool false, Value.bool false] 227) = Obj.cells usZ6 227 from rfl]
   generalize w.alloc (.cells usZ6 227) = W1 at *
   go_wp2_with (first
     | ((with_reducible refine gate_bd 227 _ rfl ?_); refine wl_bd rfl _ [(2, .const (.bool true))] rfl [(2, .bool true)] rfl (usC6 (0, false, true)).toArray bldU3 ?_)
     | ((with_reducible refine gate_st 227 _ _ rfl ?_); refine wl_strG rfl 227 _ _ rfl w.heap.size (usC6 (0, false, true)).toArray usZ6 227 (by rw [sizUse]; rfl) rfl (by rw [← Array.all_toList]; rfl) rfl rfl HG0.out (fun W3 h1 h2 => ?_); have HG3 := Lib.hid h1; have HB3 := Lib.hid (HB0.out.trans (h2.below (B := w.heap.size) (fun k hk => by simp at hk; omega) HB0.out.size)); clear h1 h2; try simp only [Act.put]))
   refine bodyPost_ret (res_rowc (P := Tryz.prog) (T := 227) (T' := 227) rfl _ _ w.heap.size (usC6 (0, false, true)).toArray (0, 0) rfl HG3.out Tryz.underlying227 rfl (by rw [sizUse]; rfl)) rfl ⟨rfl, HB3.out⟩
 · subst h
   go_enter Tryz.func147, Tryz.ntmps147
   go_upto_region 1 with fail
   rw [show (Obj.cells #[Value.int .i64 0, Value.bool false, Value.bool false] 227) = Obj.cells usZ6 227 from rfl]
   generalize w.alloc (.cells usZ6 227) = W1 at *
   go_wp2_with (first
     | ((with_reducible refine gate_bd 227 _ rfl ?_); refine wl_bd rfl _ [(0, .const (.int .i64 4))] rfl [(0, .int .i64 4)] rfl (usC6 (4, false, false)).toArray bldU4 ?_)
     | ((with_reducible refine gate_st 227 _ _ rfl ?_); refine wl_strG rfl 227 _ _ rfl w.heap.size (usC6 (4, false, false)).toArray usZ6 227 (by rw [sizUse]; rfl) rfl (by rw [← Array.all_toList]; rfl) rfl rfl HG0.out (fun W3 h1 h2 => ?_); have HG3 := Lib.hid h1; have HB3 := Lib.hid (HB0.out.trans (h2.below (B := w.heap.size) (fun k hk => by simp at hk; omega) HB0.out.size)); clear h1 h2; try simp only [Act.put]))
   refine bodyPost_ret (res_rowc (P := Tryz.prog) (T := 227) (T' := 227) rfl _ _ w.heap.size (usC6 (4, false, false)).toArray (0, 0) rfl HG3.out Tryz.underlying227 rfl (by rw [sizUse]; rfl)) rfl ⟨rfl, HB3.out⟩
 · subst h
   go_enter Tryz.func147, Tryz.ntmps147
   go_upto_region 1 with fail
   rw [show (Obj.cells #[Value.int .i64 0, Value.bool false, Value.bool false] 227) = Obj.cells usZ6 227 from rfl]
   generalize w.alloc (.cells usZ6 227) = W1 at *
   go_wp2_with (first
     | ((with_reducible refine gate_bd 227 _ rfl ?_); refine wl_bd rfl _ [(0, .const (.int .i64 4)), (1, .const (.bool true))] rfl [(0, .int .i64 4), (1, .bool true)] rfl (usC6 (4, true, false)).toArray bldU5 ?_)
     | ((with_reducible refine gate_st 227 _ _ rfl ?_); refine wl_strG rfl 227 _ _ rfl w.heap.size (usC6 (4, true, false)).toArray usZ6 227 (by rw [sizUse]; rfl) rfl (by rw [← Array.all_toList]; rfl) rfl rfl HG0.out (fun W3 h1 h2 => ?_); have HG3 := Lib.hid h1; have HB3 := Lib.hid (HB0.out.trans (h2.below (B := w.heap.size) (fun k hk => by simp at hk; omega) HB0.out.size)); clear h1 h2; try simp only [Act.put]))
   refine bodyPost_ret (res_rowc (P := Tryz.prog) (T := 227) (T' := 227) rfl _ _ w.heap.size (usC6 (4, true, false)).toArray (0, 0) rfl HG3.out Tryz.underlying227 rfl (by rw [sizUse]; rfl)) rfl ⟨rfl, HB3.out⟩
 · subst h
   go_enter Tryz.func147, Tryz.ntmps147
   go_upto_region 1 with fail
   rw [show (Obj.cells #[Value.int .i64 0, Value.bool false, Value.bool false] 227) = Obj.cells usZ6 227 from rfl]
   generalize w.alloc (.cells usZ6 227) = W1 at *
   go_wp2_with (first
     | ((with_reducible refine gate_bd 227 _ rfl ?_); refine wl_bd rfl _ [(0, .const (.int .i64 4)), (1, .const (.bool true)), (2, .const (.bool true))] rfl [(0, .int .i64 4), (1, .bool true), (2, .bool true)] rfl (usC6 (4, true, true)).toArray bldU6 ?_)
     | ((with_reducible refine gate_st 227 _ _ rfl ?_); refine wl_strG rfl 227 _ _ rfl w.heap.size (usC6 (4, true, true)).toArray usZ6 227 (by rw [sizUse]; rfl) rfl (by rw [← Array.all_toList]; rfl) rfl rfl HG0.out (fun W3 h1 h2 => ?_); have HG3 := Lib.hid h1; have HB3 := Lib.hid (HB0.out.trans (h2.below (B := w.heap.size) (fun k hk => by simp at hk; omega) HB0.out.size)); clear h1 h2; try simp only [Act.put]))
   refine bodyPost_ret (res_rowc (P := Tryz.prog) (T := 227) (T' := 227) rfl _ _ w.heap.size (usC6 (4, true, true)).toArray (0, 0) rfl HG3.out Tryz.underlying227 rfl (by rw [sizUse]; rfl)) rfl ⟨rfl, HB3.out⟩
 · have HU : Hid (usK6 k = (0, false, false)) := by show _ = _; unfold usK6; rw [if_neg h2, if_neg h3, if_neg h4, if_neg h5, if_neg h6]
   have e2 : ((k : Int) == 2) = false := by simp; omega
   have e3 : ((k : Int) == 3) = false := by simp; omega
   have e4 : ((k : Int) == 4) = false := by simp; omega
   have e5 : ((k : Int) == 5) = false := by simp; omega
   have e6 : ((k : Int) == 6) = false := by simp; omega
   clear h2 h3 h4 h5 h6
   go_enter Tryz.func147, Tryz.ntmps147
   go_upto_region 1 with fail
   rw [show (Obj.cells #[Value.int .i64 0, Value.bool false, Value.bool false] 227) = Obj.cells usZ6 227 from rfl]
   generalize w.alloc (.cells usZ6 227) = W1 at *
   go_wp2_with (first
     | ((with_reducible refine gate_bd 227 _ rfl ?_); refine wl_bd rfl _ [] rfl [] rfl (usC6 (0, false, false)).toArray bldU0 ?_)
     | ((with_reducible refine gate_st 227 _ _ rfl ?_); refine wl_strG rfl 227 _ _ rfl w.heap.size (usC6 (0, false, false)).toArray usZ6 227 (by rw [sizUse]; rfl) rfl (by rw [← Array.all_toList]; rfl) rfl rfl HG0.out (fun W3 h1 h2 => ?_); have HG3 := Lib.hid h1; have HB3 := Lib.hid (HB0.out.trans (h2.below (B := w.heap.size) (fun k hk => by simp at hk; omega) HB0.out.size)); clear h1 h2; try simp only [Act.put]))
   refine bodyPost_ret (res_rowc (P := Tryz.prog) (T := 227) (T' := 227) rfl _ _ w.heap.size (usC6 (0, false, false)).toArray (0, 0) rfl HG3.out Tryz.underlying227 rfl (by rw [sizUse]; rfl)) rfl ⟨by rw [HU.out], HB3.out⟩
def z12k : List UInt8 := List.replicate 12 0
def z10k : List UInt8 := List.replicate 10 0
def kL (x0 x1 x2 : UInt8) (n t : List UInt8) : List UInt8 := x0 :: x1 :: x2 :: (n ++ t)
theorem kL_len {x0 x1 x2 : UInt8} {n t : List UInt8} (hn : n.length = 12) (ht : t.length = 10) : (kL x0 x1 x2 n t).length = 25 := by simp [kL, hn, ht]
theorem rowB (l r : List UInt8) (off : Nat) : RowIn (bC l).toList off (bC r).toList = (bC (l.take off ++ r ++ l.drop (off + r.length))).toList := by
 unfold RowIn bC
 simp only [List.toList_toArray, List.length_map, ← List.map_take, ← List.map_drop, ← List.map_append]
theorem rowK_nm (x0 x1 x2 : UInt8) {n n' : List UInt8} (t : List UInt8) (h : n.length = 12) (h' : n'.length = 12) : RowIn (bC (kL x0 x1 x2 n t)).toList 3 (bC n').toList = (bC (kL x0 x1 x2 n' t)).toList := by
 rw [rowB]
 congr 2
 unfold kL
 rw [h', show 3 + 12 = 12 + 1 + 1 + 1 from rfl]
 simp only [List.take_succ_cons, List.take_zero, List.drop_succ_cons]
 rw [List.drop_left' h]; rfl
theorem rowK_tg (x0 x1 x2 : UInt8) {n t t' : List UInt8} (h : n.length = 12) (ht : t.length = 10) (ht' : t'.length = 10) : RowIn (bC (kL x0 x1 x2 n t)).toList 15 (bC t').toList = (bC (kL x0 x1 x2 n t')).toList := by
 rw [rowB]
 congr 2
 unfold kL
 rw [ht', show (15 : Nat) = 12 + 1 + 1 + 1 from rfl, show 12 + 1 + 1 + 1 + 10 = (12 + 10) + 1 + 1 + 1 from rfl]
 simp only [List.take_succ_cons, List.drop_succ_cons]
 rw [List.take_left' h, List.drop_eq_nil_of_le (by simp [h, ht]), List.append_nil]; rfl
theorem usK6_nm {k ua : Nat} {ub uc : Bool} (h : usK6 k = (ua, ub, uc)) (h0 : ¬ 0 < ua) : ub = false := by
 unfold usK6 at h
 repeat' split at h
 all_goals (cases h; first | rfl | exact absurd (by decide) h0)
def errK (b0 b1 b2 : UInt8) (nm tg : List UInt8) : Nat :=
 if b0.toNat < 1 ∨ 6 < b0.toNat then 16
 else if 4 ≤ b1.toNat ∨ (0 < (usK6 b0.toNat).1 ∧ (usK6 b0.toNat).1 ≤ b2.toNat) then 5
 else if (usK6 b0.toNat).2.1 = true ∧ rightB nm = false then 15
 else if (usK6 b0.toNat).2.2 = true ∧ (rightT tg = false ∨ tg = z10k) then 14 else 0
def ofK (b0 b1 b2 : UInt8) (nm tg : List UInt8) : List UInt8 :=
 if errK b0 b1 b2 nm tg = 0 then kL b0 b1 (if 0 < (usK6 b0.toNat).1 then b2 else 0) (if (usK6 b0.toNat).2.1 = true then nm else z12k) (if (usK6 b0.toNat).2.2 = true then tg else z10k) else kL 0 0 0 z12k z10k
structure KfSt (w W : World) (nm tg : List UInt8) : Prop where
 bel : Below w.heap.size w W
 a : W.heap[w.heap.size]? = some (.cells (bC nm) 24 (0, 0))
 b : W.heap[w.heap.size + 1]? = some (.cells (bC tg) 28 (0, 0))
 r : W.heap[w.heap.size + 2]? = some (.cells (bC (kL 0 0 0 z12k z10k)) 32 (0, 0))
theorem KfSt.below {w W W' : World} {nm tg : List UInt8} (h : KfSt w W nm tg) (hb : Below W.heap.size W W') : KfSt w W' nm tg :=
 ⟨h.bel.trans (hb.mono h.bel.size), (hb.block _ (lt_heap h.a)).trans h.a, (hb.block _ (lt_heap h.b)).trans h.b, (hb.block _ (lt_heap h.r)).trans h.r⟩
theorem KfSt.alloc {w W : World} {nm tg : List UInt8} (h : KfSt w W nm tg) (o : Obj) : KfSt w (W.alloc o) nm tg := h.below (below_alloc1 W o)
theorem KfSt.turn {w W W' : World} {nm tg : List UInt8} {g : Nat} (h : KfSt w W nm tg) (ht : Turn [g] W W') (hg : w.heap.size + 2 < g) : KfSt w W' nm tg := by
 have hk : ∀ k, k < W.heap.size → k ≤ w.heap.size + 2 → W'.heap[k]? = W.heap[k]? := fun k a b => ht.block k a (by simp; omega)
 exact ⟨h.bel.trans (ht.below (fun k hk => by simp at hk; omega) h.bel.size), (hk _ (lt_heap h.a) (by omega)).trans h.a, (hk _ (lt_heap h.b) (by omega)).trans h.b, (hk _ (lt_heap h.r) (by omega)).trans h.r⟩
theorem KfSt.start (w : World) (nm tg : List UInt8) : KfSt w (((w.alloc (.cells (bC nm) 24)).alloc (.cells (bC tg) 28)).alloc (.cells (bC (kL 0 0 0 z12k z10k)) 32)) nm tg := by
 refine ⟨(below_alloc2 _ _ _).alloc (by simp; omega) _, ?_, ?_, ?_⟩
 · rw [heap_alloc_old _ _ (by simp; omega)]; exact heap_alloc2_old _ _ _
 · rw [heap_alloc_old _ _ (by simp)]; exact heap_alloc2_new _ _ _
 · have := heap_alloc_new ((w.alloc (.cells (bC nm) 24)).alloc (.cells (bC tg) 28)) (.cells (bC (kL 0 0 0 z12k z10k)) 32); simpa using this
theorem bldK0 : Tryz.prog.built 32 [] = some (bC (kL 0 0 0 z12k z10k)) := by kernel_rfl
theorem bldK1 (x y : UInt8) : Tryz.prog.built 32 [(0, .int .u8 (x.toNat : Int)), (1, .int .u8 (y.toNat : Int))] = some (bC (kL x y 0 z12k z10k)) := by kernel_rfl
theorem bldT0 : Tryz.prog.built 28 [] = some (bC z10k) := by kernel_rfl
theorem sizNm : (Tryz.prog.info? 24).map (·.size) = some 12 := by kernel_rfl
theorem siz5u : (Tryz.prog.info? 5).map (·.size) = some 1 := by kernel_rfl
theorem eqlTg (w : World) (xs ys : List UInt8) (hx : xs.length = 10) (hy : ys.length = 10) : (binOp .eql 28 (.agg (bC xs)) (.agg (bC ys))).run Tryz.prog w = .ok (.bool (xs == ys)) w := by
 rw [run_eql_struct, show (10000 : Nat) = 9997 + 3 from rfl, Kx.eqInTag w 9997 xs ys hx hy]; rfl
theorem eqlKk (w : World) (xs ys : List UInt8) (hx : xs.length = 25) (hy : ys.length = 25) : (binOp .eql 32 (.agg (bC xs)) (.agg (bC ys))).run Tryz.prog w = .ok (.bool (xs == ys)) w := by
 rw [run_eql_struct, show (10000 : Nat) = 9996 + 4 from rfl, Kx.eqInKey w 9996 xs ys hx hy]; rfl
theorem u8_wrap (b : UInt8) : IntKind.u8.wrap (b.toNat : Int) = (b.toNat : Int) := by
 rw [IntKind.wrap_u8]; have := b.toNat_lt; omega
structure KfK (w W : World) (nm tg : List UInt8) (g g6 : Nat) (u : Nat × Bool × Bool) (x : List UInt8) : Prop where
 s : KfSt w W nm tg
 u_ : W.heap[g]? = some (.cells (usC6 u).toArray 227 (0, 0))
 k : W.heap[g6]? = some (.cells (bC x) 32 (0, 0))
 lt : w.heap.size + 2 < g6
 ne : g ≠ g6
theorem KfK.set {w W W' : World} {nm tg : List UInt8} {g g6 : Nat} {u : Nat × Bool × Bool} {x y : List UInt8} (h : KfK w W nm tg g g6 u x) (hk : W'.heap[g6]? = some (.cells (bC y) 32 (0, 0))) (ht : Turn [g6] W W') : KfK w W' nm tg g g6 u y :=
 ⟨h.s.turn ht h.lt, (ht.block g (lt_heap h.u_) (by simpa using h.ne)).trans h.u_, hk, h.lt, h.ne⟩
theorem KfK.c {w W : World} {nm tg : List UInt8} {g g6 ua : Nat} {ub uc : Bool} {x : List UInt8} (h : KfK w W nm tg g g6 (ua, ub, uc) x) : W.cell? ⟨g, 0, none⟩ = some (.int .i64 (ua : Int)) ∧ W.cell? ⟨g, 1, none⟩ = some (.bool ub) ∧ W.cell? ⟨g, 2, none⟩ = some (.bool uc) :=
 ⟨by rw [cell_blk h.u_]; rfl, by rw [cell_blk h.u_]; rfl, by rw [cell_blk h.u_]; rfl⟩
theorem KfK.start {w W : World} {nm tg : List UInt8} {g : Nat} {u : Nat × Bool × Bool} (h : KfSt w W nm tg) (hu : W.heap[g]? = some (.cells (usC6 u).toArray 227 (0, 0))) (x : List UInt8) : KfK w (W.alloc (.cells (bC x) 32)) nm tg g W.heap.size u x :=
 ⟨h.alloc _, (heap_alloc_old _ _ (lt_heap hu)).trans hu, heap_alloc_new _ _, lt_heap h.r, Nat.ne_of_lt (lt_heap hu)⟩
theorem keyOf_any (b0 b1 b2 : UInt8) (nm tg : List UInt8) (w : World) (hn : nm.length = 12) (ht : tg.length = 10) (hmx : MX w) :
   Calls Tryz.prog 140 #[.int .i64 (b0.toNat : Int), .int .i64 (b1.toNat : Int), .int .i64 (b2.toNat : Int), .agg (bC nm), .agg (bC tg)] w fun e w' => e = .returned (.tuple #[.agg (bC (ofK b0 b1 b2 nm tg)), .int .i64 (errK b0 b1 b2 nm tg : Nat)]) ∧ Below w.heap.size w w' := by
 have HS0 := Lib.hid (KfSt.start w nm tg)
 have HNR : Hid (∀ W, Calls Tryz.prog 86 #[.agg (bC nm)] W fun e w' => e = .returned (.bool (rightB nm)) ∧ Below W.heap.size W w') := fun W => right_any nm W hn
 have HTR : Hid (∀ W, Below w.heap.size w W → Calls Tryz.prog 57 #[.agg (bC tg)] W fun e w' => e = .returned (.bool (rightT tg)) ∧ Below W.heap.size W w') := fun W hW => right_any5 tg W ht (hmx.below hW)
 have HEq : Hid (∀ W, (binOp .eql 28 (.agg (bC tg)) (.agg (bC z10k))).run Tryz.prog W = .ok (.bool (tg == z10k)) W) := fun W => eqlTg W tg z10k ht rfl
 have HL12 := Lib.hid hn
 have HL10 := Lib.hid ht
 have hw0 := u8_wrap b0
 have hw1 := u8_wrap b1
 have hw2 := u8_wrap b2
 clear hmx hn ht
 obtain ⟨ua, ub, uc, HU⟩ : ∃ (ua : Nat) (ub uc : Bool), Hid (usK6 b0.toNat = (ua, ub, uc)) := ⟨_, _, _, rfl⟩
 have KU : Hid (∀ W, Calls Tryz.prog 147 #[.int .i64 (b0.toNat : Int)] W fun e w' => e = .returned (.agg (usC6 (ua, ub, uc)).toArray) ∧ Below W.heap.size W w') := fun W => by
   have := used6_any b0.toNat W
   rwa [HU.out] at this
 have HUb : Hid (¬ 0 < ua → ub = false) := fun h => usK6_nm HU.out h
 go_enter Tryz.func140, Tryz.ntmps140
 go_upto_region 1 with fail
 rw [show (Obj.cells #[Value.int .u8 0, .int .u8 0, .int .u8 0, .int .u8 0, .int .u8 0, .int .u8 0, .int .u8 0, .int .u8 0, .int .u8 0, .int .u8 0, .int .u8 0, .int .u8 0, .int .u8 0, .int .u8 0, .int .u8 0, .int .u8 0, .int .u8 0, .int .u8 0, .int .u8 0, .int .u8 0, .int .u8 0, .int .u8 0, .int .u8 0, .int .u8 0, .int .u8 0] 32) = Obj.cells (bC (kL 0 0 0 z12k z10k)) 32 from rfl]
 generalize ((w.alloc (.cells (bC nm) 24)).alloc (.cells (bC tg) 28)).alloc (.cells (bC (kL 0 0 0 z12k z10k)) 32) = W1 at *
 go_upto_region 2 with (first
   | (go_at_call 147; (refine (KU.out _).mono ?_); rintro e W2 ⟨rfl, hb2⟩; have HS2 := Lib.hid (HS0.out.below hb2); clear hb2)
   | ((with_reducible refine gate_st 227 _ _ rfl ?_); refine wl_strn rfl _ _ _ rfl (usC6 (ua, ub, uc)).toArray #[Value.int IntKind.i64 0, Value.bool false, Value.bool false] _ (by rw [sizUse]; rfl) rfl (by rw [← Array.all_toList]; rfl) (by simp [Act.eval]) rfl ?_))
 have HSc := Lib.hid (HS2.out.alloc (.cells (usC6 (ua, ub, uc)).toArray 227))
 have HGc : Hid ((W2.alloc (.cells (usC6 (ua, ub, uc)).toArray 227)).heap[W2.heap.size]? = some (.cells (usC6 (ua, ub, uc)).toArray 227 (0, 0))) := heap_alloc_new _ _
 have HGg : Hid (w.heap.size + 2 < W2.heap.size) := lt_heap HS2.out.r
 generalize W2.alloc (.cells (usC6 (ua, ub, uc)).toArray 227) = W3 at *
 generalize W2.heap.size = g at *
 clear HS2 HS0 KU
 have hc0 : W3.cell? ⟨g, 0, none⟩ = some (.int .i64 (ua : Int)) := by rw [cell_blk HGc.out]; rfl
 have hc1 : W3.cell? ⟨g, 1, none⟩ = some (.bool ub) := by rw [cell_blk HGc.out]; rfl
 have hc2 : W3.cell? ⟨g, 2, none⟩ = some (.bool uc) := by rw [cell_blk HGc.out]; rfl
 have h00 : ¬ (b1.toNat : Int) < 0 := by omega
 have h02 : ¬ (b2.toNat : Int) < 0 := by omega
 by_cases h1 : b0.toNat < 1 ∨ 6 < b0.toNat
 · by_cases h1a : (b0.toNat : Int) < 1
   · skip
     have HE : Hid (errK b0 b1 b2 nm tg = 16) := by
       show _ = _
       unfold errK
       rw [HU.out]
       simp only
       rw [if_pos h1]
     go_wp2_with (first
       | ((with_reducible refine gate_bd 32 _ rfl ?_); refine wl_bd rfl _ [] rfl [] rfl (bC (kL 0 0 0 z12k z10k)) bldK0 ?_)
       | ((with_reducible refine gate_st 32 _ _ rfl ?_); refine wl_strG rfl 32 _ _ rfl (w.heap.size + 2) (bC (kL 0 0 0 z12k z10k)) (bC (kL 0 0 0 z12k z10k)) 32 (by rw [sizKey]; rfl) rfl (bC_one _) rfl rfl HSc.out.r (fun W8 h1 h2 => ?_); have HGr := Lib.hid h1; have HBr := Lib.hid (HSc.out.bel.trans (h2.below (B := w.heap.size) (fun k hk => by simp at hk; omega) HSc.out.bel.size)); clear h1 h2; try simp only [Act.put]))
     refine bodyPost_ret (res_rowc_tmp (P := Tryz.prog) rfl _ _ (w.heap.size + 2) (bC (kL 0 0 0 z12k z10k)) (0, 0) rfl HGr.out Tryz.underlying32 rfl (by rw [sizKey]; rfl)) rfl ⟨?_, HBr.out⟩
     unfold ofK
     rw [HE.out, if_neg (by decide)]
     rfl
   · have h1b : (6 : Int) < (b0.toNat : Int) := by omega
     have HE : Hid (errK b0 b1 b2 nm tg = 16) := by
       show _ = _
       unfold errK
       rw [HU.out]
       simp only
       rw [if_pos h1]
     go_wp2_with (first
       | ((with_reducible refine gate_bd 32 _ rfl ?_); refine wl_bd rfl _ [] rfl [] rfl (bC (kL 0 0 0 z12k z10k)) bldK0 ?_)
       | ((with_reducible refine gate_st 32 _ _ rfl ?_); refine wl_strG rfl 32 _ _ rfl (w.heap.size + 2) (bC (kL 0 0 0 z12k z10k)) (bC (kL 0 0 0 z12k z10k)) 32 (by rw [sizKey]; rfl) rfl (bC_one _) rfl rfl HSc.out.r (fun W8 h1 h2 => ?_); have HGr := Lib.hid h1; have HBr := Lib.hid (HSc.out.bel.trans (h2.below (B := w.heap.size) (fun k hk => by simp at hk; omega) HSc.out.bel.size)); clear h1 h2; try simp only [Act.put]))
     refine bodyPost_ret (res_rowc_tmp (P := Tryz.prog) rfl _ _ (w.heap.size + 2) (bC (kL 0 0 0 z12k z10k)) (0, 0) rfl HGr.out Tryz.underlying32 rfl (by rw [sizKey]; rfl)) rfl ⟨?_, HBr.out⟩
     unfold ofK
     rw [HE.out, if_neg (by decide)]
     rfl
 · have h1a : ¬ (b0.toNat : Int) < 1 := by omega
   have h1b : ¬ (6 : Int) < (b0.toNat : Int) := by omega
   by_cases h4 : (4 : Int) ≤ (b1.toNat : Int)
   · skip
     have HE : Hid (errK b0 b1 b2 nm tg = 5) := by
       show _ = _
       unfold errK
       rw [HU.out]
       simp only
       rw [if_neg h1, if_pos (.inl (by omega))]
     go_wp2_with (first
       | ((with_reducible refine gate_bd 32 _ rfl ?_); refine wl_bd rfl _ [] rfl [] rfl (bC (kL 0 0 0 z12k z10k)) bldK0 ?_)
       | ((with_reducible refine gate_st 32 _ _ rfl ?_); refine wl_strG rfl 32 _ _ rfl (w.heap.size + 2) (bC (kL 0 0 0 z12k z10k)) (bC (kL 0 0 0 z12k z10k)) 32 (by rw [sizKey]; rfl) rfl (bC_one _) rfl rfl HSc.out.r (fun W8 h1 h2 => ?_); have HGr := Lib.hid h1; have HBr := Lib.hid (HSc.out.bel.trans (h2.below (B := w.heap.size) (fun k hk => by simp at hk; omega) HSc.out.bel.size)); clear h1 h2; try simp only [Act.put]))
     refine bodyPost_ret (res_rowc_tmp (P := Tryz.prog) rfl _ _ (w.heap.size + 2) (bC (kL 0 0 0 z12k z10k)) (0, 0) rfl HGr.out Tryz.underlying32 rfl (by rw [sizKey]; rfl)) rfl ⟨?_, HBr.out⟩
     unfold ofK
     rw [HE.out, if_neg (by decide)]
     rfl
   · by_cases hup : 0 < ua
     · have hupI : (0 : Int) < (ua : Int) := by omega
       by_cases h5 : (ua : Int) ≤ (b2.toNat : Int)
       · skip
         have HE : Hid (errK b0 b1 b2 nm tg = 5) := by
           show _ = _
           unfold errK
           rw [HU.out]
           simp only
           rw [if_neg h1, if_pos (.inr ⟨hup, by omega⟩)]
         go_wp2_with (first
           | ((with_reducible refine gate_bd 32 _ rfl ?_); refine wl_bd rfl _ [] rfl [] rfl (bC (kL 0 0 0 z12k z10k)) bldK0 ?_)
           | ((with_reducible refine gate_st 32 _ _ rfl ?_); refine wl_strG rfl 32 _ _ rfl (w.heap.size + 2) (bC (kL 0 0 0 z12k z10k)) (bC (kL 0 0 0 z12k z10k)) 32 (by rw [sizKey]; rfl) rfl (bC_one _) rfl rfl HSc.out.r (fun W8 h1 h2 => ?_); have HGr := Lib.hid h1; have HBr := Lib.hid (HSc.out.bel.trans (h2.below (B := w.heap.size) (fun k hk => by simp at hk; omega) HSc.out.bel.size)); clear h1 h2; try simp only [Act.put]))
         refine bodyPost_ret (res_rowc_tmp (P := Tryz.prog) rfl _ _ (w.heap.size + 2) (bC (kL 0 0 0 z12k z10k)) (0, 0) rfl HGr.out Tryz.underlying32 rfl (by rw [sizKey]; rfl)) rfl ⟨?_, HBr.out⟩
         unfold ofK
         rw [HE.out, if_neg (by decide)]
         rfl
       · skip
         cases ub with
         | false =>
           cases uc with
           | false =>
             have HE : Hid (errK b0 b1 b2 nm tg = 0) := by
               show _ = _
               unfold errK
               rw [HU.out]
               simp only
               rw [if_neg h1, if_neg (by rintro (h | ⟨_, h⟩) <;> omega), if_neg (by simp), if_neg (by simp)]
             have HO : Hid (ofK b0 b1 b2 nm tg = kL b0 b1 b2 z12k z10k) := by
               show _ = _
               unfold ofK
               rw [HE.out, HU.out, if_pos rfl]
               simp only
               rw [if_pos hup]
               rfl
             go_upto_region 8 with fail
             go_upto_region 10 with fail
             go_upto_region 11 with (first
               | ((with_reducible refine gate_bd 32 _ rfl ?_); refine wl_bd rfl _ [(0, .tmp 71), (1, .tmp 73)] rfl [(0, .int .u8 (b0.toNat : Int)), (1, .int .u8 (b1.toNat : Int))] rfl (bC (kL b0 b1 0 z12k z10k)) (bldK1 b0 b1) ?_)
               | ((with_reducible refine gate_st 32 _ _ rfl ?_); refine wl_strn rfl _ _ _ rfl (bC (kL b0 b1 0 z12k z10k)) #[Value.int IntKind.u8 0, Value.int IntKind.u8 0, Value.int IntKind.u8 0, Value.int IntKind.u8 0, Value.int IntKind.u8 0, Value.int IntKind.u8 0, Value.int IntKind.u8 0, Value.int IntKind.u8 0, Value.int IntKind.u8 0, Value.int IntKind.u8 0, Value.int IntKind.u8 0, Value.int IntKind.u8 0, Value.int IntKind.u8 0, Value.int IntKind.u8 0, Value.int IntKind.u8 0, Value.int IntKind.u8 0, Value.int IntKind.u8 0, Value.int IntKind.u8 0, Value.int IntKind.u8 0, Value.int IntKind.u8 0, Value.int IntKind.u8 0, Value.int IntKind.u8 0, Value.int IntKind.u8 0, Value.int IntKind.u8 0, Value.int IntKind.u8 0] _ (by rw [sizKey]; rfl) rfl (bC_one _) (by simp [Act.eval]) rfl ?_))
             have HK := Lib.hid (KfK.start HSc.out HGc.out (kL b0 b1 0 z12k z10k))
             generalize W3.alloc (.cells (bC (kL b0 b1 0 z12k z10k)) 32) = W6 at *
             generalize W3.heap.size = g6 at *
             clear hc0 hc1 hc2 HSc HGc
             obtain ⟨hc0, hc1, hc2⟩ := HK.out.c
             go_wp2_with (first
               | ((with_reducible refine gate_st 5 _ _ rfl ?_); refine wl_st1G rfl 5 siz5u _ _ rfl g6 2 (.int .u8 (b2.toNat : Int)) rfl rfl rfl (bC (kL b0 b1 0 z12k z10k)).toList (bC (kL b0 b1 b2 z12k z10k)).toList 32 HK.out.k (by simp [kL, bC]) rfl (fun W7 h1 h2 => ?_); have HK : Hid (KfK w W7 nm tg g g6 (ua, false, false) (kL b0 b1 b2 z12k z10k)) := HK.out.set h1 h2; (obtain ⟨hc0, hc1, hc2⟩ := HK.out.c); clear h1 h2; try simp only [Act.put])
               | ((with_reducible refine gate_ld 32 _ rfl ?_); refine wl_ldr rfl 32 _ rfl g6 0 (bC (kL b0 b1 b2 z12k z10k)).toList _ Tryz.underlying32 rfl (by rw [sizKey]; simp [bC, kL_len (rfl : z12k.length = 12) (rfl : z10k.length = 10)]) rfl (range_whole (by simpa using HK.out.k)) ?_)
               | ((with_reducible refine gate_st 32 _ _ rfl ?_); refine wl_strG rfl 32 _ _ rfl (w.heap.size + 2) (bC (kL b0 b1 b2 z12k z10k)) (bC (kL 0 0 0 z12k z10k)) 32 (by rw [sizKey, bC_size, kL_len (rfl : z12k.length = 12) (rfl : z10k.length = 10)]) (by rw [bC_size, kL_len (rfl : z12k.length = 12) (rfl : z10k.length = 10)]; rfl) (bC_one _) rfl (by first | rfl | simp [Act.eval, Act.put]) HK.out.s.r (fun W8 h1 h2 => ?_); have HGr := Lib.hid h1; have HBr := Lib.hid (HK.out.s.bel.trans (h2.below (B := w.heap.size) (fun k hk => by simp at hk; omega) HK.out.s.bel.size)); clear h1 h2; try simp only [Act.put]))
             refine bodyPost_ret (res_rowc_tmp (P := Tryz.prog) rfl _ _ (w.heap.size + 2) (bC (kL b0 b1 b2 z12k z10k)) (0, 0) rfl HGr.out Tryz.underlying32 rfl (by rw [sizKey, bC_size, kL_len (rfl : z12k.length = 12) (rfl : z10k.length = 10)])) rfl ⟨?_, HBr.out⟩
             rw [HO.out, HE.out]
             rfl
           | true =>
             cases hrt : rightT tg with
             | false =>
               rw [hrt] at HTR
               have HE : Hid (errK b0 b1 b2 nm tg = 14) := by
                 show _ = _
                 unfold errK
                 rw [HU.out]
                 simp only
                 rw [if_neg h1, if_neg (by rintro (h | ⟨_, h⟩) <;> omega), if_neg (by simp), if_pos (by simp [hrt])]
               go_wp2_with (first
                 | ((with_reducible refine gate_ld 28 _ rfl ?_); refine wl_ldr rfl 28 _ rfl (w.heap.size + 1) 0 (bC tg).toList _ Tryz.underlying28 rfl (by rw [sizTag19]; simp [bC, HL10.out]) rfl (range_whole (by simpa using HSc.out.b)) ?_)
                 | (go_at_call 57; (refine (HTR.out _ HSc.out.bel).mono ?_); rintro e W5 ⟨rfl, hb4⟩; have HGc := Lib.hid ((hb4.block _ (lt_heap HGc.out)).trans HGc.out); have HSc := Lib.hid (HSc.out.below hb4); have hc0 : W5.cell? ⟨g, 0, none⟩ = some (.int .i64 (ua : Int)) := (by rw [cell_blk HGc.out]; rfl); have hc1 : W5.cell? ⟨g, 1, none⟩ = some (.bool false) := (by rw [cell_blk HGc.out]; rfl); have hc2 : W5.cell? ⟨g, 2, none⟩ = some (.bool true) := (by rw [cell_blk HGc.out]; rfl); clear hb4)
                 | ((with_reducible refine gate_bd 28 _ rfl ?_); refine wl_bd rfl _ [] rfl [] rfl (bC z10k) bldT0 ?_)
                 | ((with_reducible refine gate_op (.binOp .eql 28 (.tmp 64) (.tmp 65) 28) rfl ?_); refine wl_val rfl (.bool (tg == z10k)) (exec_eqlG _ 28 (.tmp 64) (.tmp 65) rfl (bC tg) (bC z10k) _ rfl rfl (run_eqGuard_agg _ .eql 28 _ _ _ _ (by kernel_rfl)) (HEq.out _)) ?_)
                 | ((with_reducible refine gate_bd 32 _ rfl ?_); refine wl_bd rfl _ [] rfl [] rfl (bC (kL 0 0 0 z12k z10k)) bldK0 ?_)
                 | ((with_reducible refine gate_st 32 _ _ rfl ?_); refine wl_strG rfl 32 _ _ rfl (w.heap.size + 2) (bC (kL 0 0 0 z12k z10k)) (bC (kL 0 0 0 z12k z10k)) 32 (by rw [sizKey]; rfl) rfl (bC_one _) rfl rfl HSc.out.r (fun W8 h1 h2 => ?_); have HGr := Lib.hid h1; have HBr := Lib.hid (HSc.out.bel.trans (h2.below (B := w.heap.size) (fun k hk => by simp at hk; omega) HSc.out.bel.size)); clear h1 h2; try simp only [Act.put]))
               refine bodyPost_ret (res_rowc_tmp (P := Tryz.prog) rfl _ _ (w.heap.size + 2) (bC (kL 0 0 0 z12k z10k)) (0, 0) rfl HGr.out Tryz.underlying32 rfl (by rw [sizKey]; rfl)) rfl ⟨?_, HBr.out⟩
               unfold ofK
               rw [HE.out, if_neg (by decide)]
               rfl
             | true =>
               rw [hrt] at HTR
               by_cases htz : tg = z10k
               · have htb : (tg == z10k) = true := by simp [htz]
                 rw [htb] at HEq
                 have HE : Hid (errK b0 b1 b2 nm tg = 14) := by
                   show _ = _
                   unfold errK
                   rw [HU.out]
                   simp only
                   rw [if_neg h1, if_neg (by rintro (h | ⟨_, h⟩) <;> omega), if_neg (by simp), if_pos (by simp [htz])]
                 clear htz htb
                 go_wp2_with (first
                   | ((with_reducible refine gate_ld 28 _ rfl ?_); refine wl_ldr rfl 28 _ rfl (w.heap.size + 1) 0 (bC tg).toList _ Tryz.underlying28 rfl (by rw [sizTag19]; simp [bC, HL10.out]) rfl (range_whole (by simpa using HSc.out.b)) ?_)
                   | (go_at_call 57; (refine (HTR.out _ HSc.out.bel).mono ?_); rintro e W5 ⟨rfl, hb4⟩; have HGc := Lib.hid ((hb4.block _ (lt_heap HGc.out)).trans HGc.out); have HSc := Lib.hid (HSc.out.below hb4); have hc0 : W5.cell? ⟨g, 0, none⟩ = some (.int .i64 (ua : Int)) := (by rw [cell_blk HGc.out]; rfl); have hc1 : W5.cell? ⟨g, 1, none⟩ = some (.bool false) := (by rw [cell_blk HGc.out]; rfl); have hc2 : W5.cell? ⟨g, 2, none⟩ = some (.bool true) := (by rw [cell_blk HGc.out]; rfl); clear hb4)
                   | ((with_reducible refine gate_bd 28 _ rfl ?_); refine wl_bd rfl _ [] rfl [] rfl (bC z10k) bldT0 ?_)
                   | ((with_reducible refine gate_op (.binOp .eql 28 (.tmp 64) (.tmp 65) 28) rfl ?_); refine wl_val rfl (.bool true) (exec_eqlG _ 28 (.tmp 64) (.tmp 65) rfl (bC tg) (bC z10k) _ rfl rfl (run_eqGuard_agg _ .eql 28 _ _ _ _ (by kernel_rfl)) (HEq.out _)) ?_)
                   | ((with_reducible refine gate_bd 32 _ rfl ?_); refine wl_bd rfl _ [] rfl [] rfl (bC (kL 0 0 0 z12k z10k)) bldK0 ?_)
                   | ((with_reducible refine gate_st 32 _ _ rfl ?_); refine wl_strG rfl 32 _ _ rfl (w.heap.size + 2) (bC (kL 0 0 0 z12k z10k)) (bC (kL 0 0 0 z12k z10k)) 32 (by rw [sizKey]; rfl) rfl (bC_one _) rfl rfl HSc.out.r (fun W8 h1 h2 => ?_); have HGr := Lib.hid h1; have HBr := Lib.hid (HSc.out.bel.trans (h2.below (B := w.heap.size) (fun k hk => by simp at hk; omega) HSc.out.bel.size)); clear h1 h2; try simp only [Act.put]))
                 refine bodyPost_ret (res_rowc_tmp (P := Tryz.prog) rfl _ _ (w.heap.size + 2) (bC (kL 0 0 0 z12k z10k)) (0, 0) rfl HGr.out Tryz.underlying32 rfl (by rw [sizKey]; rfl)) rfl ⟨?_, HBr.out⟩
                 unfold ofK
                 rw [HE.out, if_neg (by decide)]
                 rfl
               · have htb : (tg == z10k) = false := by simp [htz]
                 rw [htb] at HEq
                 have HE : Hid (errK b0 b1 b2 nm tg = 0) := by
                   show _ = _
                   unfold errK
                   rw [HU.out]
                   simp only
                   rw [if_neg h1, if_neg (by rintro (h | ⟨_, h⟩) <;> omega), if_neg (by simp), if_neg (by simp [hrt, htz])]
                 have HO : Hid (ofK b0 b1 b2 nm tg = kL b0 b1 b2 z12k tg) := by
                   show _ = _
                   unfold ofK
                   rw [HE.out, HU.out, if_pos rfl]
                   simp only
                   rw [if_pos hup]
                   rfl
                 go_upto_region 11 with (first
                   | ((with_reducible refine gate_ld 28 _ rfl ?_); refine wl_ldr rfl 28 _ rfl (w.heap.size + 1) 0 (bC tg).toList _ Tryz.underlying28 rfl (by rw [sizTag19]; simp [bC, HL10.out]) rfl (range_whole (by simpa using HSc.out.b)) ?_)
                   | (go_at_call 57; (refine (HTR.out _ HSc.out.bel).mono ?_); rintro e W5 ⟨rfl, hb4⟩; have HGc := Lib.hid ((hb4.block _ (lt_heap HGc.out)).trans HGc.out); have HSc := Lib.hid (HSc.out.below hb4); have hc0 : W5.cell? ⟨g, 0, none⟩ = some (.int .i64 (ua : Int)) := (by rw [cell_blk HGc.out]; rfl); have hc1 : W5.cell? ⟨g, 1, none⟩ = some (.bool false) := (by rw [cell_blk HGc.out]; rfl); have hc2 : W5.cell? ⟨g, 2, none⟩ = some (.bool true) := (by rw [cell_blk HGc.out]; rfl); clear hb4)
                   | ((with_reducible refine gate_bd 28 _ rfl ?_); refine wl_bd rfl _ [] rfl [] rfl (bC z10k) bldT0 ?_)
                   | ((with_reducible refine gate_op (.binOp .eql 28 (.tmp 64) (.tmp 65) 28) rfl ?_); refine wl_val rfl (.bool false) (exec_eqlG _ 28 (.tmp 64) (.tmp 65) rfl (bC tg) (bC z10k) _ rfl rfl (run_eqGuard_agg _ .eql 28 _ _ _ _ (by kernel_rfl)) (HEq.out _)) ?_)
                   | ((with_reducible refine gate_bd 32 _ rfl ?_); refine wl_bd rfl _ [(0, .tmp 71), (1, .tmp 73)] rfl [(0, .int .u8 (b0.toNat : Int)), (1, .int .u8 (b1.toNat : Int))] rfl (bC (kL b0 b1 0 z12k z10k)) (bldK1 b0 b1) ?_)
                   | ((with_reducible refine gate_st 32 _ _ rfl ?_); refine wl_strn rfl _ _ _ rfl (bC (kL b0 b1 0 z12k z10k)) #[Value.int IntKind.u8 0, Value.int IntKind.u8 0, Value.int IntKind.u8 0, Value.int IntKind.u8 0, Value.int IntKind.u8 0, Value.int IntKind.u8 0, Value.int IntKind.u8 0, Value.int IntKind.u8 0, Value.int IntKind.u8 0, Value.int IntKind.u8 0, Value.int IntKind.u8 0, Value.int IntKind.u8 0, Value.int IntKind.u8 0, Value.int IntKind.u8 0, Value.int IntKind.u8 0, Value.int IntKind.u8 0, Value.int IntKind.u8 0, Value.int IntKind.u8 0, Value.int IntKind.u8 0, Value.int IntKind.u8 0, Value.int IntKind.u8 0, Value.int IntKind.u8 0, Value.int IntKind.u8 0, Value.int IntKind.u8 0, Value.int IntKind.u8 0] _ (by rw [sizKey]; rfl) rfl (bC_one _) (by simp [Act.eval]) rfl ?_))
                 have HK := Lib.hid (KfK.start HSc.out HGc.out (kL b0 b1 0 z12k z10k))
                 generalize W5.alloc (.cells (bC (kL b0 b1 0 z12k z10k)) 32) = W6 at *
                 generalize W5.heap.size = g6 at *
                 clear hc0 hc1 hc2 HSc HGc
                 obtain ⟨hc0, hc1, hc2⟩ := HK.out.c
                 go_wp2_with (first
                   | ((with_reducible refine gate_ld 28 _ rfl ?_); refine wl_ldr rfl 28 _ rfl (w.heap.size + 1) 0 (bC tg).toList _ Tryz.underlying28 rfl (by rw [sizTag19]; simp [bC, HL10.out]) rfl (range_whole (by simpa using HK.out.s.b)) ?_)
                   | ((with_reducible refine gate_st 5 _ _ rfl ?_); refine wl_st1G rfl 5 siz5u _ _ rfl g6 2 (.int .u8 (b2.toNat : Int)) rfl rfl rfl (bC (kL b0 b1 0 z12k z10k)).toList (bC (kL b0 b1 b2 z12k z10k)).toList 32 HK.out.k (by simp [kL, bC]) rfl (fun W7 h1 h2 => ?_); have HK : Hid (KfK w W7 nm tg g g6 (ua, false, true) (kL b0 b1 b2 z12k z10k)) := HK.out.set h1 h2; (obtain ⟨hc0, hc1, hc2⟩ := HK.out.c); clear h1 h2; try simp only [Act.put])
                   | ((with_reducible refine gate_st 28 _ _ rfl ?_); refine wl_stR rfl 28 _ _ rfl g6 15 (bC tg).toList (by rw [sizTag19]; simp [bC, HL10.out]) rfl (by simp [Act.eval]) (fun v hv => List.all_eq_true.1 (by have := bC_one tg; rwa [← Array.all_toList] at this) v hv) (bC (kL b0 b1 b2 z12k z10k)).toList 32 HK.out.k (by simp [kL, bC, z12k, z10k, HL12.out, HL10.out]) (fun W7 h1 h2 => ?_); have HK : Hid (KfK w W7 nm tg g g6 (ua, false, true) (kL b0 b1 b2 z12k tg)) := HK.out.set (by rw [rowK_tg _ _ _ rfl rfl HL10.out] at h1; exact h1) h2; (obtain ⟨hc0, hc1, hc2⟩ := HK.out.c); clear h1 h2; try simp only [Act.put])
                   | ((with_reducible refine gate_ld 32 _ rfl ?_); refine wl_ldr rfl 32 _ rfl g6 0 (bC (kL b0 b1 b2 z12k tg)).toList _ Tryz.underlying32 rfl (by rw [sizKey]; simp [bC, kL_len (rfl : z12k.length = 12) HL10.out]) rfl (range_whole (by simpa using HK.out.k)) ?_)
                   | ((with_reducible refine gate_st 32 _ _ rfl ?_); refine wl_strG rfl 32 _ _ rfl (w.heap.size + 2) (bC (kL b0 b1 b2 z12k tg)) (bC (kL 0 0 0 z12k z10k)) 32 (by rw [sizKey, bC_size, kL_len (rfl : z12k.length = 12) HL10.out]) (by rw [bC_size, kL_len (rfl : z12k.length = 12) HL10.out]; rfl) (bC_one _) rfl (by first | rfl | simp [Act.eval, Act.put]) HK.out.s.r (fun W8 h1 h2 => ?_); have HGr := Lib.hid h1; have HBr := Lib.hid (HK.out.s.bel.trans (h2.below (B := w.heap.size) (fun k hk => by simp at hk; omega) HK.out.s.bel.size)); clear h1 h2; try simp only [Act.put]))
                 refine bodyPost_ret (res_rowc_tmp (P := Tryz.prog) rfl _ _ (w.heap.size + 2) (bC (kL b0 b1 b2 z12k tg)) (0, 0) rfl HGr.out Tryz.underlying32 rfl (by rw [sizKey, bC_size, kL_len (rfl : z12k.length = 12) HL10.out])) rfl ⟨?_, HBr.out⟩
                 rw [HO.out, HE.out]
                 rfl
         | true =>
           cases hrn : rightB nm with
           | false =>
             rw [hrn] at HNR
             have HE : Hid (errK b0 b1 b2 nm tg = 15) := by
               show _ = _
               unfold errK
               rw [HU.out]
               simp only
               rw [if_neg h1, if_neg (by rintro (h | ⟨_, h⟩) <;> omega), if_pos (by simp [hrn])]
             go_wp2_with (first
               | ((with_reducible refine gate_ld 24 _ rfl ?_); refine wl_ldr rfl 24 _ rfl w.heap.size 0 (bC nm).toList _ Tryz.underlying24 rfl (by rw [sizNm]; simp [bC, HL12.out]) rfl (range_whole (by simpa using HSc.out.a)) ?_)
               | (go_at_call 86; (refine (HNR.out _).mono ?_); rintro e W4 ⟨rfl, hb4⟩; have HGc := Lib.hid ((hb4.block _ (lt_heap HGc.out)).trans HGc.out); have HSc := Lib.hid (HSc.out.below hb4); have hc0 : W4.cell? ⟨g, 0, none⟩ = some (.int .i64 (ua : Int)) := (by rw [cell_blk HGc.out]; rfl); have hc1 : W4.cell? ⟨g, 1, none⟩ = some (.bool true) := (by rw [cell_blk HGc.out]; rfl); have hc2 : W4.cell? ⟨g, 2, none⟩ = some (.bool uc) := (by rw [cell_blk HGc.out]; rfl); clear hb4)
               | ((with_reducible refine gate_bd 32 _ rfl ?_); refine wl_bd rfl _ [] rfl [] rfl (bC (kL 0 0 0 z12k z10k)) bldK0 ?_)
               | ((with_reducible refine gate_st 32 _ _ rfl ?_); refine wl_strG rfl 32 _ _ rfl (w.heap.size + 2) (bC (kL 0 0 0 z12k z10k)) (bC (kL 0 0 0 z12k z10k)) 32 (by rw [sizKey]; rfl) rfl (bC_one _) rfl rfl HSc.out.r (fun W8 h1 h2 => ?_); have HGr := Lib.hid h1; have HBr := Lib.hid (HSc.out.bel.trans (h2.below (B := w.heap.size) (fun k hk => by simp at hk; omega) HSc.out.bel.size)); clear h1 h2; try simp only [Act.put]))
             refine bodyPost_ret (res_rowc_tmp (P := Tryz.prog) rfl _ _ (w.heap.size + 2) (bC (kL 0 0 0 z12k z10k)) (0, 0) rfl HGr.out Tryz.underlying32 rfl (by rw [sizKey]; rfl)) rfl ⟨?_, HBr.out⟩
             unfold ofK
             rw [HE.out, if_neg (by decide)]
             rfl
           | true =>
             rw [hrn] at HNR
             cases uc with
             | false =>
               have HE : Hid (errK b0 b1 b2 nm tg = 0) := by
                 show _ = _
                 unfold errK
                 rw [HU.out]
                 simp only
                 rw [if_neg h1, if_neg (by rintro (h | ⟨_, h⟩) <;> omega), if_neg (by simp [hrn]), if_neg (by simp)]
               have HO : Hid (ofK b0 b1 b2 nm tg = kL b0 b1 b2 nm z10k) := by
                 show _ = _
                 unfold ofK
                 rw [HE.out, HU.out, if_pos rfl]
                 simp only
                 rw [if_pos hup]
                 rfl
               go_upto_region 8 with (first
                 | ((with_reducible refine gate_ld 24 _ rfl ?_); refine wl_ldr rfl 24 _ rfl w.heap.size 0 (bC nm).toList _ Tryz.underlying24 rfl (by rw [sizNm]; simp [bC, HL12.out]) rfl (range_whole (by simpa using HSc.out.a)) ?_)
                 | (go_at_call 86; (refine (HNR.out _).mono ?_); rintro e W4 ⟨rfl, hb4⟩; have HGc := Lib.hid ((hb4.block _ (lt_heap HGc.out)).trans HGc.out); have HSc := Lib.hid (HSc.out.below hb4); have hc0 : W4.cell? ⟨g, 0, none⟩ = some (.int .i64 (ua : Int)) := (by rw [cell_blk HGc.out]; rfl); have hc1 : W4.cell? ⟨g, 1, none⟩ = some (.bool true) := (by rw [cell_blk HGc.out]; rfl); have hc2 : W4.cell? ⟨g, 2, none⟩ = some (.bool false) := (by rw [cell_blk HGc.out]; rfl); clear hb4))
               go_upto_region 10 with fail
               go_upto_region 11 with (first
                 | ((with_reducible refine gate_ld 24 _ rfl ?_); refine wl_ldr rfl 24 _ rfl w.heap.size 0 (bC nm).toList _ Tryz.underlying24 rfl (by rw [sizNm]; simp [bC, HL12.out]) rfl (range_whole (by simpa using HSc.out.a)) ?_)
                 | (go_at_call 86; (refine (HNR.out _).mono ?_); rintro e W4 ⟨rfl, hb4⟩; have HGc := Lib.hid ((hb4.block _ (lt_heap HGc.out)).trans HGc.out); have HSc := Lib.hid (HSc.out.below hb4); have hc0 : W4.cell? ⟨g, 0, none⟩ = some (.int .i64 (ua : Int)) := (by rw [cell_blk HGc.out]; rfl); have hc1 : W4.cell? ⟨g, 1, none⟩ = some (.bool true) := (by rw [cell_blk HGc.out]; rfl); have hc2 : W4.cell? ⟨g, 2, none⟩ = some (.bool false) := (by rw [cell_blk HGc.out]; rfl); clear hb4)
                 | ((with_reducible refine gate_bd 32 _ rfl ?_); refine wl_bd rfl _ [(0, .tmp 71), (1, .tmp 73)] rfl [(0, .int .u8 (b0.toNat : Int)), (1, .int .u8 (b1.toNat : Int))] rfl (bC (kL b0 b1 0 z12k z10k)) (bldK1 b0 b1) ?_)
                 | ((with_reducible refine gate_st 32 _ _ rfl ?_); refine wl_strn rfl _ _ _ rfl (bC (kL b0 b1 0 z12k z10k)) #[Value.int IntKind.u8 0, Value.int IntKind.u8 0, Value.int IntKind.u8 0, Value.int IntKind.u8 0, Value.int IntKind.u8 0, Value.int IntKind.u8 0, Value.int IntKind.u8 0, Value.int IntKind.u8 0, Value.int IntKind.u8 0, Value.int IntKind.u8 0, Value.int IntKind.u8 0, Value.int IntKind.u8 0, Value.int IntKind.u8 0, Value.int IntKind.u8 0, Value.int IntKind.u8 0, Value.int IntKind.u8 0, Value.int IntKind.u8 0, Value.int IntKind.u8 0, Value.int IntKind.u8 0, Value.int IntKind.u8 0, Value.int IntKind.u8 0, Value.int IntKind.u8 0, Value.int IntKind.u8 0, Value.int IntKind.u8 0, Value.int IntKind.u8 0] _ (by rw [sizKey]; rfl) rfl (bC_one _) (by simp [Act.eval]) rfl ?_))
               have HK := Lib.hid (KfK.start HSc.out HGc.out (kL b0 b1 0 z12k z10k))
               generalize W4.alloc (.cells (bC (kL b0 b1 0 z12k z10k)) 32) = W6 at *
               generalize W4.heap.size = g6 at *
               clear hc0 hc1 hc2 HSc HGc
               obtain ⟨hc0, hc1, hc2⟩ := HK.out.c
               go_wp2_with (first
                 | ((with_reducible refine gate_ld 24 _ rfl ?_); refine wl_ldr rfl 24 _ rfl w.heap.size 0 (bC nm).toList _ Tryz.underlying24 rfl (by rw [sizNm]; simp [bC, HL12.out]) rfl (range_whole (by simpa using HK.out.s.a)) ?_)
                 | ((with_reducible refine gate_st 5 _ _ rfl ?_); refine wl_st1G rfl 5 siz5u _ _ rfl g6 2 (.int .u8 (b2.toNat : Int)) rfl rfl rfl (bC (kL b0 b1 0 z12k z10k)).toList (bC (kL b0 b1 b2 z12k z10k)).toList 32 HK.out.k (by simp [kL, bC]) rfl (fun W7 h1 h2 => ?_); have HK : Hid (KfK w W7 nm tg g g6 (ua, true, false) (kL b0 b1 b2 z12k z10k)) := HK.out.set h1 h2; (obtain ⟨hc0, hc1, hc2⟩ := HK.out.c); clear h1 h2; try simp only [Act.put])
                 | ((with_reducible refine gate_st 24 _ _ rfl ?_); refine wl_stR rfl 24 _ _ rfl g6 3 (bC nm).toList (by rw [sizNm]; simp [bC, HL12.out]) rfl (by simp [Act.eval]) (fun v hv => List.all_eq_true.1 (by have := bC_one nm; rwa [← Array.all_toList] at this) v hv) (bC (kL b0 b1 b2 z12k z10k)).toList 32 HK.out.k (by simp [kL, bC, z12k, z10k, HL12.out, HL10.out]) (fun W7 h1 h2 => ?_); have HK : Hid (KfK w W7 nm tg g g6 (ua, true, false) (kL b0 b1 b2 nm z10k)) := HK.out.set (by rw [rowK_nm _ _ _ _ rfl HL12.out] at h1; exact h1) h2; (obtain ⟨hc0, hc1, hc2⟩ := HK.out.c); clear h1 h2; try simp only [Act.put])
                 | ((with_reducible refine gate_ld 32 _ rfl ?_); refine wl_ldr rfl 32 _ rfl g6 0 (bC (kL b0 b1 b2 nm z10k)).toList _ Tryz.underlying32 rfl (by rw [sizKey]; simp [bC, kL_len HL12.out (rfl : z10k.length = 10)]) rfl (range_whole (by simpa using HK.out.k)) ?_)
                 | ((with_reducible refine gate_st 32 _ _ rfl ?_); refine wl_strG rfl 32 _ _ rfl (w.heap.size + 2) (bC (kL b0 b1 b2 nm z10k)) (bC (kL 0 0 0 z12k z10k)) 32 (by rw [sizKey, bC_size, kL_len HL12.out (rfl : z10k.length = 10)]) (by rw [bC_size, kL_len HL12.out (rfl : z10k.length = 10)]; rfl) (bC_one _) rfl (by first | rfl | simp [Act.eval, Act.put]) HK.out.s.r (fun W8 h1 h2 => ?_); have HGr := Lib.hid h1; have HBr := Lib.hid (HK.out.s.bel.trans (h2.below (B := w.heap.size) (fun k hk => by simp at hk; omega) HK.out.s.bel.size)); clear h1 h2; try simp only [Act.put]))
               refine bodyPost_ret (res_rowc_tmp (P := Tryz.prog) rfl _ _ (w.heap.size + 2) (bC (kL b0 b1 b2 nm z10k)) (0, 0) rfl HGr.out Tryz.underlying32 rfl (by rw [sizKey, bC_size, kL_len HL12.out (rfl : z10k.length = 10)])) rfl ⟨?_, HBr.out⟩
               rw [HO.out, HE.out]
               rfl
             | true =>
               cases hrt : rightT tg with
               | false =>
                 rw [hrt] at HTR
                 have HE : Hid (errK b0 b1 b2 nm tg = 14) := by
                   show _ = _
                   unfold errK
                   rw [HU.out]
                   simp only
                   rw [if_neg h1, if_neg (by rintro (h | ⟨_, h⟩) <;> omega), if_neg (by simp [hrn]), if_pos (by simp [hrt])]
                 go_wp2_with (first
                   | ((with_reducible refine gate_ld 24 _ rfl ?_); refine wl_ldr rfl 24 _ rfl w.heap.size 0 (bC nm).toList _ Tryz.underlying24 rfl (by rw [sizNm]; simp [bC, HL12.out]) rfl (range_whole (by simpa using HSc.out.a)) ?_)
                   | (go_at_call 86; (refine (HNR.out _).mono ?_); rintro e W4 ⟨rfl, hb4⟩; have HGc := Lib.hid ((hb4.block _ (lt_heap HGc.out)).trans HGc.out); have HSc := Lib.hid (HSc.out.below hb4); have hc0 : W4.cell? ⟨g, 0, none⟩ = some (.int .i64 (ua : Int)) := (by rw [cell_blk HGc.out]; rfl); have hc1 : W4.cell? ⟨g, 1, none⟩ = some (.bool true) := (by rw [cell_blk HGc.out]; rfl); have hc2 : W4.cell? ⟨g, 2, none⟩ = some (.bool true) := (by rw [cell_blk HGc.out]; rfl); clear hb4)
                   | ((with_reducible refine gate_ld 28 _ rfl ?_); refine wl_ldr rfl 28 _ rfl (w.heap.size + 1) 0 (bC tg).toList _ Tryz.underlying28 rfl (by rw [sizTag19]; simp [bC, HL10.out]) rfl (range_whole (by simpa using HSc.out.b)) ?_)
                   | (go_at_call 57; (refine (HTR.out _ HSc.out.bel).mono ?_); rintro e W5 ⟨rfl, hb4⟩; have HGc := Lib.hid ((hb4.block _ (lt_heap HGc.out)).trans HGc.out); have HSc := Lib.hid (HSc.out.below hb4); have hc0 : W5.cell? ⟨g, 0, none⟩ = some (.int .i64 (ua : Int)) := (by rw [cell_blk HGc.out]; rfl); have hc1 : W5.cell? ⟨g, 1, none⟩ = some (.bool true) := (by rw [cell_blk HGc.out]; rfl); have hc2 : W5.cell? ⟨g, 2, none⟩ = some (.bool true) := (by rw [cell_blk HGc.out]; rfl); clear hb4)
                   | ((with_reducible refine gate_bd 28 _ rfl ?_); refine wl_bd rfl _ [] rfl [] rfl (bC z10k) bldT0 ?_)
                   | ((with_reducible refine gate_op (.binOp .eql 28 (.tmp 64) (.tmp 65) 28) rfl ?_); refine wl_val rfl (.bool (tg == z10k)) (exec_eqlG _ 28 (.tmp 64) (.tmp 65) rfl (bC tg) (bC z10k) _ rfl rfl (run_eqGuard_agg _ .eql 28 _ _ _ _ (by kernel_rfl)) (HEq.out _)) ?_)
                   | ((with_reducible refine gate_bd 32 _ rfl ?_); refine wl_bd rfl _ [] rfl [] rfl (bC (kL 0 0 0 z12k z10k)) bldK0 ?_)
                   | ((with_reducible refine gate_st 32 _ _ rfl ?_); refine wl_strG rfl 32 _ _ rfl (w.heap.size + 2) (bC (kL 0 0 0 z12k z10k)) (bC (kL 0 0 0 z12k z10k)) 32 (by rw [sizKey]; rfl) rfl (bC_one _) rfl rfl HSc.out.r (fun W8 h1 h2 => ?_); have HGr := Lib.hid h1; have HBr := Lib.hid (HSc.out.bel.trans (h2.below (B := w.heap.size) (fun k hk => by simp at hk; omega) HSc.out.bel.size)); clear h1 h2; try simp only [Act.put]))
                 refine bodyPost_ret (res_rowc_tmp (P := Tryz.prog) rfl _ _ (w.heap.size + 2) (bC (kL 0 0 0 z12k z10k)) (0, 0) rfl HGr.out Tryz.underlying32 rfl (by rw [sizKey]; rfl)) rfl ⟨?_, HBr.out⟩
                 unfold ofK
                 rw [HE.out, if_neg (by decide)]
                 rfl
               | true =>
                 rw [hrt] at HTR
                 by_cases htz : tg = z10k
                 · have htb : (tg == z10k) = true := by simp [htz]
                   rw [htb] at HEq
                   have HE : Hid (errK b0 b1 b2 nm tg = 14) := by
                     show _ = _
                     unfold errK
                     rw [HU.out]
                     simp only
                     rw [if_neg h1, if_neg (by rintro (h | ⟨_, h⟩) <;> omega), if_neg (by simp [hrn]), if_pos (by simp [htz])]
                   clear htz htb
                   go_wp2_with (first
                     | ((with_reducible refine gate_ld 24 _ rfl ?_); refine wl_ldr rfl 24 _ rfl w.heap.size 0 (bC nm).toList _ Tryz.underlying24 rfl (by rw [sizNm]; simp [bC, HL12.out]) rfl (range_whole (by simpa using HSc.out.a)) ?_)
                     | (go_at_call 86; (refine (HNR.out _).mono ?_); rintro e W4 ⟨rfl, hb4⟩; have HGc := Lib.hid ((hb4.block _ (lt_heap HGc.out)).trans HGc.out); have HSc := Lib.hid (HSc.out.below hb4); have hc0 : W4.cell? ⟨g, 0, none⟩ = some (.int .i64 (ua : Int)) := (by rw [cell_blk HGc.out]; rfl); have hc1 : W4.cell? ⟨g, 1, none⟩ = some (.bool true) := (by rw [cell_blk HGc.out]; rfl); have hc2 : W4.cell? ⟨g, 2, none⟩ = some (.bool true) := (by rw [cell_blk HGc.out]; rfl); clear hb4)
                     | ((with_reducible refine gate_ld 28 _ rfl ?_); refine wl_ldr rfl 28 _ rfl (w.heap.size + 1) 0 (bC tg).toList _ Tryz.underlying28 rfl (by rw [sizTag19]; simp [bC, HL10.out]) rfl (range_whole (by simpa using HSc.out.b)) ?_)
                     | (go_at_call 57; (refine (HTR.out _ HSc.out.bel).mono ?_); rintro e W5 ⟨rfl, hb4⟩; have HGc := Lib.hid ((hb4.block _ (lt_heap HGc.out)).trans HGc.out); have HSc := Lib.hid (HSc.out.below hb4); have hc0 : W5.cell? ⟨g, 0, none⟩ = some (.int .i64 (ua : Int)) := (by rw [cell_blk HGc.out]; rfl); have hc1 : W5.cell? ⟨g, 1, none⟩ = some (.bool true) := (by rw [cell_blk HGc.out]; rfl); have hc2 : W5.cell? ⟨g, 2, none⟩ = some (.bool true) := (by rw [cell_blk HGc.out]; rfl); clear hb4)
                     | ((with_reducible refine gate_bd 28 _ rfl ?_); refine wl_bd rfl _ [] rfl [] rfl (bC z10k) bldT0 ?_)
                     | ((with_reducible refine gate_op (.binOp .eql 28 (.tmp 64) (.tmp 65) 28) rfl ?_); refine wl_val rfl (.bool true) (exec_eqlG _ 28 (.tmp 64) (.tmp 65) rfl (bC tg) (bC z10k) _ rfl rfl (run_eqGuard_agg _ .eql 28 _ _ _ _ (by kernel_rfl)) (HEq.out _)) ?_)
                     | ((with_reducible refine gate_bd 32 _ rfl ?_); refine wl_bd rfl _ [] rfl [] rfl (bC (kL 0 0 0 z12k z10k)) bldK0 ?_)
                     | ((with_reducible refine gate_st 32 _ _ rfl ?_); refine wl_strG rfl 32 _ _ rfl (w.heap.size + 2) (bC (kL 0 0 0 z12k z10k)) (bC (kL 0 0 0 z12k z10k)) 32 (by rw [sizKey]; rfl) rfl (bC_one _) rfl rfl HSc.out.r (fun W8 h1 h2 => ?_); have HGr := Lib.hid h1; have HBr := Lib.hid (HSc.out.bel.trans (h2.below (B := w.heap.size) (fun k hk => by simp at hk; omega) HSc.out.bel.size)); clear h1 h2; try simp only [Act.put]))
                   refine bodyPost_ret (res_rowc_tmp (P := Tryz.prog) rfl _ _ (w.heap.size + 2) (bC (kL 0 0 0 z12k z10k)) (0, 0) rfl HGr.out Tryz.underlying32 rfl (by rw [sizKey]; rfl)) rfl ⟨?_, HBr.out⟩
                   unfold ofK
                   rw [HE.out, if_neg (by decide)]
                   rfl
                 · have htb : (tg == z10k) = false := by simp [htz]
                   rw [htb] at HEq
                   have HE : Hid (errK b0 b1 b2 nm tg = 0) := by
                     show _ = _
                     unfold errK
                     rw [HU.out]
                     simp only
                     rw [if_neg h1, if_neg (by rintro (h | ⟨_, h⟩) <;> omega), if_neg (by simp [hrn]), if_neg (by simp [hrt, htz])]
                   have HO : Hid (ofK b0 b1 b2 nm tg = kL b0 b1 b2 nm tg) := by
                     show _ = _
                     unfold ofK
                     rw [HE.out, HU.out, if_pos rfl]
                     simp only
                     rw [if_pos hup]
                     rfl
                   go_upto_region 11 with (first
                     | ((with_reducible refine gate_ld 24 _ rfl ?_); refine wl_ldr rfl 24 _ rfl w.heap.size 0 (bC nm).toList _ Tryz.underlying24 rfl (by rw [sizNm]; simp [bC, HL12.out]) rfl (range_whole (by simpa using HSc.out.a)) ?_)
                     | (go_at_call 86; (refine (HNR.out _).mono ?_); rintro e W4 ⟨rfl, hb4⟩; have HGc := Lib.hid ((hb4.block _ (lt_heap HGc.out)).trans HGc.out); have HSc := Lib.hid (HSc.out.below hb4); have hc0 : W4.cell? ⟨g, 0, none⟩ = some (.int .i64 (ua : Int)) := (by rw [cell_blk HGc.out]; rfl); have hc1 : W4.cell? ⟨g, 1, none⟩ = some (.bool true) := (by rw [cell_blk HGc.out]; rfl); have hc2 : W4.cell? ⟨g, 2, none⟩ = some (.bool true) := (by rw [cell_blk HGc.out]; rfl); clear hb4)
                     | ((with_reducible refine gate_ld 28 _ rfl ?_); refine wl_ldr rfl 28 _ rfl (w.heap.size + 1) 0 (bC tg).toList _ Tryz.underlying28 rfl (by rw [sizTag19]; simp [bC, HL10.out]) rfl (range_whole (by simpa using HSc.out.b)) ?_)
                     | (go_at_call 57; (refine (HTR.out _ HSc.out.bel).mono ?_); rintro e W5 ⟨rfl, hb4⟩; have HGc := Lib.hid ((hb4.block _ (lt_heap HGc.out)).trans HGc.out); have HSc := Lib.hid (HSc.out.below hb4); have hc0 : W5.cell? ⟨g, 0, none⟩ = some (.int .i64 (ua : Int)) := (by rw [cell_blk HGc.out]; rfl); have hc1 : W5.cell? ⟨g, 1, none⟩ = some (.bool true) := (by rw [cell_blk HGc.out]; rfl); have hc2 : W5.cell? ⟨g, 2, none⟩ = some (.bool true) := (by rw [cell_blk HGc.out]; rfl); clear hb4)
                     | ((with_reducible refine gate_bd 28 _ rfl ?_); refine wl_bd rfl _ [] rfl [] rfl (bC z10k) bldT0 ?_)
                     | ((with_reducible refine gate_op (.binOp .eql 28 (.tmp 64) (.tmp 65) 28) rfl ?_); refine wl_val rfl (.bool false) (exec_eqlG _ 28 (.tmp 64) (.tmp 65) rfl (bC tg) (bC z10k) _ rfl rfl (run_eqGuard_agg _ .eql 28 _ _ _ _ (by kernel_rfl)) (HEq.out _)) ?_)
                     | ((with_reducible refine gate_bd 32 _ rfl ?_); refine wl_bd rfl _ [(0, .tmp 71), (1, .tmp 73)] rfl [(0, .int .u8 (b0.toNat : Int)), (1, .int .u8 (b1.toNat : Int))] rfl (bC (kL b0 b1 0 z12k z10k)) (bldK1 b0 b1) ?_)
                     | ((with_reducible refine gate_st 32 _ _ rfl ?_); refine wl_strn rfl _ _ _ rfl (bC (kL b0 b1 0 z12k z10k)) #[Value.int IntKind.u8 0, Value.int IntKind.u8 0, Value.int IntKind.u8 0, Value.int IntKind.u8 0, Value.int IntKind.u8 0, Value.int IntKind.u8 0, Value.int IntKind.u8 0, Value.int IntKind.u8 0, Value.int IntKind.u8 0, Value.int IntKind.u8 0, Value.int IntKind.u8 0, Value.int IntKind.u8 0, Value.int IntKind.u8 0, Value.int IntKind.u8 0, Value.int IntKind.u8 0, Value.int IntKind.u8 0, Value.int IntKind.u8 0, Value.int IntKind.u8 0, Value.int IntKind.u8 0, Value.int IntKind.u8 0, Value.int IntKind.u8 0, Value.int IntKind.u8 0, Value.int IntKind.u8 0, Value.int IntKind.u8 0, Value.int IntKind.u8 0] _ (by rw [sizKey]; rfl) rfl (bC_one _) (by simp [Act.eval]) rfl ?_))
                   have HK := Lib.hid (KfK.start HSc.out HGc.out (kL b0 b1 0 z12k z10k))
                   generalize W5.alloc (.cells (bC (kL b0 b1 0 z12k z10k)) 32) = W6 at *
                   generalize W5.heap.size = g6 at *
                   clear hc0 hc1 hc2 HSc HGc
                   obtain ⟨hc0, hc1, hc2⟩ := HK.out.c
                   go_wp2_with (first
                     | ((with_reducible refine gate_ld 24 _ rfl ?_); refine wl_ldr rfl 24 _ rfl w.heap.size 0 (bC nm).toList _ Tryz.underlying24 rfl (by rw [sizNm]; simp [bC, HL12.out]) rfl (range_whole (by simpa using HK.out.s.a)) ?_)
                     | ((with_reducible refine gate_ld 28 _ rfl ?_); refine wl_ldr rfl 28 _ rfl (w.heap.size + 1) 0 (bC tg).toList _ Tryz.underlying28 rfl (by rw [sizTag19]; simp [bC, HL10.out]) rfl (range_whole (by simpa using HK.out.s.b)) ?_)
                     | ((with_reducible refine gate_st 5 _ _ rfl ?_); refine wl_st1G rfl 5 siz5u _ _ rfl g6 2 (.int .u8 (b2.toNat : Int)) rfl rfl rfl (bC (kL b0 b1 0 z12k z10k)).toList (bC (kL b0 b1 b2 z12k z10k)).toList 32 HK.out.k (by simp [kL, bC]) rfl (fun W7 h1 h2 => ?_); have HK : Hid (KfK w W7 nm tg g g6 (ua, true, true) (kL b0 b1 b2 z12k z10k)) := HK.out.set h1 h2; (obtain ⟨hc0, hc1, hc2⟩ := HK.out.c); clear h1 h2; try simp only [Act.put])
                     | ((with_reducible refine gate_st 24 _ _ rfl ?_); refine wl_stR rfl 24 _ _ rfl g6 3 (bC nm).toList (by rw [sizNm]; simp [bC, HL12.out]) rfl (by simp [Act.eval]) (fun v hv => List.all_eq_true.1 (by have := bC_one nm; rwa [← Array.all_toList] at this) v hv) (bC (kL b0 b1 b2 z12k z10k)).toList 32 HK.out.k (by simp [kL, bC, z12k, z10k, HL12.out, HL10.out]) (fun W7 h1 h2 => ?_); have HK : Hid (KfK w W7 nm tg g g6 (ua, true, true) (kL b0 b1 b2 nm z10k)) := HK.out.set (by rw [rowK_nm _ _ _ _ rfl HL12.out] at h1; exact h1) h2; (obtain ⟨hc0, hc1, hc2⟩ := HK.out.c); clear h1 h2; try simp only [Act.put])
                     | ((with_reducible refine gate_st 28 _ _ rfl ?_); refine wl_stR rfl 28 _ _ rfl g6 15 (bC tg).toList (by rw [sizTag19]; simp [bC, HL10.out]) rfl (by simp [Act.eval]) (fun v hv => List.all_eq_true.1 (by have := bC_one tg; rwa [← Array.all_toList] at this) v hv) (bC (kL b0 b1 b2 nm z10k)).toList 32 HK.out.k (by simp [kL, bC, z12k, z10k, HL12.out, HL10.out]) (fun W7 h1 h2 => ?_); have HK : Hid (KfK w W7 nm tg g g6 (ua, true, true) (kL b0 b1 b2 nm tg)) := HK.out.set (by rw [rowK_tg _ _ _ HL12.out rfl HL10.out] at h1; exact h1) h2; (obtain ⟨hc0, hc1, hc2⟩ := HK.out.c); clear h1 h2; try simp only [Act.put])
                     | ((with_reducible refine gate_ld 32 _ rfl ?_); refine wl_ldr rfl 32 _ rfl g6 0 (bC (kL b0 b1 b2 nm tg)).toList _ Tryz.underlying32 rfl (by rw [sizKey]; simp [bC, kL_len HL12.out HL10.out]) rfl (range_whole (by simpa using HK.out.k)) ?_)
                     | ((with_reducible refine gate_st 32 _ _ rfl ?_); refine wl_strG rfl 32 _ _ rfl (w.heap.size + 2) (bC (kL b0 b1 b2 nm tg)) (bC (kL 0 0 0 z12k z10k)) 32 (by rw [sizKey, bC_size, kL_len HL12.out HL10.out]) (by rw [bC_size, kL_len HL12.out HL10.out]; rfl) (bC_one _) rfl (by first | rfl | simp [Act.eval, Act.put]) HK.out.s.r (fun W8 h1 h2 => ?_); have HGr := Lib.hid h1; have HBr := Lib.hid (HK.out.s.bel.trans (h2.below (B := w.heap.size) (fun k hk => by simp at hk; omega) HK.out.s.bel.size)); clear h1 h2; try simp only [Act.put]))
                   refine bodyPost_ret (res_rowc_tmp (P := Tryz.prog) rfl _ _ (w.heap.size + 2) (bC (kL b0 b1 b2 nm tg)) (0, 0) rfl HGr.out Tryz.underlying32 rfl (by rw [sizKey, bC_size, kL_len HL12.out HL10.out])) rfl ⟨?_, HBr.out⟩
                   rw [HO.out, HE.out]
                   rfl
     · have hupI : ¬ (0 : Int) < (ua : Int) := by omega
       obtain rfl : ub = false := HUb.out hup
       clear HUb
       cases uc with
       | false =>
         have HE : Hid (errK b0 b1 b2 nm tg = 0) := by
           show _ = _
           unfold errK
           rw [HU.out]
           simp only
           rw [if_neg h1, if_neg (by rintro (h | ⟨h, _⟩) <;> omega), if_neg (by simp), if_neg (by simp)]
         have HO : Hid (ofK b0 b1 b2 nm tg = kL b0 b1 0 z12k z10k) := by
           show _ = _
           unfold ofK
           rw [HE.out, HU.out, if_pos rfl]
           simp only
           rw [if_neg hup]
           rfl
         go_upto_region 8 with fail
         go_upto_region 10 with fail
         go_upto_region 11 with (first
           | ((with_reducible refine gate_bd 32 _ rfl ?_); refine wl_bd rfl _ [(0, .tmp 71), (1, .tmp 73)] rfl [(0, .int .u8 (b0.toNat : Int)), (1, .int .u8 (b1.toNat : Int))] rfl (bC (kL b0 b1 0 z12k z10k)) (bldK1 b0 b1) ?_)
           | ((with_reducible refine gate_st 32 _ _ rfl ?_); refine wl_strn rfl _ _ _ rfl (bC (kL b0 b1 0 z12k z10k)) #[Value.int IntKind.u8 0, Value.int IntKind.u8 0, Value.int IntKind.u8 0, Value.int IntKind.u8 0, Value.int IntKind.u8 0, Value.int IntKind.u8 0, Value.int IntKind.u8 0, Value.int IntKind.u8 0, Value.int IntKind.u8 0, Value.int IntKind.u8 0, Value.int IntKind.u8 0, Value.int IntKind.u8 0, Value.int IntKind.u8 0, Value.int IntKind.u8 0, Value.int IntKind.u8 0, Value.int IntKind.u8 0, Value.int IntKind.u8 0, Value.int IntKind.u8 0, Value.int IntKind.u8 0, Value.int IntKind.u8 0, Value.int IntKind.u8 0, Value.int IntKind.u8 0, Value.int IntKind.u8 0, Value.int IntKind.u8 0, Value.int IntKind.u8 0] _ (by rw [sizKey]; rfl) rfl (bC_one _) (by simp [Act.eval]) rfl ?_))
         have HK := Lib.hid (KfK.start HSc.out HGc.out (kL b0 b1 0 z12k z10k))
         generalize W3.alloc (.cells (bC (kL b0 b1 0 z12k z10k)) 32) = W6 at *
         generalize W3.heap.size = g6 at *
         clear hc0 hc1 hc2 HSc HGc
         obtain ⟨hc0, hc1, hc2⟩ := HK.out.c
         go_wp2_with (first
           | ((with_reducible refine gate_ld 32 _ rfl ?_); refine wl_ldr rfl 32 _ rfl g6 0 (bC (kL b0 b1 0 z12k z10k)).toList _ Tryz.underlying32 rfl (by rw [sizKey]; simp [bC, kL_len (rfl : z12k.length = 12) (rfl : z10k.length = 10)]) rfl (range_whole (by simpa using HK.out.k)) ?_)
           | ((with_reducible refine gate_st 32 _ _ rfl ?_); refine wl_strG rfl 32 _ _ rfl (w.heap.size + 2) (bC (kL b0 b1 0 z12k z10k)) (bC (kL 0 0 0 z12k z10k)) 32 (by rw [sizKey, bC_size, kL_len (rfl : z12k.length = 12) (rfl : z10k.length = 10)]) (by rw [bC_size, kL_len (rfl : z12k.length = 12) (rfl : z10k.length = 10)]; rfl) (bC_one _) rfl (by first | rfl | simp [Act.eval, Act.put]) HK.out.s.r (fun W8 h1 h2 => ?_); have HGr := Lib.hid h1; have HBr := Lib.hid (HK.out.s.bel.trans (h2.below (B := w.heap.size) (fun k hk => by simp at hk; omega) HK.out.s.bel.size)); clear h1 h2; try simp only [Act.put]))
         refine bodyPost_ret (res_rowc_tmp (P := Tryz.prog) rfl _ _ (w.heap.size + 2) (bC (kL b0 b1 0 z12k z10k)) (0, 0) rfl HGr.out Tryz.underlying32 rfl (by rw [sizKey, bC_size, kL_len (rfl : z12k.length = 12) (rfl : z10k.length = 10)])) rfl ⟨?_, HBr.out⟩
         rw [HO.out, HE.out]
         rfl
       | true =>
         cases hrt : rightT tg with
         | false =>
           rw [hrt] at HTR
           have HE : Hid (errK b0 b1 b2 nm tg = 14) := by
             show _ = _
             unfold errK
             rw [HU.out]
             simp only
             rw [if_neg h1, if_neg (by rintro (h | ⟨h, _⟩) <;> omega), if_neg (by simp), if_pos (by simp [hrt])]
           go_wp2_with (first
             | ((with_reducible refine gate_ld 28 _ rfl ?_); refine wl_ldr rfl 28 _ rfl (w.heap.size + 1) 0 (bC tg).toList _ Tryz.underlying28 rfl (by rw [sizTag19]; simp [bC, HL10.out]) rfl (range_whole (by simpa using HSc.out.b)) ?_)
             | (go_at_call 57; (refine (HTR.out _ HSc.out.bel).mono ?_); rintro e W5 ⟨rfl, hb4⟩; have HGc := Lib.hid ((hb4.block _ (lt_heap HGc.out)).trans HGc.out); have HSc := Lib.hid (HSc.out.below hb4); have hc0 : W5.cell? ⟨g, 0, none⟩ = some (.int .i64 (ua : Int)) := (by rw [cell_blk HGc.out]; rfl); have hc1 : W5.cell? ⟨g, 1, none⟩ = some (.bool false) := (by rw [cell_blk HGc.out]; rfl); have hc2 : W5.cell? ⟨g, 2, none⟩ = some (.bool true) := (by rw [cell_blk HGc.out]; rfl); clear hb4)
             | ((with_reducible refine gate_bd 28 _ rfl ?_); refine wl_bd rfl _ [] rfl [] rfl (bC z10k) bldT0 ?_)
             | ((with_reducible refine gate_op (.binOp .eql 28 (.tmp 64) (.tmp 65) 28) rfl ?_); refine wl_val rfl (.bool (tg == z10k)) (exec_eqlG _ 28 (.tmp 64) (.tmp 65) rfl (bC tg) (bC z10k) _ rfl rfl (run_eqGuard_agg _ .eql 28 _ _ _ _ (by kernel_rfl)) (HEq.out _)) ?_)
             | ((with_reducible refine gate_bd 32 _ rfl ?_); refine wl_bd rfl _ [] rfl [] rfl (bC (kL 0 0 0 z12k z10k)) bldK0 ?_)
             | ((with_reducible refine gate_st 32 _ _ rfl ?_); refine wl_strG rfl 32 _ _ rfl (w.heap.size + 2) (bC (kL 0 0 0 z12k z10k)) (bC (kL 0 0 0 z12k z10k)) 32 (by rw [sizKey]; rfl) rfl (bC_one _) rfl rfl HSc.out.r (fun W8 h1 h2 => ?_); have HGr := Lib.hid h1; have HBr := Lib.hid (HSc.out.bel.trans (h2.below (B := w.heap.size) (fun k hk => by simp at hk; omega) HSc.out.bel.size)); clear h1 h2; try simp only [Act.put]))
           refine bodyPost_ret (res_rowc_tmp (P := Tryz.prog) rfl _ _ (w.heap.size + 2) (bC (kL 0 0 0 z12k z10k)) (0, 0) rfl HGr.out Tryz.underlying32 rfl (by rw [sizKey]; rfl)) rfl ⟨?_, HBr.out⟩
           unfold ofK
           rw [HE.out, if_neg (by decide)]
           rfl
         | true =>
           rw [hrt] at HTR
           by_cases htz : tg = z10k
           · have htb : (tg == z10k) = true := by simp [htz]
             rw [htb] at HEq
             have HE : Hid (errK b0 b1 b2 nm tg = 14) := by
               show _ = _
               unfold errK
               rw [HU.out]
               simp only
               rw [if_neg h1, if_neg (by rintro (h | ⟨h, _⟩) <;> omega), if_neg (by simp), if_pos (by simp [htz])]
             clear htz htb
             go_wp2_with (first
               | ((with_reducible refine gate_ld 28 _ rfl ?_); refine wl_ldr rfl 28 _ rfl (w.heap.size + 1) 0 (bC tg).toList _ Tryz.underlying28 rfl (by rw [sizTag19]; simp [bC, HL10.out]) rfl (range_whole (by simpa using HSc.out.b)) ?_)
               | (go_at_call 57; (refine (HTR.out _ HSc.out.bel).mono ?_); rintro e W5 ⟨rfl, hb4⟩; have HGc := Lib.hid ((hb4.block _ (lt_heap HGc.out)).trans HGc.out); have HSc := Lib.hid (HSc.out.below hb4); have hc0 : W5.cell? ⟨g, 0, none⟩ = some (.int .i64 (ua : Int)) := (by rw [cell_blk HGc.out]; rfl); have hc1 : W5.cell? ⟨g, 1, none⟩ = some (.bool false) := (by rw [cell_blk HGc.out]; rfl); have hc2 : W5.cell? ⟨g, 2, none⟩ = some (.bool true) := (by rw [cell_blk HGc.out]; rfl); clear hb4)
               | ((with_reducible refine gate_bd 28 _ rfl ?_); refine wl_bd rfl _ [] rfl [] rfl (bC z10k) bldT0 ?_)
               | ((with_reducible refine gate_op (.binOp .eql 28 (.tmp 64) (.tmp 65) 28) rfl ?_); refine wl_val rfl (.bool true) (exec_eqlG _ 28 (.tmp 64) (.tmp 65) rfl (bC tg) (bC z10k) _ rfl rfl (run_eqGuard_agg _ .eql 28 _ _ _ _ (by kernel_rfl)) (HEq.out _)) ?_)
               | ((with_reducible refine gate_bd 32 _ rfl ?_); refine wl_bd rfl _ [] rfl [] rfl (bC (kL 0 0 0 z12k z10k)) bldK0 ?_)
               | ((with_reducible refine gate_st 32 _ _ rfl ?_); refine wl_strG rfl 32 _ _ rfl (w.heap.size + 2) (bC (kL 0 0 0 z12k z10k)) (bC (kL 0 0 0 z12k z10k)) 32 (by rw [sizKey]; rfl) rfl (bC_one _) rfl rfl HSc.out.r (fun W8 h1 h2 => ?_); have HGr := Lib.hid h1; have HBr := Lib.hid (HSc.out.bel.trans (h2.below (B := w.heap.size) (fun k hk => by simp at hk; omega) HSc.out.bel.size)); clear h1 h2; try simp only [Act.put]))
             refine bodyPost_ret (res_rowc_tmp (P := Tryz.prog) rfl _ _ (w.heap.size + 2) (bC (kL 0 0 0 z12k z10k)) (0, 0) rfl HGr.out Tryz.underlying32 rfl (by rw [sizKey]; rfl)) rfl ⟨?_, HBr.out⟩
             unfold ofK
             rw [HE.out, if_neg (by decide)]
             rfl
           · have htb : (tg == z10k) = false := by simp [htz]
             rw [htb] at HEq
             have HE : Hid (errK b0 b1 b2 nm tg = 0) := by
               show _ = _
               unfold errK
               rw [HU.out]
               simp only
               rw [if_neg h1, if_neg (by rintro (h | ⟨h, _⟩) <;> omega), if_neg (by simp), if_neg (by simp [hrt, htz])]
             have HO : Hid (ofK b0 b1 b2 nm tg = kL b0 b1 0 z12k tg) := by
               show _ = _
               unfold ofK
               rw [HE.out, HU.out, if_pos rfl]
               simp only
               rw [if_neg hup]
               rfl
             go_upto_region 11 with (first
               | ((with_reducible refine gate_ld 28 _ rfl ?_); refine wl_ldr rfl 28 _ rfl (w.heap.size + 1) 0 (bC tg).toList _ Tryz.underlying28 rfl (by rw [sizTag19]; simp [bC, HL10.out]) rfl (range_whole (by simpa using HSc.out.b)) ?_)
               | (go_at_call 57; (refine (HTR.out _ HSc.out.bel).mono ?_); rintro e W5 ⟨rfl, hb4⟩; have HGc := Lib.hid ((hb4.block _ (lt_heap HGc.out)).trans HGc.out); have HSc := Lib.hid (HSc.out.below hb4); have hc0 : W5.cell? ⟨g, 0, none⟩ = some (.int .i64 (ua : Int)) := (by rw [cell_blk HGc.out]; rfl); have hc1 : W5.cell? ⟨g, 1, none⟩ = some (.bool false) := (by rw [cell_blk HGc.out]; rfl); have hc2 : W5.cell? ⟨g, 2, none⟩ = some (.bool true) := (by rw [cell_blk HGc.out]; rfl); clear hb4)
               | ((with_reducible refine gate_bd 28 _ rfl ?_); refine wl_bd rfl _ [] rfl [] rfl (bC z10k) bldT0 ?_)
               | ((with_reducible refine gate_op (.binOp .eql 28 (.tmp 64) (.tmp 65) 28) rfl ?_); refine wl_val rfl (.bool false) (exec_eqlG _ 28 (.tmp 64) (.tmp 65) rfl (bC tg) (bC z10k) _ rfl rfl (run_eqGuard_agg _ .eql 28 _ _ _ _ (by kernel_rfl)) (HEq.out _)) ?_)
               | ((with_reducible refine gate_bd 32 _ rfl ?_); refine wl_bd rfl _ [(0, .tmp 71), (1, .tmp 73)] rfl [(0, .int .u8 (b0.toNat : Int)), (1, .int .u8 (b1.toNat : Int))] rfl (bC (kL b0 b1 0 z12k z10k)) (bldK1 b0 b1) ?_)
               | ((with_reducible refine gate_st 32 _ _ rfl ?_); refine wl_strn rfl _ _ _ rfl (bC (kL b0 b1 0 z12k z10k)) #[Value.int IntKind.u8 0, Value.int IntKind.u8 0, Value.int IntKind.u8 0, Value.int IntKind.u8 0, Value.int IntKind.u8 0, Value.int IntKind.u8 0, Value.int IntKind.u8 0, Value.int IntKind.u8 0, Value.int IntKind.u8 0, Value.int IntKind.u8 0, Value.int IntKind.u8 0, Value.int IntKind.u8 0, Value.int IntKind.u8 0, Value.int IntKind.u8 0, Value.int IntKind.u8 0, Value.int IntKind.u8 0, Value.int IntKind.u8 0, Value.int IntKind.u8 0, Value.int IntKind.u8 0, Value.int IntKind.u8 0, Value.int IntKind.u8 0, Value.int IntKind.u8 0, Value.int IntKind.u8 0, Value.int IntKind.u8 0, Value.int IntKind.u8 0] _ (by rw [sizKey]; rfl) rfl (bC_one _) (by simp [Act.eval]) rfl ?_))
             have HK := Lib.hid (KfK.start HSc.out HGc.out (kL b0 b1 0 z12k z10k))
             generalize W5.alloc (.cells (bC (kL b0 b1 0 z12k z10k)) 32) = W6 at *
             generalize W5.heap.size = g6 at *
             clear hc0 hc1 hc2 HSc HGc
             obtain ⟨hc0, hc1, hc2⟩ := HK.out.c
             go_wp2_with (first
               | ((with_reducible refine gate_ld 28 _ rfl ?_); refine wl_ldr rfl 28 _ rfl (w.heap.size + 1) 0 (bC tg).toList _ Tryz.underlying28 rfl (by rw [sizTag19]; simp [bC, HL10.out]) rfl (range_whole (by simpa using HK.out.s.b)) ?_)
               | ((with_reducible refine gate_st 28 _ _ rfl ?_); refine wl_stR rfl 28 _ _ rfl g6 15 (bC tg).toList (by rw [sizTag19]; simp [bC, HL10.out]) rfl (by simp [Act.eval]) (fun v hv => List.all_eq_true.1 (by have := bC_one tg; rwa [← Array.all_toList] at this) v hv) (bC (kL b0 b1 0 z12k z10k)).toList 32 HK.out.k (by simp [kL, bC, z12k, z10k, HL12.out, HL10.out]) (fun W7 h1 h2 => ?_); have HK : Hid (KfK w W7 nm tg g g6 (ua, false, true) (kL b0 b1 0 z12k tg)) := HK.out.set (by rw [rowK_tg _ _ _ rfl rfl HL10.out] at h1; exact h1) h2; (obtain ⟨hc0, hc1, hc2⟩ := HK.out.c); clear h1 h2; try simp only [Act.put])
               | ((with_reducible refine gate_ld 32 _ rfl ?_); refine wl_ldr rfl 32 _ rfl g6 0 (bC (kL b0 b1 0 z12k tg)).toList _ Tryz.underlying32 rfl (by rw [sizKey]; simp [bC, kL_len (rfl : z12k.length = 12) HL10.out]) rfl (range_whole (by simpa using HK.out.k)) ?_)
               | ((with_reducible refine gate_st 32 _ _ rfl ?_); refine wl_strG rfl 32 _ _ rfl (w.heap.size + 2) (bC (kL b0 b1 0 z12k tg)) (bC (kL 0 0 0 z12k z10k)) 32 (by rw [sizKey, bC_size, kL_len (rfl : z12k.length = 12) HL10.out]) (by rw [bC_size, kL_len (rfl : z12k.length = 12) HL10.out]; rfl) (bC_one _) rfl (by first | rfl | simp [Act.eval, Act.put]) HK.out.s.r (fun W8 h1 h2 => ?_); have HGr := Lib.hid h1; have HBr := Lib.hid (HK.out.s.bel.trans (h2.below (B := w.heap.size) (fun k hk => by simp at hk; omega) HK.out.s.bel.size)); clear h1 h2; try simp only [Act.put]))
             refine bodyPost_ret (res_rowc_tmp (P := Tryz.prog) rfl _ _ (w.heap.size + 2) (bC (kL b0 b1 0 z12k tg)) (0, 0) rfl HGr.out Tryz.underlying32 rfl (by rw [sizKey, bC_size, kL_len (rfl : z12k.length = 12) HL10.out])) rfl ⟨?_, HBr.out⟩
             rw [HO.out, HE.out]
             rfl
end Go.Proofs.YtbfefdedjcppaaaGreatDoor
