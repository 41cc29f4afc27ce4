/- request.Print. -/
import Derived.Test.YtbfefdedjcppaaaGreatDoorPQ6
namespace Go.Proofs.YtbfefdedjcppaaaGreatDoor
set_option maxRecDepth 100000
set_option maxHeartbeats 16000000
open Go.RowKit Go.Deep
def OkEv (v : Ev) : Prop := 0 ≤ v.at_ ∧ v.at_ < 2 ^ 64
def evW (s : List UInt8 × Nat) (v : Ev) : List UInt8 × Nat :=
 if v.mark = true then wStep 4096 (wBytes 4096 s [2]) (small v.at_.toNat) else wBytes 4096 (wStep 4096 (wBytes 4096 s [if v.dead = true then 1 else 0]) (small v.at_.toNat)) v.key
def prS (x : RpD) (es : List Ev) : List UInt8 × Nat := es.foldl evW (yS x es.length 6)
def prE (x : RpD) (es : List Ev) : Nat :=
 if x.err < 0 ∨ 255 < x.err then 5
 else if 1200 < x.text.size then 2
 else if rightT x.tag = false then 14
 else if x.st < 0 ∨ 255 < x.st ∨ x.n < 0 ∨ 4294967295 < x.n then 5
 else if 16 < es.length then 2
 else if es.all evOk = false then 3
 else (prS x es).2
def prB (x : RpD) (es : List Ev) : List UInt8 := if prE x es = 0 then (prS x es).1 else []
theorem foldE_take {s : List UInt8 × Nat} {es : List Ev} {k : Nat} (h : k < es.length) : (es.take (k + 1)).foldl evW s = evW ((es.take k).foldl evW s) es[k] := by
 rw [List.take_succ_eq_append_getElem h, List.foldl_append]; rfl
theorem exec_fRp {o : Oper} {a : Act} {w : World} (x : Operand) (n k : Nat) (hk : (n = 0 ∧ k = 0) ∨ (n = 1 ∧ k = 1) ∨ (n = 2 ∧ k = 2) ∨ (n = 3 ∧ k = 12) ∨ (n = 4 ∧ k = 13)) (ho : o.op = .fieldAddr 56 x n) (b f : Nat) (hx : a.eval x = .pointer (some ⟨b, f, none⟩)) : (execOp a.eval o).run Tryz.prog w = .ok (.value (.pointer (some ⟨b, f + k, none⟩))) w := by
 rcases hk with ⟨rfl, rfl⟩ | ⟨rfl, rfl⟩ | ⟨rfl, rfl⟩ | ⟨rfl, rfl⟩ | ⟨rfl, rfl⟩ <;>
 · unfold execOp
   simp only [ho, hx]
   simp [go_sem]
theorem exec_cvEr {o : Oper} {a : Act} {w : World} (x : Operand) (ho : o.op = .convert 37 5 x) (n : Int) (hx : a.eval x = .int .i64 n) : (execOp a.eval o).run Tryz.prog w = .ok (.value (.int .u8 ((lowB n).toNat : Int))) w := by
 unfold execOp
 simp only [ho, hx]
 simp [go_sem, Tryz.underlying5, Tryz.underlying37, wrap_low]
theorem exec_sl25 {o : Oper} {a : Act} {w : World} (x : Operand) (ho : o.op = .slice 108 x none none none) (b : Nat) (hx : a.eval x = .pointer (some ⟨b, 0, none⟩)) : (execOp a.eval o).run Tryz.prog w = .ok (.value (.slice (some ⟨b, 0, none⟩) 25 25)) w := by
 unfold execOp
 simp only [ho, hx]
 simp [go_sem, Tryz.underlying108]
theorem exec_fEv0 {o : Oper} {a : Act} {w : World} (x : Operand) (ho : o.op = .fieldAddr 62 x 0) (b f : Nat) (hx : a.eval x = .pointer (some ⟨b, f, none⟩)) : (execOp a.eval o).run Tryz.prog w = .ok (.value (.pointer (some ⟨b, f + 0, none⟩))) w := by
 unfold execOp
 simp only [ho, hx]
 simp [go_sem]
theorem ag37e (w : World) : (isAgg 37).run Tryz.prog w = .ok false w := by simp [isAgg, run_underlying Tryz.underlying37]
theorem ag60u (w : World) : (isAgg 60).run Tryz.prog w = .ok false w := by simp [isAgg, run_underlying Tryz.underlying60]
theorem rpC_cells (x : RpD) : (rpC x)[0]? = some (.int .i64 x.err) ∧ (rpC x)[1]? = some (.string x.text) ∧ (rpC x)[12]? = some (.int .i64 x.st) ∧ (rpC x)[13]? = some (.int .i64 x.n) := by
 have h2 : (bC x.tag).toList.length = 10 := by simp [bC, x.lt]
 refine ⟨rfl, rfl, ?_, ?_⟩
 · unfold rpC
   rw [List.getElem?_append_right (by simp), List.getElem?_append_right (by simp [h2])]
   simp [h2]
 · unfold rpC
   rw [List.getElem?_append_right (by simp), List.getElem?_append_right (by simp [h2])]
   simp [h2]
theorem rp_cell {W : World} {g : Nat} {x : RpD} {T : TypeId} (h : W.heap[g]? = some (.cells (rpC x).toArray T (0, 0))) : W.cell? ⟨g, 0, none⟩ = some (.int .i64 x.err) ∧ W.cell? ⟨g, 1, none⟩ = some (.string x.text) ∧ W.cell? ⟨g, 12, none⟩ = some (.int .i64 x.st) ∧ W.cell? ⟨g, 13, none⟩ = some (.int .i64 x.n) := by
 obtain ⟨h0, h1, h2, h3⟩ := rpC_cells x
 exact ⟨by rw [cell_blk h, List.getElem?_toArray]; exact h0, by rw [cell_blk h, List.getElem?_toArray]; exact h1, by rw [cell_blk h, List.getElem?_toArray]; exact h2, by rw [cell_blk h, List.getElem?_toArray]; exact h3⟩
theorem rp_tag' {W : World} {g : Nat} {x : RpD} {T : TypeId} (h : W.heap[g]? = some (.cells (rpC x).toArray T (0, 0))) : W.rangeAt g 2 (bC x.tag).toList := by
 have h2 : W.rangeAt g 0 (rpC x) := range_whole h
 have := rp_tag h2
 rwa [Nat.zero_add] at this
def prDV (w : World) (x : RpD) (q : Option Addr) (n c : Nat) (g : PrG) : List (Option (Nat × Value)) := [some (54, .pointer (some ⟨g.bw, 0, none⟩)), some (55, .pointer (some ⟨w.heap.size + 1, 0, none⟩)), some (56, .int .i64 x.err), some (57, .int .u8 ((lowB x.err).toNat : Int)), some (58, .slice (some ⟨g.p1, 0, none⟩) 1 1), some (59, .pointer (some ⟨g.bw, 0, none⟩)), some (60, .pointer (some ⟨w.heap.size + 1, 1, none⟩)), some (61, .string x.text), some (62, .pointer (some ⟨g.bw, 0, none⟩)), some (63, .pointer (some ⟨w.heap.size + 1, 2, none⟩)), some (64, .agg (bC x.tag)), some (65, .string ⟨(textB x.tag).toArray⟩), some (66, .pointer (some ⟨g.bw, 0, none⟩)), some (67, .pointer (some ⟨w.heap.size + 1, 12, none⟩)), some (68, .int .i64 x.st), some (69, .int .u8 ((lowB x.st).toNat : Int)), some (70, .slice (some ⟨g.p2, 0, none⟩) 1 1), some (71, .pointer (some ⟨g.bw, 0, none⟩)), some (72, .pointer (some ⟨w.heap.size + 1, 13, none⟩)), some (73, .int .i64 x.n), some (74, .int .u64 (x.n.toNat : Int)), some (75, .pointer (some ⟨g.bw, 0, none⟩)), some (76, .pointer (some ⟨w.heap.size, 14, none⟩)), some (77, .slice q n c), some (78, .int .i64 (n : Int)), some (79, .int .u8 ((lowB (n : Int)).toNat : Int)), some (80, .slice (some ⟨g.p3, 0, none⟩) 1 1), some (81, .pointer (some ⟨g.bw, 0, none⟩)), some (5, .pointer (some ⟨g.bw, 0, none⟩))]
theorem prDV_slots (w : World) (x : RpD) (q : Option Addr) (n c : Nat) (g : PrG) : ((prDV w x q n c g).filterMap _root_.id).map (·.1) = [54, 55, 56, 57, 58, 59, 60, 61, 62, 63, 64, 65, 66, 67, 68, 69, 70, 71, 72, 73, 74, 75, 76, 77, 78, 79, 80, 81, 5] := rfl
theorem prDV_nodup {w : World} {x : RpD} {q : Option Addr} {n c : Nat} {g : PrG} : (((prDV w x q n c g).filterMap _root_.id).map (·.1)).Nodup := by rw [prDV_slots]; decide
theorem prDV_lt {w : World} {x : RpD} {q : Option Addr} {n c : Nat} {g : PrG} (k : Nat) (hk : k ∈ ((prDV w x q n c g).filterMap _root_.id).map (·.1)) : k < 125 := by
 rw [prDV_slots] at hk
 exact (show ∀ k ∈ [54, 55, 56, 57, 58, 59, 60, 61, 62, 63, 64, 65, 66, 67, 68, 69, 70, 71, 72, 73, 74, 75, 76, 77, 78, 79, 80, 81, 5], k < 125 by decide) k hk
theorem noRun {b : Bool} (h : b = true → False) : b = false := by
 cases b with
 | false => rfl
 | true => exact absurd rfl h
theorem dvP_4 {w : World} {x : RpD} {q : Option Addr} {n c : Nat} (g : PrG) (p : Nat) {j : Nat} (h : j ≠ 4) : (prDV w x q n c ⟨g.bw, g.vw, p, g.p2, g.p3⟩)[j]? = (prDV w x q n c g)[j]? := by
 match j, h with
 | 0, h => rfl
 | 1, h => rfl
 | 2, h => rfl
 | 3, h => rfl
 | 4, h => exact absurd rfl h
 | 5, h => rfl
 | 6, h => rfl
 | 7, h => rfl
 | 8, h => rfl
 | 9, h => rfl
 | 10, h => rfl
 | 11, h => rfl
 | 12, h => rfl
 | 13, h => rfl
 | 14, h => rfl
 | 15, h => rfl
 | 16, h => rfl
 | 17, h => rfl
 | 18, h => rfl
 | 19, h => rfl
 | 20, h => rfl
 | 21, h => rfl
 | 22, h => rfl
 | 23, h => rfl
 | 24, h => rfl
 | 25, h => rfl
 | 26, h => rfl
 | 27, h => rfl
 | 28, h => rfl
 | j + 29, _ => rfl
theorem dvP_16 {w : World} {x : RpD} {q : Option Addr} {n c : Nat} (g : PrG) (p : Nat) {j : Nat} (h : j ≠ 16) : (prDV w x q n c ⟨g.bw, g.vw, g.p1, p, g.p3⟩)[j]? = (prDV w x q n c g)[j]? := by
 match j, h with
 | 0, h => rfl
 | 1, h => rfl
 | 2, h => rfl
 | 3, h => rfl
 | 4, h => rfl
 | 5, h => rfl
 | 6, h => rfl
 | 7, h => rfl
 | 8, h => rfl
 | 9, h => rfl
 | 10, h => rfl
 | 11, h => rfl
 | 12, h => rfl
 | 13, h => rfl
 | 14, h => rfl
 | 15, h => rfl
 | 16, h => exact absurd rfl h
 | 17, h => rfl
 | 18, h => rfl
 | 19, h => rfl
 | 20, h => rfl
 | 21, h => rfl
 | 22, h => rfl
 | 23, h => rfl
 | 24, h => rfl
 | 25, h => rfl
 | 26, h => rfl
 | 27, h => rfl
 | 28, h => rfl
 | j + 29, _ => rfl
theorem dvP_26 {w : World} {x : RpD} {q : Option Addr} {n c : Nat} (g : PrG) (p : Nat) {j : Nat} (h : j ≠ 26) : (prDV w x q n c ⟨g.bw, g.vw, g.p1, g.p2, p⟩)[j]? = (prDV w x q n c g)[j]? := by
 match j, h with
 | 0, h => rfl
 | 1, h => rfl
 | 2, h => rfl
 | 3, h => rfl
 | 4, h => rfl
 | 5, h => rfl
 | 6, h => rfl
 | 7, h => rfl
 | 8, h => rfl
 | 9, h => rfl
 | 10, h => rfl
 | 11, h => rfl
 | 12, h => rfl
 | 13, h => rfl
 | 14, h => rfl
 | 15, h => rfl
 | 16, h => rfl
 | 17, h => rfl
 | 18, h => rfl
 | 19, h => rfl
 | 20, h => rfl
 | 21, h => rfl
 | 22, h => rfl
 | 23, h => rfl
 | 24, h => rfl
 | 25, h => rfl
 | 26, h => exact absurd rfl h
 | 27, h => rfl
 | 28, h => rfl
 | j + 29, _ => rfl
theorem dvB_0 {w : World} {x : RpD} {q : Option Addr} {n c : Nat} (g : PrG) (b : Nat) (v : Value) (j : Nat) (h0 : j ≠ 0) (h5 : j ≠ 5) (h8 : j ≠ 8) (h12 : j ≠ 12) (h17 : j ≠ 17) (h21 : j ≠ 21) (h27 : j ≠ 27) (h28 : j ≠ 28) : (prDV w x q n c ⟨b, v, g.p1, g.p2, g.p3⟩)[j]? = (prDV w x q n c g)[j]? := by
 match j, h0, h5, h8, h12, h17, h21, h27, h28 with
 | 0, h, _, _, _, _, _, _, _ => exact absurd rfl h
 | 1, _, _, _, _, _, _, _, _ => rfl
 | 2, _, _, _, _, _, _, _, _ => rfl
 | 3, _, _, _, _, _, _, _, _ => rfl
 | 4, _, _, _, _, _, _, _, _ => rfl
 | 5, _, h, _, _, _, _, _, _ => exact absurd rfl h
 | 6, _, _, _, _, _, _, _, _ => rfl
 | 7, _, _, _, _, _, _, _, _ => rfl
 | 8, _, _, h, _, _, _, _, _ => exact absurd rfl h
 | 9, _, _, _, _, _, _, _, _ => rfl
 | 10, _, _, _, _, _, _, _, _ => rfl
 | 11, _, _, _, _, _, _, _, _ => rfl
 | 12, _, _, _, h, _, _, _, _ => exact absurd rfl h
 | 13, _, _, _, _, _, _, _, _ => rfl
 | 14, _, _, _, _, _, _, _, _ => rfl
 | 15, _, _, _, _, _, _, _, _ => rfl
 | 16, _, _, _, _, _, _, _, _ => rfl
 | 17, _, _, _, _, h, _, _, _ => exact absurd rfl h
 | 18, _, _, _, _, _, _, _, _ => rfl
 | 19, _, _, _, _, _, _, _, _ => rfl
 | 20, _, _, _, _, _, _, _, _ => rfl
 | 21, _, _, _, _, _, h, _, _ => exact absurd rfl h
 | 22, _, _, _, _, _, _, _, _ => rfl
 | 23, _, _, _, _, _, _, _, _ => rfl
 | 24, _, _, _, _, _, _, _, _ => rfl
 | 25, _, _, _, _, _, _, _, _ => rfl
 | 26, _, _, _, _, _, _, _, _ => rfl
 | 27, _, _, _, _, _, _, h, _ => exact absurd rfl h
 | 28, _, _, _, _, _, _, _, h => exact absurd rfl h
 | j + 29, _, _, _, _, _, _, _, _ => rfl
def PrH (w : World) (x : RpD) (u : Value) (bw : Nat) (y : List UInt8 × Nat) (W : World) : Prop := ∃ vw : Value, PrA w W x u ∧ PrW W (w.heap.size + 1) bw vw y
structure PrK (W : World) (bw : Nat) (vw : Value) (g : Nat) (o : List Value) (T : TypeId) : Prop where
 at_ : W.heap[g]? = some (.cells o.toArray T (0, 0))
 ne : g ≠ bw ∧ vw.ownBlock ≠ some g
theorem PrK.below {W W' : World} {bw g : Nat} {vw : Value} {o : List Value} {T : TypeId} (h : PrK W bw vw g o T) (hb : Below W.heap.size W W') : PrK W' bw vw g o T := ⟨(hb.block _ (lt_heap h.at_)).trans h.at_, h.ne⟩
theorem PrK.turn {W W' : World} {bw g : Nat} {v v' : Value} {o : List Value} {T : TypeId} (h : PrK W bw v g o T) (ht : WTurn bw v v' W W') : PrK W' bw v' g o T := by
 have hl := lt_heap h.at_
 refine ⟨(ht.block _ hl h.ne.1 h.ne.2).trans h.at_, h.ne.1, fun e => ?_⟩
 rcases ht.new with e2 | e2
 · exact h.ne.2 (e2 ▸ e)
 · have := e2 _ e; omega
theorem PrK.new {W : World} {n1 bw : Nat} {vw : Value} {y : List UInt8 × Nat} (h : PrW W n1 bw vw y) (o : List Value) (T : TypeId) : PrK (W.alloc (.cells o.toArray T)) bw vw W.heap.size o T :=
 ⟨heap_alloc_new _ _, by have := lt_heap h.wr.at_; omega, fun e => by have := (h.wr.own.lt _ e).2; omega⟩
structure PrT (w W : World) (x : RpD) (u : Value) (bw : Nat) (vw : Value) (y : List UInt8 × Nat) : Prop where
 A : PrA w W x u
 W_ : PrW W (w.heap.size + 1) bw vw y
theorem PrT.below {w W W' : World} {x : RpD} {u : Value} {bw : Nat} {vw : Value} {y : List UInt8 × Nat} (h : PrT w W x u bw vw y) (hb : Below W.heap.size W W') : PrT w W' x u bw vw y := ⟨h.A.below hb, h.W_.below hb⟩
theorem PrT.wrote {w W W' : World} {x : RpD} {u : Value} {bw : Nat} {vw v' : Value} {y y' : List UInt8 × Nat} (h : PrT w W x u bw vw y) (hg : 0 < w.heap.size) (hw : WrAt W' bw v' y'.1 y'.2 4096) (ht : WTurn bw vw v' W W') (hl : y'.1.length ≤ 4096) : PrT w W' x u bw v' y' :=
 ⟨h.A.turn h.W_ ht hg, hw, hl, h.W_.lo⟩
theorem byteOne_any {w W : World} {x : RpD} {u : Value} {bw : Nat} {vw : Value} {y : List UInt8 × Nat} (h : PrT w W x u bw vw y) (b : UInt8) :
   Calls Tryz.prog 42 #[.pointer (some ⟨bw, 0, none⟩), .slice (some ⟨W.heap.size, 0, none⟩) 1 1] (W.alloc (.cells #[.int .u8 (b.toNat : Int)] 5)) (Wrote bw vw (wBytes 4096 y [b]).1 (wBytes 4096 y [b]).2 4096 (W.alloc (.cells #[.int .u8 (b.toNat : Int)] 5))) := by
 have h2 := h.W_.below (below_alloc1 W (.cells #[.int .u8 (b.toNat : Int)] 5))
 exact wbyte_any bw 4096 vw y.1 y.2 (some ⟨W.heap.size, 0, none⟩) [b] 1 1 _ h2.wr h2.le (by omega) (slAt_new (heap_alloc_new _ _)) rfl (fun a e => by
   cases e
   refine ⟨fun e => ?_, fun e => ?_⟩
   · have := lt_heap h.W_.wr.at_
     have e : W.heap.size = bw := e
     omega
   · have := (h.W_.wr.own.lt _ e).2
     exact Nat.lt_irrefl _ this) (by omega)
theorem ev_at_c {W : World} {g : Nat} {v : Ev} {T : TypeId} (h : W.heap[g]? = some (.cells (evC v).toArray T (0, 0))) : W.cell? ⟨g, 0, none⟩ = some (.int .u64 v.at_) ∧ W.cell? ⟨g, 26, none⟩ = some (.bool v.dead) ∧ W.cell? ⟨g, 27, none⟩ = some (.bool v.mark) :=
 ⟨by rw [cell_blk h, List.getElem?_toArray]; rfl, by rw [cell_blk h, List.getElem?_toArray]; exact evC_deadC v, by rw [cell_blk h, List.getElem?_toArray]; exact evC_markC v⟩
theorem print_any (x : RpD) (q : Option Addr) (n c : Nat) (es : List Ev) (w : World) (hn : es.length = n) (hq : SlAt evC 28 w q es) (hok : ∀ v ∈ es, OkEv v) (hmx : MX w) :
   Calls Tryz.prog 18 #[.agg (ryC x (.slice q n c)).toArray] w fun e w' => ∃ v, e = .returned (.tuple #[v, .int .i64 (prE x es : Nat)]) ∧ OwnE byteC 5 1 w' w.heap.size v (prB x es) ∧ Below w.heap.size w w' := by
 have HA0 : Hid (PrA w ((w.alloc (.cells (ryC x (.slice q n c)).toArray 59)).alloc (.cells (rpC x).toArray 56)) x (.slice q n c)) := ⟨below_alloc2 _ _ _, heap_alloc2_old _ _ _, heap_alloc2_new _ _ _, hmx.below (below_alloc2 _ _ _)⟩
 have HGM : Hid (0 < w.heap.size) := by
   obtain ⟨m, hm⟩ := hmx
   exact World.block_lt_of_cell? _ _ hm
 have HR0 := Lib.hid (range_app_left (xs := rpC x) (range_whole (heap_alloc_new w (.cells (ryC x (.slice q n c)).toArray 59))))
 have HPE : Hid (prE x es = if x.err < 0 ∨ 255 < x.err then 5 else if 1200 < x.text.size then 2 else if rightT x.tag = false then 14 else if x.st < 0 ∨ 255 < x.st ∨ x.n < 0 ∨ 4294967295 < x.n then 5 else if 16 < es.length then 2 else if es.all evOk = false then 3 else (prS x es).2) := rfl
 have HPB : Hid (prB x es = if prE x es = 0 then (prS x es).1 else []) := rfl
 have HQ := Lib.hid hq
 have HN := Lib.hid hn
 have HOK := Lib.hid hok
 have HTR : Hid (∀ W, Below w.heap.size w W → Calls Tryz.prog 57 #[.agg (bC x.tag)] W fun e w' => e = .returned (.bool (rightT x.tag)) ∧ Below W.heap.size W w') := fun W hW => right_any5 x.tag W x.lt (hmx.below hW)
 have HLT := Lib.hid x.lt
 clear hq hn hok hmx
 go_enter Tryz.func18, Tryz.ntmps18
 go_upto_region 2 with (first
   | ((with_reducible refine gate_ld 56 _ rfl ?_); refine wl_ldr rfl 56 _ rfl w.heap.size 0 (rpC x) _ Tryz.underlying56 rfl (by rw [sizRp, rpC_len]) rfl HR0.out ?_)
   | ((with_reducible refine gate_st 56 _ _ rfl ?_); refine wl_strn rfl _ _ _ rfl (rpC x).toArray #[Value.int IntKind.i64 0, Value.string ⟨#[]⟩, Value.int IntKind.u8 0, Value.int IntKind.u8 0, Value.int IntKind.u8 0, Value.int IntKind.u8 0, Value.int IntKind.u8 0, Value.int IntKind.u8 0, Value.int IntKind.u8 0, Value.int IntKind.u8 0, Value.int IntKind.u8 0, Value.int IntKind.u8 0, Value.int IntKind.i64 0, Value.int IntKind.i64 0] _ (by rw [sizRp, List.size_toArray, rpC_len]) (by rw [List.size_toArray, rpC_len]; rfl) (by rw [← Array.all_toList]; exact rpC_one x) (by simp [Act.eval]) rfl ?_))
 generalize (w.alloc (.cells (ryC x (.slice q n c)).toArray 59)).alloc (.cells (rpC x).toArray 56) = W1 at *
 clear HR0
 obtain ⟨c0, c1, c12, c13⟩ := rp_cell HA0.out.b
 have cS : W1.cell? ⟨w.heap.size, 14, none⟩ = some (.slice q n c) := by rw [cell_blk HA0.out.a, List.getElem?_toArray]; exact ryC_sl _ _
 by_cases he0 : x.err < 0
 · skip
   have HE : Hid (prE x es = 5) := by show _ = _; rw [HPE.out, if_pos (.inl he0)]
   have HB : Hid (prB x es = []) := by show _ = _; rw [HPB.out, HE.out, if_neg (by decide)]
   clear HPE HPB
   go_wp2_with fail
   refine bodyPost_ret (results_tmp2 rfl _ _ _) rfl ?_
   exact ⟨.slice none 0 0, by rw [HE.out]; rfl, by rw [HB.out]; exact OwnE.nil _ _, HA0.out.bel⟩
 by_cases he1 : 255 < x.err
 · skip
   have HE : Hid (prE x es = 5) := by show _ = _; rw [HPE.out, if_pos (.inr he1)]
   have HB : Hid (prB x es = []) := by show _ = _; rw [HPB.out, HE.out, if_neg (by decide)]
   clear HPE HPB
   go_wp2_with fail
   refine bodyPost_ret (results_tmp2 rfl _ _ _) rfl ?_
   exact ⟨.slice none 0 0, by rw [HE.out]; rfl, by rw [HB.out]; exact OwnE.nil _ _, HA0.out.bel⟩
 have hE1 : ¬ (x.err < 0 ∨ 255 < x.err) := by omega
 go_upto_region 4 with fail
 by_cases hT : 1200 < x.text.size
 · have hTI : (1200 : Int) < (x.text.size : Int) := by omega
   have HE : Hid (prE x es = 2) := by show _ = _; rw [HPE.out, if_neg hE1, if_pos hT]
   have HB : Hid (prB x es = []) := by show _ = _; rw [HPB.out, HE.out, if_neg (by decide)]
   clear HPE HPB
   go_wp2_with fail
   refine bodyPost_ret (results_tmp2 rfl _ _ _) rfl ?_
   exact ⟨.slice none 0 0, by rw [HE.out]; rfl, by rw [HB.out]; exact OwnE.nil _ _, HA0.out.bel⟩
 have hTI : ¬ (1200 : Int) < (x.text.size : Int) := by omega
 have HTs : Hid (x.text.size ≤ 1200) := by show _ ≤ _; omega
 go_upto_region 6 with fail
 have HRt := Lib.hid (rp_tag' HA0.out.b)
 cases hrt : rightT x.tag with
 | false =>
   rw [hrt] at HTR
   have HE : Hid (prE x es = 14) := by show _ = _; rw [HPE.out, if_neg hE1, if_neg hT, if_pos hrt]
   have HB : Hid (prB x es = []) := by show _ = _; rw [HPB.out, HE.out, if_neg (by decide)]
   clear HPE HPB
   go_wp2_with (first
     | ((with_reducible refine gate_ld 28 _ rfl ?_); refine wl_ldr rfl 28 _ rfl (w.heap.size + 1) 2 (bC x.tag).toList _ Tryz.underlying28 rfl (by rw [sizTag19]; simp [bC, HLT.out]) rfl HRt.out ?_)
     | (go_at_call 57; (refine (HTR.out _ HA0.out.bel).mono ?_); rintro e W2 ⟨rfl, hb2⟩; have HB2 := Lib.hid (HA0.out.bel.trans (hb2.mono HA0.out.bel.size)); clear hb2))
   refine bodyPost_ret (results_tmp2 rfl _ _ _) rfl ?_
   exact ⟨.slice none 0 0, by rw [HE.out]; rfl, by rw [HB.out]; exact OwnE.nil _ _, HB2.out⟩
 | true =>
 rw [hrt] at HTR
 go_upto_region 8 with (first
   | ((with_reducible refine gate_ld 28 _ rfl ?_); refine wl_ldr rfl 28 _ rfl (w.heap.size + 1) 2 (bC x.tag).toList _ Tryz.underlying28 rfl (by rw [sizTag19]; simp [bC, HLT.out]) rfl HRt.out ?_)
   | (go_at_call 57; (refine (HTR.out _ HA0.out.bel).mono ?_); rintro e W2 ⟨rfl, hb2⟩; have HA2 := Lib.hid (HA0.out.below hb2); clear hb2))
 have hrt' : ¬ rightT x.tag = false := by rw [hrt]; decide
 clear c0 c1 c12 c13 cS HRt HTR HA0
 obtain ⟨c0, c1, c12, c13⟩ := rp_cell HA2.out.b
 have cS : W2.cell? ⟨w.heap.size, 14, none⟩ = some (.slice q n c) := by rw [cell_blk HA2.out.a, List.getElem?_toArray]; exact ryC_sl _ _
 by_cases hs0 : x.st < 0
 · skip
   have HE : Hid (prE x es = 5) := by show _ = _; rw [HPE.out, if_neg hE1, if_neg hT, if_neg hrt', if_pos (.inl hs0)]
   have HB : Hid (prB x es = []) := by show _ = _; rw [HPB.out, HE.out, if_neg (by decide)]
   clear HPE HPB hrt hrt'
   go_wp2_with fail
   refine bodyPost_ret (results_tmp2 rfl _ _ _) rfl ?_
   exact ⟨.slice none 0 0, by rw [HE.out]; rfl, by rw [HB.out]; exact OwnE.nil _ _, HA2.out.bel⟩
 by_cases hs1 : 255 < x.st
 · skip
   have HE : Hid (prE x es = 5) := by show _ = _; rw [HPE.out, if_neg hE1, if_neg hT, if_neg hrt', if_pos (.inr (.inl hs1))]
   have HB : Hid (prB x es = []) := by show _ = _; rw [HPB.out, HE.out, if_neg (by decide)]
   clear HPE HPB hrt hrt'
   go_wp2_with fail
   refine bodyPost_ret (results_tmp2 rfl _ _ _) rfl ?_
   exact ⟨.slice none 0 0, by rw [HE.out]; rfl, by rw [HB.out]; exact OwnE.nil _ _, HA2.out.bel⟩
 by_cases hn0 : x.n < 0
 · skip
   have HE : Hid (prE x es = 5) := by show _ = _; rw [HPE.out, if_neg hE1, if_neg hT, if_neg hrt', if_pos (.inr (.inr (.inl hn0)))]
   have HB : Hid (prB x es = []) := by show _ = _; rw [HPB.out, HE.out, if_neg (by decide)]
   clear HPE HPB hrt hrt'
   go_wp2_with fail
   refine bodyPost_ret (results_tmp2 rfl _ _ _) rfl ?_
   exact ⟨.slice none 0 0, by rw [HE.out]; rfl, by rw [HB.out]; exact OwnE.nil _ _, HA2.out.bel⟩
 by_cases hn1 : 4294967295 < x.n
 · skip
   have HE : Hid (prE x es = 5) := by show _ = _; rw [HPE.out, if_neg hE1, if_neg hT, if_neg hrt', if_pos (.inr (.inr (.inr hn1)))]
   have HB : Hid (prB x es = []) := by show _ = _; rw [HPB.out, HE.out, if_neg (by decide)]
   clear HPE HPB hrt hrt'
   go_wp2_with fail
   refine bodyPost_ret (results_tmp2 rfl _ _ _) rfl ?_
   exact ⟨.slice none 0 0, by rw [HE.out]; rfl, by rw [HB.out]; exact OwnE.nil _ _, HA2.out.bel⟩
 have hE4 : ¬ (x.st < 0 ∨ 255 < x.st ∨ x.n < 0 ∨ 4294967295 < x.n) := by omega
 go_upto_region 10 with fail
 by_cases hm : 16 < n
 · have hmI : (16 : Int) < (n : Int) := by omega
   have hm' : 16 < es.length := by rw [HN.out]; exact hm
   have HE : Hid (prE x es = 2) := by show _ = _; rw [HPE.out, if_neg hE1, if_neg hT, if_neg hrt', if_neg hE4, if_pos hm']
   have HB : Hid (prB x es = []) := by show _ = _; rw [HPB.out, HE.out, if_neg (by decide)]
   clear HPE HPB hrt hrt'
   go_wp2_with fail
   refine bodyPost_ret (results_tmp2 rfl _ _ _) rfl ?_
   exact ⟨.slice none 0 0, by rw [HE.out]; rfl, by rw [HB.out]; exact OwnE.nil _ _, HA2.out.bel⟩
 have hmI : ¬ (16 : Int) < (n : Int) := by omega
 have hm' : ¬ 16 < es.length := by rw [HN.out]; exact hm
 have HPE2 : Hid (prE x es = if es.all evOk = false then 3 else (prS x es).2) := by show _ = _; rw [HPE.out, if_neg hE1, if_neg hT, if_neg hrt', if_neg hE4, if_neg hm']
 go_upto_region 12 with fail
 clear HPE hE1 hE4 hT hrt hrt' hm'
 have HNx : Hid (0 ≤ x.n ∧ x.n ≤ 4294967295) := by show _ ∧ _; omega
 have HM16 : Hid (n ≤ 16) := by show _ ≤ _; omega
 clear hTI hmI hm he0 he1 hs0 hs1 hn0 hn1
 go_cut [5] (fun s5 wx => ∃ bw : Nat, s5 = .pointer (some ⟨bw, 0, none⟩) ∧ Hid (PrH w x (.slice q n c) bw (yS x n 6) wx))
 case first => as_aux_lemma =>
   have HTX : Hid (∀ W, MX W → Calls Tryz.prog 59 #[.agg (bC x.tag)] W fun e w' => e = .returned (.string ⟨(textB x.tag).toArray⟩) ∧ Below W.heap.size W w') := fun W hW => tagText_any x.tag W x.lt hW
   have HN0 : Hid (x.n = ((x.n.toNat : Nat) : Int) ∧ x.n.toNat < 2 ^ 63) := by have := HNx.out; show _ ∧ _; omega
   refine wp_region_set (PrC w x (.slice q n c) n) (prDV w x q n c) ⟨0, undef, 0, 0, 0⟩ (by kernel_rfl) (by kernel_rfl) (fun _ => rfl) (fun _ _ => rfl) prDV_nodup (fun k hk => prDV_lt k hk)
     ⟨HA2.out.below ⟨rfl, rfl, rfl, Nat.le_refl _, fun _ _ => rfl⟩, (fun e => by cases e), (fun e => by cases e), (fun e => by cases e), (fun e => by cases e)⟩ ?_ ?_
   · intro i hi L g a W hfr hLi hdep hdn hval hC K hK
     have hi29 : i < 29 := hi
     have hcs := rp_cell hC.A.b
     have hsl : W.cell? ⟨w.heap.size, 14, none⟩ = some (.slice q n c) := by rw [cell_blk hC.A.a, List.getElem?_toArray]; exact ryC_sl _ _
     obtain rfl | rfl | rfl | rfl | rfl | rfl | rfl | rfl | rfl | rfl | rfl | rfl | rfl | rfl | rfl | rfl | rfl | rfl | rfl | rfl | rfl | rfl | rfl | rfl | rfl | rfl | rfl | rfl | rfl : i = 0 ∨ i = 1 ∨ i = 2 ∨ i = 3 ∨ i = 4 ∨ i = 5 ∨ i = 6 ∨ i = 7 ∨ i = 8 ∨ i = 9 ∨ i = 10 ∨ i = 11 ∨ i = 12 ∨ i = 13 ∨ i = 14 ∨ i = 15 ∨ i = 16 ∨ i = 17 ∨ i = 18 ∨ i = 19 ∨ i = 20 ∨ i = 21 ∨ i = 22 ∨ i = 23 ∨ i = 24 ∨ i = 25 ∨ i = 26 ∨ i = 27 ∨ i = 28 := by omega
     · have h5 : L 5 = false := noRun fun h => by have := hdn 5 0 h (by kernel_rfl); rw [hLi] at this; cases this
       have h8 : L 8 = false := noRun fun h => by have := hdn 8 5 h (by kernel_rfl); rw [h5] at this; cases this
       have h12 : L 12 = false := noRun fun h => by have := hdn 12 8 h (by kernel_rfl); rw [h8] at this; cases this
       have h17 : L 17 = false := noRun fun h => by have := hdn 17 12 h (by kernel_rfl); rw [h12] at this; cases this
       have h21 : L 21 = false := noRun fun h => by have := hdn 21 17 h (by kernel_rfl); rw [h17] at this; cases this
       have h27 : L 27 = false := noRun fun h => by have := hdn 27 21 h (by kernel_rfl); rw [h21] at this; cases this
       have h28 : L 28 = false := noRun fun h => by have := hdn 28 27 h (by kernel_rfl); rw [h27] at this; cases this
       refine wpOp_call rfl rfl (exec_calls rfl (enters_of Tryz.func41 (by kernel_rfl) rfl) (vs := #[.int .i64 4096]) (by simp [Act.eval]) W) (newWriter_any 4096 W) (fun e w2 hR => ?_)
       obtain ⟨rfl, hw, hb⟩ := hR
       refine ⟨_, rfl, hK ⟨W.heap.size, .slice none 0 0, g.p1, g.p2, g.p3⟩ w2 (fun j hj => ?_) (hC.made h5 hw hb)⟩
       exact dvB_0 _ _ _ j (fun e => by rw [e, hLi] at hj; cases hj) (fun e => by rw [e, h5] at hj; cases hj) (fun e => by rw [e, h8] at hj; cases hj) (fun e => by rw [e, h12] at hj; cases hj) (fun e => by rw [e, h17] at hj; cases hj) (fun e => by rw [e, h21] at hj; cases hj) (fun e => by rw [e, h27] at hj; cases hj) (fun e => by rw [e, h28] at hj; cases hj)
     · exact wpOp_val rfl rfl (exec_fRp (.tmp 4) 0 0 (by simp) rfl (w.heap.size + 1) 0 (hfr.off 4 (by rw [prDV_slots]; decide))) (hK g W (fun _ _ => rfl) (hC.quiet 1 (by decide) (Below.refl _ _)))
     · exact wpOp_val rfl rfl (exec_ld1G 37 ag37e (.tmp 55) rfl (w.heap.size + 1) 0 _ (hval 1 (hdep 1 (by kernel_rfl)) 55 _ rfl) hcs.1) (hK g W (fun _ _ => rfl) (hC.quiet 2 (by decide) (Below.refl _ _)))
     · exact wpOp_val rfl rfl (exec_cvEr (.tmp 56) rfl x.err (hval 2 (hdep 2 (by kernel_rfl)) 56 _ rfl)) (hK g W (fun _ _ => rfl) (hC.quiet 3 (by decide) (Below.refl _ _)))
     · refine wpOp_val rfl rfl (exec_bs8 (.tmp 57) rfl (.int .u8 ((lowB x.err).toNat : Int)) rfl (hval 3 (hdep 3 (by kernel_rfl)) 57 _ rfl)) (hK ⟨g.bw, g.vw, W.heap.size, g.p2, g.p3⟩ _ (fun j hj => ?_) hC.row.1)
       have hji : j ≠ 4 := fun e => by rw [e, hLi] at hj; cases hj
       exact dvP_4 _ _ hji
     · have h0 : L 0 = true := hdep 0 (by kernel_rfl)
       have h8 : L 8 = false := noRun fun h => by have := hdn 8 5 h (by kernel_rfl); rw [hLi] at this; cases this
       have hp : prgr L = 0 := by simp [prgr, hLi]
       have hp2 : prgr (ranI L 5) = 1 := by simp [prgr, ranI, h8]
       have hW := hC.W_ h0
       rw [hp] at hW
       have h4 : L 4 = true := hdep 4 (by kernel_rfl)
       have hP := hC.P1 h4
       have hne := hP.ne h0
       refine wpOp_call rfl rfl (exec_calls rfl (enters_of Tryz.func42 (by kernel_rfl) rfl) (vs := #[.pointer (some ⟨g.bw, 0, none⟩), .slice (some ⟨g.p1, 0, none⟩) 1 1]) (by have e1 := (hval 0 (hdep 0 (by kernel_rfl)) 54 _ rfl); have e2 := (hval 4 (hdep 4 (by kernel_rfl)) 58 _ rfl); simp [Act.eval, e1, e2]) W) (wbyte_any g.bw 4096 g.vw (yS x n 0).1 (yS x n 0).2 (some ⟨g.p1, 0, none⟩) [lowB x.err] 1 1 W hW.wr hW.le (by omega) (slAt_new hP.at_) rfl (fun a e => by cases e; exact hne) (by omega)) (fun e w2 hR => ?_)
       obtain ⟨rfl, v3, hw3, ht3⟩ := hR
       exact ⟨_, rfl, hK ⟨g.bw, v3, g.p1, g.p2, g.p3⟩ w2 (fun _ _ => rfl) (hC.wrote 5 1 h0 HGM.out (by simp) hp2 v3 hw3 ht3)⟩
     · exact wpOp_val rfl rfl (exec_fRp (.tmp 4) 1 1 (by simp) rfl (w.heap.size + 1) 0 (hfr.off 4 (by rw [prDV_slots]; decide))) (hK g W (fun _ _ => rfl) (hC.quiet 6 (by decide) (Below.refl _ _)))
     · exact wpOp_val rfl rfl (exec_ld1G 9 ag9 (.tmp 60) rfl (w.heap.size + 1) 1 _ (hval 6 (hdep 6 (by kernel_rfl)) 60 _ rfl) hcs.2.1) (hK g W (fun _ _ => rfl) (hC.quiet 7 (by decide) (Below.refl _ _)))
     · have t5 : L 5 = true := hdep 5 (by kernel_rfl)
       have h0 : L 0 = true := hdn 5 0 t5 (by kernel_rfl)
       have h12 : L 12 = false := noRun fun h => by have := hdn 12 8 h (by kernel_rfl); rw [hLi] at this; cases this
       have hp : prgr L = 1 := by simp [prgr, hLi, t5]
       have hp2 : prgr (ranI L 8) = 2 := by simp [prgr, ranI, t5, h12]
       have hW := hC.W_ h0
       rw [hp] at hW
       refine wpOp_call rfl rfl (exec_calls rfl (enters_of Tryz.func58 (by kernel_rfl) rfl) (vs := #[.pointer (some ⟨g.bw, 0, none⟩), .string x.text]) (by have e1 := (hval 5 (hdep 5 (by kernel_rfl)) 59 _ rfl); have e2 := (hval 7 (hdep 7 (by kernel_rfl)) 61 _ rfl); simp [Act.eval, e1, e2]) W) (wtext_any g.bw 4096 g.vw (yS x n 1).1 (yS x n 1).2 x.text W hW.wr hW.le (by omega) (Nat.le_trans HTs.out (by decide))) (fun e w2 hR => ?_)
       obtain ⟨rfl, v3, hw3, ht3⟩ := hR
       exact ⟨_, rfl, hK ⟨g.bw, v3, g.p1, g.p2, g.p3⟩ w2 (fun _ _ => rfl) (hC.wrote 8 2 h0 HGM.out (by simp) hp2 v3 hw3 ht3)⟩
     · exact wpOp_val rfl rfl (exec_fRp (.tmp 4) 2 2 (by simp) rfl (w.heap.size + 1) 0 (hfr.off 4 (by rw [prDV_slots]; decide))) (hK g W (fun _ _ => rfl) (hC.quiet 9 (by decide) (Below.refl _ _)))
     · exact wpOp_val rfl rfl (exec_ldr 28 (.tmp 63) rfl (w.heap.size + 1) 2 (bC x.tag).toList _ Tryz.underlying28 rfl (by rw [sizTag19]; simp [bC, HLT.out]) (hval 9 (hdep 9 (by kernel_rfl)) 63 _ rfl) (rp_tag' hC.A.b)) (hK g W (fun _ _ => rfl) (hC.quiet 10 (by decide) (Below.refl _ _)))
     · refine wpOp_call rfl rfl (exec_calls rfl (enters_of Tryz.func59 (by kernel_rfl) rfl) (vs := #[.agg (bC x.tag)]) (by have := (hval 10 (hdep 10 (by kernel_rfl)) 64 _ rfl); simp [Act.eval, this]) W) (HTX.out W hC.A.mx) (fun e w2 hR => ?_)
       obtain ⟨rfl, hb⟩ := hR
       exact ⟨_, rfl, hK g w2 (fun _ _ => rfl) (hC.quiet 11 (by decide) hb)⟩
     · have t8 : L 8 = true := hdep 8 (by kernel_rfl)
       have t5 : L 5 = true := hdn 8 5 t8 (by kernel_rfl)
       have h0 : L 0 = true := hdn 5 0 t5 (by kernel_rfl)
       have h17 : L 17 = false := noRun fun h => by have := hdn 17 12 h (by kernel_rfl); rw [hLi] at this; cases this
       have hp : prgr L = 2 := by simp [prgr, hLi, t5, t8]
       have hp2 : prgr (ranI L 12) = 3 := by simp [prgr, ranI, t5, t8, h17]
       have hW := hC.W_ h0
       rw [hp] at hW
       refine wpOp_call rfl rfl (exec_calls rfl (enters_of Tryz.func58 (by kernel_rfl) rfl) (vs := #[.pointer (some ⟨g.bw, 0, none⟩), .string ⟨(textB x.tag).toArray⟩]) (by have e1 := (hval 8 (hdep 8 (by kernel_rfl)) 62 _ rfl); have e2 := (hval 11 (hdep 11 (by kernel_rfl)) 65 _ rfl); simp [Act.eval, e1, e2]) W) (wtext_any g.bw 4096 g.vw (yS x n 2).1 (yS x n 2).2 ⟨(textB x.tag).toArray⟩ W hW.wr hW.le (by omega) (by have := textB_le x.tag HLT.out; show (textB x.tag).toArray.size ≤ 10000; simp; omega)) (fun e w2 hR => ?_)
       obtain ⟨rfl, v3, hw3, ht3⟩ := hR
       exact ⟨_, rfl, hK ⟨g.bw, v3, g.p1, g.p2, g.p3⟩ w2 (fun _ _ => rfl) (hC.wrote 12 3 h0 HGM.out (by simp) hp2 v3 hw3 ht3)⟩
     · exact wpOp_val rfl rfl (exec_fRp (.tmp 4) 3 12 (by simp) rfl (w.heap.size + 1) 0 (hfr.off 4 (by rw [prDV_slots]; decide))) (hK g W (fun _ _ => rfl) (hC.quiet 13 (by decide) (Below.refl _ _)))
     · exact wpOp_val rfl rfl (exec_ld1G 3 ag3 (.tmp 67) rfl (w.heap.size + 1) 12 _ (hval 13 (hdep 13 (by kernel_rfl)) 67 _ rfl) hcs.2.2.1) (hK g W (fun _ _ => rfl) (hC.quiet 14 (by decide) (Below.refl _ _)))
     · exact wpOp_val rfl rfl (exec_cvLow (.tmp 68) rfl x.st (hval 14 (hdep 14 (by kernel_rfl)) 68 _ rfl)) (hK g W (fun _ _ => rfl) (hC.quiet 15 (by decide) (Below.refl _ _)))
     · refine wpOp_val rfl rfl (exec_bs8 (.tmp 69) rfl (.int .u8 ((lowB x.st).toNat : Int)) rfl (hval 15 (hdep 15 (by kernel_rfl)) 69 _ rfl)) (hK ⟨g.bw, g.vw, g.p1, W.heap.size, g.p3⟩ _ (fun j hj => ?_) hC.row.2.1)
       have hji : j ≠ 16 := fun e => by rw [e, hLi] at hj; cases hj
       exact dvP_16 _ _ hji
     · have t12 : L 12 = true := hdep 12 (by kernel_rfl)
       have t8 : L 8 = true := hdn 12 8 t12 (by kernel_rfl)
       have t5 : L 5 = true := hdn 8 5 t8 (by kernel_rfl)
       have h0 : L 0 = true := hdn 5 0 t5 (by kernel_rfl)
       have h21 : L 21 = false := noRun fun h => by have := hdn 21 17 h (by kernel_rfl); rw [hLi] at this; cases this
       have hp : prgr L = 3 := by simp [prgr, hLi, t5, t8, t12]
       have hp2 : prgr (ranI L 17) = 4 := by simp [prgr, ranI, t5, t8, t12, h21]
       have hW := hC.W_ h0
       rw [hp] at hW
       have h16 : L 16 = true := hdep 16 (by kernel_rfl)
       have hP := hC.P2 h16
       have hne := hP.ne h0
       refine wpOp_call rfl rfl (exec_calls rfl (enters_of Tryz.func42 (by kernel_rfl) rfl) (vs := #[.pointer (some ⟨g.bw, 0, none⟩), .slice (some ⟨g.p2, 0, none⟩) 1 1]) (by have e1 := (hval 12 (hdep 12 (by kernel_rfl)) 66 _ rfl); have e2 := (hval 16 (hdep 16 (by kernel_rfl)) 70 _ rfl); simp [Act.eval, e1, e2]) W) (wbyte_any g.bw 4096 g.vw (yS x n 3).1 (yS x n 3).2 (some ⟨g.p2, 0, none⟩) [lowB x.st] 1 1 W hW.wr hW.le (by omega) (slAt_new hP.at_) rfl (fun a e => by cases e; exact hne) (by omega)) (fun e w2 hR => ?_)
       obtain ⟨rfl, v3, hw3, ht3⟩ := hR
       exact ⟨_, rfl, hK ⟨g.bw, v3, g.p1, g.p2, g.p3⟩ w2 (fun _ _ => rfl) (hC.wrote 17 4 h0 HGM.out (by simp) hp2 v3 hw3 ht3)⟩
     · exact wpOp_val rfl rfl (exec_fRp (.tmp 4) 4 13 (by simp) rfl (w.heap.size + 1) 0 (hfr.off 4 (by rw [prDV_slots]; decide))) (hK g W (fun _ _ => rfl) (hC.quiet 18 (by decide) (Below.refl _ _)))
     · exact wpOp_val rfl rfl (exec_ld1G 3 ag3 (.tmp 72) rfl (w.heap.size + 1) 13 _ (hval 18 (hdep 18 (by kernel_rfl)) 72 _ rfl) hcs.2.2.2) (hK g W (fun _ _ => rfl) (hC.quiet 19 (by decide) (Below.refl _ _)))
     · exact wpOp_val rfl rfl (exec_cvIU (.tmp 73) rfl x.n.toNat HN0.out.2 ((hval 19 (hdep 19 (by kernel_rfl)) 73 _ rfl).trans (by rw [← HN0.out.1]))) (hK g W (fun _ _ => rfl) (hC.quiet 20 (by decide) (Below.refl _ _)))
     · have t17 : L 17 = true := hdep 17 (by kernel_rfl)
       have t12 : L 12 = true := hdn 17 12 t17 (by kernel_rfl)
       have t8 : L 8 = true := hdn 12 8 t12 (by kernel_rfl)
       have t5 : L 5 = true := hdn 8 5 t8 (by kernel_rfl)
       have h0 : L 0 = true := hdn 5 0 t5 (by kernel_rfl)
       have h27 : L 27 = false := noRun fun h => by have := hdn 27 21 h (by kernel_rfl); rw [hLi] at this; cases this
       have hp : prgr L = 4 := by simp [prgr, hLi, t5, t8, t12, t17]
       have hp2 : prgr (ranI L 21) = 5 := by simp [prgr, ranI, t5, t8, t12, t17, h27]
       have hW := hC.W_ h0
       rw [hp] at hW
       refine wpOp_call rfl rfl (exec_calls rfl (enters_of Tryz.func60 (by kernel_rfl) rfl) (vs := #[.pointer (some ⟨g.bw, 0, none⟩), .int .u64 (x.n.toNat : Int)]) (by have e1 := (hval 17 (hdep 17 (by kernel_rfl)) 71 _ rfl); have e2 := (hval 20 (hdep 20 (by kernel_rfl)) 74 _ rfl); simp [Act.eval, e1, e2]) W) (wnumber_any g.bw 4096 g.vw (yS x n 4).1 (yS x n 4).2 x.n.toNat W hW.wr hW.le (by omega) (by have := HN0.out.2; omega)) (fun e w2 hR => ?_)
       obtain ⟨rfl, v3, hw3, ht3⟩ := hR
       exact ⟨_, rfl, hK ⟨g.bw, v3, g.p1, g.p2, g.p3⟩ w2 (fun _ _ => rfl) (hC.wrote 21 5 h0 HGM.out (by simp) hp2 v3 hw3 ht3)⟩
     · exact wpOp_val rfl rfl (exec_fRy (.tmp 1) 1 14 (by simp) rfl w.heap.size 0 (hfr.off 1 (by rw [prDV_slots]; decide))) (hK g W (fun _ _ => rfl) (hC.quiet 22 (by decide) (Below.refl _ _)))
     · exact wpOp_val rfl rfl (exec_ld1G 57 agEvs (.tmp 76) rfl w.heap.size 14 _ (hval 22 (hdep 22 (by kernel_rfl)) 76 _ rfl) hsl) (hK g W (fun _ _ => rfl) (hC.quiet 23 (by decide) (Below.refl _ _)))
     · exact wpOp_val rfl rfl (exec_lenE (.tmp 77) rfl q n c (hval 23 (hdep 23 (by kernel_rfl)) 77 _ rfl)) (hK g W (fun _ _ => rfl) (hC.quiet 24 (by decide) (Below.refl _ _)))
     · exact wpOp_val rfl rfl (exec_cvLow (.tmp 78) rfl (n : Int) (hval 24 (hdep 24 (by kernel_rfl)) 78 _ rfl)) (hK g W (fun _ _ => rfl) (hC.quiet 25 (by decide) (Below.refl _ _)))
     · refine wpOp_val rfl rfl (exec_bs8 (.tmp 79) rfl (.int .u8 ((lowB (n : Int)).toNat : Int)) rfl (hval 25 (hdep 25 (by kernel_rfl)) 79 _ rfl)) (hK ⟨g.bw, g.vw, g.p1, g.p2, W.heap.size⟩ _ (fun j hj => ?_) hC.row.2.2)
       have hji : j ≠ 26 := fun e => by rw [e, hLi] at hj; cases hj
       exact dvP_26 _ _ hji
     · have t21 : L 21 = true := hdep 21 (by kernel_rfl)
       have t17 : L 17 = true := hdn 21 17 t21 (by kernel_rfl)
       have t12 : L 12 = true := hdn 17 12 t17 (by kernel_rfl)
       have t8 : L 8 = true := hdn 12 8 t12 (by kernel_rfl)
       have t5 : L 5 = true := hdn 8 5 t8 (by kernel_rfl)
       have h0 : L 0 = true := hdn 5 0 t5 (by kernel_rfl)
       have hp : prgr L = 5 := by simp [prgr, hLi, t5, t8, t12, t17, t21]
       have hp2 : prgr (ranI L 27) = 6 := by simp [prgr, ranI, t5, t8, t12, t17, t21]
       have hW := hC.W_ h0
       rw [hp] at hW
       have h26 : L 26 = true := hdep 26 (by kernel_rfl)
       have hP := hC.P3 h26
       have hne := hP.ne h0
       refine wpOp_call rfl rfl (exec_calls rfl (enters_of Tryz.func42 (by kernel_rfl) rfl) (vs := #[.pointer (some ⟨g.bw, 0, none⟩), .slice (some ⟨g.p3, 0, none⟩) 1 1]) (by have e1 := (hval 21 (hdep 21 (by kernel_rfl)) 75 _ rfl); have e2 := (hval 26 (hdep 26 (by kernel_rfl)) 80 _ rfl); simp [Act.eval, e1, e2]) W) (wbyte_any g.bw 4096 g.vw (yS x n 5).1 (yS x n 5).2 (some ⟨g.p3, 0, none⟩) [lowB (n : Int)] 1 1 W hW.wr hW.le (by omega) (slAt_new hP.at_) rfl (fun a e => by cases e; exact hne) (by omega)) (fun e w2 hR => ?_)
       obtain ⟨rfl, v3, hw3, ht3⟩ := hR
       exact ⟨_, rfl, hK ⟨g.bw, v3, g.p1, g.p2, g.p3⟩ w2 (fun _ _ => rfl) (hC.wrote 27 6 h0 HGM.out (by simp) hp2 v3 hw3 ht3)⟩
     · exact wpOp_as rfl rfl (.tmp 81) rfl _ (hval 27 (hdep 27 (by kernel_rfl)) 81 _ rfl) (hK g W (fun _ _ => rfl) (hC.quiet 28 (by decide) (Below.refl _ _)))
   · intro L g W hall hC
     have hW := hC.W_ (hall 0 (by decide))
     have hp : prgr L = 6 := by
       unfold prgr
       rw [hall 5 (by decide), hall 8 (by decide), hall 12 (by decide), hall 17 (by decide), hall 21 (by decide), hall 27 (by decide)]; rfl
     rw [hp] at hW
     have HF : Hid (PrH w x (.slice q n c) g.bw (yS x n 6) W) := ⟨g.vw, hC.A, hW⟩
     clear hC hW hp hall cS c0 c1 c12 c13
     simp only [prDV, puts, List.filterMap_cons, List.filterMap_nil, _root_.id, wrT]
     go_wp2_with fail
     go_meet
     case rel => exact ⟨g.bw, rfl, HF⟩
 case rest =>
 obtain ⟨bw, rfl, HH⟩ := hcut
 clear HA2 cS c0 c1 c12 c13 HNx HTs
 obtain ⟨vw, hA, hW⟩ := HH.out
 have HT0 : Hid (PrT w wc x (.slice q n c) bw vw (yS x n 6)) := ⟨hA, hW⟩
 clear HH hA hW
 have cS : wc.cell? ⟨w.heap.size, 14, none⟩ = some (.slice q n c) := by rw [cell_blk HT0.out.A.a, List.getElem?_toArray]; exact ryC_sl _ _
 have HPS : Hid (prS x es = es.foldl evW (yS x n 6)) := by show _ = _; unfold prS; rw [HN.out]
 go_wp2_with fail
 go_loopw [7, 8, 85] (fun s7 s8 i wr => (∃ u : Value, s7 = u) ∧ (∃ u : Value, s8 = u) ∧ ∃ (k : Nat) (v : Value), k ≤ n ∧ i = .int .i64 (k : Int) ∧ Hid (∀ e ∈ es.take k, evOk e = true) ∧ Hid (PrT w wr x (.slice q n c) bw v ((es.take k).foldl evW (yS x n 6)))) (fun _ _ i _ => n - (intOf i).toNat)
 case atStart => exact ⟨⟨_, rfl⟩, ⟨_, rfl⟩, 0, vw, Nat.zero_le _, rfl, (fun e he => by simp at he), HT0.out⟩
 case round =>
   obtain ⟨_, _, k, v, hk, rfl, HAl, HT⟩ := hrel
   clear HT0 cS
   by_cases hlt : k < n
   · have hlt' : (k : Int) < (n : Int) := by omega
     have hke : k < es.length := by rw [HN.out]; exact hlt
     obtain ⟨b, o, hqe, hb, hr⟩ := HQ.out.below HT.out.A.bel k hke
     have HF := Lib.hid (foldE_take (s := yS x n 6) hke)
     have HMem := Lib.hid (List.getElem_mem hke)
     have HTk := Lib.hid (List.take_succ_eq_append_getElem hke)
     have HOKe := Lib.hid (HOK.out _ (List.getElem_mem hke))
     generalize hev : es[k] = ev at *
     have HRr := Lib.hid hr
     clear hev hr
     subst hqe
     have hk16 : k < 16 := by have := HM16.out; omega
     generalize hy : (es.take k).foldl evW (yS x n 6) = y at *
     clear hy
     go_upto_region 17 with (first
       | ((with_reducible refine gate_op (.indexAddr 57 (.tmp 83) (.tmp 85)) rfl ?_); refine wl_val rfl (.pointer (some ⟨b, o + k * 28, none⟩)) (exec_ixE (.tmp 83) (.tmp 85) rfl b o n c k rfl rfl hlt) ?_)
       | ((with_reducible refine gate_ld 62 (.tmp 87) rfl ?_); refine wl_ldr rfl 62 _ rfl b (o + k * 28) (evC ev) _ Tryz.underlying62 rfl (by rw [sizEv, evC_len]) rfl HRr.out ?_)
       | ((with_reducible refine gate_st 62 _ _ rfl ?_); refine wl_strn rfl _ _ _ rfl (evC ev).toArray #[Value.int IntKind.u64 0, Value.int IntKind.u8 0, Value.int IntKind.u8 0, Value.int IntKind.u8 0, Value.int IntKind.u8 0, Value.int IntKind.u8 0, Value.int IntKind.u8 0, Value.int IntKind.u8 0, Value.int IntKind.u8 0, Value.int IntKind.u8 0, Value.int IntKind.u8 0, Value.int IntKind.u8 0, Value.int IntKind.u8 0, Value.int IntKind.u8 0, Value.int IntKind.u8 0, Value.int IntKind.u8 0, Value.int IntKind.u8 0, Value.int IntKind.u8 0, Value.int IntKind.u8 0, Value.int IntKind.u8 0, Value.int IntKind.u8 0, Value.int IntKind.u8 0, Value.int IntKind.u8 0, Value.int IntKind.u8 0, Value.int IntKind.u8 0, Value.int IntKind.u8 0, Value.bool false, Value.bool false] _ (by rw [sizEv, List.size_toArray, evC_len]) (by rw [List.size_toArray, evC_len]; rfl) (by rw [← Array.all_toList]; exact evC_one ev) (by simp [Act.eval]) rfl ?_))
     have HT1 := Lib.hid (HT.out.below (below_alloc1 wr (.cells (evC ev).toArray 62)))
     have HK1 := Lib.hid (PrK.new HT.out.W_ (evC ev) 62)
     generalize wr.alloc (.cells (evC ev).toArray 62) = W4 at *
     generalize wr.heap.size = g at *
     clear HT HRr hb
     have KRi := Lib.hid (right26_any ev W4 HT1.out.A.mx)
     cases hok : evOk ev with
     | false =>
       rw [hok] at KRi
       have HE : Hid (prE x es = 3) := by
         show _ = _
         rw [HPE2.out, if_pos]
         rw [List.all_eq_false]
         exact ⟨ev, HMem.out, by rw [hok]; decide⟩
       have HB : Hid (prB x es = []) := by show _ = _; rw [HPB.out, HE.out, if_neg (by decide)]
       clear HPE2 HPB hok HF HTk HAl
       go_wp2_with (first
         | ((with_reducible refine gate_ld 62 (.tmp 7) rfl ?_); refine wl_ldr rfl 62 _ rfl g 0 (evC ev) _ Tryz.underlying62 rfl (by rw [sizEv, evC_len]) rfl (range_whole HK1.out.at_) ?_)
         | (go_at_call 61; (refine KRi.out.mono ?_); rintro e W5 ⟨rfl, hb5⟩; have HB5 := Lib.hid (HT1.out.A.bel.trans (hb5.mono HT1.out.A.bel.size)); clear hb5))
       refine bodyPost_ret (results_tmp2 rfl _ _ _) rfl ?_
       exact ⟨.slice none 0 0, by rw [HE.out]; rfl, by rw [HB.out]; exact OwnE.nil _ _, HB5.out⟩
     | true =>
     rw [hok] at KRi
     have HAl2 : Hid (∀ e ∈ es.take (k + 1), evOk e = true) := by
       show ∀ e ∈ es.take (k + 1), evOk e = true
       rw [HTk.out]
       intro e he
       rw [List.mem_append, List.mem_singleton] at he
       rcases he with he | rfl
       · exact HAl.out e he
       · exact hok
     clear hok HAl HTk HMem HPE2 HPB
     go_upto_region 19 with (first
       | ((with_reducible refine gate_ld 62 (.tmp 7) rfl ?_); refine wl_ldr rfl 62 _ rfl g 0 (evC ev) _ Tryz.underlying62 rfl (by rw [sizEv, evC_len]) rfl (range_whole HK1.out.at_) ?_)
       | (go_at_call 61; (refine KRi.out.mono ?_); rintro e W5 ⟨rfl, hb5⟩; have HT2 := Lib.hid (HT1.out.below hb5); have HK2 := Lib.hid (HK1.out.below hb5); clear hb5))
     clear HT1 HK1 KRi
     obtain ⟨ce0, ce26, ce27⟩ := ev_at_c HK2.out.at_
     obtain ⟨at_, hat⟩ : ∃ a : Nat, ev.at_ = (a : Int) ∧ a < 2 ^ 64 ∧ ev.at_.toNat = a := ⟨ev.at_.toNat, by have := HOKe.out; unfold OkEv at this; omega⟩
     have HAT := Lib.hid hat
     clear hat
     have HKl := Lib.hid ev.lkey
     have HEW : Hid (evW y ev = if ev.mark = true then wStep 4096 (wBytes 4096 y [2]) (small at_) else wBytes 4096 (wStep 4096 (wBytes 4096 y [if ev.dead = true then 1 else 0]) (small at_)) ev.key) := by show _ = _; unfold evW; rw [HAT.out.2.2]
     have hce0 : ∀ W : World, W.heap[g]? = some (.cells (evC ev).toArray 62 (0, 0)) → W.cell? ⟨g, 0, none⟩ = some (.int .u64 (at_ : Int)) := fun W hW => by rw [(ev_at_c hW).1, HAT.out.1]
     cases hmk : ev.mark with
     | true =>
       rw [hmk] at ce27
       have HY : Hid (evW y ev = wStep 4096 (wBytes 4096 y [2]) (small at_)) := by show _ = _; rw [HEW.out, if_pos hmk]
       clear HEW hmk ce0 ce26
       go_upto_region 20 with fail
       refine wp_region_held_drew (S := fun W => W.heap[g]? = some (.cells (evC ev).toArray 62 (0, 0))) (by kernel_rfl) HK2.out.at_ (fun hH => ?_)
       show wpAnyH Tryz.prog Region.Mode.any _ _ _ 6 #[false, false, false, false, false, false] _ _
       refine takeR (i := 0) (v := .pointer (some ⟨bw, 0, none⟩)) 99 rfl rfl (by kernel_rfl) (by kernel_rfl) (by kernel_rfl) (fun _ _ _ h => h) (Or.inl ⟨rfl, fun w' hS => exec_mvT (.tmp 5) rfl _ rfl⟩) hH ?_
       simp only [Act.put, wrT]
       refine takeR (i := 3) (v := .pointer (some ⟨g, 0, none⟩)) 102 rfl rfl (by kernel_rfl) (by kernel_rfl) (by kernel_rfl) (fun _ _ _ h => h) (Or.inl ⟨rfl, fun w' hS => exec_fEv0 (.tmp 7) rfl g 0 rfl⟩) hH ?_
       simp only [Act.put, wrT]
       refine takeR (i := 4) (v := .int .u64 (at_ : Int)) 103 rfl rfl (by kernel_rfl) (by kernel_rfl) (by kernel_rfl) (fun _ _ _ h => h) (Or.inl ⟨rfl, fun w' hS => exec_ld1G 60 ag60u (.tmp 102) rfl g 0 _ rfl (hce0 w' hS)⟩) hH ?_
       simp only [Act.put, wrT]
       have HT3 : Hid (PrT w W5.drew x (.slice (some ⟨b, o, none⟩) n c) bw v y) := HT2.out.below ⟨rfl, rfl, rfl, Nat.le_refl _, fun _ _ => rfl⟩
       have HK3 : Hid (PrK W5.drew bw v g (evC ev) 62) := HK2.out.below ⟨rfl, rfl, rfl, Nat.le_refl _, fun _ _ => rfl⟩
       have HK4 := Lib.hid (HK3.out.below (below_alloc1 W5.drew (.cells #[.int .u8 ((2 : UInt8).toNat : Int)] 5)))
       have HT4 := Lib.hid (HT3.out.below (below_alloc1 W5.drew (.cells #[.int .u8 ((2 : UInt8).toNat : Int)] 5)))
       have KB := Lib.hid (byteOne_any HT3.out 2)
       refine oneH 1 (by kernel_rfl) (wpOp_val rfl rfl (exec_bs8 (.const (.int .u8 2)) rfl (.int .u8 ((2 : UInt8).toNat : Int)) rfl rfl) ⟨HK4.out.at_, ?_⟩)
       simp only [Act.put, rdT, wrT]
       refine oneH 2 (by kernel_rfl) (wpOp_call rfl rfl (exec_calls rfl (enters_of Tryz.func42 (by kernel_rfl) rfl) (vs := #[.pointer (some ⟨bw, 0, none⟩), .slice (some ⟨W5.drew.heap.size, 0, none⟩) 1 1]) (by simp [Act.eval]) _) KB.out (fun e w8 hR => ?_))
       obtain ⟨rfl, v3, hw3, ht3⟩ := hR
       have HT5 := Lib.hid (HT4.out.wrote HGM.out hw3 ht3 (wBytes_le _ HT4.out.W_.le))
       have HK5 := Lib.hid (HK4.out.turn ht3)
       clear hw3 ht3
       refine ⟨_, rfl, HK5.out.at_, ?_⟩
       simp only [Act.put, rdT, wrT]
       refine oneH 5 (by kernel_rfl) (wpOp_call rfl rfl (exec_calls rfl (enters_of Tryz.func60 (by kernel_rfl) rfl) (vs := #[.pointer (some ⟨bw, 0, none⟩), .int .u64 (at_ : Int)]) (by simp [Act.eval]) _) (wnumber_any bw 4096 v3 _ _ at_ w8 HT5.out.W_.wr HT5.out.W_.le (by omega) HAT.out.2.1) (fun e w9 hR => ?_))
       obtain ⟨rfl, v4, hw4, ht4⟩ := hR
       have HT6 := Lib.hid (HT5.out.wrote (y' := wStep 4096 (wBytes 4096 y [2]) (small at_)) HGM.out hw4 ht4 (wStep_le (wBytes_le _ HT3.out.W_.le)))
       have HK6 := Lib.hid (HK5.out.turn ht4)
       refine ⟨_, rfl, HK6.out.at_, ?_⟩
       simp only [Act.put, rdT, wrT]
       refine wpAnyH_done (by kernel_rfl) ?_ _
       try simp only [Act.put, rdT, wrT]
       clear hw4 ht4 hH HT3 HK3 HK4 HT4 KB HT5 HK5 HK6 HT2 HK2
       rw [← HY.out] at HT6
       go_wp2_with fail
       go_roundw
       case rel => exact ⟨⟨_, rfl⟩, ⟨_, rfl⟩, k + 1, v4, by omega, by simp, HAl2, (by rw [HF.out]; exact HT6)⟩
       case measure => simp [intOf]; omega
     | false =>
       rw [hmk] at ce27
       have HY : Hid (evW y ev = wBytes 4096 (wStep 4096 (wBytes 4096 y [if ev.dead = true then 1 else 0]) (small at_)) ev.key) := by show _ = _; rw [HEW.out, if_neg (by rw [hmk]; decide)]
       clear HEW hmk ce0
       have KKB := Lib.hid (fun W => Kx.keyBytes_any ev.key W HKl.out)
       cases hdd : ev.dead with
       | true =>
         rw [hdd] at ce26 HY
         have HY2 : Hid (evW y ev = wBytes 4096 (wStep 4096 (wBytes 4096 y [1]) (small at_)) ev.key) := HY.out
         clear HY hdd
         have KB := Lib.hid (byteOne_any HT2.out 1)
         have HT3 := Lib.hid (HT2.out.below (below_alloc1 W5 (.cells #[.int .u8 ((1 : UInt8).toNat : Int)] 5)))
         have HK3 := Lib.hid (HK2.out.below (below_alloc1 W5 (.cells #[.int .u8 ((1 : UInt8).toNat : Int)] 5)))
         go_upto_region 23 with (go_at_call 42; (refine KB.out.mono ?_); rintro e W6 ⟨rfl, v3, hw3, ht3⟩; have HT4 := Lib.hid (HT3.out.wrote HGM.out hw3 ht3 (wBytes_le _ HT3.out.W_.le)); have HK4 := Lib.hid (HK3.out.turn ht3); clear hw3 ht3)
         clear HT3 HK3 KB HT2 HK2 ce26 ce27
         have HRk := Lib.hid (ev_key (range_whole HK4.out.at_))
         go_upto_region 24 with (first
           | ((with_reducible refine gate_ld 32 _ rfl ?_); refine wl_ldr rfl 32 _ rfl g 1 (bC ev.key).toList _ Tryz.underlying32 rfl (by rw [sizKey]; simp [bC, HKl.out]) rfl HRk.out ?_)
           | (go_at_call 62; (refine (KKB.out _).mono ?_); rintro e W7 ⟨rfl, hb7⟩; have HT5 := Lib.hid (HT4.out.below hb7); have HK5 := Lib.hid (HK4.out.below hb7); clear hb7)
           | ((with_reducible refine gate_st 108 _ _ rfl ?_); refine wl_strn rfl _ _ _ rfl (bC ev.key) #[Value.int IntKind.u8 0, Value.int IntKind.u8 0, Value.int IntKind.u8 0, Value.int IntKind.u8 0, Value.int IntKind.u8 0, Value.int IntKind.u8 0, Value.int IntKind.u8 0, Value.int IntKind.u8 0, Value.int IntKind.u8 0, Value.int IntKind.u8 0, Value.int IntKind.u8 0, Value.int IntKind.u8 0, Value.int IntKind.u8 0, Value.int IntKind.u8 0, Value.int IntKind.u8 0, Value.int IntKind.u8 0, Value.int IntKind.u8 0, Value.int IntKind.u8 0, Value.int IntKind.u8 0, Value.int IntKind.u8 0, Value.int IntKind.u8 0, Value.int IntKind.u8 0, Value.int IntKind.u8 0, Value.int IntKind.u8 0, Value.int IntKind.u8 0] _ (by rw [Kx.siz25, bC_size, HKl.out]) (by rw [bC_size, HKl.out]; rfl) (bC_one _) (by simp [Act.eval]) rfl ?_))
         have HT6 := Lib.hid (HT5.out.below (below_alloc1 W7 (.cells (bC ev.key) 108)))
         have HK6 := Lib.hid (HK5.out.below (below_alloc1 W7 (.cells (bC ev.key) 108)))
         have HG6 : Hid (PrK (W7.alloc (.cells (bC ev.key) 108)) bw v3 W7.heap.size (bC ev.key).toList 108) := PrK.new HT5.out.W_ (bC ev.key).toList 108
         generalize W7.alloc (.cells (bC ev.key) 108) = W8 at *
         generalize W7.heap.size = g8 at *
         clear HT5 HK5 HRk HT4 HK4
         refine wp_region_held_drew (S := fun W => W.heap[g]? = some (.cells (evC ev).toArray 62 (0, 0))) (by kernel_rfl) HK6.out.at_ (fun hH => ?_)
         show wpAnyH Tryz.prog Region.Mode.any _ _ _ 6 #[false, false, false, false, false, false] _ _
         refine takeR (i := 0) (v := .pointer (some ⟨bw, 0, none⟩)) 114 rfl rfl (by kernel_rfl) (by kernel_rfl) (by kernel_rfl) (fun _ _ _ h => h) (Or.inl ⟨rfl, fun w' hS => exec_mvT (.tmp 5) rfl _ rfl⟩) hH ?_
         simp only [Act.put, wrT]
         refine takeR (i := 1) (v := .pointer (some ⟨g, 0, none⟩)) 115 rfl rfl (by kernel_rfl) (by kernel_rfl) (by kernel_rfl) (fun _ _ _ h => h) (Or.inl ⟨rfl, fun w' hS => exec_fEv0 (.tmp 7) rfl g 0 rfl⟩) hH ?_
         simp only [Act.put, wrT]
         refine takeR (i := 2) (v := .int .u64 (at_ : Int)) 116 rfl rfl (by kernel_rfl) (by kernel_rfl) (by kernel_rfl) (fun _ _ _ h => h) (Or.inl ⟨rfl, fun w' hS => exec_ld1G 60 ag60u (.tmp 115) rfl g 0 _ rfl (hce0 w' hS)⟩) hH ?_
         simp only [Act.put, wrT]
         refine takeR (i := 4) (v := .slice (some ⟨g8, 0, none⟩) 25 25) 118 rfl rfl (by kernel_rfl) (by kernel_rfl) (by kernel_rfl) (fun _ _ _ h => h) (Or.inl ⟨rfl, fun w' hS => exec_sl25 (.tmp 8) rfl g8 rfl⟩) hH ?_
         simp only [Act.put, wrT]
         have HT7 : Hid (PrT w W8.drew x (.slice (some ⟨b, o, none⟩) n c) bw v3 (wBytes 4096 y [1])) := HT6.out.below ⟨rfl, rfl, rfl, Nat.le_refl _, fun _ _ => rfl⟩
         have HK7 : Hid (PrK W8.drew bw v3 g (evC ev) 62) := HK6.out.below ⟨rfl, rfl, rfl, Nat.le_refl _, fun _ _ => rfl⟩
         have HG7 : Hid (PrK W8.drew bw v3 g8 (bC ev.key).toList 108) := HG6.out.below ⟨rfl, rfl, rfl, Nat.le_refl _, fun _ _ => rfl⟩
         refine oneH 3 (by kernel_rfl) (wpOp_call rfl rfl (exec_calls rfl (enters_of Tryz.func60 (by kernel_rfl) rfl) (vs := #[.pointer (some ⟨bw, 0, none⟩), .int .u64 (at_ : Int)]) (by simp [Act.eval]) _) (wnumber_any bw 4096 v3 _ _ at_ W8.drew HT7.out.W_.wr HT7.out.W_.le (by omega) HAT.out.2.1) (fun e w9 hR => ?_))
         obtain ⟨rfl, v4, hw4, ht4⟩ := hR
         have HT8 := Lib.hid (HT7.out.wrote (y' := wStep 4096 (wBytes 4096 y [1]) (small at_)) HGM.out hw4 ht4 (wStep_le HT7.out.W_.le))
         have HK8 := Lib.hid (HK7.out.turn ht4)
         have HG8 := Lib.hid (HG7.out.turn ht4)
         clear hw4 ht4
         refine ⟨_, rfl, HK8.out.at_, ?_⟩
         simp only [Act.put, rdT, wrT]
         refine oneH 5 (by kernel_rfl) (wpOp_call rfl rfl (exec_calls rfl (enters_of Tryz.func42 (by kernel_rfl) rfl) (vs := #[.pointer (some ⟨bw, 0, none⟩), .slice (some ⟨g8, 0, none⟩) 25 25]) (by simp [Act.eval]) _) (wbyte_any bw 4096 v4 _ _ (some ⟨g8, 0, none⟩) ev.key 25 25 w9 HT8.out.W_.wr HT8.out.W_.le (by omega) (Kx.slat_bytes (lt_heap HG8.out.at_) (range_whole HG8.out.at_)) HKl.out (fun a e => by cases e; exact HG8.out.ne) (by omega)) (fun e w10 hR => ?_))
         obtain ⟨rfl, v5, hw5, ht5⟩ := hR
         have HT9 := Lib.hid (HT8.out.wrote (y' := wBytes 4096 (wStep 4096 (wBytes 4096 y [1]) (small at_)) ev.key) HGM.out hw5 ht5 (wBytes_le _ HT8.out.W_.le))
         have HK9 := Lib.hid (HK8.out.turn ht5)
         refine ⟨_, rfl, HK9.out.at_, ?_⟩
         simp only [Act.put, rdT, wrT]
         refine wpAnyH_done (by kernel_rfl) ?_ _
         try simp only [Act.put, rdT, wrT]
         clear hw5 ht5 hH HT6 HK6 HG6 HT7 HK7 HG7 HT8 HK8 HG8 HK9
         rw [← HY2.out] at HT9
         go_wp2_with fail
         go_roundw
         case rel => exact ⟨⟨_, rfl⟩, ⟨_, rfl⟩, k + 1, v5, by omega, by simp, HAl2, (by rw [HF.out]; exact HT9)⟩
         case measure => simp [intOf]; omega
       | false =>
         rw [hdd] at ce26 HY
         have HY2 : Hid (evW y ev = wBytes 4096 (wStep 4096 (wBytes 4096 y [0]) (small at_)) ev.key) := HY.out
         clear HY hdd
         have KB := Lib.hid (byteOne_any HT2.out 0)
         have HT3 := Lib.hid (HT2.out.below (below_alloc1 W5 (.cells #[.int .u8 ((0 : UInt8).toNat : Int)] 5)))
         have HK3 := Lib.hid (HK2.out.below (below_alloc1 W5 (.cells #[.int .u8 ((0 : UInt8).toNat : Int)] 5)))
         go_upto_region 23 with (go_at_call 42; (refine KB.out.mono ?_); rintro e W6 ⟨rfl, v3, hw3, ht3⟩; have HT4 := Lib.hid (HT3.out.wrote HGM.out hw3 ht3 (wBytes_le _ HT3.out.W_.le)); have HK4 := Lib.hid (HK3.out.turn ht3); clear hw3 ht3)
         clear HT3 HK3 KB HT2 HK2 ce26 ce27
         have HRk := Lib.hid (ev_key (range_whole HK4.out.at_))
         go_upto_region 24 with (first
           | ((with_reducible refine gate_ld 32 _ rfl ?_); refine wl_ldr rfl 32 _ rfl g 1 (bC ev.key).toList _ Tryz.underlying32 rfl (by rw [sizKey]; simp [bC, HKl.out]) rfl HRk.out ?_)
           | (go_at_call 62; (refine (KKB.out _).mono ?_); rintro e W7 ⟨rfl, hb7⟩; have HT5 := Lib.hid (HT4.out.below hb7); have HK5 := Lib.hid (HK4.out.below hb7); clear hb7)
           | ((with_reducible refine gate_st 108 _ _ rfl ?_); refine wl_strn rfl _ _ _ rfl (bC ev.key) #[Value.int IntKind.u8 0, Value.int IntKind.u8 0, Value.int IntKind.u8 0, Value.int IntKind.u8 0, Value.int IntKind.u8 0, Value.int IntKind.u8 0, Value.int IntKind.u8 0, Value.int IntKind.u8 0, Value.int IntKind.u8 0, Value.int IntKind.u8 0, Value.int IntKind.u8 0, Value.int IntKind.u8 0, Value.int IntKind.u8 0, Value.int IntKind.u8 0, Value.int IntKind.u8 0, Value.int IntKind.u8 0, Value.int IntKind.u8 0, Value.int IntKind.u8 0, Value.int IntKind.u8 0, Value.int IntKind.u8 0, Value.int IntKind.u8 0, Value.int IntKind.u8 0, Value.int IntKind.u8 0, Value.int IntKind.u8 0, Value.int IntKind.u8 0] _ (by rw [Kx.siz25, bC_size, HKl.out]) (by rw [bC_size, HKl.out]; rfl) (bC_one _) (by simp [Act.eval]) rfl ?_))
         have HT6 := Lib.hid (HT5.out.below (below_alloc1 W7 (.cells (bC ev.key) 108)))
         have HK6 := Lib.hid (HK5.out.below (below_alloc1 W7 (.cells (bC ev.key) 108)))
         have HG6 : Hid (PrK (W7.alloc (.cells (bC ev.key) 108)) bw v3 W7.heap.size (bC ev.key).toList 108) := PrK.new HT5.out.W_ (bC ev.key).toList 108
         generalize W7.alloc (.cells (bC ev.key) 108) = W8 at *
         generalize W7.heap.size = g8 at *
         clear HT5 HK5 HRk HT4 HK4
         refine wp_region_held_drew (S := fun W => W.heap[g]? = some (.cells (evC ev).toArray 62 (0, 0))) (by kernel_rfl) HK6.out.at_ (fun hH => ?_)
         show wpAnyH Tryz.prog Region.Mode.any _ _ _ 6 #[false, false, false, false, false, false] _ _
         refine takeR (i := 0) (v := .pointer (some ⟨bw, 0, none⟩)) 114 rfl rfl (by kernel_rfl) (by kernel_rfl) (by kernel_rfl) (fun _ _ _ h => h) (Or.inl ⟨rfl, fun w' hS => exec_mvT (.tmp 5) rfl _ rfl⟩) hH ?_
         simp only [Act.put, wrT]
         refine takeR (i := 1) (v := .pointer (some ⟨g, 0, none⟩)) 115 rfl rfl (by kernel_rfl) (by kernel_rfl) (by kernel_rfl) (fun _ _ _ h => h) (Or.inl ⟨rfl, fun w' hS => exec_fEv0 (.tmp 7) rfl g 0 rfl⟩) hH ?_
         simp only [Act.put, wrT]
         refine takeR (i := 2) (v := .int .u64 (at_ : Int)) 116 rfl rfl (by kernel_rfl) (by kernel_rfl) (by kernel_rfl) (fun _ _ _ h => h) (Or.inl ⟨rfl, fun w' hS => exec_ld1G 60 ag60u (.tmp 115) rfl g 0 _ rfl (hce0 w' hS)⟩) hH ?_
         simp only [Act.put, wrT]
         refine takeR (i := 4) (v := .slice (some ⟨g8, 0, none⟩) 25 25) 118 rfl rfl (by kernel_rfl) (by kernel_rfl) (by kernel_rfl) (fun _ _ _ h => h) (Or.inl ⟨rfl, fun w' hS => exec_sl25 (.tmp 8) rfl g8 rfl⟩) hH ?_
         simp only [Act.put, wrT]
         have HT7 : Hid (PrT w W8.drew x (.slice (some ⟨b, o, none⟩) n c) bw v3 (wBytes 4096 y [0])) := HT6.out.below ⟨rfl, rfl, rfl, Nat.le_refl _, fun _ _ => rfl⟩
         have HK7 : Hid (PrK W8.drew bw v3 g (evC ev) 62) := HK6.out.below ⟨rfl, rfl, rfl, Nat.le_refl _, fun _ _ => rfl⟩
         have HG7 : Hid (PrK W8.drew bw v3 g8 (bC ev.key).toList 108) := HG6.out.below ⟨rfl, rfl, rfl, Nat.le_refl _, fun _ _ => rfl⟩
         refine oneH 3 (by kernel_rfl) (wpOp_call rfl rfl (exec_calls rfl (enters_of Tryz.func60 (by kernel_rfl) rfl) (vs := #[.pointer (some ⟨bw, 0, none⟩), .int .u64 (at_ : Int)]) (by simp [Act.eval]) _) (wnumber_any bw 4096 v3 _ _ at_ W8.drew HT7.out.W_.wr HT7.out.W_.le (by omega) HAT.out.2.1) (fun e w9 hR => ?_))
         obtain ⟨rfl, v4, hw4, ht4⟩ := hR
         have HT8 := Lib.hid (HT7.out.wrote (y' := wStep 4096 (wBytes 4096 y [0]) (small at_)) HGM.out hw4 ht4 (wStep_le HT7.out.W_.le))
         have HK8 := Lib.hid (HK7.out.turn ht4)
         have HG8 := Lib.hid (HG7.out.turn ht4)
         clear hw4 ht4
         refine ⟨_, rfl, HK8.out.at_, ?_⟩
         simp only [Act.put, rdT, wrT]
         refine oneH 5 (by kernel_rfl) (wpOp_call rfl rfl (exec_calls rfl (enters_of Tryz.func42 (by kernel_rfl) rfl) (vs := #[.pointer (some ⟨bw, 0, none⟩), .slice (some ⟨g8, 0, none⟩) 25 25]) (by simp [Act.eval]) _) (wbyte_any bw 4096 v4 _ _ (some ⟨g8, 0, none⟩) ev.key 25 25 w9 HT8.out.W_.wr HT8.out.W_.le (by omega) (Kx.slat_bytes (lt_heap HG8.out.at_) (range_whole HG8.out.at_)) HKl.out (fun a e => by cases e; exact HG8.out.ne) (by omega)) (fun e w10 hR => ?_))
         obtain ⟨rfl, v5, hw5, ht5⟩ := hR
         have HT9 := Lib.hid (HT8.out.wrote (y' := wBytes 4096 (wStep 4096 (wBytes 4096 y [0]) (small at_)) ev.key) HGM.out hw5 ht5 (wBytes_le _ HT8.out.W_.le))
         have HK9 := Lib.hid (HK8.out.turn ht5)
         refine ⟨_, rfl, HK9.out.at_, ?_⟩
         simp only [Act.put, rdT, wrT]
         refine wpAnyH_done (by kernel_rfl) ?_ _
         try simp only [Act.put, rdT, wrT]
         clear hw5 ht5 hH HT6 HK6 HG6 HT7 HK7 HG7 HT8 HK8 HG8 HK9
         rw [← HY2.out] at HT9
         go_wp2_with fail
         go_roundw
         case rel => exact ⟨⟨_, rfl⟩, ⟨_, rfl⟩, k + 1, v5, by omega, by simp, HAl2, (by rw [HF.out]; exact HT9)⟩
         case measure => simp [intOf]; omega
   · obtain rfl : n = k := by omega
     have hlt' : ¬ (n : Int) < (n : Int) := by omega
     have hall : es.take n = es := List.take_of_length_le (by rw [HN.out]; exact Nat.le_refl _)
     rw [hall, ← HPS.out] at HT
     rw [hall] at HAl
     have HE : Hid (prE x es = (prS x es).2) := by
       show _ = _
       rw [HPE2.out, if_neg]
       rw [List.all_eq_true.2 HAl.out]
       decide
     have HB : Hid (prB x es = if (prS x es).2 = 0 then (prS x es).1 else []) := by show _ = _; rw [HPB.out, HE.out]
     have KBy := Lib.hid (wbytes_any bw 4096 v (prS x es).1 (prS x es).2 wr HT.out.W_.wr (Nat.le_trans HT.out.W_.le (by decide)))
     clear HPE2 HPB hall HAl HPS
     go_wp2_with (go_at_call 45; (refine KBy.out.mono ?_); rintro e W9 ⟨v9, rfl, ho9, hb9⟩; have HO9 := Lib.hid ho9; have HB9 := Lib.hid hb9; clear ho9 hb9)
     refine bodyPost_ret (results_tmp2 rfl _ _ _) rfl ?_
     have hbel := HT.out.A.bel
     exact ⟨v9, by rw [HE.out]; rfl, by rw [HB.out]; exact HO9.out.base hbel.size, hbel.trans (HB9.out.mono hbel.size)⟩
end Go.Proofs.YtbfefdedjcppaaaGreatDoor
