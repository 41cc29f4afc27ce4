/- Texts joined: RA. -/
import Derived.Test.YtbfefdedjcppaaaGreatDoorGX
import Derived.WalkMore
import Derived.Laws.Bits64b
import Derived.Shelf.Abstract
import Derived.Test.YtbfefdedjcppaaaGreatDoorTX5
import Derived.Laws.CopyOwn
import Derived.StillTailTactics
/- A key, as the document's: the law's Of of chapter 06. -/
namespace Go.Proofs.YtbfefdedjcppaaaGreatDoor
set_option maxRecDepth 100000
set_option maxHeartbeats 2000000
open Go.RowKit
structure K5 where
 kind : UInt8
 proj : UInt8
 pos : UInt8
 name : List UInt8
 tag : List UInt8
deriving DecidableEq
structure K5.ok (k : K5) : Prop where
 n : k.name.length = 12
 t : k.tag.length = 10
def K5.bytes (k : K5) : List UInt8 := k.kind :: k.proj :: k.pos :: (k.name ++ k.tag)
theorem K5.len {k : K5} (h : k.ok) : k.bytes.length = 25 := by simp [K5.bytes, h.n, h.t]
def kC (k : K5) : Array Value := bC k.bytes
def rKl (k : K5) (j : Nat) : List UInt8 := k.name ++ (k.tag.take j ++ List.replicate (10 - j) 0)
def rK (k : K5) (j : Nat) : Array Value := (Value.int .i64 (k.kind.toNat : Int) :: Value.int .i64 (k.proj.toNat : Int) :: Value.int .i64 (k.pos.toNat : Int) :: (bC (rKl k j)).toList).toArray
theorem rKl_len {k : K5} (h : k.ok) (j : Nat) (hj : j ≤ 10) : (rKl k j).length = 22 := by simp [rKl, h.n, h.t]; omega
theorem rK_size {k : K5} (h : k.ok) (j : Nat) (hj : j ≤ 10) : (rK k j).size = 25 := by simp [rK, bC, rKl_len h j hj]
theorem rK_next {k : K5} (h : k.ok) (j : Nat) (hj : j < 10) : (rK k j).setIfInBounds (15 + j) (.int .u8 ((k.tag[j]'(by rw [h.t]; exact hj)).toNat : Int)) = rK k (j + 1) := by
 have e : (rKl k j).set (12 + j) (k.tag[j]'(by rw [h.t]; exact hj)) = rKl k (j + 1) := by
   unfold rKl
   rw [List.set_append_right _ _ (by rw [h.n]; omega), h.n, show 12 + j - 12 = j by omega]
   congr 1
   apply List.ext_getElem?
   intro i
   have ht := h.t
   rw [List.getElem?_set]
   by_cases e : j = i
   · subst e
     rw [if_pos rfl, if_pos (by simp; omega), List.getElem?_append_left (by simp; omega), List.getElem?_take_of_lt (by omega)]
     simp
   · rw [if_neg e]
     by_cases hi : i < j
     · rw [List.getElem?_append_left (by simp; omega), List.getElem?_append_left (by simp; omega), List.getElem?_take_of_lt hi, List.getElem?_take_of_lt (by omega)]
     · rw [List.getElem?_append_right (by simp; omega), List.getElem?_append_right (by simp; omega), List.length_take, List.length_take, List.getElem?_replicate, List.getElem?_replicate]
       by_cases h10 : i < 10
       · rw [if_pos (by omega), if_pos (by omega)]
       · rw [if_neg (by omega), if_neg (by omega)]
 unfold rK
 rw [← e]
 simp only [List.setIfInBounds_toArray]
 congr 1
 rw [show 15 + j = (12 + j) + 1 + 1 + 1 by omega]
 simp only [List.set_cons_succ, List.cons.injEq, true_and]
 simp [bC, List.map_set]
theorem kC_tag {k : K5} (h : k.ok) (j : Nat) (hj : j < 10) : (kC k)[15 + j]? = some (.int .u8 ((k.tag[j]'(by rw [h.t]; exact hj)).toNat : Int)) := by
 have e : k.bytes[15 + j]? = some (k.tag[j]'(by rw [h.t]; exact hj)) := by
   unfold K5.bytes
   rw [show 15 + j = (12 + j) + 1 + 1 + 1 by omega]
   simp only [List.getElem?_cons_succ]
   rw [List.getElem?_append_right (by rw [h.n]; omega), h.n, show 12 + j - 12 = j by omega, List.getElem?_eq_getElem (by rw [h.t]; exact hj)]
 simp [kC, bC, e]
theorem rK_old {k : K5} (h : k.ok) (j : Nat) (hj : j < 10) : (rK k j)[15 + j]? = some (.int .u8 0) := by
 have e : (rKl k j)[12 + j]? = some 0 := by
   unfold rKl
   rw [List.getElem?_append_right (by rw [h.n]; omega), h.n, show 12 + j - 12 = j by omega, List.getElem?_append_right (by simp; omega)]
   have ht := h.t
   rw [List.length_take, List.getElem?_replicate, if_pos (by omega)]
 unfold rK
 rw [show 15 + j = (12 + j) + 1 + 1 + 1 by omega]
 simp [bC, e]
theorem sizRK : (Tryz.prog.info? 44).map (·.size) = some 25 := by kernel_rfl
theorem rK_one (k : K5) (j : Nat) : (rK k j).all (·.oneCell') = true := by
 simp [rK, Value.oneCell', bC]
theorem built_rK (k : K5) (h : k.ok) : Tryz.prog.built 44 [(0, .int .i64 (k.kind.toNat : Int)), (1, .int .i64 (k.proj.toNat : Int)), (2, .int .i64 (k.pos.toNat : Int)), (3, .agg (bC k.name))] = some (rK k 0) := by
 obtain ⟨a, b, c, n, t⟩ := k
 obtain ⟨hn, ht⟩ := h
 simp only at hn ht
 rcases n with _ | ⟨c0, _ | ⟨c1, _ | ⟨c2, _ | ⟨c3, _ | ⟨c4, _ | ⟨c5, _ | ⟨c6, _ | ⟨c7, _ | ⟨c8, _ | ⟨c9, _ | ⟨c10, _ | ⟨c11, _ | ⟨c12, n⟩⟩⟩⟩⟩⟩⟩⟩⟩⟩⟩⟩⟩ <;> simp at hn
 kernel_rfl
theorem kC_name {k : K5} {w : World} {g : Nat} {T : TypeId} {fr : Nat × Nat} (hg : w.heap[g]? = some (.cells (kC k) T fr)) : w.rangeAt g 3 (bC k.name).toList := range_of_cells hg 3 _ fun j v hv => by
 have hj : j < k.name.length := by have := (List.getElem?_eq_some_iff.1 hv).1; simpa [bC] using this
 rw [show 3 + j = j + 1 + 1 + 1 by omega]
 have hv' : v = .int .u8 (k.name[j].toNat : Int) := by simpa [bC, hj] using hv.symm
 subst hv'
 simp only [kC, bC, K5.bytes, List.map_cons, List.map_append, List.getElem?_toArray, List.getElem?_cons_succ]
 rw [List.getElem?_append_left (by simpa using hj)]
 simp [hj]
theorem of06_any (k : K5) (w : World) (hk : k.ok) :
   Calls Tryz.prog 38 #[.agg (kC k)] w fun e w' => e = .returned (.agg (rK k 10)) ∧ Below w.heap.size w w' := by
 have b0 := byte_lt k.kind
 have b1 := byte_lt k.proj
 have b2 := byte_lt k.pos
 have k0 : (0 : Int) ≤ (k.kind.toNat : Int) := by omega
 have k1 : (0 : Int) ≤ (k.proj.toNat : Int) := by omega
 have k2 : (0 : Int) ≤ (k.pos.toNat : Int) := by omega
 have HK := Lib.hid hk
 have h0 : (kC k)[0]? = some (.int .u8 (k.kind.toNat : Int)) := rfl
 have h1 : (kC k)[1]? = some (.int .u8 (k.proj.toNat : Int)) := rfl
 have h2 : (kC k)[2]? = some (.int .u8 (k.pos.toNat : Int)) := rfl
 clear hk
 go_enter Tryz.func38, Tryz.ntmps38
 go_upto_region 1 with fail
 obtain ⟨zz, hz⟩ : ∃ zz, zz = #[Value.int .i64 0, .int .i64 0, .int .i64 0, .int .u8 0, .int .u8 0, .int .u8 0, .int .u8 0, .int .u8 0, .int .u8 0, .int .u8 0, .int .u8 0, .int .u8 0, .int .u8 0, .int .u8 0, .int .u8 0, .int .u8 0, .int .u8 0, .int .u8 0, .int .u8 0, .int .u8 0, .int .u8 0, .int .u8 0, .int .u8 0, .int .u8 0, .int .u8 0] := ⟨_, rfl⟩
 rw [← hz]
 have HZs : Hid (zz.size = 25) := by show zz.size = 25; rw [hz]; rfl
 clear hz
 have HG0 : Hid (((w.alloc (.cells (kC k) 32)).alloc (.cells zz 44)).heap[w.heap.size]? = some (.cells (kC k) 32 (0, 0))) := heap_alloc2_old _ _ _
 have HG1 : Hid (((w.alloc (.cells (kC k) 32)).alloc (.cells zz 44)).heap[w.heap.size + 1]? = some (.cells zz 44 (0, 0))) := heap_alloc2_new _ _ _
 have HB1 : Hid (Below w.heap.size w ((w.alloc (.cells (kC k) 32)).alloc (.cells zz 44))) := below_alloc2 _ _ _
 generalize (w.alloc (.cells (kC k) 32)).alloc (.cells zz 44) = W1 at *
 have hlt : w.heap.size < W1.heap.size := lt_heap HG0.out
 have hlt1 : w.heap.size + 1 < W1.heap.size := lt_heap HG1.out
 have hne : w.heap.size ≠ W1.heap.size := by omega
 have c0 : W1.cell? ⟨w.heap.size, 0, none⟩ = some (.int .u8 (k.kind.toNat : Int)) := by rw [cell_blk HG0.out]; exact h0
 have c1 : W1.cell? ⟨w.heap.size, 1, none⟩ = some (.int .u8 (k.proj.toNat : Int)) := by rw [cell_blk HG0.out]; exact h1
 have c2 : W1.cell? ⟨w.heap.size, 2, none⟩ = some (.int .u8 (k.pos.toNat : Int)) := by rw [cell_blk HG0.out]; exact h2
 have HNm : Hid (W1.rangeAt w.heap.size 3 (bC k.name).toList) := kC_name HG0.out
 have HCt : Hid (∀ (j : Nat) (hj : j < 10), W1.cell? ⟨w.heap.size, 15 + j, none⟩ = some (.int .u8 ((k.tag[j]'(by rw [HK.out.t]; exact hj)).toNat : Int))) := fun j hj => by rw [cell_blk HG0.out]; exact kC_tag HK.out j hj
 clear h0 h1 h2
 go_upto_region 2 with (first
   | ((with_reducible refine gate_ld 24 _ rfl ?_); refine wl_ldr rfl _ _ rfl w.heap.size 3 (bC k.name).toList _ Tryz.underlying24 rfl (by rw [info23]; simp [bC, HK.out.n]) rfl HNm.out ?_)
   | ((with_reducible refine gate_bd 44 _ rfl ?_); refine wl_bd rfl 44 [(0, .tmp 7), (1, .tmp 10), (2, .tmp 13), (3, .tmp 15)] rfl _ rfl (rK k 0) (built_rK k HK.out) ?_)
   | ((with_reducible refine gate_st 44 _ _ rfl ?_); refine wl_strn rfl 44 _ _ rfl (rK k 0) _ _ (by rw [sizRK, rK_size HK.out 0 (by omega)]) (by rw [rK_size HK.out 0 (by omega)]; rfl) (rK_one k 0) rfl rfl ?_))
 go_wp2_with fail
 clear c0 c1 c2 HNm b0 b1 b2 k0 k1 k2
 go_loopw [4] (fun i wr => ∃ j : Nat, j ≤ 10 ∧ i = .int .i64 j ∧ wr = W1.alloc (.cells (rK k j) 44)) (fun i _ => 10 - (intOf i).toNat)
 case atStart => exact ⟨0, by omega, rfl, rfl⟩
 case round =>
   obtain ⟨j, hj, rfl, rfl⟩ := hrel
   by_cases hl : j < 10
   · obtain ⟨tb, hjt, hct⟩ : ∃ tb : UInt8, (rK k j).setIfInBounds (15 + j) (.int .u8 (tb.toNat : Int)) = rK k (j + 1) ∧ W1.cell? ⟨w.heap.size, 15 + j, none⟩ = some (.int .u8 (tb.toNat : Int)) := ⟨_, rK_next HK.out j hl, HCt.out j hl⟩
     have HJ := Lib.hid hjt
     have hold := rK_old HK.out j hl
     clear HCt hjt
     have bt := byte_lt tb
     rcases (show j = 0 ∨ j = 1 ∨ j = 2 ∨ j = 3 ∨ j = 4 ∨ j = 5 ∨ j = 6 ∨ j = 7 ∨ j = 8 ∨ j = 9 by omega) with rfl | rfl | rfl | rfl | rfl | rfl | rfl | rfl | rfl | rfl
     all_goals
       simp only [Nat.reduceAdd] at hct hold HJ
       go_wp2_with fail
       go_roundw
       case rel => first | exact ⟨1, by omega, rfl, by rw [HJ.out]⟩ | exact ⟨2, by omega, rfl, by rw [HJ.out]⟩ | exact ⟨3, by omega, rfl, by rw [HJ.out]⟩ | exact ⟨4, by omega, rfl, by rw [HJ.out]⟩ | exact ⟨5, by omega, rfl, by rw [HJ.out]⟩ | exact ⟨6, by omega, rfl, by rw [HJ.out]⟩ | exact ⟨7, by omega, rfl, by rw [HJ.out]⟩ | exact ⟨8, by omega, rfl, by rw [HJ.out]⟩ | exact ⟨9, by omega, rfl, by rw [HJ.out]⟩ | exact ⟨10, by omega, rfl, by rw [HJ.out]⟩
       case measure => simp [intOf]
   · obtain rfl : j = 10 := by omega
     go_wp2_with (first
       | ((with_reducible refine gate_ld 44 _ rfl ?_); refine wl_ldr rfl _ _ rfl W1.heap.size 0 (rK k 10).toList _ Tryz.underlying44 rfl (by rw [sizRK]; simp [rK_size HK.out 10 (by omega)]) rfl (range_whole (by simpa using heap_alloc_new W1 (.cells (rK k 10) 44))) ?_)
       | ((with_reducible refine gate_st 44 _ _ rfl ?_); refine wl_str rfl 44 _ _ rfl (w.heap.size + 1) (rK k 10) zz _ (by rw [sizRK, rK_size HK.out 10 (by omega)]) (by rw [rK_size HK.out 10 (by omega), HZs.out]) (rK_one k 10) rfl rfl (by rw [heap_alloc_old _ _ hlt1]; exact HG1.out) ?_))
     refine bodyPost_ret (res_rowc (P := Tryz.prog) (T := 44) (T' := 44) rfl _ _ (w.heap.size + 1) (rK k 10) (0, 0) rfl (setRow_at (old := zz) (by rw [heap_alloc_old _ _ hlt1]; exact HG1.out)) Tryz.underlying44 rfl (by rw [sizRK, rK_size HK.out 10 (by omega)])) rfl ⟨rfl, setRow_below (HB1.out.alloc (by omega) _) (by omega) _⟩
end Go.Proofs.YtbfefdedjcppaaaGreatDoor

/- The law's Tag of chapter 19: a tag's ten bytes; small laws for regions that keep the text's order. -/
namespace Go.Proofs.YtbfefdedjcppaaaGreatDoor
set_option maxRecDepth 100000
set_option maxHeartbeats 2000000
open Go.RowKit
section
variable {ops : Array Oper} {rest : List Oper} {o : Oper} {a : Act} {w : World} {Q : Exit → Act → World → Prop}
theorem wl_val (hw : Region.wanted o (yielded ops a.tmps) = true) (v : Value) (hr : (execOp a.eval o).run Tryz.prog w = .ok (.value v) w) (h : wpList Tryz.prog ops Q rest (a.put o.dst v) w) : wpList Tryz.prog ops Q (o :: rest) a w :=
 wpList_step fun _ hK => by
   rw [if_pos hw]
   unfold Oper.wp
   rw [hr]
   exact hK _ _ h
theorem gate_val (f : Oper → Bool) (_ : f o = true) (h : wpList Tryz.prog ops Q (o :: rest) a w) : wpList Tryz.prog ops Q (o :: rest) a w := h
theorem wl_strG {P : Program} {ops : Array Oper} {rest : List Oper} {o : Oper} {a : Act} {w : World} {Q : Exit → Act → World → Prop} (hgd : o.guard = none) (T : TypeId) (x y : Operand) (ho : o.op = .store T x y) (g : Nat) (cs old : Array Value) (T' : TypeId)
   (hi : (P.info? T).map (·.size) = some cs.size) (hs : cs.size = old.size) (h1 : cs.all (·.oneCell') = true) (hx : a.eval x = .pointer (some ⟨g, 0, none⟩)) (hy : a.eval y = .agg cs) (hg : w.heap[g]? = some (.cells old T' (0, 0)))
   (h : ∀ w', w'.heap[g]? = some (.cells cs T' (0, 0)) → Turn [g] w w' → wpList P ops Q rest (a.put o.dst undef) w') : wpList P ops Q (o :: rest) a w :=
 wpList_store_row hgd T x y ho g cs hx hy T' old hg hi hs.symm h1 (h _ (setRow_at hg) ⟨rfl, rfl, rfl, by simp, fun b _ hr => setRow_other _ _ _ _ (by simpa using hr)⟩)
end
section
variable {W : World} {P : Program} {ops : Array Oper} {Q : Act → Prop} {a : Act} {o : Oper} {rest : List Oper}
theorem wq_bd (C : World → Prop) (hw : Region.wanted o (yielded ops a.tmps) = true) (t : TypeId) (parts : List (Nat × Operand)) (ho : o.op = .build t parts.toArray)
   (vs : List (Nat × Value)) (hv : parts.map (fun p => (p.1, a.eval p.2)) = vs) (cells : Array Value) (hf : P.built t vs = some cells)
   (h : wpQuiet P ops C Q rest (a.put o.dst (.agg cells))) : wpQuiet P ops C Q (o :: rest) a := by
 refine wq_val (.agg cells) hw (fun w => ?_) h
 have e : (parts.toArray.map fun (i, x) => (i, a.eval x)).toList = vs := by rw [← hv]; simp
 unfold execOp
 simp only [ho, Sem.run_bind]
 rw [run_build w t _ cells (by rw [e]; exact hf)]
 rfl
theorem wq_one (hw : Region.wanted o (yielded ops a.tmps) = true) (T : TypeId) (x : Operand) (ho : o.op = .load T x) (b i : Nat) (v : Value) (hag : ∀ w, (isAgg T).run P w = .ok false w)
   (hx : a.eval x = .pointer (some ⟨b, i, none⟩)) (hc : W.cell? ⟨b, i, none⟩ = some v) (hb : b < W.heap.size)
   (h : wpQuiet P ops (fun w' => ∃ p : Regrown, w' = Sort.grow (redrawn W p.d) p.os) Q rest (a.put o.dst v)) : wpQuiet P ops (fun w' => ∃ p : Regrown, w' = Sort.grow (redrawn W p.d) p.os) Q (o :: rest) a := by
 refine wq_valC v hw (fun w hC => ?_) h
 obtain ⟨⟨dq, osq⟩, rfl⟩ := hC
 have hq : (Sort.grow (redrawn W dq) osq).cell? ⟨b, i, none⟩ = some v := (cell_of ((below_regrown W dq osq).block b hb) i).trans hc
 unfold execOp
 simp only [ho, hx, Sem.run_bind]
 simp [go_sem, hag, hq]
end
def k0T (t : List UInt8) : K5 := ⟨0, 0, 0, z12, t⟩
theorem k0T_ok {t : List UInt8} (h : t.length = 10) : (k0T t).ok := ⟨rfl, h⟩
theorem ten (l : List UInt8) (h : l.length = 10) : ∃ a b c d e f g i j k, l = [a, b, c, d, e, f, g, i, j, k] := by
 match l, h with
 | [a, b, c, d, e, f, g, i, j, k], _ => exact ⟨a, b, c, d, e, f, g, i, j, k, rfl⟩
theorem built_kT (t : List UInt8) (h : t.length = 10) : Tryz.prog.built 32 [(4, .agg (bC t))] = some (kC (k0T t)) := by
 obtain ⟨a, b, c, d, e, f, g, i, j, k, rfl⟩ := ten t h
 kernel_rfl
theorem run_fT (t : List UInt8) (h : t.length = 10) (w : World) : (Instr.field 44 (.agg (rK (k0T t) 10)) 4).run Tryz.prog w = .ok (.agg (bC t)) w := by
 obtain ⟨a, b, c, d, e, f, g, i, j, k, rfl⟩ := ten t h
 kernel_rfl
theorem exec_fT {o : Oper} {a : Act} {w : World} (x : Operand) (ho : o.op = .field 44 x 4) (t : List UInt8) (h : t.length = 10) (hx : a.eval x = .agg (rK (k0T t) 10)) : (execOp a.eval o).run Tryz.prog w = .ok (.value (.agg (bC t))) w := by
 unfold execOp
 simp only [ho, hx, Sem.run_bind, run_fT t h, Result.andThen_ok, Sem.run_pure]
def isF (T : TypeId) (n : Nat) (o : Oper) : Bool := match o.op with | .field t _ m => t == T && m == n | _ => false
theorem sizTag19 : (Tryz.prog.info? 28).map (·.size) = some 10 := by kernel_rfl
theorem sizT10 : (Tryz.prog.info? 40).map (·.size) = some 10 := by kernel_rfl
def z10c : Array Value := #[.int .u8 0, .int .u8 0, .int .u8 0, .int .u8 0, .int .u8 0, .int .u8 0, .int .u8 0, .int .u8 0, .int .u8 0, .int .u8 0]
theorem tag19_any (t : List UInt8) (ht : t.length = 10) (w : World) : Calls Tryz.prog 63 #[.agg (bC t)] w fun e w' => e = .returned (.agg (bC t)) ∧ Below w.heap.size w w' := by
 have HG0 : Hid (((w.alloc (.cells (bC t) 28)).alloc (.cells z10c 40)).heap[w.heap.size]? = some (.cells (bC t) 28 (0, 0))) := heap_alloc2_old _ _ _
 have HG1 : Hid (((w.alloc (.cells (bC t) 28)).alloc (.cells z10c 40)).heap[w.heap.size + 1]? = some (.cells z10c 40 (0, 0))) := heap_alloc2_new _ _ _
 have HB1 : Hid (Below w.heap.size w ((w.alloc (.cells (bC t) 28)).alloc (.cells z10c 40))) := below_alloc2 _ _ _
 have HTl := Lib.hid ht
 clear ht
 go_enter Tryz.func63, Tryz.ntmps63
 go_upto_region 1 with fail
 rw [show (Obj.cells #[.int .u8 0, .int .u8 0, .int .u8 0, .int .u8 0, .int .u8 0, .int .u8 0, .int .u8 0, .int .u8 0, .int .u8 0, .int .u8 0] 40) = Obj.cells z10c 40 from rfl]
 generalize (w.alloc (.cells (bC t) 28)).alloc (.cells z10c 40) = W1 at *
 have HR := Lib.hid (range_whole (vs := (bC t).toList) HG0.out)
 have KO := Lib.hid (of06_any (k0T t) W1 (k0T_ok HTl.out))
 go_wp2_with (first
   | ((with_reducible refine gate_ld 28 _ rfl ?_); refine wl_ldr rfl _ _ rfl w.heap.size 0 (bC t).toList _ Tryz.underlying28 rfl (by rw [sizTag19]; simp [bC, HTl.out]) rfl HR.out ?_)
   | ((with_reducible refine gate_bd 32 _ rfl ?_); refine wl_bd rfl _ [(4, .tmp 3)] rfl [(4, .agg (bC t))] rfl (kC (k0T t)) (built_kT t HTl.out) ?_)
   | (go_at_call 38; (refine KO.out.mono ?_); rintro e W2 ⟨rfl, hb2⟩; have HB2 := Lib.hid (HB1.out.trans (hb2.mono HB1.out.size)); have HG2 := Lib.hid ((hb2.block _ (lt_heap HG1.out)).trans HG1.out); clear hb2)
   | ((with_reducible refine gate_val (isF 44 4) rfl ?_); refine wl_val rfl (.agg (bC t)) (exec_fT _ rfl t HTl.out rfl) ?_)
   | ((with_reducible refine gate_st 40 _ _ rfl ?_); refine wl_strG rfl 40 _ _ rfl (w.heap.size + 1) (bC t) z10c 40 (by rw [sizT10, bC_size, HTl.out]) (by rw [bC_size, HTl.out]; rfl) (bC_one t) rfl rfl HG2.out (fun W3 h1 h2 => ?_); have HG3 := Lib.hid h1; have HB3 := Lib.hid (HB2.out.trans (h2.below (B := w.heap.size) (fun k hk => by simp at hk; omega) HB2.out.size)); clear h1 h2))
 refine bodyPost_ret (res_rowc (P := Tryz.prog) (T := 40) (T' := 40) rfl _ _ (w.heap.size + 1) (bC t) (0, 0) rfl HG3.out Tryz.underlying40 rfl (by rw [sizT10, bC_size, HTl.out])) rfl ⟨rfl, HB3.out⟩
end Go.Proofs.YtbfefdedjcppaaaGreatDoor

/- Small numbers: their bytes, read and written. Plain. -/
namespace Go.Proofs.YtbfefdedjcppaaaGreatDoor
def byteC (b : UInt8) : List Value := [.int .u8 (b.toNat : Int)]
theorem byteC_len (b : UInt8) : (byteC b).length = 1 := rfl
theorem byteC_one (b : UInt8) : ∀ u ∈ byteC b, u.oneCell' = true := fun u hu => by
 simp only [byteC, List.mem_singleton] at hu
 rw [hu]; rfl
theorem byteC_flat (l : List UInt8) : l.flatMap byteC = (bC l).toList := by
 induction l with
 | nil => rfl
 | cons b l ih => rw [List.flatMap_cons, ih]; simp [byteC, bC]
def rsGo : Nat → Nat → List UInt8 → Nat × Nat × Nat
 | _, _, [] => (0, 0, 4)
 | i, n, x :: r =>
   if (i = 9 ∧ 1 < x.toNat) ∨ (0 < i ∧ x.toNat = 0) then (0, 0, 3)
   else if x.toNat < 128 then (n + x.toNat % 128 * 128 ^ i, i + 1, 0)
   else rsGo (i + 1) (n + x.toNat % 128 * 128 ^ i) r
def readS (l : List UInt8) : Nat × Nat × Nat := rsGo 0 0 l
def small (n : Nat) : List UInt8 := if h : n < 128 then [UInt8.ofNat n] else UInt8.ofNat (n % 128 + 128) :: small (n / 128)
termination_by n
decreasing_by omega
theorem small_lt {n : Nat} (h : n < 128) : small n = [UInt8.ofNat n] := by rw [small, dif_pos h]
theorem small_ge {n : Nat} (h : 128 ≤ n) : small n = UInt8.ofNat (n % 128 + 128) :: small (n / 128) := by rw [small, dif_neg (by omega)]
theorem small_pos (n : Nat) : 0 < (small n).length := by
 rcases Nat.lt_or_ge n 128 with h | h
 · rw [small_lt h]; simp
 · rw [small_ge h]; simp
theorem small_len : ∀ (k n : Nat), n < 128 ^ (k + 1) → (small n).length ≤ k + 1
 | k, n, h => by
   rcases Nat.lt_or_ge n 128 with h1 | h1
   · rw [small_lt h1]; simp
   · rw [small_ge h1, List.length_cons]
     match k with
     | 0 => omega
     | k + 1 =>
       have : n / 128 < 128 ^ (k + 1) := by rw [Nat.div_lt_iff_lt_mul (by omega)]; rw [Nat.pow_succ] at h; exact h
       have := small_len k (n / 128) this
       omega
theorem ofNat_toNat {n : Nat} (h : n < 256) : (UInt8.ofNat n).toNat = n := by simp [Nat.mod_eq_of_lt h]
theorem rs_small : ∀ (n i a : Nat) (r : List UInt8), n * 128 ^ i < 2 ^ 64 → (0 < i → 0 < n) → i ≤ 9 → rsGo i a (small n ++ r) = (a + n * 128 ^ i, i + (small n).length, 0)
 | n, i, a, r, h, h0, h9 => by
   rcases Nat.lt_or_ge n 128 with h1 | h1
   · rw [small_lt h1]
     simp only [List.singleton_append, rsGo, ofNat_toNat (show n < 256 by omega)]
     have hn9 : ¬ ((i = 9 ∧ 1 < n) ∨ (0 < i ∧ n = 0)) := by
       rintro (⟨rfl, h2⟩ | ⟨h2, rfl⟩)
       · have : 2 * 128 ^ 9 ≤ n * 128 ^ 9 := Nat.mul_le_mul_right _ h2
         omega
       · exact absurd (h0 h2) (by omega)
     rw [if_neg hn9, if_pos h1, Nat.mod_eq_of_lt h1]
     simp
   · rw [small_ge h1, List.cons_append]
     have hx : (UInt8.ofNat (n % 128 + 128)).toNat = n % 128 + 128 := ofNat_toNat (by omega)
     simp only [rsGo, hx]
     have hi : i < 9 := by
       apply Classical.byContradiction; intro hc
       obtain rfl : i = 9 := by omega
       have : 128 * 128 ^ 9 ≤ n * 128 ^ 9 := Nat.mul_le_mul_right _ h1
       omega
     rw [if_neg (by omega), if_neg (by omega), show (n % 128 + 128) % 128 = n % 128 by omega]
     have hd : n / 128 * 128 ^ (i + 1) ≤ n * 128 ^ i := by
       rw [Nat.pow_succ, Nat.mul_comm (128 ^ i) 128, ← Nat.mul_assoc]
       exact Nat.mul_le_mul_right _ (Nat.div_mul_le_self n 128)
     rw [rs_small (n / 128) (i + 1) _ r (by omega) (fun _ => by omega) (by omega)]
     have e : n % 128 * 128 ^ i + n / 128 * 128 ^ (i + 1) = n * 128 ^ i := by
       rw [Nat.pow_succ, Nat.mul_comm (128 ^ i) 128, ← Nat.mul_assoc, ← Nat.add_mul]
       congr 1
       omega
     rw [Nat.add_assoc, e, List.length_cons]
     simp only [Prod.mk.injEq, true_and, and_true]
     omega
termination_by n => n
theorem read_small {n : Nat} (h : n < 2 ^ 64) (r : List UInt8) : readS (small n ++ r) = (n, (small n).length, 0) := by
 have := rs_small n 0 0 r (by simpa using h) (by omega) (by omega)
 simpa [readS] using this
theorem rs_back : ∀ (l : List UInt8) (i a n k : Nat), a < 128 ^ i → i ≤ 9 → rsGo i a l = (n, k, 0) → ∃ m j, n = a + m * 128 ^ i ∧ k = i + j ∧ 0 < j ∧ j ≤ l.length ∧ l.take j = small m ∧ (0 < i → 0 < m) ∧ n < 2 ^ 64
 | [], i, a, n, k, _, _, h => by simp [rsGo] at h
 | x :: l, i, a, n, k, ha, h9, h => by
   simp only [rsGo] at h
   by_cases hb : (i = 9 ∧ 1 < x.toNat) ∨ (0 < i ∧ x.toNat = 0)
   · rw [if_pos hb] at h; simp at h
   · rw [if_neg hb] at h
     have hx : UInt8.ofNat x.toNat = x := by simp
     by_cases h1 : x.toNat < 128
     · rw [if_pos h1, Nat.mod_eq_of_lt h1] at h
       simp only [Prod.mk.injEq, and_true] at h
       obtain ⟨rfl, rfl⟩ := h
       refine ⟨x.toNat, 1, rfl, rfl, by omega, by simp, ?_, fun hi => ?_, ?_⟩
       · rw [small_lt h1, hx]; rfl
       · rcases Nat.eq_zero_or_pos x.toNat with h0 | h0
         · exact absurd (.inr ⟨hi, h0⟩) hb
         · exact h0
       · rcases Nat.lt_or_ge i 9 with h2 | h2
         · have h3 : 128 ^ i ≤ 128 ^ 8 := Nat.pow_le_pow_right (by omega) (by omega)
           have h4 : x.toNat * 128 ^ i ≤ 127 * 128 ^ i := Nat.mul_le_mul_right _ (by omega)
           omega
         · obtain rfl : i = 9 := by omega
           have h5 : x.toNat ≤ 1 := by
             apply Nat.le_of_not_lt; intro hc; exact hb (.inl ⟨rfl, hc⟩)
           have h4 : x.toNat * 128 ^ 9 ≤ 1 * 128 ^ 9 := Nat.mul_le_mul_right _ h5
           omega
     · rw [if_neg h1] at h
       have hx256 := x.toNat_lt
       have hi : i < 9 := by
         apply Classical.byContradiction; intro hc
         exact hb (.inl ⟨by omega, by omega⟩)
       have ha2 : a + x.toNat % 128 * 128 ^ i < 128 ^ (i + 1) := by
         have : (x.toNat % 128 + 1) * 128 ^ i ≤ 128 * 128 ^ i := Nat.mul_le_mul_right _ (by omega)
         rw [Nat.pow_succ, Nat.mul_comm (128 ^ i) 128]
         rw [Nat.add_mul, Nat.one_mul] at this
         omega
       obtain ⟨m, j, e1, e2, e3, e4, e5, e6, e7⟩ := rs_back l (i + 1) _ n k ha2 (by omega) h
       refine ⟨x.toNat % 128 + m * 128, j + 1, ?_, by omega, by omega, by simp; omega, ?_, fun _ => ?_, e7⟩
       · rw [e1, Nat.pow_succ, Nat.add_mul, Nat.mul_comm (128 ^ i) 128, Nat.mul_assoc, Nat.add_assoc]
       · have hm := e6 (by omega)
         rw [small_ge (by omega), List.take_succ_cons, e5]
         congr 1
         · rw [← UInt8.toNat_inj, ofNat_toNat (by omega)]; omega
         · rw [show (x.toNat % 128 + m * 128) / 128 = m by omega]
       · have := e6 (by omega); omega
theorem back_small {l : List UInt8} {n k : Nat} (h : readS l = (n, k, 0)) : l.take k = small n ∧ 0 < k ∧ k ≤ l.length ∧ n < 2 ^ 64 := by
 obtain ⟨m, j, e1, e2, e3, e4, e5, _, e7⟩ := rs_back l 0 0 n k (by simp) (by omega) h
 simp only [Nat.zero_add, Nat.pow_zero, Nat.mul_one] at e1 e2
 subst e1; subst e2
 exact ⟨e5, e3, e4, e7⟩
end Go.Proofs.YtbfefdedjcppaaaGreatDoor

/- digit.ReadSmall, and the document's. -/
namespace Go.Proofs.YtbfefdedjcppaaaGreatDoor
set_option maxRecDepth 100000
set_option maxHeartbeats 4000000
open Go.RowKit
theorem rs_step {l : List UInt8} {k : Nat} (hk : k < l.length) (n : Nat) : rsGo k n (l.drop k) = if (k = 9 ∧ 1 < l[k].toNat) ∨ (0 < k ∧ l[k].toNat = 0) then (0, 0, 3) else if l[k].toNat < 128 then (n + l[k].toNat % 128 * 128 ^ k, k + 1, 0) else rsGo (k + 1) (n + l[k].toNat % 128 * 128 ^ k) (l.drop (k + 1)) := by
 rw [List.drop_eq_getElem_cons hk]; rfl
theorem and127 (x : Nat) (h : x < 256) : bits .and .u8 (x : Int) 127 = ((x % 128 : Nat) : Int) := by
 have : ∀ x : Fin 256, bits .and .u8 (x.val : Int) 127 = ((x.val % 128 : Nat) : Int) := by decide +kernel
 exact this ⟨x, h⟩
theorem or128 (x : Nat) (h : x < 256) : bits .or .u8 (x : Int) 128 = ((x % 128 + 128 : Nat) : Int) := by
 have : ∀ x : Fin 256, bits .or .u8 (x.val : Int) 128 = ((x.val % 128 + 128 : Nat) : Int) := by decide +kernel
 exact this ⟨x, h⟩
theorem wrap64 {n : Nat} (h : n < 2 ^ 64) : IntKind.u64.wrap (n : Int) = n := by
 rw [IntKind.wrap_u64]; omega
theorem rs_bits {a x k : Nat} (ha : a < 128 ^ k) (hx : x < 256) (hk : k ≤ 9) (hl : k = 9 → x ≤ 1) :
   bits .or .u64 (a : Int) (IntKind.u64.wrap (IntKind.u64.wrap (bits .and .u8 (x : Int) 127) * 2 ^ (7 * k))) = ((a + x % 128 * 128 ^ k : Nat) : Int) := by
 have e : (2 : Nat) ^ (7 * k) = 128 ^ k := by rw [Nat.pow_mul]
 have h3 : x % 128 * 128 ^ k + a < 2 ^ 64 := by
   rcases Nat.lt_or_ge k 9 with h | h
   · have h1 : 128 ^ (k + 1) ≤ 128 ^ 9 := Nat.pow_le_pow_right (by omega) (by omega)
     have h2 : (x % 128 + 1) * 128 ^ k ≤ 128 * 128 ^ k := Nat.mul_le_mul_right _ (by omega)
     rw [Nat.pow_succ] at h1
     rw [Nat.add_mul] at h2
     omega
   · obtain rfl : k = 9 := by omega
     have h2 : x % 128 * 128 ^ 9 ≤ 1 * 128 ^ 9 := Nat.mul_le_mul_right _ (by have := hl rfl; omega)
     omega
 rw [and127 x hx, wrap64 (by omega)]
 have e2 : (((x % 128 : Nat) : Int) * 2 ^ (7 * k)) = ((x % 128 * 128 ^ k : Nat) : Int) := by rw [← e]; push_cast; rfl
 rw [e2, wrap64 (by omega), bits_or_u64_nat a _ (by omega) (by omega)]
 congr 1
 rw [Nat.or_comm, ← e, Nat.mul_comm (x % 128), ← Nat.two_pow_add_eq_or_of_lt (by rw [e]; exact ha)]
 omega
theorem readSmall_any (q : Option Addr) (l : List UInt8) (n cap : Nat) (w : World) (hn : l.length = n) (hc : n ≤ cap) (hm : cap ≤ maxLen) (hq : SlAt byteC 1 w q l) :
   Calls Tryz.prog 95 #[.slice q n cap] w fun e w' => e = .returned (.tuple #[.int .u64 ((readS l).1 : Nat), .int .i64 ((readS l).2.1 : Nat), .int .i64 ((readS l).2.2 : Nat)]) ∧ w = w' := by
 unfold maxLen at hm
 have HQ := Lib.hid hq
 have HN := Lib.hid hn
 clear hq hn
 go_enter Tryz.func95, Tryz.ntmps95
 go_wp2_with fail
 go_step3
 go_wp2_with fail
 go_step3
 go_wp2_with fail
 go_loop [5, 7, 12] (fun v y i => ∃ k a : Nat, k ≤ n ∧ k ≤ 9 ∧ i = .int .i64 k ∧ v = .int .u64 a ∧ y = .int .i64 4 ∧ Hid (a < 128 ^ k) ∧ Hid (readS l = rsGo k a (l.drop k))) (fun _ _ i => n - (intOf i).toNat)
 case atStart => exact ⟨0, 0, Nat.zero_le _, Nat.zero_le _, rfl, rfl, rfl, by show (0 : Nat) < 128 ^ 0; omega, rfl⟩
 case round =>
   obtain ⟨k, a, hk, hk9, rfl, rfl, rfl, HA, HR⟩ := hrel
   by_cases hlt : k < n
   · have hlt' : (k : Int) < n := by omega
     have hk2 : k < l.length := by rw [HN.out]; exact hlt
     obtain ⟨b, ob, rfl, hb, hr⟩ := HQ.out k hk2
     have hcx : w.cell? ⟨b, ob + k, none⟩ = some (.int .u8 (l[k].toNat : Int)) := by simpa using hr 0 _ rfl
     have HST := Lib.hid (rs_step hk2 a)
     have hx256 := l[k].toNat_lt
     clear hr
     generalize l[k].toNat = x at *
     by_cases hbad : (k = 9 ∧ 1 < x) ∨ (0 < k ∧ x = 0)
     · have HF : Hid (readS l = (0, 0, 3)) := by rw [HR.out]; show _ = _; rw [HST.out, if_pos hbad]
       by_cases h9 : k = 9 ∧ 1 < x
       · have hk9b : ((k : Int) == 9) = true := by simp; omega
         have hx1 : (1 : Int) < x := by omega
         clear hbad h9
         go_wp2_with fail
         rw [HF.out]
         refine bodyPost_ret (results_tmp3 rfl _ _ _) rfl ?_
         exact ⟨rfl, rfl⟩
       · have hk0b : (0 : Int) < k := by omega
         have hx0b : ((x : Int) == 0) = true := by simp; omega
         by_cases hk9 : k = 9
         · have hk9b : ((k : Int) == 9) = true := by simp; omega
           have hx1 : ¬ (1 : Int) < x := by omega
           clear hbad h9 hk9
           go_wp2_with fail
           rw [HF.out]
           refine bodyPost_ret (results_tmp3 rfl _ _ _) rfl ?_
           exact ⟨rfl, rfl⟩
         · have hk9b : ((k : Int) == 9) = false := by simp; omega
           clear hbad h9 hk9
           go_wp2_with fail
           rw [HF.out]
           refine bodyPost_ret (results_tmp3 rfl _ _ _) rfl ?_
           exact ⟨rfl, rfl⟩
     · rw [if_neg hbad] at HST
       have HB := Lib.hid (rs_bits HA.out hx256 hk9 (fun h => by omega))
       have HA2 : Hid (x < 128 ∨ k < 9) := by show _ ∨ _; omega
       have HA3 : Hid (a + x % 128 * 128 ^ k < 128 ^ (k + 1)) := by
         have h1 := HA.out
         have h2 : (x % 128 + 1) * 128 ^ k ≤ 128 * 128 ^ k := Nat.mul_le_mul_right _ (by omega)
         show _ < _
         rw [Nat.pow_succ, Nat.mul_comm (128 ^ k) 128]
         rw [Nat.add_mul] at h2
         omega
       have hq1 : ((k : Int) == 9) = false ∨ (((k : Int) == 9) = true ∧ ¬ (1 : Int) < x) := by
         by_cases h : k = 9
         · exact .inr ⟨by simp; omega, by omega⟩
         · exact .inl (by simp; omega)
       have hq2 : ¬ (0 : Int) < k ∨ ((0 : Int) < k ∧ ((x : Int) == 0) = false) := by
         by_cases h : k = 0
         · exact .inl (by omega)
         · exact .inr ⟨by omega, by simp; omega⟩
       clear hbad
       by_cases h128 : x < 128
       · have h128' : (x : Int) < 128 := by omega
         have HF : Hid (readS l = (a + x % 128 * 128 ^ k, k + 1, 0)) := by rw [HR.out]; show _ = _; rw [HST.out, if_pos h128]
         clear h128 HST HA HA2 HA3
         rcases hq1 with hk9b | ⟨hk9b, hx1⟩
         all_goals
           rcases hq2 with hk0b | ⟨hk0b, hx0b⟩
           all_goals
             go_upto_region 11 with fail
             rw [HB.out]
             generalize a + x % 128 * 128 ^ k = a2 at *
             go_wp2_with fail
             rw [HF.out]
             refine bodyPost_ret (results_tmp3 rfl _ _ _) rfl ?_
             first | exact ⟨rfl, rfl⟩ | exact ⟨by go_num, rfl⟩
       · have h128' : ¬ (x : Int) < 128 := by omega
         have HF : Hid (readS l = rsGo (k + 1) (a + x % 128 * 128 ^ k) (l.drop (k + 1))) := by rw [HR.out]; show _ = _; rw [HST.out, if_neg h128]
         have HK : Hid (k < 9) := by have := HA2.out; show k < 9; omega
         have hk9b : ((k : Int) == 9) = false := by have := HK.out; simp; omega
         clear h128 HST HA HA2 hq1
         rcases hq2 with hk0b | ⟨hk0b, hx0b⟩
         all_goals
           go_upto_region 11 with fail
           rw [HB.out]
           generalize a + x % 128 * 128 ^ k = a2 at *
           go_wp2_with fail
           go_round
           case rel => exact ⟨k + 1, a2, by omega, HK.out, by go_num, rfl, rfl, HA3.out, HF.out⟩
           case measure => simp [intOf]; omega
   · obtain rfl : k = n := by omega
     have HF : Hid (readS l = (0, 0, 4)) := by rw [HR.out, List.drop_eq_nil_of_le (by rw [HN.out]; omega)]; rfl
     go_wp2_with fail
     rw [HF.out]
     refine bodyPost_ret (results_tmp3 rfl _ _ _) rfl ?_
     exact ⟨rfl, rfl⟩
end Go.Proofs.YtbfefdedjcppaaaGreatDoor

/- The document's ReadSmall. -/
namespace Go.Proofs.YtbfefdedjcppaaaGreatDoor
open Go.RowKit
end Go.Proofs.YtbfefdedjcppaaaGreatDoor

/- wire.Reader: what it looks like; the closures that find a field. -/
namespace Go.Proofs.YtbfefdedjcppaaaGreatDoor
set_option maxRecDepth 100000
set_option maxHeartbeats 4000000
open Go.RowKit
structure RdAt (w : World) (B br : Nat) (l : List UInt8) (er : Nat) : Prop where
 lt : br < B
 le : B ≤ w.heap.size
 at_ : ∃ q n cap, w.heap[br]? = some (.cells #[.slice q n cap, .int .i64 (er : Int)] 153 (0, 0)) ∧ l.length = n ∧ n ≤ cap ∧ cap ≤ maxLen ∧ SlAt byteC 1 w q l ∧ ∀ a, q = some a → a.block < B ∧ a.block ≠ br
theorem RdAt.below {w w' : World} {B br er : Nat} {l : List UInt8} (h : RdAt w B br l er) (hb : Below B w w') : RdAt w' B br l er := by
 obtain ⟨h1, h2, q, n, cap, h3, h4, h5, h6, h7, h8⟩ := h
 exact ⟨h1, Nat.le_trans h2 hb.size, q, n, cap, (hb.block br h1).trans h3, h4, h5, h6, h7.belowB hb fun a e => (h8 a e).1, h8⟩
theorem cell1 {w : World} {b : Nat} {v : Value} {T : TypeId} (h : w.heap[b]? = some (.cells #[v] T (0, 0))) : w.cell? ⟨b, 0, none⟩ = some v ∧ w.frozen? ⟨b, 0, none⟩ = false := by
 constructor
 · rw [cell_blk h]; rfl
 · simp [World.frozen?, h]
theorem set1 {w : World} {b : Nat} {v : Value} {T : TypeId} (u : Value) (h : w.heap[b]? = some (.cells #[v] T (0, 0))) : (w.setCell ⟨b, 0, none⟩ u).heap[b]? = some (.cells #[u] T (0, 0)) := heap_setCell_self u h
theorem or0 (x : Nat) (h : x < 256) : bits .or .u64 0 (x : Int) = (x : Int) := by
 have := bits_or_u64_nat 0 x (by omega) (by omega)
 rw [Nat.zero_or] at this
 exact this
def Found (bn : Nat) (T : TypeId) (o : Value) (n : Nat) (k er : Nat) (w : World) (e : Ending) (w' : World) : Prop :=
 e = .returned (.tuple #[.int .i64 k, .int .i64 er]) ∧ k ≤ n ∧ Turn [bn] w w' ∧ w'.heap[bn]? = some (.cells #[o] T (0, 0))
def byteV (l : List UInt8) : Nat := match l with | [] => 0 | x :: _ => x.toNat
def byteE (l : List UInt8) : Nat := match l with | [] => 4 | _ => 0
def byteK (l : List UInt8) : Nat := match l with | [] => 0 | _ => 1
theorem fixed1_any (q : Option Addr) (l : List UInt8) (n cap bs bn : Nat) (w : World) (hn : l.length = n) (hc : n ≤ cap) (hm : cap ≤ maxLen) (hq : SlAt byteC 1 w q l)
   (hs : w.heap[bs]? = some (.cells #[.int .i64 1] 3 (0, 0))) (hv : w.heap[bn]? = some (.cells #[.int .u64 0] 60 (0, 0))) (hne : bs ≠ bn) (hbn : ∀ a, q = some a → a.block ≠ bn) :
   Calls Tryz.prog 119 #[.slice q n cap, .pointer (some ⟨bs, 0, none⟩), .pointer (some ⟨bn, 0, none⟩)] w (Found bn 60 (.int .u64 (byteV l : Nat)) n (byteK l) (byteE l) w) := by
 unfold maxLen at hm
 obtain ⟨hs1, _⟩ := cell1 hs
 obtain ⟨hv1, hv2⟩ := cell1 hv
 have HS := Lib.hid hs
 have HV := Lib.hid hv
 clear hs hv
 cases l with
 | nil =>
   obtain rfl : 0 = n := hn
   go_enter Tryz.func119, Tryz.ntmps119
   go_wp2_with fail
   refine bodyPost_ret (results_tmp2 rfl _ _ _) rfl ?_
   exact ⟨rfl, Nat.le_refl _, Turn.refl _ _, HV.out⟩
 | cons x r =>
   obtain ⟨b, ob, rfl, hb, hr⟩ := hq 0 (by simp)
   have hcx : w.cell? ⟨b, ob, none⟩ = some (.int .u8 (x.toNat : Int)) := by simpa using hr 0 _ rfl
   have hbb : b ≠ bn := hbn _ rfl
   have hn1 : (1 : Int) ≤ n := by have : (x :: r).length = n := hn; simp at this; omega
   have hn2 : ¬ (n : Int) < 1 := by omega
   have hn3 : (1 : Int) ≤ cap := by omega
   have ho := or0 x.toNat x.toNat_lt
   have HBn : Hid (1 ≤ n) := by show 1 ≤ n; omega
   clear hr hq hn
   go_enter Tryz.func119, Tryz.ntmps119
   go_wp2_with fail
   have hx256 := x.toNat_lt
   have HX : Hid (byteV (x :: r) = x.toNat) := rfl
   generalize x.toNat = xv at *
   go_loopw [16] (fun i wr => ∃ j : Nat, j ≤ 1 ∧ i = .int .i64 j ∧ Hid (j = 0 → wr = w) ∧ Hid (Turn [bn] w wr) ∧ Hid (j = 1 → wr.heap[bn]? = some (.cells #[.int .u64 (xv : Int)] 60 (0, 0)))) (fun i _ => 1 - (intOf i).toNat)
   case atStart => exact ⟨0, Nat.zero_le _, rfl, fun _ => rfl, Turn.refl _ _, fun h => by cases h⟩
   case round =>
     obtain ⟨j, hj, rfl, H0, HT, H1⟩ := hrel
     rcases (by omega : j = 0 ∨ j = 1) with rfl | rfl
     · obtain rfl := H0.out rfl
       go_wp2_with fail
       have hset := set1 (.int .u64 (xv : Int)) HV.out
       go_roundw
       case rel => exact ⟨1, Nat.le_refl _, rfl, (fun h => (by cases h)), Turn.setCell _ _ _ _, fun _ => hset⟩
       case measure => simp [intOf]
     · have hb1 : wr.cell? ⟨bs, 0, none⟩ = some (.int .i64 1) := by
         rw [cell_of (HT.out.block bs (lt_heap HS.out) (by simpa using hne))]; exact hs1
       have HW1 := Lib.hid (H1.out rfl)
       go_wp2_with fail
       refine bodyPost_ret (results_tmp2 rfl _ _ _) rfl ?_
       exact ⟨rfl, HBn.out, HT.out, by rw [HX.out]; exact HW1.out⟩
end Go.Proofs.YtbfefdedjcppaaaGreatDoor

/- wire.Reader: the closures of Number and Text. -/
namespace Go.Proofs.YtbfefdedjcppaaaGreatDoor
set_option maxRecDepth 100000
set_option maxHeartbeats 8000000
open Go.RowKit
def numE (most : Nat) (l : List UInt8) : Nat := if (readS l).2.2 ≠ 0 then (readS l).2.2 else if most < (readS l).1 then 5 else 0
def numV (most : Nat) (l : List UInt8) : Nat := if numE most l = 0 then (readS l).1 else 0
def numK (most : Nat) (l : List UInt8) : Nat := if numE most l = 0 then (readS l).2.1 else 0
theorem readS_le {l : List UInt8} (h : (readS l).2.2 = 0) : (readS l).2.1 ≤ l.length ∧ (readS l).1 < 2 ^ 64 := by
 rcases hr : readS l with ⟨n, k, e⟩
 rw [hr] at h
 simp only at h
 subst h
 obtain ⟨_, _, h3, h4⟩ := back_small hr
 exact ⟨h3, h4⟩
theorem number1_any (q : Option Addr) (l : List UInt8) (n cap bs bn most : Nat) (w : World) (hn : l.length = n) (hc : n ≤ cap) (hm : cap ≤ maxLen) (hq : SlAt byteC 1 w q l)
   (hs : w.heap[bs]? = some (.cells #[.int .u64 (most : Int)] 60 (0, 0))) (hv : w.heap[bn]? = some (.cells #[.int .u64 0] 60 (0, 0))) :
   Calls Tryz.prog 98 #[.slice q n cap, .pointer (some ⟨bs, 0, none⟩), .pointer (some ⟨bn, 0, none⟩)] w (Found bn 60 (.int .u64 (numV most l : Nat)) n (numK most l) (numE most l) w) := by
 have KR := Lib.hid (readSmall_any q l n cap w hn hc hm hq)
 obtain ⟨hs1, _⟩ := cell1 hs
 obtain ⟨hv1, hv2⟩ := cell1 hv
 have HV := Lib.hid hv
 have HE0 : Hid (numE most l = if (readS l).2.2 ≠ 0 then (readS l).2.2 else if most < (readS l).1 then 5 else 0) := rfl
 have HV0 : Hid (numV most l = if numE most l = 0 then (readS l).1 else 0) := rfl
 have HK0 : Hid (numK most l = if numE most l = 0 then (readS l).2.1 else 0) := rfl
 have HL : Hid ((readS l).2.2 = 0 → (readS l).2.1 ≤ n) := fun h => by have := (readS_le h).1; omega
 clear hs hv hq hm hc hn
 generalize (readS l).1 = rv at *
 generalize (readS l).2.1 = rk at *
 generalize (readS l).2.2 = re at *
 by_cases he : re = 0
 · rw [if_neg (by omega)] at HE0
   have HLk := Lib.hid (HL.out he)
   subst he
   clear HL
   by_cases hmv : most < rv
   · rw [if_pos hmv] at HE0
     rw [HE0.out, if_neg (by omega)] at HV0 HK0
     have hmv' : (most : Int) < rv := by omega
     rw [HE0.out, HV0.out, HK0.out]
     go_enter Tryz.func98, Tryz.ntmps98
     go_wp2_with (go_at_call 95; (refine KR.out.mono ?_); rintro e w' ⟨rfl, rfl⟩)
     refine bodyPost_ret (results_tmp2 rfl _ _ _) rfl ?_
     exact ⟨rfl, Nat.zero_le _, Turn.refl _ _, HV.out⟩
   · rw [if_neg hmv] at HE0
     rw [HE0.out, if_pos rfl] at HV0 HK0
     have hmv' : ¬ (most : Int) < rv := by omega
     rw [HE0.out, HV0.out, HK0.out]
     go_enter Tryz.func98, Tryz.ntmps98
     go_wp2_with (go_at_call 95; (refine KR.out.mono ?_); rintro e w' ⟨rfl, rfl⟩)
     refine bodyPost_ret (results_tmp2 rfl _ _ _) rfl ?_
     exact ⟨rfl, HLk.out, Turn.setCell _ _ _ _, set1 _ HV.out⟩
 · rw [if_pos he] at HE0
   rw [HE0.out, if_neg he] at HV0 HK0
   have he' : ((re : Int) == 0) = false := by simpa using he
   rw [HE0.out, HV0.out, HK0.out]
   clear he HL
   go_enter Tryz.func98, Tryz.ntmps98
   go_wp2_with (go_at_call 95; (refine KR.out.mono ?_); rintro e w' ⟨rfl, rfl⟩)
   refine bodyPost_ret (results_tmp2 rfl _ _ _) rfl ?_
   exact ⟨rfl, Nat.zero_le _, Turn.refl _ _, HV.out⟩
def textE (most : Nat) (l : List UInt8) : Nat := if (readS l).2.2 ≠ 0 then (readS l).2.2 else if most < (readS l).1 then 2 else if l.length - (readS l).2.1 < (readS l).1 then 4 else 0
def textS (most : Nat) (l : List UInt8) : List UInt8 := if textE most l = 0 then (l.drop (readS l).2.1).take (readS l).1 else []
def textN (most : Nat) (l : List UInt8) : Nat := if textE most l = 0 then (readS l).2.1 + (readS l).1 else 0
theorem row_drop {w : World} {q : Option Addr} {l : List UInt8} {b o : Nat} (h : SlAt byteC 1 w q l) (hq : q = some ⟨b, o, none⟩) (k : Nat) : Row w b (o + k) (l.drop k) := fun i hi => by
 rw [List.length_drop] at hi
 obtain ⟨b', o', e, _, hr⟩ := h (k + i) (by omega)
 rw [hq] at e
 simp only [Option.some.injEq, Addr.mk.injEq, and_true] at e
 obtain ⟨rfl, rfl⟩ := e
 have := hr 0 _ rfl
 rw [List.getElem_drop]
 simpa [Nat.add_assoc] using this
theorem text1_any (q : Option Addr) (l : List UInt8) (n cap bs bn most : Nat) (w : World) (hn : l.length = n) (hc : n ≤ cap) (hm : cap ≤ maxLen) (hq : SlAt byteC 1 w q l)
   (hs : w.heap[bs]? = some (.cells #[.int .i64 (most : Int)] 3 (0, 0))) (hv : w.heap[bn]? = some (.cells #[.string ⟨#[]⟩] 9 (0, 0))) (hmo : most ≤ 1000000) :
   Calls Tryz.prog 94 #[.slice q n cap, .pointer (some ⟨bs, 0, none⟩), .pointer (some ⟨bn, 0, none⟩)] w (Found bn 9 (.string ⟨(textS most l).toArray⟩) n (textN most l) (textE most l) w) := by
 have KR := Lib.hid (readSmall_any q l n cap w hn hc hm hq)
 obtain ⟨hs1, _⟩ := cell1 hs
 obtain ⟨hv1, hv2⟩ := cell1 hv
 have HV := Lib.hid hv
 have HE0 : Hid (textE most l = if (readS l).2.2 ≠ 0 then (readS l).2.2 else if most < (readS l).1 then 2 else if n - (readS l).2.1 < (readS l).1 then 4 else 0) := by show _ = _; rw [← hn]; rfl
 have HV0 : Hid (textS most l = if textE most l = 0 then (l.drop (readS l).2.1).take (readS l).1 else []) := rfl
 have HK0 : Hid (textN most l = if textE most l = 0 then (readS l).2.1 + (readS l).1 else 0) := rfl
 have HL : Hid ((readS l).2.2 = 0 → 0 < (readS l).2.1 ∧ (readS l).2.1 ≤ n) := fun h => by
   rcases hr : readS l with ⟨a, k, e⟩
   rw [hr] at h
   simp only at h ⊢
   subst h
   obtain ⟨_, h2, h3, _⟩ := back_small hr
   exact ⟨h2, by omega⟩
 have HQ := Lib.hid hq
 have HN := Lib.hid hn
 have hmx : max (most : Int) 0 = most := by omega
 unfold maxLen at hm
 clear hs hv hq hn
 generalize (readS l).1 = rv at *
 generalize (readS l).2.1 = rk at *
 generalize (readS l).2.2 = re at *
 by_cases he : re = 0
 · rw [if_neg (by omega)] at HE0
   obtain ⟨hk0, hkn⟩ := HL.out he
   subst he
   clear HL
   by_cases hmv : most < rv
   · rw [if_pos hmv] at HE0
     rw [HE0.out, if_neg (by omega)] at HV0 HK0
     have hmv' : (most : Int) < rv := by omega
     rw [HE0.out, HV0.out, HK0.out]
     go_enter Tryz.func94, Tryz.ntmps94
     go_wp2_with (go_at_call 95; (refine KR.out.mono ?_); rintro e w' ⟨rfl, rfl⟩)
     refine bodyPost_ret (results_tmp2 rfl _ _ _) rfl ?_
     exact ⟨rfl, Nat.zero_le _, Turn.refl _ _, HV.out⟩
   · rw [if_neg hmv] at HE0
     have hmv' : ¬ (most : Int) < rv := by omega
     by_cases hlk : n - rk < rv
     · rw [if_pos hlk] at HE0
       rw [HE0.out, if_neg (by omega)] at HV0 HK0
       have hlk' : (n : Int) - rk < rv := by omega
       rw [HE0.out, HV0.out, HK0.out]
       have hkn' : (rk : Int) ≤ n := by omega
       go_enter Tryz.func94, Tryz.ntmps94
       go_wp2_with (go_at_call 95; (refine KR.out.mono ?_); rintro e w' ⟨rfl, rfl⟩)
       refine bodyPost_ret (results_tmp2 rfl _ _ _) rfl ?_
       exact ⟨rfl, Nat.zero_le _, Turn.refl _ _, HV.out⟩
     · rw [if_neg hlk] at HE0
       rw [HE0.out, if_pos rfl] at HV0 HK0
       have hlk' : ¬ (n : Int) - rk < rv := by omega
       have hkn' : (rk : Int) ≤ n := by omega
       have hkv : (rk : Int) + rv ≤ n := by omega
       have hkc : (rk : Int) + rv ≤ cap := by omega
       have hr0 : (0 : Int) ≤ (rk : Int) + rv := by omega
       have hrr : (rk : Int) ≤ (rk : Int) + rv := by omega
       have HLe : Hid (rk + rv ≤ n) := by show _ ≤ _; omega
       rw [HE0.out, HV0.out, HK0.out]
       obtain ⟨b, ob, rfl, _, _⟩ := HQ.out 0 (by rw [HN.out]; omega)
       have hrow := row_drop HQ.out rfl rk
       have HCV : Hid (∀ c, (convert 22 9 (.slice (some ⟨b, ob + rk, none⟩) rv c)).run Tryz.prog w = .ok (.string ⟨((l.drop rk).take rv).toArray⟩) w) := fun c => run_bytes_string w b (ob + rk) rv c _ hrow (by rw [List.length_drop, HN.out]; omega)
       clear hrow hlk hmv HE0 HV0 HK0
       go_enter Tryz.func94, Tryz.ntmps94
       go_upto_region 8 with (go_at_call 95; (refine KR.out.mono ?_); rintro e w' ⟨rfl, rfl⟩)
       have hcv := HCV.out
       have hset : Hid (∀ s : ByteArray, (w.setCell ⟨bn, 0, none⟩ (.string s)).heap[bn]? = some (.cells #[.string s] 9 (0, 0))) := fun s => set1 _ HV.out
       by_cases hcap : cap = rk
       · have hz : rv = 0 := by omega
         subst hz
         subst hcap
         have hcv0 : ∀ c, (convert 22 9 (.slice (some ⟨b, ob, none⟩) 0 c)).run Tryz.prog w = .ok (.string ⟨(([] : List UInt8)).toArray⟩) w := fun c => run_bytes_string w b ob 0 c [] (fun i hi => by simp at hi) (Nat.le_refl _)
         rw [List.take_zero]
         go_wp2_with fail
         refine bodyPost_ret (results_tmp2 rfl _ _ _) rfl ?_
         exact ⟨by go_num, HLe.out, Turn.setCell _ _ _ _, hset.out _⟩
       · go_wp2_with fail
         refine bodyPost_ret (results_tmp2 rfl _ _ _) rfl ?_
         exact ⟨by go_num, HLe.out, Turn.setCell _ _ _ _, hset.out _⟩
 · rw [if_pos he] at HE0
   rw [HE0.out, if_neg he] at HV0 HK0
   have he' : ((re : Int) == 0) = false := by simpa using he
   rw [HE0.out, HV0.out, HK0.out]
   clear he HL
   go_enter Tryz.func94, Tryz.ntmps94
   go_wp2_with (go_at_call 95; (refine KR.out.mono ?_); rintro e w' ⟨rfl, rfl⟩)
   refine bodyPost_ret (results_tmp2 rfl _ _ _) rfl ?_
   exact ⟨rfl, Nat.zero_le _, Turn.refl _ _, HV.out⟩
end Go.Proofs.YtbfefdedjcppaaaGreatDoor

/- wire.Reader: take; Byte, Number, Text, Err, Left, Done. -/
namespace Go.Proofs.YtbfefdedjcppaaaGreatDoor
set_option maxRecDepth 100000
set_option maxHeartbeats 4000000
open Go.RowKit
theorem siz5 : (Tryz.prog.info? 5).map (·.size) = some 1 := by kernel_rfl
theorem RdAt.cells {w : World} {B br er : Nat} {l : List UInt8} (h : RdAt w B br l er) : ∃ q n cap, w.heap[br]? = some (.cells #[.slice q n cap, .int .i64 (er : Int)] 153 (0, 0)) ∧ w.cell? ⟨br, 0, none⟩ = some (.slice q n cap) ∧ w.cell? ⟨br, 1, none⟩ = some (.int .i64 (er : Int)) ∧ w.frozen? ⟨br, 0, none⟩ = false ∧ w.frozen? ⟨br, 1, none⟩ = false ∧ l.length = n ∧ n ≤ cap ∧ cap ≤ maxLen ∧ SlAt byteC 1 w q l ∧ ∀ a, q = some a → a.block < B ∧ a.block ≠ br := by
 obtain ⟨h1, h2, q, n, cap, h3, h4⟩ := h
 refine ⟨q, n, cap, h3, ?_, ?_, ?_, ?_, h4⟩
 · rw [cell_blk h3]; rfl
 · rw [cell_blk h3]; rfl
 · simp [World.frozen?, h3]
 · simp [World.frozen?, h3]
theorem RdAt.turn {w w' : World} {B br er er' : Nat} {l l' : List UInt8} (h : RdAt w B br l er) (ht : Turn [br] w w') (q' : Option Addr) (n' cap' : Nat) (hc : w'.heap[br]? = some (.cells #[.slice q' n' cap', .int .i64 (er' : Int)] 153 (0, 0))) (hn : l'.length = n') (h1 : n' ≤ cap') (h2 : cap' ≤ maxLen) (hq : SlAt byteC 1 w q' l') (hb : ∀ a, q' = some a → a.block < B ∧ a.block ≠ br) : RdAt w' B br l' er' := by
 refine ⟨h.lt, Nat.le_trans h.le ht.size, q', n', cap', hc, hn, h1, h2, fun i hi => ?_, hb⟩
 obtain ⟨b, o, e, hb1, hr⟩ := hq i hi
 refine ⟨b, o, e, Nat.lt_of_lt_of_le hb1 ht.size, range_of_block hr (ht.block b hb1 (by simpa using (hb _ e).2))⟩
theorem Turn.below1 {bn B : Nat} {w w' : World} (h : Turn [bn] w w') (hb : B ≤ bn) (hB : B ≤ w.heap.size) : Below B w w' := h.below (fun k hk => by rw [List.mem_singleton] at hk; rw [hk]; exact hb) hB
theorem rtake_cut {w : World} {B br bn n cap k : Nat} {q : Option Addr} {l : List UInt8} (h : RdAt w B br l 0) (hh : w.heap[br]? = some (.cells #[.slice q n cap, .int .i64 ((0 : Nat) : Int)] 153 (0, 0))) (hn : l.length = n) (h1 : n ≤ cap) (h2 : cap ≤ maxLen) (hq : SlAt byteC 1 w q l) (hb : ∀ a, q = some a → a.block < B ∧ a.block ≠ br) (hbn : B ≤ bn) (hk : k ≤ l.length) :
   ∀ w1, Turn [bn] w w1 → w1.cell? ⟨br, 0, none⟩ = some (.slice q n cap) ∧ w1.frozen? ⟨br, 0, none⟩ = false ∧ RdAt w1 B br l 0 ∧ RdAt (w1.setCell ⟨br, 0, none⟩ (.slice (cutQ 1 q k cap) (n - k) (cap - k))) B br (l.drop k) 0 := fun w1 ht => by
 have hb1 := ht.below1 hbn h.le
 have hh1 := (hb1.block br h.lt).trans hh
 have hR1 := h.below hb1
 refine ⟨by rw [cell_blk hh1]; rfl, by simp [World.frozen?, hh1], hR1, ?_⟩
 refine hR1.turn (Turn.setCell _ _ _ _) _ _ _ (heap_setCell_self _ hh1) (by rw [List.length_drop, hn]) (by omega) (by omega) ((hq.belowB hb1 fun a e => (hb a e).1).cut k cap (by omega)) fun a e => ?_
 unfold cutQ at e
 split at e
 · exact hb a e
 · cases q with
   | none => cases e
   | some a0 =>
     obtain rfl : a0.add (k * 1) = a := by simpa using e
     have hbl : (a0.add (k * 1)).block = a0.block := by cases a0; unfold Addr.add; split <;> rfl
     rw [hbl]
     exact hb a0 rfl
theorem meet_any (B br : Nat) (l : List UInt8) (e0 : Nat) (w : World) (h : RdAt w B br l 0) :
   Calls Tryz.prog 123 #[.pointer (some ⟨br, 0, none⟩), .int .i64 (e0 : Int)] w fun e w' => e = .returned (.tuple #[]) ∧ RdAt w' B br l e0 ∧ Turn [br] w w' := by
 obtain ⟨q, n, cap, hh, hc0, hc1, hf0, hf1, hn, h1, h2, hq, hb⟩ := h.cells
 have H := Lib.hid h
 have HE : Hid (RdAt (w.setCell ⟨br, 1, none⟩ (.int .i64 (e0 : Int))) B br l e0) := h.turn (Turn.setCell _ _ _ _) q n cap (heap_setCell_self _ hh) hn h1 h2 hq hb
 clear hh hn h1 h2 hq hb h
 go_enter Tryz.func123, Tryz.ntmps123
 go_wp2_with fail
 refine bodyPost_end (results_none rfl _ _ _) rfl ?_
 exact ⟨rfl, HE.out, Turn.setCell _ _ _ _⟩
theorem err_any (B br : Nat) (l : List UInt8) (er : Nat) (w : World) (h : RdAt w B br l er) :
   Calls Tryz.prog 76 #[.pointer (some ⟨br, 0, none⟩)] w fun e w' => e = .returned (.int .i64 (er : Int)) ∧ w = w' := by
 obtain ⟨q, n, cap, hh, hc0, hc1, hf0, hf1, hn, h1, h2, hq, hb⟩ := h.cells
 clear hh hn h1 h2 hq hb h
 go_enter Tryz.func76, Tryz.ntmps76
 go_wp2_with fail
 go_ret
 exact ⟨rfl, rfl⟩
theorem left_any (B br : Nat) (l : List UInt8) (er : Nat) (w : World) (h : RdAt w B br l er) :
   Calls Tryz.prog 120 #[.pointer (some ⟨br, 0, none⟩)] w fun e w' => e = .returned (.int .i64 (l.length : Nat)) ∧ w = w' := by
 obtain ⟨q, n, cap, hh, hc0, hc1, hf0, hf1, hn, h1, h2, hq, hb⟩ := h.cells
 have HN := Lib.hid hn
 clear hh hn h1 h2 hq hb h
 go_enter Tryz.func120, Tryz.ntmps120
 go_wp2_with fail
 go_ret
 exact ⟨by rw [HN.out]; rfl, rfl⟩
theorem done_any (B br : Nat) (l : List UInt8) (er : Nat) (w : World) (h : RdAt w B br l er) :
   Calls Tryz.prog 78 #[.pointer (some ⟨br, 0, none⟩)] w fun e w' => e = .returned (.int .i64 ((if er = 0 ∧ l ≠ [] then 3 else er : Nat) : Int)) ∧ w = w' := by
 have KE := Lib.hid (err_any B br l er w h)
 have KL := Lib.hid (left_any B br l er w h)
 have hl : (l ≠ []) ↔ 0 < l.length := by cases l <;> simp
 have HL := Lib.hid hl
 clear hl h
 by_cases he : er = 0
 · subst he
   by_cases h0 : 0 < l.length
   · have h0' : (0 : Int) < (l.length : Nat) := by omega
     have HR : Hid ((if 0 = 0 ∧ l ≠ [] then 3 else 0 : Nat) = 3) := if_pos ⟨rfl, HL.out.2 h0⟩
     rw [HR.out]
     generalize l.length = m at *
     clear h0
     go_enter Tryz.func78, Tryz.ntmps78
     go_wp2_with (first
       | (go_at_call 76; (refine KE.out.mono ?_); rintro e w' ⟨rfl, rfl⟩)
       | (go_at_call 120; (refine KL.out.mono ?_); rintro e w' ⟨rfl, rfl⟩))
     go_ret
     exact ⟨rfl, rfl⟩
   · have h0' : ¬ (0 : Int) < (l.length : Nat) := by omega
     have HR : Hid ((if 0 = 0 ∧ l ≠ [] then 3 else 0 : Nat) = 0) := if_neg (fun h => h0 (HL.out.1 h.2))
     rw [HR.out]
     generalize l.length = m at *
     clear h0
     go_enter Tryz.func78, Tryz.ntmps78
     go_wp2_with (first
       | (go_at_call 76; (refine KE.out.mono ?_); rintro e w' ⟨rfl, rfl⟩)
       | (go_at_call 120; (refine KL.out.mono ?_); rintro e w' ⟨rfl, rfl⟩))
     go_ret
     exact ⟨rfl, rfl⟩
 · have HR : Hid ((if er = 0 ∧ l ≠ [] then 3 else er : Nat) = er) := if_neg (fun h => he h.1)
   have he' : ((er : Int) == 0) = false := by simpa using he
   rw [HR.out]
   clear he
   go_enter Tryz.func78, Tryz.ntmps78
   go_wp2_with (first
     | (go_at_call 76; (refine KE.out.mono ?_); rintro e w' ⟨rfl, rfl⟩)
     | (go_at_call 120; (refine KL.out.mono ?_); rintro e w' ⟨rfl, rfl⟩))
   go_ret
   exact ⟨rfl, rfl⟩
theorem rtake_bad (v : Value) (B br : Nat) (l : List UInt8) (er : Nat) (w : World) (h : RdAt w B br l er) (he : er ≠ 0) :
   Calls Tryz.prog 93 #[.pointer (some ⟨br, 0, none⟩), v] w fun e w' => e = .returned (.bool false) ∧ w = w' := by
 obtain ⟨q, n, cap, hh, hc0, hc1, hf0, hf1, hn, h1, h2, hq, hb⟩ := h.cells
 have he' : ((er : Int) == 0) = false := by simpa using he
 clear hh hn h1 h2 hq hb h he
 go_enter Tryz.func93, Tryz.ntmps93
 go_wp2_with fail
 go_ret
 exact ⟨rfl, rfl⟩
theorem rtake_any (F : FuncId) (hf : ∀ args w, (callFunc F args).run Tryz.prog w = .ok (.enter F args) w) (B br : Nat) (l : List UInt8) (bs bn : Nat) (T : TypeId) (o : Value) (k er : Nat) (w : World) (h : RdAt w B br l 0) (hbn : B ≤ bn) (hbw : bn < w.heap.size) (hk : k ≤ l.length)
   (KF : ∀ q n cap, l.length = n → n ≤ cap → cap ≤ maxLen → SlAt byteC 1 w q l → (∀ a, q = some a → a.block < B) → Calls Tryz.prog F #[.slice q n cap, .pointer (some ⟨bs, 0, none⟩), .pointer (some ⟨bn, 0, none⟩)] w (Found bn T o n k er w)) :
   Calls Tryz.prog 93 #[.pointer (some ⟨br, 0, none⟩), .func (.func F) #[] #[.pointer (some ⟨bs, 0, none⟩), .pointer (some ⟨bn, 0, none⟩)]] w fun e w' => e = .returned (.bool (er == 0)) ∧ RdAt w' B br (if er = 0 then l.drop k else l) er ∧ Turn [br, bn] w w' ∧ w'.heap[bn]? = some (.cells #[o] T (0, 0)) := by
 obtain ⟨q, n, cap, hh, hc0, hc1, hf0, hf1, hn, h1, h2, hq, hb⟩ := h.cells
 have KC := Lib.hid (KF q n cap hn h1 h2 hq fun a e => (hb a e).1)
 have HC : Hid (∀ w1, Turn [bn] w w1 → w1.cell? ⟨br, 0, none⟩ = some (.slice q n cap) ∧ w1.frozen? ⟨br, 0, none⟩ = false ∧ RdAt w1 B br l 0 ∧ RdAt (w1.setCell ⟨br, 0, none⟩ (.slice (cutQ 1 q k cap) (n - k) (cap - k))) B br (l.drop k) 0) := rtake_cut h hh hn h1 h2 hq hb hbn hk
 have hkn : k ≤ n := by omega
 have H := Lib.hid h
 have hne : br ≠ bn := fun e => by have := h.lt; omega
 clear hh hn h1 h2 hq hb h KF
 go_enter Tryz.func93, Tryz.ntmps93
 by_cases he : er = 0
 · subst he
   go_upto_region 7 with ((with_reducible refine KC.out.mono ?_); rintro e w1 ⟨rfl, hkn, ht1, ho1⟩; have HT1 := Lib.hid ht1; have HO1 := Lib.hid ho1; clear ht1 ho1 hkn)
   obtain ⟨hd0, hdf, _, hR1⟩ := HC.out w1 HT1.out
   have HR1 := Lib.hid hR1
   clear hR1 hc0 hc1 hf0 hf1 HC
   go_wp2_with (refine wl_valG rfl _ (exec_lo Tryz.underlying22 siz5 (.tmp 39) (.tmp 40) rfl q n cap k rfl rfl hkn) ?_)
   go_ret
   refine ⟨rfl, HR1.out, (HT1.out.mono (fun _ _ h => by simp at h; simp [h])).trans ((Turn.setCell _ _ _ _).mono fun _ _ h => by simp at h; simp [h]), ?_⟩
   rw [heap_setCell_other _ (Ne.symm hne)]
   exact HO1.out
 · have he' : ((er : Int) == 0) = false := by simpa using he
   have HER : Hid ((er == 0) = false) := by show (er == 0) = false; simpa using he
   have HIF : Hid ((if er = 0 then l.drop k else l) = l) := if_neg he
   rw [HER.out, HIF.out]
   go_upto_region 5 with ((with_reducible refine KC.out.mono ?_); rintro e w1 ⟨rfl, _, ht1, ho1⟩; have HT1 := Lib.hid ht1; have HO1 := Lib.hid ho1; clear ht1 ho1)
   obtain ⟨_, _, hR1, _⟩ := HC.out w1 HT1.out
   have KM := Lib.hid (meet_any B br l er w1 hR1)
   clear hc0 hc1 hf0 hf1 HC hR1
   go_wp2_with (go_at_call 123; (refine KM.out.mono ?_); rintro e w2 ⟨rfl, hr2, ht2⟩; have HR2 := Lib.hid hr2; have HT2 := Lib.hid ht2; clear hr2 ht2)
   go_ret
   refine ⟨rfl, HR2.out, (HT1.out.mono (fun _ _ h => by simp at h; simp [h])).trans (HT2.out.mono fun _ _ h => by simp at h; simp [h]), ?_⟩
   rw [HT2.out.block bn (lt_heap HO1.out) (by simpa using Ne.symm hne)]
   exact HO1.out
end Go.Proofs.YtbfefdedjcppaaaGreatDoor

/- wire.Reader: Byte, Number, Text. -/
namespace Go.Proofs.YtbfefdedjcppaaaGreatDoor
set_option maxRecDepth 100000
set_option maxHeartbeats 4000000
open Go.RowKit
theorem byteV_lt (l : List UInt8) : byteV l < 256 := by
 cases l with
 | nil => simp [byteV]
 | cons x r => exact x.toNat_lt
theorem byteK_le (l : List UInt8) : byteK l ≤ l.length := by cases l <;> simp [byteK]
theorem numK_le (m : Nat) (l : List UInt8) : numK m l ≤ l.length := by
 unfold numK
 split
 · rename_i h
   have h0 : (readS l).2.2 = 0 := by
     unfold numE at h
     split at h
     · rename_i h2; exact absurd h h2
     · rename_i h2; exact Classical.not_not.1 h2
   exact (readS_le h0).1
 · exact Nat.zero_le _
theorem textN_le (m : Nat) (l : List UInt8) : textN m l ≤ l.length := by
 unfold textN
 split
 · rename_i h
   unfold textE at h
   split at h
   · rename_i h2; exact absurd h h2
   · rename_i h2
     have h0 : (readS l).2.2 = 0 := Classical.not_not.1 h2
     have := (readS_le h0).1
     split at h
     · cases h
     · split at h
       · cases h
       · omega
 · exact Nat.zero_le _
theorem drop_if {l : List UInt8} {k er : Nat} (h : er ≠ 0 → k = 0) : (if er = 0 then l.drop k else l) = l.drop k := by
 split
 · rfl
 · rename_i he; rw [h he, List.drop_zero]
def ReadP (B br : Nat) (l : List UInt8) (k er : Nat) (v : Value) (w : World) (e : Ending) (w' : World) : Prop := e = .returned v ∧ RdAt w' B br (l.drop k) er ∧ Turn [br] w w'
theorem two_boxes (w : World) (v u : Value) (T U : TypeId) : ((w.alloc (.cells #[v] T)).alloc (.cells #[u] U)).heap[w.heap.size]? = some (.cells #[v] T (0, 0)) ∧ ((w.alloc (.cells #[v] T)).alloc (.cells #[u] U)).heap[w.heap.size + 1]? = some (.cells #[u] U (0, 0)) ∧ Below w.heap.size w ((w.alloc (.cells #[v] T)).alloc (.cells #[u] U)) ∧ w.heap.size + 1 < ((w.alloc (.cells #[v] T)).alloc (.cells #[u] U)).heap.size :=
 ⟨heap_alloc2_old _ _ _, heap_alloc2_new _ _ _, below_alloc2 _ _ _, by simp⟩
theorem turn_own {br bn : Nat} {w W w' : World} (hb : Below w.heap.size w W) (ht : Turn [br, bn] W w') (hn : w.heap.size ≤ bn) : Turn [br] w w' :=
 ⟨ht.os.trans hb.os, ht.tape.trans hb.tape, ht.output.trans hb.output, Nat.le_trans hb.size ht.size, fun k hk hr => (ht.block k (Nat.lt_of_lt_of_le hk hb.size) (by
   simp only [List.mem_cons, List.not_mem_nil, or_false, not_or] at hr ⊢
   exact ⟨hr, by omega⟩)).trans (hb.block k hk)⟩
theorem fixed_any (B br : Nat) (l : List UInt8) (w : World) (h : RdAt w B br l 0) :
   Calls Tryz.prog 77 #[.pointer (some ⟨br, 0, none⟩), .int .i64 1] w (ReadP B br l (byteK l) (byteE l) (.int .u64 (byteV l : Nat)) w) := by
 obtain ⟨hs, hv, hb, hz⟩ := two_boxes w (.int .i64 1) (.int .u64 0) 3 60
 have hle := h.le
 have hR := h.below (hb.mono h.le)
 have KT := Lib.hid (rtake_any 119 (enters_of Tryz.func119 (by kernel_rfl) rfl) B br l w.heap.size (w.heap.size + 1) 60 (.int .u64 (byteV l : Nat)) (byteK l) (byteE l) _ hR (by omega) hz (byteK_le l)
   (fun q n cap h1 h2 h3 h4 h5 => fixed1_any q l n cap _ _ _ h1 h2 h3 h4 hs hv (by omega) (fun a e => by have := h5 a e; omega)))
 rw [drop_if (fun he => by cases l with
   | nil => rfl
   | cons x r => exact absurd rfl he)] at KT
 have HB := Lib.hid hb
 clear hs hv hb hz hR hle h
 go_enter Tryz.func77, Tryz.ntmps77
 go_upto_region 3 with (go_at_call 93; (refine KT.out.mono ?_); rintro e w1 ⟨rfl, hr1, ht1, ho1⟩; have HR1 := Lib.hid hr1; have HT1 := Lib.hid ht1; have HO1 := Lib.hid ho1; clear hr1 ht1 ho1)
 obtain ⟨hc1, _⟩ := cell1 HO1.out
 go_wp2_with fail
 go_ret
 exact ⟨rfl, HR1.out, turn_own HB.out HT1.out (by omega)⟩
theorem fixed_bad (B br : Nat) (l : List UInt8) (er : Nat) (w : World) (h : RdAt w B br l er) (he : er ≠ 0) :
   Calls Tryz.prog 77 #[.pointer (some ⟨br, 0, none⟩), .int .i64 1] w fun e w' => e = .returned (.int .u64 0) ∧ Below w.heap.size w w' := by
 obtain ⟨hs, hv, hb, hz⟩ := two_boxes w (.int .i64 1) (.int .u64 0) 3 60
 have KT := Lib.hid (fun v => rtake_bad v B br l er _ (h.below (hb.mono h.le)) he)
 obtain ⟨hc1, _⟩ := cell1 hv
 have HB := Lib.hid hb
 clear hs hv hb hz h he
 go_enter Tryz.func77, Tryz.ntmps77
 go_wp2_with (go_at_call 93; (refine (KT.out _).mono ?_); rintro e w1 ⟨rfl, rfl⟩)
 go_ret
 exact ⟨rfl, HB.out⟩
theorem byte_any (B br : Nat) (l : List UInt8) (w : World) (h : RdAt w B br l 0) :
   Calls Tryz.prog 29 #[.pointer (some ⟨br, 0, none⟩)] w (ReadP B br l (byteK l) (byteE l) (.int .u8 (byteV l : Nat)) w) := by
 have KF := Lib.hid (fixed_any B br l w h)
 have hlt : ((byteV l : Nat) : Int) ≤ 255 := by have := byteV_lt l; omega
 generalize byteV l = v at *
 clear h
 go_enter Tryz.func29, Tryz.ntmps29
 go_wp2_with (go_at_call 77; (refine KF.out.mono ?_); rintro e w1 ⟨rfl, hr1, ht1⟩)
 go_ret
 exact ⟨rfl, hr1, ht1⟩
theorem byte_bad (B br : Nat) (l : List UInt8) (er : Nat) (w : World) (h : RdAt w B br l er) (he : er ≠ 0) :
   Calls Tryz.prog 29 #[.pointer (some ⟨br, 0, none⟩)] w fun e w' => e = .returned (.int .u8 0) ∧ Below w.heap.size w w' := by
 have KF := Lib.hid (fixed_bad B br l er w h he)
 clear h he
 go_enter Tryz.func29, Tryz.ntmps29
 go_wp2_with (go_at_call 77; (refine KF.out.mono ?_); rintro e w1 ⟨rfl, hb1⟩)
 go_ret
 exact ⟨rfl, hb1⟩
theorem rnumber_any (B br : Nat) (l : List UInt8) (most : Nat) (w : World) (h : RdAt w B br l 0) :
   Calls Tryz.prog 51 #[.pointer (some ⟨br, 0, none⟩), .int .u64 (most : Int)] w (ReadP B br l (numK most l) (numE most l) (.int .u64 (numV most l : Nat)) w) := by
 obtain ⟨hs, hv, hb, hz⟩ := two_boxes w (.int .u64 (most : Int)) (.int .u64 0) 60 60
 have hle := h.le
 have hR := h.below (hb.mono h.le)
 have KT := Lib.hid (rtake_any 98 (enters_of Tryz.func98 (by kernel_rfl) rfl) B br l w.heap.size (w.heap.size + 1) 60 (.int .u64 (numV most l : Nat)) (numK most l) (numE most l) _ hR (by omega) hz (numK_le most l)
   (fun q n cap h1 h2 h3 h4 _ => number1_any q l n cap _ _ most _ h1 h2 h3 h4 hs hv))
 rw [drop_if (fun he => by unfold numK; rw [if_neg he])] at KT
 have HB := Lib.hid hb
 clear hs hv hb hz hR hle h
 go_enter Tryz.func51, Tryz.ntmps51
 go_upto_region 3 with (go_at_call 93; (refine KT.out.mono ?_); rintro e w1 ⟨rfl, hr1, ht1, ho1⟩; have HR1 := Lib.hid hr1; have HT1 := Lib.hid ht1; have HO1 := Lib.hid ho1; clear hr1 ht1 ho1)
 obtain ⟨hc1, _⟩ := cell1 HO1.out
 go_wp2_with fail
 go_ret
 exact ⟨rfl, HR1.out, turn_own HB.out HT1.out (by omega)⟩
theorem rtext_any (B br : Nat) (l : List UInt8) (most : Nat) (hmo : most ≤ 1000000) (w : World) (h : RdAt w B br l 0) :
   Calls Tryz.prog 48 #[.pointer (some ⟨br, 0, none⟩), .int .i64 (most : Int)] w (ReadP B br l (textN most l) (textE most l) (.string ⟨(textS most l).toArray⟩) w) := by
 obtain ⟨hs, hv, hb, hz⟩ := two_boxes w (.int .i64 (most : Int)) (.string ⟨#[]⟩) 3 9
 have hle := h.le
 have hR := h.below (hb.mono h.le)
 have KT := Lib.hid (rtake_any 94 (enters_of Tryz.func94 (by kernel_rfl) rfl) B br l w.heap.size (w.heap.size + 1) 9 (.string ⟨(textS most l).toArray⟩) (textN most l) (textE most l) _ hR (by omega) hz (textN_le most l)
   (fun q n cap h1 h2 h3 h4 _ => text1_any q l n cap _ _ most _ h1 h2 h3 h4 hs hv hmo))
 rw [drop_if (fun he => by unfold textN; rw [if_neg he])] at KT
 have HB := Lib.hid hb
 clear hs hv hb hz hR hle h
 go_enter Tryz.func48, Tryz.ntmps48
 go_upto_region 3 with (go_at_call 93; (refine KT.out.mono ?_); rintro e w1 ⟨rfl, hr1, ht1, ho1⟩; have HR1 := Lib.hid hr1; have HT1 := Lib.hid ht1; have HO1 := Lib.hid ho1; clear hr1 ht1 ho1)
 obtain ⟨hc1, _⟩ := cell1 HO1.out
 go_wp2_with fail
 go_ret
 exact ⟨rfl, HR1.out, turn_own HB.out HT1.out (by omega)⟩
end Go.Proofs.YtbfefdedjcppaaaGreatDoor

/- request's fields: take over any closure; number. -/
namespace Go.Proofs.YtbfefdedjcppaaaGreatDoor
set_option maxRecDepth 100000
set_option maxHeartbeats 4000000
open Go.RowKit
structure FAt (w : World) (br bf : Nat) (l : List UInt8) (er ef : Nat) : Prop where
 rd : RdAt w (br + 1) br l er
 lt : br < bf
 at_ : w.heap[bf]? = some (.cells #[.pointer (some ⟨br, 0, none⟩), .int .i64 (ef : Int)] 88 (0, 0))
theorem cell2 {w : World} {b : Nat} {v u : Value} {T : TypeId} (h : w.heap[b]? = some (.cells #[v, u] T (0, 0))) : w.cell? ⟨b, 0, none⟩ = some v ∧ w.cell? ⟨b, 1, none⟩ = some u ∧ w.frozen? ⟨b, 0, none⟩ = false ∧ w.frozen? ⟨b, 1, none⟩ = false := by
 refine ⟨?_, ?_, ?_, ?_⟩
 · rw [cell_blk h]; rfl
 · rw [cell_blk h]; rfl
 · simp [World.frozen?, h]
 · simp [World.frozen?, h]
theorem FAt.below {w w' : World} {br bf er ef : Nat} {l : List UInt8} (h : FAt w br bf l er ef) (hb : Below w.heap.size w w') : FAt w' br bf l er ef :=
 ⟨h.rd.below (hb.mono h.rd.le), h.lt, (hb.block _ (lt_heap h.at_)).trans h.at_⟩
theorem FAt.turn {w w' : World} {br bf er ef : Nat} {l : List UInt8} {S : List Nat} (h : FAt w br bf l er ef) (ht : Turn S w w') (hS : ∀ k ∈ S, br < k ∧ k ≠ bf) : FAt w' br bf l er ef :=
 ⟨h.rd.below (ht.below (fun k hk => (hS k hk).1) h.rd.le), h.lt, (ht.block _ (lt_heap h.at_) fun hm => (hS _ hm).2 rfl).trans h.at_⟩
theorem FAt.setE {w : World} {br bf er ef : Nat} {l : List UInt8} (h : FAt w br bf l er ef) (e : Nat) : FAt (w.setCell ⟨bf, 1, none⟩ (.int .i64 (e : Int))) br bf l er e := by
 refine ⟨h.rd.below ((Turn.setCell bf 1 _ w).below (fun k hk => ?_) h.rd.le), h.lt, heap_setCell_self _ h.at_⟩
 rw [List.mem_singleton] at hk
 rw [hk]
 exact h.lt
theorem ftake_bad (v : Value) (br bf : Nat) (l : List UInt8) (er ef : Nat) (w : World) (h : FAt w br bf l er ef) (he : ef ≠ 0) :
   Calls Tryz.prog 26 #[.pointer (some ⟨bf, 0, none⟩), v] w fun e w' => e = .returned (.tuple #[]) ∧ w = w' := by
 obtain ⟨hc0, hc1, hf0, hf1⟩ := cell2 h.at_
 have he' : ((ef : Int) == 0) = false := by simpa using he
 clear h he
 go_enter Tryz.func26, Tryz.ntmps26
 go_wp2_with fail
 refine bodyPost_ret (results_none rfl _ _ _) rfl ?_
 exact ⟨rfl, rfl⟩
def Reads (br bf : Nat) (S : List Nat) (l' : List UInt8) (er' ce : Nat) (P : World → Prop) (w : World) (e : Ending) (w' : World) : Prop :=
 e = .returned (.int .i64 (ce : Int)) ∧ FAt w' br bf l' er' 0 ∧ Turn S w w' ∧ P w'
def Took (br bf : Nat) (S : List Nat) (l' : List UInt8) (er' ef' : Nat) (P : World → Prop) (w : World) (e : Ending) (w' : World) : Prop :=
 e = .returned (.tuple #[]) ∧ FAt w' br bf l' er' ef' ∧ Turn S w w' ∧ P w'
theorem ftake_any (F : FuncId) (caps : Array Value) (hf : ∀ args w, (callFunc F args).run Tryz.prog w = .ok (.enter F args) w) (br bf : Nat) (l l' : List UInt8) (er' ce : Nat) (S : List Nat) (P : World → Prop) (w : World) (h : FAt w br bf l 0 0) (hS : bf ∈ S) (hP : ∀ w v, P w → P (w.setCell ⟨bf, 1, none⟩ v))
   (KF : Calls Tryz.prog F caps w (Reads br bf S l' er' ce P w)) :
   Calls Tryz.prog 26 #[.pointer (some ⟨bf, 0, none⟩), .func (.func F) #[] caps] w (Took br bf S l' er' (if er' = 0 then ce else er') P w) := by
 obtain ⟨hc0, hc1, hf0, hf1⟩ := cell2 h.at_
 have KC := Lib.hid KF
 have HP := Lib.hid hP
 have HSm := Lib.hid hS
 obtain ⟨ef', hef⟩ : ∃ x, Hid ((if er' = 0 then ce else er') = x) := ⟨_, rfl⟩
 rw [hef.out]
 clear h hP KF hS
 go_enter Tryz.func26, Tryz.ntmps26
 go_upto_region 2 with ((with_reducible refine KC.out.mono ?_); rintro e w1 ⟨rfl, hf1, ht1, hp1⟩; have HF1 := Lib.hid hf1; have HT1 := Lib.hid ht1; have HP1 := Lib.hid hp1; clear hf1 ht1 hp1)
 obtain ⟨hd0, hd1, hg0, hg1⟩ := cell2 HF1.out.at_
 have KE := Lib.hid (err_any (br + 1) br l' er' w1 HF1.out.rd)
 have HF2 := Lib.hid (HF1.out.setE er')
 obtain ⟨he0, he1, hh0, hh1⟩ := cell2 HF2.out.at_
 have HTs : Hid (∀ w v, Turn S w (w.setCell ⟨bf, 1, none⟩ v)) := fun w v => (Turn.setCell bf 1 v w).mono fun k _ hk => by
   rw [List.mem_singleton] at hk
   rw [hk]; exact HSm.out
 clear hc0 hc1 hf0 hf1
 by_cases he : er' = 0
 · subst he
   obtain rfl : ce = ef' := by rw [← hef.out, if_pos rfl]
   clear hef
   go_upto_region 3 with (go_at_call 76; (refine KE.out.mono ?_); rintro e w2 ⟨rfl, rfl⟩)
   go_wp2_with fail
   refine bodyPost_end (results_none rfl _ _ _) rfl ?_
   exact ⟨rfl, HF2.out.setE ce, (HT1.out.trans (HTs.out _ _)).trans (HTs.out _ _), HP.out _ _ (HP.out _ _ HP1.out)⟩
 · have he' : ((er' : Int) == 0) = false := by simpa using he
   obtain rfl : er' = ef' := by rw [← hef.out, if_neg he]
   clear he hef
   go_wp2_with (go_at_call 76; (refine KE.out.mono ?_); rintro e w2 ⟨rfl, rfl⟩)
   refine bodyPost_end (results_none rfl _ _ _) rfl ?_
   exact ⟨rfl, HF2.out, HT1.out.trans (HTs.out _ _), HP.out _ _ HP1.out⟩
end Go.Proofs.YtbfefdedjcppaaaGreatDoor

/- request's fields: number. -/
namespace Go.Proofs.YtbfefdedjcppaaaGreatDoor
set_option maxRecDepth 100000
set_option maxHeartbeats 8000000
open Go.RowKit
theorem ag84 (w : World) : (isAgg 84).run Tryz.prog w = .ok false w := by simp [isAgg, run_underlying Tryz.underlying84]
theorem ag90 (w : World) : (isAgg 90).run Tryz.prog w = .ok false w := by simp [isAgg, run_underlying Tryz.underlying90]
theorem ag85 (w : World) : (isAgg 85).run Tryz.prog w = .ok false w := by simp [isAgg, run_underlying Tryz.underlying85]
theorem siz3n : (Tryz.prog.info? 3).map (·.size) = some 1 := by kernel_rfl
theorem exec_f0 {o : Oper} {a : Act} {w : World} (x : Operand) (ho : o.op = .fieldAddr 88 x 0) (b : Nat) (hx : a.eval x = .pointer (some ⟨b, 0, none⟩)) : (execOp a.eval o).run Tryz.prog w = .ok (.value (.pointer (some ⟨b, 0, none⟩))) w := by
 unfold execOp
 simp only [ho, hx]
 simp [go_sem]
theorem exec_cv8 {o : Oper} {a : Act} {w : World} (x : Operand) (ho : o.op = .convert 5 3 x) (v : Nat) (hv : v < 256) (hx : a.eval x = .int .u8 (v : Int)) : (execOp a.eval o).run Tryz.prog w = .ok (.value (.int .i64 (v : Int))) w := by
 unfold execOp
 simp only [ho, hx]
 have : (v : Int) ≤ 255 := by omega
 have e : IntKind.i64.wrap (v : Int) = (v : Int) := by rw [IntKind.wrap_i64]; omega
 simp [go_sem, Tryz.underlying5, Tryz.underlying3, e]
def BoxIs (w : World) (b : Nat) (v : Value) (T : TypeId) : Prop := w.heap[b]? = some (.cells #[v] T (0, 0))
def NumAt (w : World) (bt off : Nat) (cs : List Value) (T : TypeId) (v : Value) : Prop := w.heap[bt]? = some (.cells (cs.take off ++ [v] ++ cs.drop (off + 1)).toArray T (0, 0))
theorem num_cell {w : World} {bt off : Nat} {cs : List Value} {T : TypeId} {v : Value} (h : NumAt w bt off cs T v) (hoff : off + 1 ≤ cs.length) : w.cell? ⟨bt, off, none⟩ = some v := by
 unfold NumAt at h
 have hl : (cs.take off).length = off := by rw [List.length_take]; omega
 rw [cell_blk h, List.getElem?_toArray, List.append_assoc, List.getElem?_append_right (by rw [hl]; omega), hl, Nat.sub_self]
 rfl
theorem fnum1_any (br bf bt off b0 b1 b2 b3 b4 lo hi ee : Nat) (cs : List Value) (T : TypeId) (l : List UInt8) (w : World) (h : FAt w br bf l 0 0)
   (h0 : BoxIs w b0 (.pointer (some ⟨bf, 0, none⟩)) 84) (h1 : BoxIs w b1 (.pointer (some ⟨bt, off, none⟩)) 90) (h2 : BoxIs w b2 (.int .i64 (lo : Int)) 3) (h3 : BoxIs w b3 (.int .i64 (hi : Int)) 3) (h4 : BoxIs w b4 (.int .i64 (ee : Int)) 37)
   (ht : w.heap[bt]? = some (.cells cs.toArray T (0, 0))) (hoff : off + 1 ≤ cs.length) (hbt : br < bt ∧ bt ≠ bf) (hb : ∀ b ∈ [b0, b1, b2, b3, b4], b ≠ br ∧ b ≠ bf ∧ b ≠ bt) :
   Calls Tryz.prog 70 #[.pointer (some ⟨b0, 0, none⟩), .pointer (some ⟨b1, 0, none⟩), .pointer (some ⟨b2, 0, none⟩), .pointer (some ⟨b3, 0, none⟩), .pointer (some ⟨b4, 0, none⟩)] w
     (Reads br bf [br, bf, bt] (l.drop (byteK l)) (byteE l) (if byteV l < lo ∨ hi < byteV l then ee else 0) (fun w' => NumAt w' bt off cs T (.int .i64 (byteV l : Nat))) w) := by
 unfold BoxIs at h0 h1 h2 h3 h4
 have HF := Lib.hid h
 have H0 := Lib.hid h0
 have H1 := Lib.hid h1
 have H2 := Lib.hid h2
 have H3 := Lib.hid h3
 have H4 := Lib.hid h4
 have HT := Lib.hid ht
 have HB := Lib.hid hb
 have KB : Hid (∀ W, FAt W br bf l 0 0 → Calls Tryz.prog 29 #[.pointer (some ⟨br, 0, none⟩)] W (ReadP (br + 1) br l (byteK l) (byteE l) (.int .u8 (byteV l : Nat)) W)) := fun W hW => byte_any (br + 1) br l W hW.rd
 have hv := byteV_lt l
 obtain ⟨ce, hce⟩ : ∃ x, Hid ((if byteV l < lo ∨ hi < byteV l then ee else 0) = x) := ⟨_, rfl⟩
 rw [hce.out]
 clear h h0 h1 h2 h3 h4 ht hb
 generalize byteV l = v at *
 go_enter Tryz.func70, Tryz.ntmps70
 go_upto_region 1 with fail
 have hS0 : ∀ W : World, W.heap = w.heap → (W.heap[b0]? = w.heap[b0]? ∧ W.heap[b1]? = w.heap[b1]? ∧ W.heap[bf]? = w.heap[bf]?) := fun W e => by rw [e]; exact ⟨rfl, rfl, rfl⟩
 refine wp_region_held_drew (S := fun W => W.heap[b0]? = w.heap[b0]? ∧ W.heap[b1]? = w.heap[b1]? ∧ W.heap[bf]? = w.heap[bf]?) (by kernel_rfl) (hS0 _ rfl) (fun hH => ?_)
 show wpAnyH Tryz.prog Region.Mode.any _ _ _ 9 #[false, false, false, false, false, false, false, false, false] _ _
 refine takeR (i := 0) (v := .pointer (some ⟨bt, off, none⟩)) 6 rfl rfl (by kernel_rfl) (by kernel_rfl) (by kernel_rfl) (fun _ _ _ h => h) (Or.inl ⟨rfl, fun w' hS => exec_ld1G 90 ag90 _ rfl b1 0 _ rfl (cell1 (hS.2.1.trans H1.out)).1⟩) hH ?_
 simp only [Act.put, wrT]
 refine takeR (i := 1) (v := .pointer (some ⟨bf, 0, none⟩)) 7 rfl rfl (by kernel_rfl) (by kernel_rfl) (by kernel_rfl) (fun _ _ _ h => h) (Or.inl ⟨rfl, fun w' hS => exec_ld1G 84 ag84 _ rfl b0 0 _ rfl (cell1 (hS.1.trans H0.out)).1⟩) hH ?_
 simp only [Act.put, wrT]
 refine takeR (i := 2) (v := .pointer (some ⟨bf, 0, none⟩)) 8 rfl rfl (by kernel_rfl) (by kernel_rfl) (by kernel_rfl) (fun _ _ _ h => h) (Or.inl ⟨rfl, fun w' hS => exec_nc (.tmp 7) rfl _ rfl⟩) hH ?_
 simp only [Act.put, wrT]
 refine takeR (i := 3) (v := .pointer (some ⟨bf, 0, none⟩)) 9 rfl rfl (by kernel_rfl) (by kernel_rfl) (by kernel_rfl) (fun _ _ _ h => h) (Or.inl ⟨rfl, fun w' hS => exec_f0 (.tmp 8) rfl bf rfl⟩) hH ?_
 simp only [Act.put, wrT]
 refine takeR (i := 4) (v := .pointer (some ⟨br, 0, none⟩)) 10 rfl rfl (by kernel_rfl) (by kernel_rfl) (by kernel_rfl) (fun _ _ _ h => h) (Or.inl ⟨rfl, fun w' hS => exec_ld1G 85 ag85 _ rfl bf 0 _ rfl (cell2 (hS.2.2.trans HF.out.at_)).1⟩) hH ?_
 simp only [Act.put, wrT]
 have HFd : Hid (FAt w.drew br bf l 0 0) := HF.out.below ⟨rfl, rfl, rfl, Nat.le_refl _, fun _ _ => rfl⟩
 refine oneH 5 (by kernel_rfl) (wpOp_call rfl rfl (exec_calls rfl (enters_of Tryz.func29 (by kernel_rfl) rfl) (vs := #[.pointer (some ⟨br, 0, none⟩)]) (by simp [Act.eval]) w.drew) (KB.out w.drew HFd.out) (fun e w1 hR => ?_))
 obtain ⟨rfl, hr1, ht1⟩ := hR
 have hk1 : ∀ k, k < w.heap.size → k ≠ br → w1.heap[k]? = w.heap[k]? := fun k hk hne => ht1.block k hk (by simpa using hne)
 have hbf := HF.out.lt
 have hS1 : w1.heap[b0]? = w.heap[b0]? ∧ w1.heap[b1]? = w.heap[b1]? ∧ w1.heap[bf]? = w.heap[bf]? := ⟨hk1 _ (lt_heap H0.out) (HB.out b0 (by simp)).1, hk1 _ (lt_heap H1.out) (HB.out b1 (by simp)).1, hk1 _ (lt_heap HF.out.at_) (by omega)⟩
 refine ⟨_, rfl, hS1, ?_⟩
 simp only [Act.put, rdT, wrT]
 refine takeR (i := 6) (v := .int .i64 (v : Int)) 12 rfl rfl (by kernel_rfl) (by kernel_rfl) (by kernel_rfl) (fun _ _ _ h => h) (Or.inl ⟨rfl, fun w' hS => exec_cv8 (.tmp 11) rfl v hv rfl⟩) hS1 ?_
 simp only [Act.put, wrT]
 refine takeR (i := 7) (v := .pointer (some ⟨bt, off, none⟩)) 13 rfl rfl (by kernel_rfl) (by kernel_rfl) (by kernel_rfl) (fun _ _ _ h => h) (Or.inl ⟨rfl, fun w' hS => exec_nc (.tmp 6) rfl _ rfl⟩) hS1 ?_
 simp only [Act.put, wrT]
 have HT1 : Hid (w1.heap[bt]? = some (.cells cs.toArray T (0, 0))) := (hk1 _ (lt_heap HT.out) (by omega)).trans HT.out
 refine oneH 8 (by kernel_rfl) (wpOp_skip rfl rfl (exec_st1G 3 siz3n (.tmp 13) (.tmp 12) rfl bt off (.int .i64 (v : Int)) rfl rfl rfl cs T HT1.out hoff) ?_)
 have hbo : ∀ b ∈ [b0, b1, b2, b3, b4], b ≠ bt := fun b hb => (HB.out b hb).2.2
 have hk2 : ∀ k, k < w.heap.size → k ≠ br → k ≠ bt → (w1.setRow bt (cs.take off ++ [Value.int .i64 (v : Int)] ++ cs.drop (off + 1)).toArray).heap[k]? = w.heap[k]? := fun k hk hne hnt => by
   rw [setRow_other _ _ _ _ hnt]; exact hk1 k hk hne
 have hS2 : (w1.setRow bt (cs.take off ++ [Value.int .i64 (v : Int)] ++ cs.drop (off + 1)).toArray).heap[b0]? = w.heap[b0]? ∧ (w1.setRow bt (cs.take off ++ [Value.int .i64 (v : Int)] ++ cs.drop (off + 1)).toArray).heap[b1]? = w.heap[b1]? ∧ (w1.setRow bt (cs.take off ++ [Value.int .i64 (v : Int)] ++ cs.drop (off + 1)).toArray).heap[bf]? = w.heap[bf]? :=
   ⟨hk2 _ (lt_heap H0.out) (HB.out b0 (by simp)).1 (hbo b0 (by simp)), hk2 _ (lt_heap H1.out) (HB.out b1 (by simp)).1 (hbo b1 (by simp)), hk2 _ (lt_heap HF.out.at_) (by omega) (Ne.symm hbt.2)⟩
 refine ⟨hS2, ?_⟩
 refine wpAnyH_done (by kernel_rfl) ?_ _
 simp only [Act.put, rdT, wrT]
 have HN2 : Hid (NumAt (w1.setRow bt (cs.take off ++ [Value.int .i64 (v : Int)] ++ cs.drop (off + 1)).toArray) bt off cs T (.int .i64 (v : Int))) := setRow_at HT1.out
 have HTw : Hid (Turn [br, bf, bt] w (w1.setRow bt (cs.take off ++ [Value.int .i64 (v : Int)] ++ cs.drop (off + 1)).toArray)) := ⟨ht1.os, ht1.tape, ht1.output, by show w.heap.size ≤ _; have := ht1.size; simp; exact this, fun k hk hn => by
   simp only [List.mem_cons, List.not_mem_nil, or_false, not_or] at hn
   exact hk2 k hk hn.1 hn.2.2⟩
 have HF2 : Hid (FAt (w1.setRow bt (cs.take off ++ [Value.int .i64 (v : Int)] ++ cs.drop (off + 1)).toArray) br bf (l.drop (byteK l)) (byteE l) 0) :=
   ⟨hr1.below (setRow_below (Below.refl _ _) (by omega) _), HF.out.lt, hS2.2.2.trans HF.out.at_⟩
 have HB0 : Hid (BoxIs (w1.setRow bt (cs.take off ++ [Value.int .i64 (v : Int)] ++ cs.drop (off + 1)).toArray) b1 (.pointer (some ⟨bt, off, none⟩)) 90) := hS2.2.1.trans H1.out
 have HB2 : Hid (BoxIs (w1.setRow bt (cs.take off ++ [Value.int .i64 (v : Int)] ++ cs.drop (off + 1)).toArray) b2 (.int .i64 (lo : Int)) 3) := (hk2 _ (lt_heap H2.out) (HB.out b2 (by simp)).1 (hbo b2 (by simp))).trans H2.out
 have HB3 : Hid (BoxIs (w1.setRow bt (cs.take off ++ [Value.int .i64 (v : Int)] ++ cs.drop (off + 1)).toArray) b3 (.int .i64 (hi : Int)) 3) := (hk2 _ (lt_heap H3.out) (HB.out b3 (by simp)).1 (hbo b3 (by simp))).trans H3.out
 have HB4 : Hid (BoxIs (w1.setRow bt (cs.take off ++ [Value.int .i64 (v : Int)] ++ cs.drop (off + 1)).toArray) b4 (.int .i64 (ee : Int)) 37) := (hk2 _ (lt_heap H4.out) (HB.out b4 (by simp)).1 (hbo b4 (by simp))).trans H4.out
 clear hk2 hS2 hS1 hk1 hS0 hr1 ht1 HT1 KB HFd hH H0 H1 H2 H3 H4 HT HB hbo
 generalize (w1.setRow bt (cs.take off ++ [Value.int .i64 (v : Int)] ++ cs.drop (off + 1)).toArray) = W2 at *
 have hcell : W2.cell? ⟨bt, off, none⟩ = some (.int .i64 (v : Int)) := num_cell HN2.out hoff
 have hc1 := (cell1 HB0.out).1
 have hc2 := (cell1 HB2.out).1
 have hc3 := (cell1 HB3.out).1
 have hc4 := (cell1 HB4.out).1
 have hcd := fun d os => cell_regrown hcell d os
 have hc1d := fun d os => cell_regrown hc1 d os
 have hc2d := fun d os => cell_regrown hc2 d os
 have hc3d := fun d os => cell_regrown hc3 d os
 have HBT : Hid (bt < W2.heap.size) := lt_heap HN2.out
 have hvl : (v : Int) ≤ 255 := by omega
 by_cases hlo : v < lo
 · have hlo' : (v : Int) < lo := by omega
   obtain rfl : ee = ce := by rw [← hce.out, if_pos (.inl hlo)]
   clear hce hlo
   go_upto_region 2 with fail
   refine wp_region_quiet_below (by kernel_rfl) (by kernel_rfl) ?_
   repeat (first | go_big_quiet_skip | go_big_quiet_step (fail))
   refine wpQuiet_nil ?_
   rintro _ ⟨⟨dq, osq⟩, rfl⟩
   have hbg := below_regrown W2 dq osq
   have HF3 := Lib.hid (HF2.out.below hbg)
   have HT3 := Lib.hid (HTw.out.trans (Turn.of_below hbg))
   have HN3 : Hid (NumAt (Sort.grow (redrawn W2 dq) osq) bt off cs T (.int .i64 (v : Int))) := (hbg.block bt HBT.out).trans HN2.out
   have hc5 : (Sort.grow (redrawn W2 dq) osq).cell? ⟨b4, 0, none⟩ = some (.int .i64 (ee : Int)) := (cell1 ((hbg.block b4 (lt_heap HB4.out)).trans HB4.out)).1
   clear hbg
   go_wp2_with fail
   go_ret
   exact ⟨rfl, HF3.out, HT3.out, HN3.out⟩
 · have hlo' : ¬ (v : Int) < lo := by omega
   by_cases hhi : hi < v
   · have hhi' : (hi : Int) < v := by omega
     obtain rfl : ee = ce := by rw [← hce.out, if_pos (.inr hhi)]
     clear hce hlo hhi
     go_upto_region 2 with fail
     refine wp_region_quiet_below (by kernel_rfl) (by kernel_rfl) ?_
     repeat (first | go_big_quiet_skip | go_big_quiet_step (fail))
     refine wpQuiet_nil ?_
     rintro _ ⟨⟨dq, osq⟩, rfl⟩
     have hbg := below_regrown W2 dq osq
     have HF3 := Lib.hid (HF2.out.below hbg)
     have HT3 := Lib.hid (HTw.out.trans (Turn.of_below hbg))
     have HN3 : Hid (NumAt (Sort.grow (redrawn W2 dq) osq) bt off cs T (.int .i64 (v : Int))) := (hbg.block bt HBT.out).trans HN2.out
     have hc5 : (Sort.grow (redrawn W2 dq) osq).cell? ⟨b4, 0, none⟩ = some (.int .i64 (ee : Int)) := (cell1 ((hbg.block b4 (lt_heap HB4.out)).trans HB4.out)).1
     clear hbg
     go_wp2_with fail
     go_ret
     exact ⟨rfl, HF3.out, HT3.out, HN3.out⟩
   · have hhi' : ¬ (hi : Int) < v := by omega
     obtain rfl : 0 = ce := by rw [← hce.out, if_neg (by omega)]
     clear hce hlo hhi
     go_upto_region 2 with fail
     refine wp_region_quiet_below (by kernel_rfl) (by kernel_rfl) ?_
     repeat (first | go_big_quiet_skip | go_big_quiet_step (fail))
     refine wpQuiet_nil ?_
     rintro _ ⟨⟨dq, osq⟩, rfl⟩
     have hbg := below_regrown W2 dq osq
     have HF3 := Lib.hid (HF2.out.below hbg)
     have HT3 := Lib.hid (HTw.out.trans (Turn.of_below hbg))
     have HN3 : Hid (NumAt (Sort.grow (redrawn W2 dq) osq) bt off cs T (.int .i64 (v : Int))) := (hbg.block bt HBT.out).trans HN2.out
     have hc5 : (Sort.grow (redrawn W2 dq) osq).cell? ⟨b4, 0, none⟩ = some (.int .i64 (ee : Int)) := (cell1 ((hbg.block b4 (lt_heap HB4.out)).trans HB4.out)).1
     clear hbg
     go_wp2_with fail
     go_ret
     exact ⟨rfl, HF3.out, HT3.out, HN3.out⟩
end Go.Proofs.YtbfefdedjcppaaaGreatDoor

/- request's fields: number, whole. -/
namespace Go.Proofs.YtbfefdedjcppaaaGreatDoor
set_option maxRecDepth 100000
set_option maxHeartbeats 4000000
open Go.RowKit
def w5 (w : World) (o0 o1 o2 o3 o4 : Obj) : World := ((((w.alloc o0).alloc o1).alloc o2).alloc o3).alloc o4
theorem w5_heap (w : World) (o0 o1 o2 o3 o4 : Obj) : (w5 w o0 o1 o2 o3 o4).heap = ((((w.heap.push o0).push o1).push o2).push o3).push o4 := rfl
theorem w5_boxes (w : World) (o0 o1 o2 o3 o4 : Obj) : (w5 w o0 o1 o2 o3 o4).heap[w.heap.size]? = some o0 ∧ (w5 w o0 o1 o2 o3 o4).heap[w.heap.size + 1]? = some o1 ∧ (w5 w o0 o1 o2 o3 o4).heap[w.heap.size + 2]? = some o2 ∧ (w5 w o0 o1 o2 o3 o4).heap[w.heap.size + 3]? = some o3 ∧ (w5 w o0 o1 o2 o3 o4).heap[w.heap.size + 4]? = some o4 := by
 rw [w5_heap]
 refine ⟨?_, ?_, ?_, ?_, ?_⟩
 · simp only [Array.getElem?_push, Array.size_push]
   rw [if_neg (by omega), if_neg (by omega), if_neg (by omega), if_neg (by omega), if_pos trivial]
 · simp only [Array.getElem?_push, Array.size_push]
   rw [if_neg (by omega), if_neg (by omega), if_neg (by omega), if_pos trivial]
 · simp only [Array.getElem?_push, Array.size_push]
   rw [if_neg (by omega), if_neg (by omega), if_pos trivial]
 · simp only [Array.getElem?_push, Array.size_push]
   rw [if_neg (by omega), if_pos trivial]
 · simp only [Array.getElem?_push, Array.size_push]
   rw [if_pos trivial]
theorem w5_below (w : World) (o0 o1 o2 o3 o4 : Obj) : Below w.heap.size w (w5 w o0 o1 o2 o3 o4) := by
 refine ⟨rfl, rfl, rfl, ?_, fun k hk => ?_⟩
 · rw [w5_heap]; simp; omega
 · rw [w5_heap]
   simp only [Array.getElem?_push, Array.size_push]
   rw [if_neg (by omega), if_neg (by omega), if_neg (by omega), if_neg (by omega), if_neg (by omega)]
theorem turn_below {S : List Nat} {w W w' : World} (hb : Below w.heap.size w W) (ht : Turn S W w') : Turn S w w' := (Turn.of_below hb).trans ht
theorem fnumber_any (br bf bt off lo hi ee : Nat) (cs : List Value) (T : TypeId) (l : List UInt8) (w : World) (h : FAt w br bf l 0 0)
   (ht : w.heap[bt]? = some (.cells cs.toArray T (0, 0))) (hoff : off + 1 ≤ cs.length) (hbt : br < bt ∧ bt ≠ bf) :
   Calls Tryz.prog 23 #[.pointer (some ⟨bf, 0, none⟩), .pointer (some ⟨bt, off, none⟩), .int .i64 (lo : Int), .int .i64 (hi : Int), .int .i64 (ee : Int)] w
     (Took br bf [br, bf, bt] (l.drop (byteK l)) (byteE l) (if byteE l = 0 then (if byteV l < lo ∨ hi < byteV l then ee else 0) else byteE l) (fun w' => NumAt w' bt off cs T (.int .i64 (byteV l : Nat))) w) := by
 obtain ⟨h0, h1, h2, h3, h4⟩ := w5_boxes w (.cells #[.pointer (some ⟨bf, 0, none⟩)] 84) (.cells #[.pointer (some ⟨bt, off, none⟩)] 90) (.cells #[.int .i64 (lo : Int)] 3) (.cells #[.int .i64 (hi : Int)] 3) (.cells #[.int .i64 (ee : Int)] 37)
 have hb := w5_below w (.cells #[.pointer (some ⟨bf, 0, none⟩)] 84) (.cells #[.pointer (some ⟨bt, off, none⟩)] 90) (.cells #[.int .i64 (lo : Int)] 3) (.cells #[.int .i64 (hi : Int)] 3) (.cells #[.int .i64 (ee : Int)] 37)
 have hbf := lt_heap h.at_
 have hbts := lt_heap ht
 have hlt := h.lt
 have hF := h.below hb
 have KT := Lib.hid (ftake_any 70 #[.pointer (some ⟨w.heap.size, 0, none⟩), .pointer (some ⟨w.heap.size + 1, 0, none⟩), .pointer (some ⟨w.heap.size + 1 + 1, 0, none⟩), .pointer (some ⟨w.heap.size + 1 + 1 + 1, 0, none⟩), .pointer (some ⟨w.heap.size + 1 + 1 + 1 + 1, 0, none⟩)] (enters_of Tryz.func70 (by kernel_rfl) rfl) br bf l _ _ _ [br, bf, bt] _ _ hF (by simp)
   (fun W v hW => by unfold NumAt at hW ⊢; rw [heap_setCell_other _ hbt.2]; exact hW)
   (fnum1_any br bf bt off _ _ _ _ _ lo hi ee cs T l _ hF h0 h1 h2 h3 h4 ((hb.block bt hbts).trans ht) hoff hbt (fun b hm => by
     simp only [List.mem_cons, List.not_mem_nil, or_false] at hm
     rcases hm with rfl | rfl | rfl | rfl | rfl <;> refine ⟨?_, ?_, ?_⟩ <;> omega)))
 have HB := Lib.hid hb
 have hc0 := (cell1 h0).1
 clear h0 h1 h2 h3 h4 hb hF h ht hbf hbts hlt
 unfold w5 at *
 generalize (if byteV l < lo ∨ hi < byteV l then ee else 0) = ce at *
 obtain ⟨ef', hef⟩ : ∃ x, Hid ((if byteE l = 0 then ce else byteE l) = x) := ⟨_, rfl⟩
 rw [hef.out] at KT ⊢
 go_enter Tryz.func23, Tryz.ntmps23
 go_wp2_with (go_at_call 26; (refine KT.out.mono ?_); rintro e w1 ⟨rfl, hf1, ht1, hp1⟩)
 refine bodyPost_end (results_none rfl _ _ _) rfl ?_
 exact ⟨rfl, hf1, turn_below HB.out ht1, hp1⟩
theorem fnumber_bad (br bf : Nat) (p : Option Addr) (lo hi ee : Int) (l : List UInt8) (er ef : Nat) (w : World) (h : FAt w br bf l er ef) (he : ef ≠ 0) :
   Calls Tryz.prog 23 #[.pointer (some ⟨bf, 0, none⟩), .pointer p, .int .i64 lo, .int .i64 hi, .int .i64 ee] w fun e w' => e = .returned (.tuple #[]) ∧ Below w.heap.size w w' := by
 have hb := w5_below w (.cells #[.pointer (some ⟨bf, 0, none⟩)] 84) (.cells #[.pointer p] 90) (.cells #[.int .i64 lo] 3) (.cells #[.int .i64 hi] 3) (.cells #[.int .i64 ee] 37)
 have h0 := (w5_boxes w (.cells #[.pointer (some ⟨bf, 0, none⟩)] 84) (.cells #[.pointer p] 90) (.cells #[.int .i64 lo] 3) (.cells #[.int .i64 hi] 3) (.cells #[.int .i64 ee] 37)).1
 have hF := h.below hb
 have KT := Lib.hid (fun v => ftake_bad v br bf l er ef _ hF he)
 have HB := Lib.hid hb
 have hc0 := (cell1 h0).1
 clear h0 hb hF h he
 unfold w5 at *
 go_enter Tryz.func23, Tryz.ntmps23
 go_wp2_with (go_at_call 26; (refine (KT.out _).mono ?_); rintro e w1 ⟨rfl, rfl⟩)
 refine bodyPost_end (results_none rfl _ _ _) rfl ?_
 exact ⟨rfl, HB.out⟩
end Go.Proofs.YtbfefdedjcppaaaGreatDoor

/- tag's Text, Bytes, Of, Parent. -/
namespace Go.Proofs.YtbfefdedjcppaaaGreatDoor
set_option maxRecDepth 100000
set_option maxHeartbeats 4000000
open Go.RowKit
theorem siz10A : (Tryz.prog.info? 40).map (·.size) = some 10 := by kernel_rfl
def textB (b : List UInt8) : List UInt8 := if rightT b then plainL b else []
theorem tagText_any (b : List UInt8) (w : World) (hb : b.length = 10) (hmx : MX w) :
   Calls Tryz.prog 59 #[.agg (bC b)] w fun e w' => e = .returned (.string ⟨(textB b).toArray⟩) ∧ Below w.heap.size w w' := by
 have HG0 : Hid ((w.alloc (.cells (bC b) 28)).heap[w.heap.size]? = some (.cells (bC b) 28 (0, 0))) := heap_alloc_new _ _
 have HB0 : Hid (Below w.heap.size w (w.alloc (.cells (bC b) 28))) := below_alloc1 _ _
 have HRi : Hid (∀ W, Below w.heap.size w W → Calls Tryz.prog 57 #[.agg (bC b)] W fun e w' => e = .returned (.bool (rightT b)) ∧ Below W.heap.size W w') := fun W hW => right_any5 b W hb (hmx.below hW)
 have HPl : Hid (∀ W, Calls Tryz.prog 108 #[.agg (bC b)] W fun e w' => e = .returned (.string ⟨(plainL b).toArray⟩) ∧ Below W.heap.size W w') := fun W => plain_any b W hb
 have HTx : Hid (textB b = if rightT b then plainL b else []) := rfl
 have H10 := Lib.hid hb
 clear hb hmx
 generalize rightT b = r at *
 cases r
 all_goals
   go_enter Tryz.func59, Tryz.ntmps59
   go_wp2_with (first
     | (with_reducible refine ld_T rfl _ rfl w.heap.size b H10.out rfl HG0.out ?_)
     | (go_at_call 57; (refine (HRi.out _ HB0.out).mono ?_); rintro e w1 ⟨rfl, hb1⟩; have HB1 := Lib.hid (HB0.out.trans (hb1.mono HB0.out.size)); have HG1 : Hid (w1.heap[w.heap.size]? = some (.cells (bC b) 28 (0, 0))) := (by (show _ = _; rw [hb1.block _ (lt_heap HG0.out)]; exact HG0.out)); clear hb1)
     | (with_reducible refine ld_T rfl _ rfl w.heap.size b H10.out rfl HG1.out ?_)
     | (go_at_call 108; (refine (HPl.out _).mono ?_); rintro e w2 ⟨rfl, hb2⟩; have HB2 := Lib.hid (HB1.out.trans (hb2.mono HB1.out.size)); clear hb2))
   go_ret
   exact ⟨by rw [HTx.out]; rfl, by first | exact HB2.out | exact HB1.out⟩
section
variable {ops : Array Oper} {rest : List Oper} {o : Oper} {a : Act} {w : World} {Q : Exit → Act → World → Prop}
theorem cp_bytes (hgd : o.guard = none) (d s : Operand) (ho : o.op = .call { callee := .builtin .copy, args := #[d, s], argTypes := #[22, 22] }) (g off dLen dCap b so sLen sCap : Nat)
   (hd : a.eval d = .slice (some ⟨g, off, none⟩) dLen dCap) (hs : a.eval s = .slice (some ⟨b, so, none⟩) sLen sCap) (c : List UInt8) (t : TypeId) (hg : w.heap[g]? = some (.cells (bC c) t (0, 0))) (l : List UInt8) (hn : l.length = Nat.min sLen dLen)
   (hr : w.rangeAt b so (bC l).toList) (hfit : off + l.length ≤ c.length)
   (h : wpList Tryz.prog ops Q rest (a.put o.dst (goInt l.length)) (w.setRow g (bC (ovl c off l)))) : wpList Tryz.prog ops Q (o :: rest) a w := by
 have hl : (bC l).toList.length = l.length := by simp [bC]
 refine wpList_copy_own hgd d s 22 22 ho 5 Tryz.underlying22 (by kernel_rfl) g off dLen dCap ⟨b, so, none⟩ sLen sCap hd hs (bC c) t hg (bC l).toList (by rw [hl, hn]) (fun j v hv => by rw [Addr.add_mid]; exact hr j v hv) (by rw [hl, bC_size]; exact hfit) (fun v hv => by
   obtain ⟨x, _, rfl⟩ := List.mem_map.1 (by simpa [bC] using hv : v ∈ l.map fun b => Value.int .u8 (b.toNat : Int)); rfl) ?_
 rw [hl]
 have e : ((bC c).toList.take off ++ ((bC l).toList ++ (bC c).toList.drop (off + l.length))).toArray = bC (ovl c off l) := by
   simp [bC, ovl, List.map_take, List.map_drop]
 rw [e]; exact h
end
section
variable {ops : Array Oper} {rest : List Oper} {o : Oper} {a : Act} {w : World} {Q : Exit → Act → World → Prop}
theorem st_mid (hgd : o.guard = none) (ty : TypeId) (x y : Operand) (ho : o.op = .store ty x y) (g off : Nat) (c l : List UInt8) (t : TypeId) (hg : w.heap[g]? = some (.cells (bC c) t (0, 0)))
   (hx : a.eval x = .pointer (some ⟨g, off, none⟩)) (hy : a.eval y = .agg (bC l)) (hi : (Tryz.prog.info? ty).map (·.size) = some l.length) (hfit : off + l.length ≤ c.length)
   (h : wpList Tryz.prog ops Q rest (a.put o.dst undef) (w.setRow g (bC (ovl c off l)))) : wpList Tryz.prog ops Q (o :: rest) a w := by
 refine wpList_plain hgd fun K hK => ?_
 have hst := run_storeCells_at Tryz.prog g off t (bC l).toList 0 (bC c) w hg (by rw [bC_size]; simpa [bC] using hfit) (fun v hv => (Array.all_eq_true_iff_forall_mem.1 (bC_one l)) v (by simpa using hv))
 have e : ((bC c).toList.take off ++ (bC l).toList ++ (bC c).toList.drop (off + (bC l).toList.length)).toArray = bC (ovl c off l) := by
   simp [bC, ovl, List.map_take, List.map_drop]
 simp only [Nat.add_zero] at hst
 rw [e] at hst
 unfold Oper.wp execOp
 cases hq : Tryz.prog.info? ty with
 | none => simp [hq] at hi
 | some i =>
   have hs : l.length = i.size := by simp [hq] at hi; omega
   have hs2 : (bC l).size = i.size := by rw [bC_size, hs]
   have hrun : (storeVar ty ⟨g, off, none⟩ (.agg (bC l))).run Tryz.prog w = .ok () (w.setRow g (bC (ovl c off l))) := by
     simp [storeVar, sizeOf, typeInfo, hq, Value.cells, hs2, hst]
   simp only [ho, hx, hy, Instr.storeAt, Instr.sureAddr, Sem.run_bind, Sem.run_pure, Result.andThen_ok, hrun]
   exact hK _ _ h
theorem ld_mid (hgd : o.guard = none) (ty : TypeId) (x : Operand) (ho : o.op = .load ty x) (g off : Nat) (c : List UInt8) (n : Nat) (t : TypeId) (d : TypeDesc) (hu : Tryz.prog.underlying ty = some d) (hd : d.isRow = true) (hg : w.heap[g]? = some (.cells (bC c) t (0, 0)))
   (hx : a.eval x = .pointer (some ⟨g, off, none⟩)) (hi : (Tryz.prog.info? ty).map (·.size) = some n) (hfit : off + n ≤ c.length)
   (h : wpList Tryz.prog ops Q rest (a.put o.dst (.agg (bC ((c.drop off).take n)))) w) : wpList Tryz.prog ops Q (o :: rest) a w := by
 have hr := range_sub (range_whole (w := w) (g := g) (vs := (bC c).toList) (by simpa using hg)) off n
 rw [Nat.zero_add] at hr
 refine wl_ldr (by unfold Region.wanted; rw [hgd]) ty x ho g off (bC ((c.drop off).take n)).toList d hu hd (by rw [hi]; simp [bC]; omega) hx hr (by simpa using h)
end
theorem ovl_three (b : List UInt8) (hb : b.length = 10) : ovl (ovl (ovl tag0 0 (b.take 3)) 3 ((b.drop 3).take 4)) 7 (b.drop 7) = b := by
 obtain ⟨c0, c1, c2, c3, c4, c5, c6, c7, c8, c9, rfl⟩ : ∃ c0 c1 c2 c3 c4 c5 c6 c7 c8 c9, b = [c0, c1, c2, c3, c4, c5, c6, c7, c8, c9] := by
   rcases b with _ | ⟨c0, _ | ⟨c1, _ | ⟨c2, _ | ⟨c3, _ | ⟨c4, _ | ⟨c5, _ | ⟨c6, _ | ⟨c7, _ | ⟨c8, _ | ⟨c9, _ | ⟨c10, n⟩⟩⟩⟩⟩⟩⟩⟩⟩⟩⟩ <;> simp at hb
   exact ⟨c0, c1, c2, c3, c4, c5, c6, c7, c8, c9, rfl⟩
 rfl
structure CpSt (w : World) (b c : List UInt8) (T T' : TypeId) (wx : World) : Prop where
 bel : Below w.heap.size w wx
 src : wx.heap[w.heap.size]? = some (.cells (bC b) T (0, 0))
 res : ∃ r, r.length = 10 ∧ wx.heap[w.heap.size + 1]? = some (.cells (bC r) T' (0, 0))
 dst : wx.heap[w.heap.size + 1 + 1]? = some (.cells (bC c) T' (0, 0))
theorem CpSt.step {w wx : World} {b c c' : List UInt8} {T T' : TypeId} (h : CpSt w b c T T' wx) : CpSt w b c' T T' (wx.setRow (w.heap.size + 1 + 1) (bC c')) := by
 obtain ⟨r, hr, hr2⟩ := h.res
 exact ⟨setRow_below h.bel (by omega) _, by rw [setRow_other _ _ _ _ (by omega)]; exact h.src, ⟨r, hr, by rw [setRow_other _ _ _ _ (by omega)]; exact hr2⟩, setRow_at h.dst⟩
theorem CpSt.start (w : World) (b : List UInt8) (T T' : TypeId) : CpSt w b tag0 T T' (((w.alloc (.cells (bC b) T)).alloc (.cells (bC tag0) T')).alloc (.cells (bC tag0) T')) := by
 refine ⟨(below_alloc2 _ _ _).alloc (by simp; omega) _, ?_, ⟨tag0, rfl, ?_⟩, ?_⟩
 · rw [heap_alloc_old _ _ (by simp; omega)]; exact heap_alloc2_old _ _ _
 · rw [heap_alloc_old _ _ (by simp)]; exact heap_alloc2_new _ _ _
 · have := heap_alloc_new ((w.alloc (.cells (bC b) T)).alloc (.cells (bC tag0) T')) (.cells (bC tag0) T'); simpa using this
theorem CpSt.drew {w wx : World} {b c : List UInt8} {T T' : TypeId} (h : CpSt w b c T T' wx) : CpSt w b c T T' wx.drew := ⟨h.bel.drew, h.src, h.res, h.dst⟩
theorem tagBytes_any (b : List UInt8) (w : World) (hb : b.length = 10) :
   Calls Tryz.prog 113 #[.agg (bC b)] w fun e w' => e = .returned (.agg (bC b)) ∧ Below w.heap.size w w' := by
 have H10 := Lib.hid hb
 have HO := Lib.hid (ovl_three b hb)
 have HS0 : Hid (CpSt w b tag0 28 40 (((w.alloc (.cells (bC b) 28)).alloc (.cells (bC tag0) 40)).alloc (.cells (bC tag0) 40))) := CpSt.start w b _ _
 clear hb
 go_enter Tryz.func113, Tryz.ntmps113
 go_upto_region 2 with fail
 rw [show (Obj.cells #[Value.int .u8 0, .int .u8 0, .int .u8 0, .int .u8 0, .int .u8 0, .int .u8 0, .int .u8 0, .int .u8 0, .int .u8 0, .int .u8 0] 40) = Obj.cells (bC tag0) 40 from rfl]
 generalize (((w.alloc (.cells (bC b) 28)).alloc (.cells (bC tag0) 40)).alloc (.cells (bC tag0) 40)) = W1 at *
 go_still_tail 3, (by kernel_rfl)
 refine cp_bytes (w := W1.drew) rfl (.tmp 4) (.tmp 6) rfl (w.heap.size + 1 + 1) 0 3 10 w.heap.size 0 3 3 rfl rfl tag0 _ HS0.out.drew.dst (b.take 3) (by simp [H10.out]) (by have := range_sub (range_whole (w := W1.drew) (g := w.heap.size) (vs := (bC b).toList) (by simpa using HS0.out.drew.src)) 0 3; simpa using this) (by simp [ovl, tag0, H10.out]) ?_
 have HS1 := Lib.hid (CpSt.step (c' := ovl tag0 0 (b.take 3)) HS0.out.drew)
 generalize W1.drew.setRow (w.heap.size + 1 + 1) (bC (ovl tag0 0 (b.take 3))) = W2 at *
 go_wp2_with fail
 go_still_tail 3, (by kernel_rfl)
 refine cp_bytes (w := W2.drew) rfl (.tmp 8) (.tmp 10) rfl (w.heap.size + 1 + 1) 3 4 7 w.heap.size 3 4 4 rfl rfl (ovl tag0 0 (b.take 3)) _ HS1.out.drew.dst ((b.drop 3).take 4) (by simp [H10.out]) (by have := range_sub (range_whole (w := W2.drew) (g := w.heap.size) (vs := (bC b).toList) (by simpa using HS1.out.drew.src)) 3 4; simpa using this) (by simp [ovl, tag0, H10.out]) ?_
 have HS2 := Lib.hid (CpSt.step (c' := ovl (ovl tag0 0 (b.take 3)) 3 ((b.drop 3).take 4)) HS1.out.drew)
 generalize W2.drew.setRow (w.heap.size + 1 + 1) (bC (ovl (ovl tag0 0 (b.take 3)) 3 ((b.drop 3).take 4))) = W3 at *
 go_wp2_with fail
 go_still_tail 3, (by kernel_rfl)
 refine cp_bytes (w := W3.drew) rfl (.tmp 12) (.tmp 14) rfl (w.heap.size + 1 + 1) 7 3 3 w.heap.size 7 3 3 rfl rfl (ovl (ovl tag0 0 (b.take 3)) 3 ((b.drop 3).take 4)) _ HS2.out.drew.dst ((b.drop 7).take 3) (by simp [H10.out]) (by have := range_sub (range_whole (w := W3.drew) (g := w.heap.size) (vs := (bC b).toList) (by simpa using HS2.out.drew.src)) 7 3; simpa using this) (by simp [ovl, tag0, H10.out]) ?_
 have HS3 := Lib.hid (CpSt.step (c' := ovl (ovl (ovl tag0 0 (b.take 3)) 3 ((b.drop 3).take 4)) 7 ((b.drop 7).take 3)) HS2.out.drew)
 generalize W3.drew.setRow (w.heap.size + 1 + 1) (bC (ovl (ovl (ovl tag0 0 (b.take 3)) 3 ((b.drop 3).take 4)) 7 ((b.drop 7).take 3))) = W4 at *
 have e7 : (b.drop 7).take 3 = b.drop 7 := List.take_of_length_le (by simp [H10.out])
 rw [e7, HO.out] at HS3
 clear HS0 HS1 HS2 HO e7
 obtain ⟨r, hr, hr2⟩ := HS3.out.res
 have HR2 := Lib.hid hr2
 have HR := Lib.hid hr
 clear hr hr2
 go_wp2_with (first
   | ((with_reducible refine gate_ld 40 _ rfl ?_); refine wl_ldr rfl _ _ rfl (w.heap.size + 1 + 1) 0 (bC b).toList _ Tryz.underlying40 rfl (by rw [siz10A]; simp [bC, H10.out]) rfl (range_whole (by simpa using HS3.out.dst)) ?_)
   | ((with_reducible refine gate_st 40 _ _ rfl ?_); refine wl_str rfl 40 _ _ rfl (w.heap.size + 1) (bC b) (bC r) _ (by rw [siz10A, bC_size, H10.out]) (by rw [bC_size, bC_size, H10.out, HR.out]) (bC_one _) rfl rfl HR2.out ?_))
 refine bodyPost_ret (res_rowc (P := Tryz.prog) (T := 40) (T' := 40) rfl _ _ (w.heap.size + 1) (bC b) (0, 0) rfl (setRow_at HR2.out) Tryz.underlying40 rfl (by rw [siz10A, bC_size, H10.out])) rfl ⟨rfl, setRow_below HS3.out.bel (by omega) _⟩
end Go.Proofs.YtbfefdedjcppaaaGreatDoor

/- Orders and replies in memory; the laws' Cut, Of and Told of chapter 25. -/
namespace Go.Proofs.YtbfefdedjcppaaaGreatDoor
open Go.RowKit
theorem exec_st1 {P : Program} {o : Oper} {a : Act} {w : World} (T : TypeId) (hsz : (P.info? T).map (·.size) = some 1) (x y : Operand) (ho : o.op = .store T x y) (b i : Nat) (v : Value) (hx : a.eval x = .pointer (some ⟨b, i, none⟩)) (hy : a.eval y = v) (h1 : v.oneCell' = true) (cur : List Value) (T' : TypeId) (hg : w.heap[b]? = some (.cells cur.toArray T' (0, 0))) (hi : i + 1 ≤ cur.length) :
   (execOp a.eval o).run P w = .ok .skip (w.setRow b (cur.take i ++ [v] ++ cur.drop (i + 1)).toArray) := by
 have hst := run_storeCells_at P b i T' [v] 0 cur.toArray w hg (by simpa using hi) (fun x hx => by simp at hx; subst hx; exact h1)
 have hc : v.cells = #[v] := by cases v <;> first | rfl | cases h1
 have hrun : (storeVar T ⟨b, i, none⟩ v).run P w = .ok () (w.setRow b (cur.take i ++ [v] ++ cur.drop (i + 1)).toArray) := by
   cases hq : P.info? T with
   | none => simp [hq] at hsz
   | some inf =>
     have hs : inf.size = 1 := by simpa [hq] using hsz
     simp only [Nat.add_zero, List.length_singleton] at hst
     simp [storeVar, sizeOf, typeInfo, hq, hc, hs, hst]
 unfold execOp
 simp only [ho, hx, hy, Instr.storeAt, Instr.sureAddr, Sem.run_bind, Sem.run_pure, Result.andThen_ok, hrun]
theorem wl_st1G {P : Program} {ops : Array Oper} {rest : List Oper} {o : Oper} {a : Act} {w : World} {Q : Exit → Act → World → Prop} (hgd : o.guard = none) (T : TypeId) (hsz : (P.info? T).map (·.size) = some 1) (x y : Operand) (ho : o.op = .store T x y) (b i : Nat) (v : Value) (hx : a.eval x = .pointer (some ⟨b, i, none⟩)) (hy : a.eval y = v) (h1 : v.oneCell' = true) (cur new : List Value) (T' : TypeId) (hg : w.heap[b]? = some (.cells cur.toArray T' (0, 0))) (hi : i + 1 ≤ cur.length) (hn : cur.take i ++ [v] ++ cur.drop (i + 1) = new)
   (h : ∀ w', w'.heap[b]? = some (.cells new.toArray T' (0, 0)) → Turn [b] w w' → wpList P ops Q rest (a.put o.dst undef) w') : wpList P ops Q (o :: rest) a w := by
 subst hn
 refine wpList_plain hgd fun K hK => ?_
 have := exec_st1 (P := P) (a := a) (w := w) T hsz x y ho b i v hx hy h1 cur T' hg hi
 unfold Oper.wp
 rw [this]
 exact hK _ _ (h _ (setRow_at hg) ⟨rfl, rfl, rfl, by simp, fun b _ hr => setRow_other _ _ _ _ (by simpa using hr)⟩)
theorem ag3 (w : World) : (isAgg 3).run Tryz.prog w = .ok false w := by simp [isAgg, run_underlying Tryz.underlying3]
theorem ag9 (w : World) : (isAgg 9).run Tryz.prog w = .ok false w := by simp [isAgg, run_underlying Tryz.underlying9]
theorem siz9 : (Tryz.prog.info? 9).map (·.size) = some 1 := by kernel_rfl
structure OpD where
 n0 : Int
 n1 : Int
 n2 : Int
 n3 : Int
 n4 : Int
 n5 : Int
 n6 : Int
 name : List UInt8
 tag : List UInt8
 text : ByteArray
 ln : name.length = 12
 lt : tag.length = 10
def opI (o : OpD) : List Value := [.int .i64 o.n0, .int .i64 o.n1, .int .i64 o.n2, .int .i64 o.n3, .int .i64 o.n4, .int .i64 o.n5, .int .i64 o.n6]
def opC (o : OpD) : List Value := opI o ++ ((bC o.name).toList ++ ((bC o.tag).toList ++ [.string o.text]))
theorem opC_len (o : OpD) : (opC o).length = 30 := by simp [opC, opI, bC, o.ln, o.lt]
theorem bC_all (l : List UInt8) : (bC l).toList.all (·.oneCell') = true := by
 have := bC_one l
 rwa [← Array.all_toList] at this
theorem opC_one (o : OpD) : (opC o).all (·.oneCell') = true := by
 simp only [opC, List.all_append, bC_all, Bool.true_and, Bool.and_true]
 rfl
theorem opC_text (o : OpD) : (opC o)[29]? = some (.string o.text) := by
 have h1 : (bC o.name).toList.length = 12 := by simp [bC, o.ln]
 have h2 : (bC o.tag).toList.length = 10 := by simp [bC, o.lt]
 unfold opC
 rw [List.getElem?_append_right (by simp [opI]), List.getElem?_append_right (by simp [opI, h1]), List.getElem?_append_right (by simp [opI, h1, h2])]
 simp [opI, h1, h2]
def OpD.set (o : OpD) (s : ByteArray) : OpD := { o with text := s }
theorem opC_set (o : OpD) (s : ByteArray) : (opC o).take 29 ++ [Value.string s] ++ (opC o).drop (29 + 1) = opC (o.set s) := by
 have h1 : (bC o.name).toList.length = 12 := by simp [bC, o.ln]
 have h2 : (bC o.tag).toList.length = 10 := by simp [bC, o.lt]
 rw [List.drop_eq_nil_of_le (by rw [opC_len]; omega), List.append_nil]
 have e : opC o = (opI o ++ ((bC o.name).toList ++ (bC o.tag).toList)) ++ [.string o.text] := by simp [opC]
 rw [e, List.take_left' (by simp [opI, h1, h2])]
 simp [opC, OpD.set, opI]
theorem op_name {w : World} {b o : Nat} {x : OpD} (h : w.rangeAt b o (opC x)) : w.rangeAt b (o + 7) (bC x.name).toList := range_app_left (range_app_right h 7 rfl)
theorem op_tag {w : World} {b o : Nat} {x : OpD} (h : w.rangeAt b o (opC x)) : w.rangeAt b (o + 19) (bC x.tag).toList := by
 have := range_app_left (range_app_right (range_app_right h 7 rfl) 12 (by simp [bC, x.ln]))
 rwa [Nat.add_assoc] at this
theorem sizOp : (Tryz.prog.info? 30).map (·.size) = some 30 := by kernel_rfl
theorem twelve (l : List UInt8) (h : l.length = 12) : ∃ a0 a1 a2 a3 a4 a5 a6 a7 a8 a9 a10 a11, l = [a0, a1, a2, a3, a4, a5, a6, a7, a8, a9, a10, a11] := by
 match l, h with
 | [a0, a1, a2, a3, a4, a5, a6, a7, a8, a9, a10, a11], _ => exact ⟨a0, a1, a2, a3, a4, a5, a6, a7, a8, a9, a10, a11, rfl⟩
end Go.Proofs.YtbfefdedjcppaaaGreatDoor

/- Replies, records, writes in memory; the laws' Told (25), Of (10), Of (14). -/
namespace Go.Proofs.YtbfefdedjcppaaaGreatDoor
set_option maxRecDepth 100000
set_option maxHeartbeats 8000000
open Go.RowKit
structure RpD where
 err : Int
 text : ByteArray
 tag : List UInt8
 st : Int
 n : Int
 lt : tag.length = 10
def rpC (r : RpD) : List Value := [.int .i64 r.err, .string r.text] ++ ((bC r.tag).toList ++ [.int .i64 r.st, .int .i64 r.n])
theorem rpC_len (r : RpD) : (rpC r).length = 14 := by simp [rpC, bC, r.lt]
theorem rpC_one (r : RpD) : (rpC r).all (·.oneCell') = true := by
 simp only [rpC, List.all_append, bC_all, Bool.true_and]
 rfl
theorem rpC_end (r : RpD) : (rpC r)[12]? = some (.int .i64 r.st) ∧ (rpC r)[13]? = some (.int .i64 r.n) := by
 have h2 : (bC r.tag).toList.length = 10 := by simp [bC, r.lt]
 unfold rpC
 constructor
 · rw [List.getElem?_append_right (by simp), List.getElem?_append_right (by simp [h2])]; simp [h2]
 · rw [List.getElem?_append_right (by simp), List.getElem?_append_right (by simp [h2])]; simp [h2]
theorem rp_tag {w : World} {b o : Nat} {x : RpD} (h : w.rangeAt b o (rpC x)) : w.rangeAt b (o + 2) (bC x.tag).toList := range_app_left (range_app_right h 2 rfl)
theorem sizRp : (Tryz.prog.info? 56).map (·.size) = some 14 := by kernel_rfl
theorem sizRRp : (Tryz.prog.info? 69).map (·.size) = some 14 := by kernel_rfl
theorem built_rRp (r : RpD) : Tryz.prog.built 69 [(0, .int .i64 r.err), (1, .string r.text), (2, .agg (bC r.tag)), (3, .int .i64 r.st), (4, .int .i64 r.n)] = some (rpC r).toArray := by
 obtain ⟨e, t, g, s, n, h⟩ := r
 obtain ⟨a, b, c, d, e, f, g, i, j, k, rfl⟩ := ten g h
 kernel_rfl
def zRp : Array Value := #[Value.int .i64 0, Value.string ⟨#[]⟩, .int .u8 0, .int .u8 0, .int .u8 0, .int .u8 0, .int .u8 0, .int .u8 0, .int .u8 0, .int .u8 0, .int .u8 0, .int .u8 0, .int .i64 0, .int .i64 0]
theorem ag38 (w : World) : (isAgg 37).run Tryz.prog w = .ok false w := by simp [isAgg, run_underlying Tryz.underlying37]
theorem ag4 (w : World) : (isAgg 4).run Tryz.prog w = .ok false w := by simp [isAgg, run_underlying Tryz.underlying4]
theorem told25_any (r : RpD) (w : World) : Calls Tryz.prog 19 #[.agg (rpC r).toArray] w fun e w' => e = .returned (.agg (rpC r).toArray) ∧ Below w.heap.size w w' := by
 have HG0 : Hid (((w.alloc (.cells (rpC r).toArray 56)).alloc (.cells zRp 69)).heap[w.heap.size]? = some (.cells (rpC r).toArray 56 (0, 0))) := heap_alloc2_old _ _ _
 have HG1 : Hid (((w.alloc (.cells (rpC r).toArray 56)).alloc (.cells zRp 69)).heap[w.heap.size + 1]? = some (.cells zRp 69 (0, 0))) := heap_alloc2_new _ _ _
 have HB1 : Hid (Below w.heap.size w ((w.alloc (.cells (rpC r).toArray 56)).alloc (.cells zRp 69))) := below_alloc2 _ _ _
 have KT : Hid (∀ W, Calls Tryz.prog 63 #[.agg (bC r.tag)] W fun e w' => e = .returned (.agg (bC r.tag)) ∧ Below W.heap.size W w') := fun W => tag19_any r.tag r.lt W
 go_enter Tryz.func19, Tryz.ntmps19
 go_upto_region 1 with fail
 rw [show (Obj.cells #[Value.int .i64 0, Value.string ⟨#[]⟩, .int .u8 0, .int .u8 0, .int .u8 0, .int .u8 0, .int .u8 0, .int .u8 0, .int .u8 0, .int .u8 0, .int .u8 0, .int .u8 0, .int .i64 0, .int .i64 0] 69) = Obj.cells zRp 69 from rfl]
 generalize (w.alloc (.cells (rpC r).toArray 56)).alloc (.cells zRp 69) = W1 at *
 have hlt := lt_heap HG0.out
 have c0 : W1.cell? ⟨w.heap.size, 0, none⟩ = some (.int .i64 r.err) := by rw [cell_blk HG0.out]; rfl
 have c1 : W1.cell? ⟨w.heap.size, 1, none⟩ = some (.string r.text) := by rw [cell_blk HG0.out]; rfl
 have c2 : W1.cell? ⟨w.heap.size, 12, none⟩ = some (.int .i64 r.st) := by rw [cell_blk HG0.out, List.getElem?_toArray]; exact (rpC_end r).1
 have c3 : W1.cell? ⟨w.heap.size, 13, none⟩ = some (.int .i64 r.n) := by rw [cell_blk HG0.out, List.getElem?_toArray]; exact (rpC_end r).2
 have HRt : Hid (W1.rangeAt w.heap.size 2 (bC r.tag).toList) := by have := rp_tag (range_whole HG0.out); rwa [Nat.zero_add] at this
 refine wp_region_below_tail 12 (by kernel_rfl) (by kernel_rfl) ?_
 simp only [List.take_succ_cons, List.take_zero, List.drop_succ_cons, List.drop_zero]
 repeat (first
   | (refine wq_ldr rfl 28 (.tmp 7) rfl w.heap.size 2 (bC r.tag).toList _ Tryz.underlying28 rfl (by rw [sizTag19]; simp [bC, r.lt]) rfl HRt.out hlt ?_; simp only [Act.put, wrT])
   | (refine wq_one rfl 37 (.tmp 3) rfl w.heap.size 0 (.int .i64 r.err) ag38 rfl c0 hlt ?_; simp only [Act.put, wrT])
   | (refine wq_one rfl 9 (.tmp 5) rfl w.heap.size 1 (.string r.text) ag9 rfl c1 hlt ?_; simp only [Act.put, wrT])
   | (refine wq_one rfl 3 (.tmp 10) rfl w.heap.size 12 (.int .i64 r.st) ag3 rfl c2 hlt ?_; simp only [Act.put, wrT])
   | (refine wq_one rfl 3 (.tmp 12) rfl w.heap.size 13 (.int .i64 r.n) ag3 rfl c3 hlt ?_; simp only [Act.put, wrT])
   | (refine wq_bd _ rfl 69 [(0, .tmp 4), (1, .tmp 6), (2, .tmp 9), (3, .tmp 11), (4, .tmp 13)] rfl [(0, .int .i64 r.err), (1, .string r.text), (2, .agg (bC r.tag)), (3, .int .i64 r.st), (4, .int .i64 r.n)] rfl (rpC r).toArray (built_rRp r) ?_; simp only [Act.put, wrT])
   | go_big_quiet_step (with_reducible exact rg_call KT.out _ _))
 refine wpQuiet_nil ?_
 rintro _ ⟨⟨dq, osq⟩, rfl⟩
 have hbr := below_regrown W1 dq osq
 have HG2 := Lib.hid ((hbr.block _ (lt_heap HG1.out)).trans HG1.out)
 have HB2 := Lib.hid (HB1.out.trans (hbr.mono HB1.out.size))
 clear hbr c0 c1 c2 c3
 generalize Sort.grow (redrawn W1 dq) osq = W2 at *
 go_wp2_with (first
   | ((with_reducible refine gate_st 69 _ _ rfl ?_); refine wl_strG rfl 69 _ _ rfl (w.heap.size + 1) (rpC r).toArray zRp 69 (by rw [sizRRp, List.size_toArray, rpC_len]) (by rw [List.size_toArray, rpC_len]; rfl) (by rw [← Array.all_toList]; exact rpC_one r) rfl rfl HG2.out (fun W3 h1 h2 => ?_); have HG3 := Lib.hid h1; have HB3 := Lib.hid (HB2.out.trans (h2.below (B := w.heap.size) (fun k hk => by simp at hk; omega) HB2.out.size)); clear h1 h2))
 refine bodyPost_ret (res_rowc (P := Tryz.prog) (T := 69) (T' := 69) rfl _ _ (w.heap.size + 1) (rpC r).toArray (0, 0) rfl HG3.out Tryz.underlying69 rfl (by rw [sizRRp, List.size_toArray, rpC_len])) rfl ⟨rfl, HB3.out⟩
end Go.Proofs.YtbfefdedjcppaaaGreatDoor
