/- The law's Event and Told at a reply that is the document's. -/
import Derived.Test.YtbfefdedjcppaaaGreatDoorPX6
import Derived.Test.YtbfefdedjcppaaaGreatDoorDY6
import Derived.Laws.StructEq
namespace Go.Proofs.YtbfefdedjcppaaaGreatDoor
set_option maxRecDepth 100000
set_option maxHeartbeats 8000000
open Go.RowKit Go.Deep
theorem builtEvS (v : Ev) : Tryz.prog.built 79 [(0, .int .u64 v.at_), (1, .agg (rkR v.key).toArray), (2, .bool v.dead), (3, .bool v.mark)] = some (evD v).toArray := by
 obtain ⟨t, k, d, m, hk⟩ := v
 obtain ⟨a0, a1, a2, a3, a4, a5, a6, a7, a8, a9, a10, a11, a12, a13, a14, a15, a16, a17, a18, a19, a20, a21, a22, a23, a24, rfl⟩ := Kx.list25 k hk
 kernel_rfl
theorem of06S (k : List UInt8) (w : World) (hk : k.length = 25) : Calls Tryz.prog 38 #[.agg (bC k)] w fun e w' => e = .returned (.agg (rkR k).toArray) ∧ Below w.heap.size w w' := by
 obtain ⟨a0, a1, a2, a3, a4, a5, a6, a7, a8, a9, a10, a11, a12, a13, a14, a15, a16, a17, a18, a19, a20, a21, a22, a23, a24, rfl⟩ := Kx.list25 k hk
 exact of06_any ⟨a0, a1, a2, [a3, a4, a5, a6, a7, a8, a9, a10, a11, a12, a13, a14], [a15, a16, a17, a18, a19, a20, a21, a22, a23, a24]⟩ w ⟨rfl, rfl⟩
theorem exec_ixS {o : Oper} {a : Act} {w : World} (x y : Operand) (ho : o.op = .indexAddr 70 x y) (b f : Nat) (n c j : Nat) (hx : a.eval x = .slice (some ⟨b, f, none⟩) n c) (hy : a.eval y = .int .i64 (j : Int)) (hj : j < n) : (execOp a.eval o).run Tryz.prog w = .ok (.value (.pointer (some ⟨b, f + j * 28, none⟩))) w := by
 have hq := sizEvD
 cases hq2 : Tryz.prog.info? 79 with
 | none => simp [hq2] at hq
 | some i =>
   have hs : i.size = 28 := by simpa [hq2] using hq
   unfold execOp
   simp only [ho, hx, hy]
   simp [go_sem, Tryz.underlying70, sizeOf, typeInfo, hq2, hs, hj]
theorem agEvsS (w : World) : (isAgg 70).run Tryz.prog w = .ok false w := by simp [isAgg, run_underlying Tryz.underlying70]
theorem event26_any (v : Ev) (w : World) : Calls Tryz.prog 20 #[.agg (evC v).toArray] w fun e w' => e = .returned (.agg (evD v).toArray) ∧ Below w.heap.size w w' := by
 have HG0 : Hid (((w.alloc (.cells (evC v).toArray 62)).alloc (.cells #[Value.int .u64 0, .int .i64 0, .int .i64 0, .int .i64 0, .int .u8 0, .int .u8 0, .int .u8 0, .int .u8 0, .int .u8 0, .int .u8 0, .int .u8 0, .int .u8 0, .int .u8 0, .int .u8 0, .int .u8 0, .int .u8 0, .int .u8 0, .int .u8 0, .int .u8 0, .int .u8 0, .int .u8 0, .int .u8 0, .int .u8 0, .int .u8 0, .int .u8 0, .int .u8 0, Value.bool false, Value.bool false] 79)).heap[w.heap.size]? = some (.cells (evC v).toArray 62 (0, 0))) := heap_alloc2_old _ _ _
 have HG1 : Hid (((w.alloc (.cells (evC v).toArray 62)).alloc (.cells #[Value.int .u64 0, .int .i64 0, .int .i64 0, .int .i64 0, .int .u8 0, .int .u8 0, .int .u8 0, .int .u8 0, .int .u8 0, .int .u8 0, .int .u8 0, .int .u8 0, .int .u8 0, .int .u8 0, .int .u8 0, .int .u8 0, .int .u8 0, .int .u8 0, .int .u8 0, .int .u8 0, .int .u8 0, .int .u8 0, .int .u8 0, .int .u8 0, .int .u8 0, .int .u8 0, Value.bool false, Value.bool false] 79)).heap[w.heap.size + 1]? = some (.cells #[Value.int .u64 0, .int .i64 0, .int .i64 0, .int .i64 0, .int .u8 0, .int .u8 0, .int .u8 0, .int .u8 0, .int .u8 0, .int .u8 0, .int .u8 0, .int .u8 0, .int .u8 0, .int .u8 0, .int .u8 0, .int .u8 0, .int .u8 0, .int .u8 0, .int .u8 0, .int .u8 0, .int .u8 0, .int .u8 0, .int .u8 0, .int .u8 0, .int .u8 0, .int .u8 0, Value.bool false, Value.bool false] 79 (0, 0))) := heap_alloc2_new _ _ _
 have HB1 : Hid (Below w.heap.size w ((w.alloc (.cells (evC v).toArray 62)).alloc (.cells #[Value.int .u64 0, .int .i64 0, .int .i64 0, .int .i64 0, .int .u8 0, .int .u8 0, .int .u8 0, .int .u8 0, .int .u8 0, .int .u8 0, .int .u8 0, .int .u8 0, .int .u8 0, .int .u8 0, .int .u8 0, .int .u8 0, .int .u8 0, .int .u8 0, .int .u8 0, .int .u8 0, .int .u8 0, .int .u8 0, .int .u8 0, .int .u8 0, .int .u8 0, .int .u8 0, Value.bool false, Value.bool false] 79))) := below_alloc2 _ _ _
 have KK : Hid (∀ W, Calls Tryz.prog 38 #[.agg (bC v.key)] W fun e w' => e = .returned (.agg (rkR v.key).toArray) ∧ Below W.heap.size W w') := fun W => of06S v.key W v.lkey
 go_enter Tryz.func20, Tryz.ntmps20
 go_upto_region 1 with fail
 generalize (w.alloc (.cells (evC v).toArray 62)).alloc (.cells #[Value.int .u64 0, .int .i64 0, .int .i64 0, .int .i64 0, .int .u8 0, .int .u8 0, .int .u8 0, .int .u8 0, .int .u8 0, .int .u8 0, .int .u8 0, .int .u8 0, .int .u8 0, .int .u8 0, .int .u8 0, .int .u8 0, .int .u8 0, .int .u8 0, .int .u8 0, .int .u8 0, .int .u8 0, .int .u8 0, .int .u8 0, .int .u8 0, .int .u8 0, .int .u8 0, Value.bool false, Value.bool false] 79) = W1 at *
 have hlt := lt_heap HG0.out
 have c0 : W1.cell? ⟨w.heap.size, 0, none⟩ = some (.int .u64 v.at_) := by rw [cell_blk HG0.out]; rfl
 have c26 : W1.cell? ⟨w.heap.size, 26, none⟩ = some (.bool v.dead) := by rw [cell_blk HG0.out, List.getElem?_toArray]; exact evC_deadC v
 have c27 : W1.cell? ⟨w.heap.size, 27, none⟩ = some (.bool v.mark) := by rw [cell_blk HG0.out, List.getElem?_toArray]; exact evC_markC v
 have HRk : Hid (W1.rangeAt w.heap.size 1 (bC v.key).toList) := by
   have h1 : W1.rangeAt w.heap.size 0 ([Value.int .u64 v.at_] ++ ((bC v.key).toList ++ [.bool v.dead, .bool v.mark])) := range_whole HG0.out
   have h2 := range_app_right h1
   exact range_app_left (h2 1 rfl)
 refine wp_region_below_tail 10 (by kernel_rfl) (by kernel_rfl) ?_
 simp only [List.take_succ_cons, List.take_zero, List.drop_succ_cons, List.drop_zero]
 repeat (first
   | (refine wq_ldr rfl 32 (.tmp 5) rfl w.heap.size 1 (bC v.key).toList _ Tryz.underlying32 rfl (by rw [sizKey]; simp [bC, v.lkey]) rfl HRk.out hlt ?_; simp only [Act.put, wrT])
   | (refine wq_one rfl 60 (.tmp 3) rfl w.heap.size 0 (.int .u64 v.at_) ag60u rfl c0 hlt ?_; simp only [Act.put, wrT])
   | (refine wq_one rfl 4 (.tmp 8) rfl w.heap.size 26 (.bool v.dead) ag4 rfl c26 hlt ?_; simp only [Act.put, wrT])
   | (refine wq_one rfl 4 (.tmp 10) rfl w.heap.size 27 (.bool v.mark) ag4 rfl c27 hlt ?_; simp only [Act.put, wrT])
   | (refine wq_bd _ rfl 79 [(0, .tmp 4), (1, .tmp 7), (2, .tmp 9), (3, .tmp 11)] rfl [(0, .int .u64 v.at_), (1, .agg (rkR v.key).toArray), (2, .bool v.dead), (3, .bool v.mark)] rfl (evD v).toArray (builtEvS v) ?_; simp only [Act.put, wrT])
   | go_big_quiet_step (with_reducible exact rg_call KK.out _ _))
 refine wpQuiet_nil ?_
 rintro _ ⟨⟨dq, osq⟩, rfl⟩
 have hbr := below_regrown W1 dq osq
 have HG2 := Lib.hid ((hbr.block _ (lt_heap HG1.out)).trans HG1.out)
 have HB2 := Lib.hid (HB1.out.trans (hbr.mono HB1.out.size))
 clear hbr c0 c26 c27
 generalize Sort.grow (redrawn W1 dq) osq = W2 at *
 go_wp2_with (first
   | ((with_reducible refine gate_st 79 _ _ rfl ?_); refine wl_strG rfl 79 _ _ rfl (w.heap.size + 1) (evD v).toArray #[Value.int IntKind.u64 0, Value.int IntKind.i64 0, Value.int IntKind.i64 0, Value.int IntKind.i64 0, Value.int IntKind.u8 0, Value.int IntKind.u8 0, Value.int IntKind.u8 0, Value.int IntKind.u8 0, Value.int IntKind.u8 0, Value.int IntKind.u8 0, Value.int IntKind.u8 0, Value.int IntKind.u8 0, Value.int IntKind.u8 0, Value.int IntKind.u8 0, Value.int IntKind.u8 0, Value.int IntKind.u8 0, Value.int IntKind.u8 0, Value.int IntKind.u8 0, Value.int IntKind.u8 0, Value.int IntKind.u8 0, Value.int IntKind.u8 0, Value.int IntKind.u8 0, Value.int IntKind.u8 0, Value.int IntKind.u8 0, Value.int IntKind.u8 0, Value.int IntKind.u8 0, Value.bool false, Value.bool false] 79 (by rw [sizEvD, List.size_toArray, evD_len]) (by rw [List.size_toArray, evD_len]; rfl) (by rw [← Array.all_toList]; exact List.all_eq_true.2 (evD_one v)) rfl rfl HG2.out (fun W3 h1 h2 => ?_); have HG3 := Lib.hid h1; have HB3 := Lib.hid (HB2.out.trans (h2.below (B := w.heap.size) (fun k hk => by simp at hk; omega) HB2.out.size)); clear h1 h2))
 refine bodyPost_ret (res_rowc (P := Tryz.prog) (T := 79) (T' := 79) rfl _ _ (w.heap.size + 1) (evD v).toArray (0, 0) rfl HG3.out Tryz.underlying79 rfl (by rw [sizEvD, List.size_toArray, evD_len])) rfl ⟨rfl, HB3.out⟩
end Go.Proofs.YtbfefdedjcppaaaGreatDoor
