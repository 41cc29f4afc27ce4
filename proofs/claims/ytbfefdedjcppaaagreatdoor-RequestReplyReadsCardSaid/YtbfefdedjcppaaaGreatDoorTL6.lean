/- The law's Event and Told at a reply that is the document's. -/
import Derived.Test.YtbfefdedjcppaaaGreatDoorPX6
import Derived.Test.YtbfefdedjcppaaaGreatDoorDY6
import Derived.Laws.StructEq
namespace Go.Proofs.YtbfefdedjcppaaaGreatDoor
set_option maxRecDepth 100000
set_option maxHeartbeats 8000000
open Go.RowKit Go.Deep
theorem partSK0 (a0 a1 a2 a3 a4 a5 a6 a7 a8 a9 a10 a11 a12 a13 a14 a15 a16 a17 a18 a19 a20 a21 a22 a23 a24 : UInt8) (w : World) : (part 3 (rkR [a0, a1, a2, a3, a4, a5, a6, a7, a8, a9, a10, a11, a12, a13, a14, a15, a16, a17, a18, a19, a20, a21, a22, a23, a24]).toArray 0).run Tryz.prog w = .ok (.int .i64 (a0.toNat : Int)) w := by kernel_rfl
theorem partSK1 (a0 a1 a2 a3 a4 a5 a6 a7 a8 a9 a10 a11 a12 a13 a14 a15 a16 a17 a18 a19 a20 a21 a22 a23 a24 : UInt8) (w : World) : (part 3 (rkR [a0, a1, a2, a3, a4, a5, a6, a7, a8, a9, a10, a11, a12, a13, a14, a15, a16, a17, a18, a19, a20, a21, a22, a23, a24]).toArray 1).run Tryz.prog w = .ok (.int .i64 (a1.toNat : Int)) w := by kernel_rfl
theorem partSK2 (a0 a1 a2 a3 a4 a5 a6 a7 a8 a9 a10 a11 a12 a13 a14 a15 a16 a17 a18 a19 a20 a21 a22 a23 a24 : UInt8) (w : World) : (part 3 (rkR [a0, a1, a2, a3, a4, a5, a6, a7, a8, a9, a10, a11, a12, a13, a14, a15, a16, a17, a18, a19, a20, a21, a22, a23, a24]).toArray 2).run Tryz.prog w = .ok (.int .i64 (a2.toNat : Int)) w := by kernel_rfl
theorem partSK3 (a0 a1 a2 a3 a4 a5 a6 a7 a8 a9 a10 a11 a12 a13 a14 a15 a16 a17 a18 a19 a20 a21 a22 a23 a24 : UInt8) (w : World) : (part 23 (rkR [a0, a1, a2, a3, a4, a5, a6, a7, a8, a9, a10, a11, a12, a13, a14, a15, a16, a17, a18, a19, a20, a21, a22, a23, a24]).toArray 3).run Tryz.prog w = .ok (.agg (bC [a3, a4, a5, a6, a7, a8, a9, a10, a11, a12, a13, a14])) w := by kernel_rfl
theorem partSK4 (a0 a1 a2 a3 a4 a5 a6 a7 a8 a9 a10 a11 a12 a13 a14 a15 a16 a17 a18 a19 a20 a21 a22 a23 a24 : UInt8) (w : World) : (part 40 (rkR [a0, a1, a2, a3, a4, a5, a6, a7, a8, a9, a10, a11, a12, a13, a14, a15, a16, a17, a18, a19, a20, a21, a22, a23, a24]).toArray 15).run Tryz.prog w = .ok (.agg (bC [a15, a16, a17, a18, a19, a20, a21, a22, a23, a24])) w := by kernel_rfl
theorem selfSK (w : World) (n : Nat) (k : List UInt8) (hk : k.length = 25) : (Op.equalIn (n + 4) 44 (.agg (rkR k).toArray) (.agg (rkR k).toArray)).run Tryz.prog w = .ok true w := by
 obtain ⟨a0, a1, a2, a3, a4, a5, a6, a7, a8, a9, a10, a11, a12, a13, a14, a15, a16, a17, a18, a19, a20, a21, a22, a23, a24, rfl⟩ := Kx.list25 k hk
 rw [run_equalIn_struct w (n + 3) 44 _ _ (by kernel_rfl) (by kernel_rfl)]
 have q0 := run_equalIn_int (P := Tryz.prog) w (n + 2) 3 .i64 .i64 (a0.toNat : Int) (a0.toNat : Int) Tryz.underlying3
 have q1 := run_equalIn_int (P := Tryz.prog) w (n + 2) 3 .i64 .i64 (a1.toNat : Int) (a1.toNat : Int) Tryz.underlying3
 have q2 := run_equalIn_int (P := Tryz.prog) w (n + 2) 3 .i64 .i64 (a2.toNat : Int) (a2.toNat : Int) Tryz.underlying3
 have q3 := Kx.run_eqIn w 23 12 (n + 1) Tryz.underlying23 [a3, a4, a5, a6, a7, a8, a9, a10, a11, a12, a13, a14] [a3, a4, a5, a6, a7, a8, a9, a10, a11, a12, a13, a14] rfl rfl
 have q4 := Kx.run_eqIn w 40 10 (n + 1) Tryz.underlying40 [a15, a16, a17, a18, a19, a20, a21, a22, a23, a24] [a15, a16, a17, a18, a19, a20, a21, a22, a23, a24] rfl rfl
 simp only [beq_self_eq_true] at q0 q1 q2 q3 q4
 simp only [Program.fieldsOf, Tryz.underlying44, Op.eqFields]
 simp [partSK0, partSK1, partSK2, partSK3, partSK4, q0, q1, q2, q3, q4]
theorem partSR0 (e : Int) (s : ByteArray) (c0 c1 c2 c3 c4 c5 c6 c7 c8 c9 : UInt8) (st n : Int) (w : World) : (part 3 (rpC ⟨e, s, [c0, c1, c2, c3, c4, c5, c6, c7, c8, c9], st, n, rfl⟩).toArray 0).run Tryz.prog w = .ok (.int .i64 e) w := by kernel_rfl
theorem partSR1 (e : Int) (s : ByteArray) (c0 c1 c2 c3 c4 c5 c6 c7 c8 c9 : UInt8) (st n : Int) (w : World) : (part 9 (rpC ⟨e, s, [c0, c1, c2, c3, c4, c5, c6, c7, c8, c9], st, n, rfl⟩).toArray 1).run Tryz.prog w = .ok (.string s) w := by kernel_rfl
theorem partSR2 (e : Int) (s : ByteArray) (c0 c1 c2 c3 c4 c5 c6 c7 c8 c9 : UInt8) (st n : Int) (w : World) : (part 40 (rpC ⟨e, s, [c0, c1, c2, c3, c4, c5, c6, c7, c8, c9], st, n, rfl⟩).toArray 2).run Tryz.prog w = .ok (.agg (bC [c0, c1, c2, c3, c4, c5, c6, c7, c8, c9])) w := by kernel_rfl
theorem partSR3 (e : Int) (s : ByteArray) (c0 c1 c2 c3 c4 c5 c6 c7 c8 c9 : UInt8) (st n : Int) (w : World) : (part 3 (rpC ⟨e, s, [c0, c1, c2, c3, c4, c5, c6, c7, c8, c9], st, n, rfl⟩).toArray 12).run Tryz.prog w = .ok (.int .i64 st) w := by kernel_rfl
theorem partSR4 (e : Int) (s : ByteArray) (c0 c1 c2 c3 c4 c5 c6 c7 c8 c9 : UInt8) (st n : Int) (w : World) : (part 3 (rpC ⟨e, s, [c0, c1, c2, c3, c4, c5, c6, c7, c8, c9], st, n, rfl⟩).toArray 13).run Tryz.prog w = .ok (.int .i64 n) w := by kernel_rfl
theorem selfSR (w : World) (x : RpD) : (Op.equalIn 10000 69 (.agg (rpC x).toArray) (.agg (rpC x).toArray)).run Tryz.prog w = .ok true w := by
 obtain ⟨e, s, g, st, n, hg⟩ := x
 obtain ⟨c0, c1, c2, c3, c4, c5, c6, c7, c8, c9, rfl⟩ := Kx.list10 g hg
 rw [show (10000 : Nat) = 9999 + 1 from rfl, run_equalIn_struct w 9999 69 _ _ (by kernel_rfl) (by kernel_rfl)]
 have q0 := run_equalIn_int (P := Tryz.prog) w 9998 3 .i64 .i64 e e Tryz.underlying3
 have q3 := run_equalIn_int (P := Tryz.prog) w 9998 3 .i64 .i64 st st Tryz.underlying3
 have q4 := run_equalIn_int (P := Tryz.prog) w 9998 3 .i64 .i64 n n Tryz.underlying3
 have q1 := run_equalIn_string (P := Tryz.prog) w 9998 9 s s Tryz.underlying9
 have q2 := Kx.run_eqIn w 40 10 9997 Tryz.underlying40 [c0, c1, c2, c3, c4, c5, c6, c7, c8, c9] [c0, c1, c2, c3, c4, c5, c6, c7, c8, c9] rfl rfl
 simp only [beq_self_eq_true] at q0 q1 q2 q3 q4
 simp only [Program.fieldsOf, Tryz.underlying69, Op.eqFields]
 simp [partSR0, partSR1, partSR2, partSR3, partSR4, q0, q1, q2, q3, q4]
theorem neqSR (w : World) (x : RpD) : (binOp .neq 69 (.agg (rpC x).toArray) (.agg (rpC x).toArray)).run Tryz.prog w = .ok (.bool false) w := by
 rw [run_neq_struct, selfSR]; rfl
theorem partSE0 (t : Int) (a0 a1 a2 a3 a4 a5 a6 a7 a8 a9 a10 a11 a12 a13 a14 a15 a16 a17 a18 a19 a20 a21 a22 a23 a24 : UInt8) (d m : Bool) (w : World) : (part 60 (evD ⟨t, [a0, a1, a2, a3, a4, a5, a6, a7, a8, a9, a10, a11, a12, a13, a14, a15, a16, a17, a18, a19, a20, a21, a22, a23, a24], d, m, rfl⟩).toArray 0).run Tryz.prog w = .ok (.int .u64 t) w := by kernel_rfl
theorem partSE1 (t : Int) (a0 a1 a2 a3 a4 a5 a6 a7 a8 a9 a10 a11 a12 a13 a14 a15 a16 a17 a18 a19 a20 a21 a22 a23 a24 : UInt8) (d m : Bool) (w : World) : (part 44 (evD ⟨t, [a0, a1, a2, a3, a4, a5, a6, a7, a8, a9, a10, a11, a12, a13, a14, a15, a16, a17, a18, a19, a20, a21, a22, a23, a24], d, m, rfl⟩).toArray 1).run Tryz.prog w = .ok (.agg (rkR [a0, a1, a2, a3, a4, a5, a6, a7, a8, a9, a10, a11, a12, a13, a14, a15, a16, a17, a18, a19, a20, a21, a22, a23, a24]).toArray) w := by kernel_rfl
theorem partSE2 (t : Int) (a0 a1 a2 a3 a4 a5 a6 a7 a8 a9 a10 a11 a12 a13 a14 a15 a16 a17 a18 a19 a20 a21 a22 a23 a24 : UInt8) (d m : Bool) (w : World) : (part 4 (evD ⟨t, [a0, a1, a2, a3, a4, a5, a6, a7, a8, a9, a10, a11, a12, a13, a14, a15, a16, a17, a18, a19, a20, a21, a22, a23, a24], d, m, rfl⟩).toArray 26).run Tryz.prog w = .ok (.bool d) w := by kernel_rfl
theorem partSE3 (t : Int) (a0 a1 a2 a3 a4 a5 a6 a7 a8 a9 a10 a11 a12 a13 a14 a15 a16 a17 a18 a19 a20 a21 a22 a23 a24 : UInt8) (d m : Bool) (w : World) : (part 4 (evD ⟨t, [a0, a1, a2, a3, a4, a5, a6, a7, a8, a9, a10, a11, a12, a13, a14, a15, a16, a17, a18, a19, a20, a21, a22, a23, a24], d, m, rfl⟩).toArray 27).run Tryz.prog w = .ok (.bool m) w := by kernel_rfl
theorem selfSE (w : World) (x : Ev) : (Op.equalIn 10000 79 (.agg (evD x).toArray) (.agg (evD x).toArray)).run Tryz.prog w = .ok true w := by
 obtain ⟨t, k, d, m, hk⟩ := x
 obtain ⟨a0, a1, a2, a3, a4, a5, a6, a7, a8, a9, a10, a11, a12, a13, a14, a15, a16, a17, a18, a19, a20, a21, a22, a23, a24, rfl⟩ := Kx.list25 k hk
 rw [show (10000 : Nat) = 9999 + 1 from rfl, run_equalIn_struct w 9999 79 _ _ (by kernel_rfl) (by kernel_rfl)]
 have q0 := run_equalIn_int (P := Tryz.prog) w 9998 60 .u64 .u64 t t Tryz.underlying60
 have q1 := selfSK w 9995 [a0, a1, a2, a3, a4, a5, a6, a7, a8, a9, a10, a11, a12, a13, a14, a15, a16, a17, a18, a19, a20, a21, a22, a23, a24] rfl
 have q2 := run_equalIn_bool (P := Tryz.prog) w 9998 4 d d Tryz.underlying4
 have q3 := run_equalIn_bool (P := Tryz.prog) w 9998 4 m m Tryz.underlying4
 simp only [beq_self_eq_true] at q0 q2 q3
 simp only [Program.fieldsOf, Tryz.underlying79, Op.eqFields]
 simp [partSE0, partSE1, partSE2, partSE3, q0, q1, q2, q3]
theorem neqSE (w : World) (x : Ev) : (binOp .neq 79 (.agg (evD x).toArray) (.agg (evD x).toArray)).run Tryz.prog w = .ok (.bool false) w := by
 rw [run_neq_struct, selfSE]; rfl
theorem builtEvS (v : Ev) : Tryz.prog.built 79 [(0, .int .u64 v.at_), (1, .agg (rkR v.key).toArray), (2, .bool v.dead), (3, .bool v.mark)] = some (evD v).toArray := by
 obtain ⟨t, k, d, m, hk⟩ := v
 obtain ⟨a0, a1, a2, a3, a4, a5, a6, a7, a8, a9, a10, a11, a12, a13, a14, a15, a16, a17, a18, a19, a20, a21, a22, a23, a24, rfl⟩ := Kx.list25 k hk
 kernel_rfl
theorem of06S (k : List UInt8) (w : World) (hk : k.length = 25) : Calls Tryz.prog 38 #[.agg (bC k)] w fun e w' => e = .returned (.agg (rkR k).toArray) ∧ Below w.heap.size w w' := by
 obtain ⟨a0, a1, a2, a3, a4, a5, a6, a7, a8, a9, a10, a11, a12, a13, a14, a15, a16, a17, a18, a19, a20, a21, a22, a23, a24, rfl⟩ := Kx.list25 k hk
 exact of06_any ⟨a0, a1, a2, [a3, a4, a5, a6, a7, a8, a9, a10, a11, a12, a13, a14], [a15, a16, a17, a18, a19, a20, a21, a22, a23, a24]⟩ w ⟨rfl, rfl⟩
theorem exec_ixS {o : Oper} {a : Act} {w : World} (x y : Operand) (ho : o.op = .indexAddr 70 x y) (b f : Nat) (n c j : Nat) (hx : a.eval x = .slice (some ⟨b, f, none⟩) n c) (hy : a.eval y = .int .i64 (j : Int)) (hj : j < n) : (execOp a.eval o).run Tryz.prog w = .ok (.value (.pointer (some ⟨b, f + j * 28, none⟩))) w := by
 have hq := sizEvD
 cases hq2 : Tryz.prog.info? 79 with
 | none => simp [hq2] at hq
 | some i =>
   have hs : i.size = 28 := by simpa [hq2] using hq
   unfold execOp
   simp only [ho, hx, hy]
   simp [go_sem, Tryz.underlying70, sizeOf, typeInfo, hq2, hs, hj]
theorem agEvsS (w : World) : (isAgg 70).run Tryz.prog w = .ok false w := by simp [isAgg, run_underlying Tryz.underlying70]
theorem event26_any (v : Ev) (w : World) : Calls Tryz.prog 20 #[.agg (evC v).toArray] w fun e w' => e = .returned (.agg (evD v).toArray) ∧ Below w.heap.size w w' := by
 have HG0 : Hid (((w.alloc (.cells (evC v).toArray 62)).alloc (.cells #[Value.int .u64 0, .int .i64 0, .int .i64 0, .int .i64 0, .int .u8 0, .int .u8 0, .int .u8 0, .int .u8 0, .int .u8 0, .int .u8 0, .int .u8 0, .int .u8 0, .int .u8 0, .int .u8 0, .int .u8 0, .int .u8 0, .int .u8 0, .int .u8 0, .int .u8 0, .int .u8 0, .int .u8 0, .int .u8 0, .int .u8 0, .int .u8 0, .int .u8 0, .int .u8 0, Value.bool false, Value.bool false] 79)).heap[w.heap.size]? = some (.cells (evC v).toArray 62 (0, 0))) := heap_alloc2_old _ _ _
 have HG1 : Hid (((w.alloc (.cells (evC v).toArray 62)).alloc (.cells #[Value.int .u64 0, .int .i64 0, .int .i64 0, .int .i64 0, .int .u8 0, .int .u8 0, .int .u8 0, .int .u8 0, .int .u8 0, .int .u8 0, .int .u8 0, .int .u8 0, .int .u8 0, .int .u8 0, .int .u8 0, .int .u8 0, .int .u8 0, .int .u8 0, .int .u8 0, .int .u8 0, .int .u8 0, .int .u8 0, .int .u8 0, .int .u8 0, .int .u8 0, .int .u8 0, Value.bool false, Value.bool false] 79)).heap[w.heap.size + 1]? = some (.cells #[Value.int .u64 0, .int .i64 0, .int .i64 0, .int .i64 0, .int .u8 0, .int .u8 0, .int .u8 0, .int .u8 0, .int .u8 0, .int .u8 0, .int .u8 0, .int .u8 0, .int .u8 0, .int .u8 0, .int .u8 0, .int .u8 0, .int .u8 0, .int .u8 0, .int .u8 0, .int .u8 0, .int .u8 0, .int .u8 0, .int .u8 0, .int .u8 0, .int .u8 0, .int .u8 0, Value.bool false, Value.bool false] 79 (0, 0))) := heap_alloc2_new _ _ _
 have HB1 : Hid (Below w.heap.size w ((w.alloc (.cells (evC v).toArray 62)).alloc (.cells #[Value.int .u64 0, .int .i64 0, .int .i64 0, .int .i64 0, .int .u8 0, .int .u8 0, .int .u8 0, .int .u8 0, .int .u8 0, .int .u8 0, .int .u8 0, .int .u8 0, .int .u8 0, .int .u8 0, .int .u8 0, .int .u8 0, .int .u8 0, .int .u8 0, .int .u8 0, .int .u8 0, .int .u8 0, .int .u8 0, .int .u8 0, .int .u8 0, .int .u8 0, .int .u8 0, Value.bool false, Value.bool false] 79))) := below_alloc2 _ _ _
 have KK : Hid (∀ W, Calls Tryz.prog 38 #[.agg (bC v.key)] W fun e w' => e = .returned (.agg (rkR v.key).toArray) ∧ Below W.heap.size W w') := fun W => of06S v.key W v.lkey
 go_enter Tryz.func20, Tryz.ntmps20
 go_upto_region 1 with fail
 generalize (w.alloc (.cells (evC v).toArray 62)).alloc (.cells #[Value.int .u64 0, .int .i64 0, .int .i64 0, .int .i64 0, .int .u8 0, .int .u8 0, .int .u8 0, .int .u8 0, .int .u8 0, .int .u8 0, .int .u8 0, .int .u8 0, .int .u8 0, .int .u8 0, .int .u8 0, .int .u8 0, .int .u8 0, .int .u8 0, .int .u8 0, .int .u8 0, .int .u8 0, .int .u8 0, .int .u8 0, .int .u8 0, .int .u8 0, .int .u8 0, Value.bool false, Value.bool false] 79) = W1 at *
 have hlt := lt_heap HG0.out
 have c0 : W1.cell? ⟨w.heap.size, 0, none⟩ = some (.int .u64 v.at_) := by rw [cell_blk HG0.out]; rfl
 have c26 : W1.cell? ⟨w.heap.size, 26, none⟩ = some (.bool v.dead) := by rw [cell_blk HG0.out, List.getElem?_toArray]; exact evC_deadC v
 have c27 : W1.cell? ⟨w.heap.size, 27, none⟩ = some (.bool v.mark) := by rw [cell_blk HG0.out, List.getElem?_toArray]; exact evC_markC v
 have HRk : Hid (W1.rangeAt w.heap.size 1 (bC v.key).toList) := by
   have h1 : W1.rangeAt w.heap.size 0 ([Value.int .u64 v.at_] ++ ((bC v.key).toList ++ [.bool v.dead, .bool v.mark])) := range_whole HG0.out
   have h2 := range_app_right h1
   exact range_app_left (h2 1 rfl)
 refine wp_region_below_tail 10 (by kernel_rfl) (by kernel_rfl) ?_
 simp only [List.take_succ_cons, List.take_zero, List.drop_succ_cons, List.drop_zero]
 repeat (first
   | (refine wq_ldr rfl 32 (.tmp 5) rfl w.heap.size 1 (bC v.key).toList _ Tryz.underlying32 rfl (by rw [sizKey]; simp [bC, v.lkey]) rfl HRk.out hlt ?_; simp only [Act.put, wrT])
   | (refine wq_one rfl 60 (.tmp 3) rfl w.heap.size 0 (.int .u64 v.at_) ag60u rfl c0 hlt ?_; simp only [Act.put, wrT])
   | (refine wq_one rfl 4 (.tmp 8) rfl w.heap.size 26 (.bool v.dead) ag4 rfl c26 hlt ?_; simp only [Act.put, wrT])
   | (refine wq_one rfl 4 (.tmp 10) rfl w.heap.size 27 (.bool v.mark) ag4 rfl c27 hlt ?_; simp only [Act.put, wrT])
   | (refine wq_bd _ rfl 79 [(0, .tmp 4), (1, .tmp 7), (2, .tmp 9), (3, .tmp 11)] rfl [(0, .int .u64 v.at_), (1, .agg (rkR v.key).toArray), (2, .bool v.dead), (3, .bool v.mark)] rfl (evD v).toArray (builtEvS v) ?_; simp only [Act.put, wrT])
   | go_big_quiet_step (with_reducible exact rg_call KK.out _ _))
 refine wpQuiet_nil ?_
 rintro _ ⟨⟨dq, osq⟩, rfl⟩
 have hbr := below_regrown W1 dq osq
 have HG2 := Lib.hid ((hbr.block _ (lt_heap HG1.out)).trans HG1.out)
 have HB2 := Lib.hid (HB1.out.trans (hbr.mono HB1.out.size))
 clear hbr c0 c26 c27
 generalize Sort.grow (redrawn W1 dq) osq = W2 at *
 go_wp2_with (first
   | ((with_reducible refine gate_st 79 _ _ rfl ?_); refine wl_strG rfl 79 _ _ rfl (w.heap.size + 1) (evD v).toArray #[Value.int IntKind.u64 0, Value.int IntKind.i64 0, Value.int IntKind.i64 0, Value.int IntKind.i64 0, Value.int IntKind.u8 0, Value.int IntKind.u8 0, Value.int IntKind.u8 0, Value.int IntKind.u8 0, Value.int IntKind.u8 0, Value.int IntKind.u8 0, Value.int IntKind.u8 0, Value.int IntKind.u8 0, Value.int IntKind.u8 0, Value.int IntKind.u8 0, Value.int IntKind.u8 0, Value.int IntKind.u8 0, Value.int IntKind.u8 0, Value.int IntKind.u8 0, Value.int IntKind.u8 0, Value.int IntKind.u8 0, Value.int IntKind.u8 0, Value.int IntKind.u8 0, Value.int IntKind.u8 0, Value.int IntKind.u8 0, Value.int IntKind.u8 0, Value.int IntKind.u8 0, Value.bool false, Value.bool false] 79 (by rw [sizEvD, List.size_toArray, evD_len]) (by rw [List.size_toArray, evD_len]; rfl) (by rw [← Array.all_toList]; exact List.all_eq_true.2 (evD_one v)) rfl rfl HG2.out (fun W3 h1 h2 => ?_); have HG3 := Lib.hid h1; have HB3 := Lib.hid (HB2.out.trans (h2.below (B := w.heap.size) (fun k hk => by simp at hk; omega) HB2.out.size)); clear h1 h2))
 refine bodyPost_ret (res_rowc (P := Tryz.prog) (T := 79) (T' := 79) rfl _ _ (w.heap.size + 1) (evD v).toArray (0, 0) rfl HG3.out Tryz.underlying79 rfl (by rw [sizEvD, List.size_toArray, evD_len])) rfl ⟨rfl, HB3.out⟩
theorem told26_any (x : RpD) (q q' : Option Addr) (c c' n : Nat) (es : List Ev) (w : World) (hn : es.length = n) (hq : SlAt evC 28 w q es) (hq' : SlAt evD 28 w q' es) (hsz : n ≤ 1000000) :
   Calls Tryz.prog 17 #[.agg (ryC x (.slice q n c)).toArray, .agg (ryC x (.slice q' n c')).toArray] w fun e w' => e = .returned (.bool true) ∧ Below w.heap.size w w' := by
 have HG0 := Lib.hid (heap_alloc2_old w (.cells (ryC x (.slice q n c)).toArray 59) (.cells (ryC x (.slice q' n c')).toArray 72))
 have HG1 := Lib.hid (heap_alloc2_new w (.cells (ryC x (.slice q n c)).toArray 59) (.cells (ryC x (.slice q' n c')).toArray 72))
 have HB := Lib.hid (below_alloc2 w (.cells (ryC x (.slice q n c)).toArray 59) (.cells (ryC x (.slice q' n c')).toArray 72))
 have HQ := Lib.hid (hq.below HB.out)
 have HQ' := Lib.hid (hq'.below HB.out)
 have HN := Lib.hid hn
 have KT : Hid (∀ W, Calls Tryz.prog 19 #[.agg (rpC x).toArray] W fun e w' => e = .returned (.agg (rpC x).toArray) ∧ Below W.heap.size W w') := fun W => told25_any x W
 clear hq hq' hn
 go_enter Tryz.func17, Tryz.ntmps17
 go_upto_region 1 with fail
 generalize (w.alloc (.cells (ryC x (.slice q n c)).toArray 59)).alloc (.cells (ryC x (.slice q' n c')).toArray 72) = W1 at *
 have hlt0 := lt_heap HG0.out
 have hlt1 := lt_heap HG1.out
 have HR0 := Lib.hid (range_app_left (xs := rpC x) (range_whole HG0.out))
 have HR1 := Lib.hid (range_app_left (xs := rpC x) (range_whole HG1.out))
 have s0 : W1.cell? ⟨w.heap.size, 14, none⟩ = some (.slice q n c) := by rw [cell_blk HG0.out, List.getElem?_toArray]; exact ryC_sl _ _
 have s1 : W1.cell? ⟨w.heap.size + 1, 14, none⟩ = some (.slice q' n c') := by rw [cell_blk HG1.out, List.getElem?_toArray]; exact ryC_sl _ _
 have hbn : ((n : Int) != (n : Int)) = false := by simp
 refine wp_region_quiet_below (by kernel_rfl) (by kernel_rfl) ?_
 repeat (first
   | go_big_quiet_skip
   | (refine wq_ldr rfl 56 (.tmp 6) rfl w.heap.size 0 (rpC x) _ Tryz.underlying56 rfl (by rw [sizRp, rpC_len]) rfl HR0.out hlt0 ?_; simp only [Act.put, wrT])
   | (refine wq_ldr rfl 69 (.tmp 9) rfl (w.heap.size + 1) 0 (rpC x) _ Tryz.underlying69 rfl (by rw [sizRRp, rpC_len]) rfl HR1.out hlt1 ?_; simp only [Act.put, wrT])
   | (refine wq_val (.bool false) rfl (fun w' => exec_neqG w' 69 (.tmp 8) (.tmp 10) rfl (rpC x).toArray (rpC x).toArray false rfl rfl (run_eqGuard_agg _ .neq 69 _ _ _ _ (by kernel_rfl)) (neqSR w' x)) ?_; simp only [Act.put, wrT])
   | (refine wq_one rfl 57 (.tmp 13) rfl w.heap.size 14 (.slice q n c) agEvs rfl s0 hlt0 ?_; simp only [Act.put, wrT])
   | (refine wq_one rfl 70 (.tmp 16) rfl (w.heap.size + 1) 14 (.slice q' n c') agEvsS rfl s1 hlt1 ?_; simp only [Act.put, wrT])
   | go_big_quiet_step (with_reducible exact rg_call KT.out _ _))
 refine wpQuiet_nil ?_
 rintro _ ⟨⟨dq, osq⟩, rfl⟩
 have hbr := below_regrown W1 dq osq
 have HG0b := Lib.hid ((hbr.block _ hlt0).trans HG0.out)
 have HG1b := Lib.hid ((hbr.block _ hlt1).trans HG1.out)
 have HB2 := Lib.hid (HB.out.trans (hbr.mono HB.out.size))
 have HQb := Lib.hid (HQ.out.below hbr)
 have HQb' := Lib.hid (HQ'.out.below hbr)
 clear hbr HR0 HR1 s0 s1 HG0 HG1 HB HQ HQ' hlt0 hlt1
 generalize Sort.grow (redrawn W1 dq) osq = W2 at *
 go_upto_region 4 with fail
 go_loopw [5] (fun i wr => ∃ k : Nat, k ≤ n ∧ i = .int .i64 (k : Int) ∧ Hid (Below W2.heap.size W2 wr)) (fun i _ => n - (intOf i).toNat)
 case atStart => exact ⟨0, Nat.zero_le _, rfl, Below.refl _ _⟩
 case round =>
   obtain ⟨k, hk, rfl, HBr⟩ := hrel
   have HG0r := Lib.hid ((HBr.out.block _ (lt_heap HG0b.out)).trans HG0b.out)
   have HG1r := Lib.hid ((HBr.out.block _ (lt_heap HG1b.out)).trans HG1b.out)
   have hlt0 := lt_heap HG0r.out
   have hlt1 := lt_heap HG1r.out
   have s0 : wr.cell? ⟨w.heap.size, 14, none⟩ = some (.slice q n c) := by rw [cell_blk HG0r.out, List.getElem?_toArray]; exact ryC_sl _ _
   have s1 : wr.cell? ⟨w.heap.size + 1, 14, none⟩ = some (.slice q' n c') := by rw [cell_blk HG1r.out, List.getElem?_toArray]; exact ryC_sl _ _
   by_cases hlt : k < n
   · have hlt' : (k : Int) < (n : Int) := by omega
     have hle : k < es.length := by rw [HN.out]; exact hlt
     obtain ⟨b0, o0, rfl, hb0, hr0⟩ := (HQb.out.below HBr.out) k hle
     obtain ⟨b1, o1, rfl, hb1, hr1⟩ := (HQb'.out.below HBr.out) k hle
     have KE : Hid (∀ W, Calls Tryz.prog 20 #[.agg (evC es[k]).toArray] W fun e w' => e = .returned (.agg (evD es[k]).toArray) ∧ Below W.heap.size W w') := fun W => event26_any es[k] W
     generalize es[k] = e0 at *
     go_upto_region 6 with fail
     refine wp_region_quiet_below (by kernel_rfl) (by kernel_rfl) ?_
     repeat (first
       | (refine wq_one rfl 57 (.tmp 28) rfl w.heap.size 14 (.slice (some ⟨b0, o0, none⟩) n c) agEvs rfl s0 hlt0 ?_; simp only [Act.put, wrT])
       | (refine wq_one rfl 70 (.tmp 34) rfl (w.heap.size + 1) 14 (.slice (some ⟨b1, o1, none⟩) n c') agEvsS rfl s1 hlt1 ?_; simp only [Act.put, wrT])
       | (refine wq_val (.pointer (some ⟨b0, o0 + k * 28, none⟩)) rfl (fun w' => exec_ixE (.tmp 29) (.tmp 30) rfl b0 o0 n c k rfl rfl hlt) ?_; simp only [Act.put, wrT])
       | (refine wq_val (.pointer (some ⟨b1, o1 + k * 28, none⟩)) rfl (fun w' => exec_ixS (.tmp 35) (.tmp 36) rfl b1 o1 n c' k rfl rfl hlt) ?_; simp only [Act.put, wrT])
       | (refine wq_ldr rfl 62 (.tmp 31) rfl b0 (o0 + k * 28) (evC e0) _ Tryz.underlying62 rfl (by rw [sizEv, evC_len]) rfl hr0 hb0 ?_; simp only [Act.put, wrT])
       | (refine wq_ldr rfl 79 (.tmp 37) rfl b1 (o1 + k * 28) (evD e0) _ Tryz.underlying79 rfl (by rw [sizEvD, evD_len]) rfl hr1 hb1 ?_; simp only [Act.put, wrT])
       | (refine wq_val (.bool false) rfl (fun w' => exec_neqG w' 79 (.tmp 33) (.tmp 38) rfl (evD e0).toArray (evD e0).toArray false rfl rfl (run_eqGuard_agg _ .neq 79 _ _ _ _ (by kernel_rfl)) (neqSE w' e0)) ?_; simp only [Act.put, wrT])
       | go_big_quiet_step (with_reducible exact rg_call KE.out _ _))
     refine wpQuiet_nil ?_
     rintro _ ⟨⟨dq2, osq2⟩, rfl⟩
     have HB3 := Lib.hid (HBr.out.trans ((below_regrown wr dq2 osq2).mono HBr.out.size))
     clear hr0 hr1 s0 s1
     generalize Sort.grow (redrawn wr dq2) osq2 = W3 at *
     go_wp2_with fail
     go_roundw
     case rel => exact ⟨k + 1, by omega, by simp, HB3.out⟩
     case measure => simp [intOf]; omega
   · obtain rfl : k = n := by omega
     have hlt2 : ¬ (k : Int) < (k : Int) := by omega
     go_wp2_with fail
     go_ret
     exact ⟨rfl, HB2.out.trans (HBr.out.mono HB2.out.size)⟩
end Go.Proofs.YtbfefdedjcppaaaGreatDoor
