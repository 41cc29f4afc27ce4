/- WatchNil: the walk. -/
import Derived.Test.YtnafcbmpjjlhnaaK27
namespace Go.Proofs.Ytnafcbmpjjlhnaa
open Go.RowKit

section
variable {ops : Array Oper} {rest : List Oper} {o : Oper} {a : Act} {w : World} {Q : Exit → Act → World → Prop}
/-- One value, the world left as it is. -/
theorem wl_val (hw : Region.wanted o (yielded ops a.tmps) = true) (v : Value) (hr : (execOp a.eval o).run Try.prog w = .ok (.value v) w) (h : wpList Try.prog ops Q rest (a.put o.dst v) w) : wpList Try.prog ops Q (o :: rest) a w :=
  wpList_step fun _ hK => by
    rw [if_pos hw]
    unfold Oper.wp
    rw [hr]
    exact hK _ _ h
theorem exec_bdP0 (ho : o.op = .build 32 #[]) : (execOp a.eval o).run Try.prog w = .ok (.value (.agg z26)) w := by
  have := run_build (P := Try.prog) w 32 #[] _ built0
  unfold execOp
  simp only [ho, List.map_toArray, List.map_nil, Sem.run_bind, this, Result.andThen_ok, Sem.run_pure]
theorem exec_eqlP0 (x y : Operand) (ho : o.op = .binOp .eql 32 x y 32) (hx : a.eval x = .agg z26) (hy : a.eval y = .agg z26) : (execOp a.eval o).run Try.prog w = .ok (.value (.bool true)) w := by
  have hgd : (eqGuard .eql 32 x y (.agg z26) (.agg z26)).run Try.prog w = .ok () w := run_eqGuard_agg w .eql 32 x y _ _ (by kernel_rfl)
  unfold execOp
  simp only [ho, hx, hy, Sem.run_bind, hgd, eqlP0, Result.andThen_ok, Sem.run_pure]
theorem gate_val (f : Oper → Bool) (_ : f o = true) (h : wpList Try.prog ops Q (o :: rest) a w) : wpList Try.prog ops Q (o :: rest) a w := h
end
def isB (T : TypeId) (o : Oper) : Bool := match o.op with | .build t #[] => t == T | _ => false
def isE (T : TypeId) (o : Oper) : Bool := match o.op with | .binOp .eql t _ _ _ => t == T | _ => false
set_option maxRecDepth 100000 in
set_option maxHeartbeats 8000000 in
theorem WatchNil_walkI (i m : Int) (k : List UInt8) (d : Int) (hk : k.length = 25) (t : Int) (x : Wr) (w : World) :
    Calls Try.prog 4 #[.int .i64 i, .int .i64 m, .agg (pC k d).toArray, .int .u64 t, .agg (wrC x).toArray] w fun e w' => e = .returned (.bool true) ∧ Below w.heap.size w w' := by
  go_enter Try.func4, Try.ntmps4
  have HP0 : Hid (((w.alloc (.cells (pC k d).toArray 32)).alloc (.cells (wrC x).toArray 58)).heap[w.heap.size]? = some (.cells (pC k d).toArray 32 (0, 0))) := (heap_alloc_old _ _ (by simp)).trans (heap_alloc_new _ _)
  have HW0 : Hid (((w.alloc (.cells (pC k d).toArray 32)).alloc (.cells (wrC x).toArray 58)).heap[w.heap.size + 1]? = some (.cells (wrC x).toArray 58 (0, 0))) := by
    have := heap_alloc_new (w.alloc (.cells (pC k d).toArray 32)) (.cells (wrC x).toArray 58)
    show _ = _
    simpa using this
  have HB0 := Lib.hid (below_alloc2 w (.cells (pC k d).toArray 32) (.cells (wrC x).toArray 58))
  go_upto_region 2 with fail
  generalize (w.alloc (.cells (pC k d).toArray 32)).alloc (.cells (wrC x).toArray 58) = W0 at *
  go_upto_region 3 with (go_at_call 10; (refine (drainN_any _ _ _).mono ?_); rintro e W1 ⟨rfl, rfl⟩)
  have KO := Lib.hid (ofN_any i W1)
  go_upto_region 4 with (first
    | (go_at_call 12; (refine KO.out.mono ?_); rintro e W2 ⟨rfl, hb2⟩; have HB2 := Lib.hid hb2; clear hb2)
    | ((with_reducible refine gate_st 32 (.tmp 14) _ rfl ?_); refine wl_strn rfl _ _ _ rfl z26 z26 _ (by kernel_rfl) rfl z26_one (by simp [Act.eval]) rfl ?_))
  have HZ2 : Hid ((W2.alloc (.cells z26 32)).heap[W2.heap.size]? = some (.cells z26 32 (0, 0))) := heap_alloc_new _ _
  have HB02 : Hid (Below W1.heap.size W1 (W2.alloc (.cells z26 32))) := HB2.out.alloc HB2.out.size _
  have HBw := Lib.hid (HB0.out.trans (HB02.out.mono HB0.out.size))
  have HP3 := Lib.hid ((HB02.out.block _ (lt_heap HP0.out)).trans HP0.out)
  have HW3 := Lib.hid ((HB02.out.block _ (lt_heap HW0.out)).trans HW0.out)
  generalize W2.heap.size = bz at *
  generalize W2.alloc (.cells z26 32) = W3 at *
  clear HB0 HP0 HW0 HB2 HB02 KO
  have KK := Lib.hid (known_any W3)
  simp only [List.append_eq, List.cons_append, List.nil_append]
  go_wp2_with (first
    | (go_at_call 6; (refine KK.out.mono ?_); rintro e W4 ⟨rfl, hb4⟩; have HB4 := Lib.hid (HBw.out.trans (hb4.mono HBw.out.size)); have HP4 := Lib.hid (range_whole ((hb4.block _ (lt_heap HP3.out)).trans HP3.out)); have HW4 := Lib.hid ((hb4.block _ (lt_heap HW3.out)).trans HW3.out); have HZ4 := Lib.hid ((hb4.block _ (lt_heap HZ2.out)).trans HZ2.out); clear hb4)
    | ((with_reducible refine gate_ld 32 (.tmp 7) rfl ?_); refine wl_ldr rfl 32 _ rfl w.heap.size 0 (pC k d) _ Try.underlying32 rfl (by rw [sizPre, pC_len hk]) rfl HP4.out ?_)
    | (go_at_call 5; (refine (watchN_any _ _ _ _ _).mono ?_); rintro e W5 ⟨rfl, hb5⟩; have HB5 := Lib.hid (HB4.out.trans (hb5.mono HB4.out.size)); have HW5 := Lib.hid (range_whole ((hb5.block _ (lt_heap HW4.out)).trans HW4.out)); have HZ5 := Lib.hid ((hb5.block _ (lt_heap HZ4.out)).trans HZ4.out); clear hb5)
    | ((with_reducible refine gate_ld 58 (.tmp 9) rfl ?_); refine wl_ldr rfl 58 _ rfl (w.heap.size + 1) 0 (wrC x) _ Try.underlying58 rfl (by rw [sizWr, wrC_len]) rfl HW5.out ?_)
    | (refine wl_bs1 (k := 35) 42 58 72 (.agg (wrC wr0).toArray) Try.underlying42 infoW wr0_sz (by omega) (by omega) wrC_len rfl (.tmp 43) rfl x rfl ?_; have HB6 : Hid (Below w.heap.size w (W5.alloc (.cells (wrC x).toArray 58))) := HB5.out.alloc HB5.out.size _; have HZ6 : Hid ((W5.alloc (.cells (wrC x).toArray 58)).heap[bz]? = _) := (heap_alloc_old _ _ (lt_heap HZ5.out)).trans HZ5.out; generalize W5.alloc (.cells (wrC x).toArray 58) = W6 at *; have HZr := Lib.hid (range_whole (vs := z26.toList) HZ6.out))
    | (go_at_call 7; (refine (publishN_any _ _ _).mono ?_); rintro e W7 ⟨rfl, rfl⟩)
    | (go_at_call 9; (refine (resyncN_any _ _ _).mono ?_); rintro e W7 ⟨rfl, rfl⟩)
    | (go_at_call 13; (refine (dropN_any _ _).mono ?_); rintro e W7 ⟨rfl, rfl⟩)
    | ((with_reducible refine gate_ld 32 (.tmp 14) rfl ?_); refine wl_ldr rfl 32 _ rfl bz 0 z26.toList _ Try.underlying32 rfl (by rw [sizPre]; rfl) rfl HZr.out ?_)
    | ((with_reducible refine gate_val (isB 32) rfl ?_); refine wl_val rfl (.agg z26) (exec_bdP0 rfl) ?_)
    | ((with_reducible refine gate_val (isE 32) rfl ?_); refine wl_val rfl (.bool true) (exec_eqlP0 _ _ rfl rfl rfl) ?_)
    | (go_at_call 11; (refine (stoppedN_any _ _).mono ?_); rintro e W7 ⟨rfl, rfl⟩)
    | (go_at_call 14; (refine (lenN_any _ _).mono ?_); rintro e W7 ⟨rfl, rfl⟩)
    | (go_at_call 15; (refine (listN_any _).mono ?_); rintro e W7 ⟨rfl, rfl⟩))
  go_ret
  exact ⟨rfl, HB6.out⟩
end Go.Proofs.Ytnafcbmpjjlhnaa
