/- law 26: known. -/
import Derived.Test.YtbfefdedjcppaaaGreatDoorKP6
namespace Go.Proofs.YtbfefdedjcppaaaGreatDoor
set_option maxRecDepth 100000
set_option maxHeartbeats 8000000
open Go.RowKit
theorem eqlBreq (w : World) : (binOp .eql 36 (.agg (rqC breq).toArray) (.agg (rqC breq).toArray)).run Tryz.prog w = .ok (.bool true) w := by kernel_rfl
theorem builtLang : Tryz.prog.built 25 [(0, .int .u8 100), (1, .int .u8 101)] = some (bC [100, 101, 0]) := by kernel_rfl
theorem builtTagD : Tryz.prog.built 28 [(0, .agg (bC [100, 101, 0]))] = some (bC tgD) := by kernel_rfl
theorem builtNmA : Tryz.prog.built 24 [(0, .int .u8 97)] = some (bC nmA) := by kernel_rfl
theorem builtKop : Tryz.prog.built 30 [(0, .int .i64 11), (1, .int .i64 3), (3, .int .i64 2), (7, .agg (bC nmA)), (8, .agg (bC tgD)), (6, .int .i64 1)] = some (opC kop).toArray := by kernel_rfl
theorem builtKreq : Tryz.prog.built 36 [(0, .int .i64 1), (3, .agg (opC kop).toArray)] = some (rqC kreq).toArray := by kernel_rfl
theorem builtBreq : Tryz.prog.built 36 [(0, .int .i64 2)] = some (rqC breq).toArray := by kernel_rfl
theorem exec_bd1 {P : Program} {o : Oper} {a : Act} {w : World} (T : TypeId) (v : Value) (ho : o.op = .build T #[(0, .const v)]) (cells : Array Value) (hf : P.built T [(0, v)] = some cells) : (execOp a.eval o).run P w = .ok (.value (.agg cells)) w := by
 have hr := run_build (P := P) w T #[(0, v)] cells hf
 have e : (#[((0 : Nat), Operand.const v)] : Array (Nat × Operand)).map (fun p => (p.1, a.eval p.2)) = #[(0, v)] := by simp [Act.eval]
 unfold execOp
 rw [ho]
 show (Sem.run P (do let x ← Instr.build T ((#[((0 : Nat), Operand.const v)] : Array (Nat × Operand)).map (fun p => (p.1, a.eval p.2))); pure (Next.value x)) w) = _
 rw [e, Sem.run_bind, hr]
 rfl
theorem exec_eqlG {P : Program} {a : Act} {o : Oper} (w : World) (T : TypeId) (x y : Operand) (ho : o.op = .binOp .eql T x y T) (u v : Array Value) (b : Bool) (hx : a.eval x = .agg u) (hy : a.eval y = .agg v) (hg : (eqGuard .eql T x y (.agg u) (.agg v)).run P w = .ok () w) (he : (binOp .eql T (.agg u) (.agg v)).run P w = .ok (.bool b) w) : (execOp a.eval o).run P w = .ok (.value (.bool b)) w := by
 unfold execOp
 simp only [ho, hx, hy, Sem.run_bind, hg, he, Result.andThen_ok, Sem.run_pure]
theorem own_string {E : TypeId} {w : World} {base n c : Nat} {q : Option Addr} {x : UInt8} {xs : List UInt8} (h : OwnE byteC E 1 w base (.slice q n c) (x :: xs)) : (convert 22 9 (.slice q n c)).run Tryz.prog w = .ok (.string ⟨(x :: xs).toArray⟩) w := by
 obtain rfl : n = (x :: xs).length := h.cap_le.1
 have hs := h.slat byteC_len
 obtain ⟨b, o, rfl, hb, _⟩ := hs 0 (by simp)
 have := run_bytes_string w b o _ c (x :: xs) (fun i hi => by
   obtain ⟨b', o', e, _, hr⟩ := hs i hi
   cases e
   have := hr 0 (.int .u8 (((x :: xs)[i]).toNat : Int)) rfl
   simp only [Nat.add_zero, Nat.mul_one] at this
   exact this) (Nat.le_refl _)
 rw [List.take_length] at this
 exact this
theorem new_string (w : World) (l : List UInt8) (n : Nat) (hn : l.length = n) : (convert 22 9 (.slice (some ⟨w.heap.size, 0, none⟩) n n)).run Tryz.prog (w.alloc (.cells (bC l) 5)) = .ok (.string ⟨l.toArray⟩) (w.alloc (.cells (bC l) 5)) := by
 have := run_bytes_string (w.alloc (.cells (bC l) 5)) w.heap.size 0 n n l (fun i hi => by rw [cell_blk (heap_alloc_new w _), Nat.zero_add]; exact bC_get l i hi) (by omega)
 rwa [← hn, List.take_length, hn] at this
theorem known26_any (w : World) (hmx : MX w) : Calls Tryz.prog 10 #[] w fun e w' => e = .returned (.bool true) ∧ Below w.heap.size w w' := by
 have HM := Lib.hid hmx
 clear hmx
 go_enter Tryz.func10, Tryz.ntmps10
 go_upto_region 2 with (first
   | ((with_reducible refine gate_bd 25 _ rfl ?_); refine wl_bd rfl _ [(0, .const (.int .u8 100)), (1, .const (.int .u8 101))] rfl [(0, .int .u8 100), (1, .int .u8 101)] rfl (bC [100, 101, 0]) builtLang ?_)
   | ((with_reducible refine gate_bd 28 _ rfl ?_); refine wl_bd rfl _ [(0, .tmp 6)] rfl [(0, .agg (bC [100, 101, 0]))] rfl (bC tgD) builtTagD ?_)
   | ((with_reducible refine gate_st 28 _ _ rfl ?_); refine wl_strn rfl _ _ _ rfl (bC tgD) #[Value.int IntKind.u8 0, Value.int IntKind.u8 0, Value.int IntKind.u8 0, Value.int IntKind.u8 0, Value.int IntKind.u8 0, Value.int IntKind.u8 0, Value.int IntKind.u8 0, Value.int IntKind.u8 0, Value.int IntKind.u8 0, Value.int IntKind.u8 0] _ (by rw [sizTag19]; rfl) (by rfl) (bC_one _) (by simp [Act.eval]) rfl ?_))
 have HG : Hid ((w.alloc (.cells (bC tgD) 28)).heap[w.heap.size]? = some (.cells (bC tgD) 28 (0, 0))) := heap_alloc_new _ _
 have HB := Lib.hid (below_alloc1 w (.cells (bC tgD) 28))
 have HM1 := Lib.hid (HM.out.below HB.out)
 clear HM
 generalize w.alloc (.cells (bC tgD) 28) = W1 at *
 go_upto_region 3 with (first
   | ((with_reducible refine gate_bd 24 _ rfl ?_); refine wl_bd rfl _ [(0, .const (.int .u8 97))] rfl [(0, .int .u8 97)] rfl (bC nmA) builtNmA ?_)
   | ((with_reducible refine gate_ld 28 _ rfl ?_); refine wl_ldr rfl 28 _ rfl w.heap.size 0 (bC tgD).toList _ Tryz.underlying28 rfl (by rw [sizTag19]; rfl) rfl (range_whole (by simpa using HG.out)) ?_)
   | ((with_reducible refine gate_bd 30 _ rfl ?_); refine wl_bd rfl _ [(0, .const (.int .i64 11)), (1, .const (.int .i64 3)), (3, .const (.int .i64 2)), (7, .tmp 9), (8, .tmp 10), (6, .const (.int .i64 1))] rfl [(0, .int .i64 11), (1, .int .i64 3), (3, .int .i64 2), (7, .agg (bC nmA)), (8, .agg (bC tgD)), (6, .int .i64 1)] rfl (opC kop).toArray builtKop ?_)
   | ((with_reducible refine gate_bd 36 _ rfl ?_); refine wl_bd rfl _ [(0, .const (.int .i64 1)), (3, .tmp 11)] rfl [(0, .int .i64 1), (3, .agg (opC kop).toArray)] rfl (rqC kreq).toArray builtKreq ?_)
   | (go_at_call 11; (refine (bytes_any kreq W1 (by decide) (by decide) (by rw [kreq_bare]; exact kreq_ok) (by rw [kreq_bare]; decide) (by rw [kreq_bare]; decide) HM1.out).mono ?_); rintro e W2 ⟨v2, rfl, ho2, hb2⟩; rw [kreq_bare, kreq_w] at ho2 ⊢; have HO2 := Lib.hid ho2; have HB2 := Lib.hid hb2; clear ho2 hb2))
 have HM2 := Lib.hid (HM1.out.below HB2.out)
 have HB3 := Lib.hid (HB.out.trans (HB2.out.mono HB.out.size))
 have HO2' : Hid (OwnE byteC 5 1 W2 W1.heap.size v2 [1, 11, 3, 0, 2, 1, 97, 2, 100, 101, 1]) := HO2.out
 clear HO2 HB2 HM1 HG HB
 obtain ⟨q2, c2, rfl⟩ := HO2'.out.slice
 have KR : Hid (Calls Tryz.prog 7 #[.slice (some ⟨W2.heap.size, 0, none⟩) 1 1] (W2.alloc (.cells #[.int .u8 2] 5)) fun e w' => e = .returned (.tuple #[.agg (rqC breq).toArray, .int .i64 0]) ∧ Below (W2.alloc (.cells #[.int .u8 2] 5)).heap.size (W2.alloc (.cells #[.int .u8 2] 5)) w') := by
   have := read_any (some ⟨W2.heap.size, 0, none⟩) 1 1 [2] (W2.alloc (.cells #[.int .u8 2] 5)) rfl (slAt_new (heap_alloc_new W2 _)) (fun e => by cases e) (by omega) (HM2.out.below (below_alloc1 _ _))
   rw [two_c, two_e] at this
   exact this
 go_upto_region 4 with (first
   | (go_at_call 7; (refine KR.out.mono ?_); rintro e W3 ⟨rfl, hb3⟩; have HB4 := Lib.hid hb3; clear hb3)
   | ((with_reducible refine gate_st 36 _ _ rfl ?_); refine wl_strn rfl _ _ _ rfl (rqC breq).toArray #[Value.int IntKind.i64 0, Value.int IntKind.i64 0, Value.int IntKind.i64 0, Value.int IntKind.i64 0, Value.int IntKind.i64 0, Value.int IntKind.i64 0, Value.int IntKind.i64 0, Value.int IntKind.i64 0, Value.int IntKind.i64 0, Value.int IntKind.i64 0, Value.int IntKind.u8 0, Value.int IntKind.u8 0, Value.int IntKind.u8 0, Value.int IntKind.u8 0, Value.int IntKind.u8 0, Value.int IntKind.u8 0, Value.int IntKind.u8 0, Value.int IntKind.u8 0, Value.int IntKind.u8 0, Value.int IntKind.u8 0, Value.int IntKind.u8 0, Value.int IntKind.u8 0, Value.int IntKind.u8 0, Value.int IntKind.u8 0, Value.int IntKind.u8 0, Value.int IntKind.u8 0, Value.int IntKind.u8 0, Value.int IntKind.u8 0, Value.int IntKind.u8 0, Value.int IntKind.u8 0, Value.int IntKind.u8 0, Value.int IntKind.u8 0, Value.string ⟨#[]⟩, Value.int IntKind.u8 0, Value.int IntKind.u8 0, Value.int IntKind.u8 0, Value.int IntKind.u8 0, Value.int IntKind.u8 0, Value.int IntKind.u8 0, Value.int IntKind.u8 0, Value.int IntKind.u8 0, Value.int IntKind.u8 0, Value.int IntKind.u8 0, Value.int IntKind.u8 0, Value.int IntKind.u8 0, Value.int IntKind.u8 0, Value.int IntKind.u8 0, Value.int IntKind.u8 0, Value.int IntKind.u8 0, Value.int IntKind.u8 0, Value.int IntKind.u8 0, Value.int IntKind.u8 0, Value.int IntKind.u8 0, Value.int IntKind.u8 0, Value.int IntKind.u8 0, Value.int IntKind.u8 0, Value.int IntKind.u8 0, Value.int IntKind.u8 0, Value.int IntKind.i64 0] _ (by rw [sizRq, List.size_toArray, rqC_len]) (by rw [List.size_toArray, rqC_len]; rfl) (by rw [← Array.all_toList]; exact rqC_one _) (by simp [Act.eval]) rfl ?_))
 have HG5 : Hid ((W3.alloc (.cells (rqC breq).toArray 36)).heap[W3.heap.size]? = some (.cells (rqC breq).toArray 36 (0, 0))) := heap_alloc_new _ _
 have hbx : Below W2.heap.size W2 (W3.alloc (.cells (rqC breq).toArray 36)) := (below_alloc1 W2 _).trans ((HB4.out.alloc HB4.out.size _).mono (below_alloc1 W2 _).size)
 have HB5 := Lib.hid (HB3.out.trans (hbx.mono HB3.out.size))
 have hcv : (convert 22 9 (.slice q2 11 c2)).run Tryz.prog (W3.alloc (.cells (rqC breq).toArray 36)) = .ok (.string ⟨#[1, 11, 3, 0, 2, 1, 97, 2, 100, 101, 1]⟩) (W3.alloc (.cells (rqC breq).toArray 36)) := own_string (HO2'.out.below hbx)
 clear hbx HB4 KR HM2 HB3 HO2'
 generalize W3.alloc (.cells (rqC breq).toArray 36) = W4 at *
 generalize W3.heap.size = g at *
 have hcv2 := new_string W4 [1, 11, 3, 0, 2, 1, 97, 2, 100, 101, 1] 11 rfl
 have HB6 := Lib.hid (HB5.out.trans ((below_alloc1 W4 (.cells (bC [1, 11, 3, 0, 2, 1, 97, 2, 100, 101, 1]) 5)).mono HB5.out.size))
 have HG6 := Lib.hid (((below_alloc1 W4 (.cells (bC [1, 11, 3, 0, 2, 1, 97, 2, 100, 101, 1]) 5)).block _ (lt_heap HG5.out)).trans HG5.out)
 rw [show bC [1, 11, 3, 0, 2, 1, 97, 2, 100, 101, 1] = #[.int .u8 1, .int .u8 11, .int .u8 3, .int .u8 0, .int .u8 2, .int .u8 1, .int .u8 97, .int .u8 2, .int .u8 100, .int .u8 101, .int .u8 1] from rfl] at hcv2 HB6 HG6
 clear HG5 HB5
 go_wp2_with (first
   | ((with_reducible refine gate_op (.binOp .eql 36 (.tmp 35) (.tmp 36) 36) rfl ?_); refine wl_val rfl (.bool true) (exec_eqlG _ 36 (.tmp 35) (.tmp 36) rfl (rqC breq).toArray (rqC breq).toArray true rfl rfl (run_eqGuard_agg _ .eql 36 _ _ _ _ (by kernel_rfl)) (eqlBreq _)) ?_)
   | ((with_reducible refine gate_ld 36 _ rfl ?_); refine wl_ldr rfl 36 _ rfl g 0 (rqC breq) _ Tryz.underlying36 rfl (by rw [sizRq, rqC_len]) rfl (range_whole HG6.out) ?_)
   | ((with_reducible refine gate_bd 36 _ rfl ?_); refine wl_val rfl (.agg (rqC breq).toArray) (exec_bd1 36 (.int .i64 2) rfl _ builtBreq) ?_))
 go_ret
 exact ⟨rfl, HB6.out⟩
end Go.Proofs.YtbfefdedjcppaaaGreatDoor
