/- The document's key: Right; equality of its keys. -/
import Derived.Test.YtbfefdedjcppaaaGreatDoorDK6
import Derived.Laws.StructEq
namespace Go.Proofs.YtbfefdedjcppaaaGreatDoor
set_option maxRecDepth 100000
set_option maxHeartbeats 8000000
open Go.RowKit
theorem partDX0 (a0 a1 a2 a3 a4 a5 a6 a7 a8 a9 a10 a11 a12 a13 a14 a15 a16 a17 a18 a19 a20 a21 a22 a23 a24 : UInt8) (w : World) : (part 3 (rkR [a0, a1, a2, a3, a4, a5, a6, a7, a8, a9, a10, a11, a12, a13, a14, a15, a16, a17, a18, a19, a20, a21, a22, a23, a24]).toArray 0).run Tryz.prog w = .ok (.int .i64 (a0.toNat : Int)) w := by kernel_rfl
theorem partDX1 (a0 a1 a2 a3 a4 a5 a6 a7 a8 a9 a10 a11 a12 a13 a14 a15 a16 a17 a18 a19 a20 a21 a22 a23 a24 : UInt8) (w : World) : (part 3 (rkR [a0, a1, a2, a3, a4, a5, a6, a7, a8, a9, a10, a11, a12, a13, a14, a15, a16, a17, a18, a19, a20, a21, a22, a23, a24]).toArray 1).run Tryz.prog w = .ok (.int .i64 (a1.toNat : Int)) w := by kernel_rfl
theorem partDX2 (a0 a1 a2 a3 a4 a5 a6 a7 a8 a9 a10 a11 a12 a13 a14 a15 a16 a17 a18 a19 a20 a21 a22 a23 a24 : UInt8) (w : World) : (part 3 (rkR [a0, a1, a2, a3, a4, a5, a6, a7, a8, a9, a10, a11, a12, a13, a14, a15, a16, a17, a18, a19, a20, a21, a22, a23, a24]).toArray 2).run Tryz.prog w = .ok (.int .i64 (a2.toNat : Int)) w := by kernel_rfl
theorem partDX3 (a0 a1 a2 a3 a4 a5 a6 a7 a8 a9 a10 a11 a12 a13 a14 a15 a16 a17 a18 a19 a20 a21 a22 a23 a24 : UInt8) (w : World) : (part 23 (rkR [a0, a1, a2, a3, a4, a5, a6, a7, a8, a9, a10, a11, a12, a13, a14, a15, a16, a17, a18, a19, a20, a21, a22, a23, a24]).toArray 3).run Tryz.prog w = .ok (.agg (bC [a3, a4, a5, a6, a7, a8, a9, a10, a11, a12, a13, a14])) w := by kernel_rfl
theorem partDX4 (a0 a1 a2 a3 a4 a5 a6 a7 a8 a9 a10 a11 a12 a13 a14 a15 a16 a17 a18 a19 a20 a21 a22 a23 a24 : UInt8) (w : World) : (part 40 (rkR [a0, a1, a2, a3, a4, a5, a6, a7, a8, a9, a10, a11, a12, a13, a14, a15, a16, a17, a18, a19, a20, a21, a22, a23, a24]).toArray 15).run Tryz.prog w = .ok (.agg (bC [a15, a16, a17, a18, a19, a20, a21, a22, a23, a24])) w := by kernel_rfl
theorem eqInDX (w : World) (n : Nat) (xs ys : List UInt8) (hx : xs.length = 25) (hy : ys.length = 25) : (Op.equalIn (n + 4) 44 (.agg (rkR xs).toArray) (.agg (rkR ys).toArray)).run Tryz.prog w = .ok (xs == ys) w := by
 obtain ⟨a0, a1, a2, a3, a4, a5, a6, a7, a8, a9, a10, a11, a12, a13, a14, a15, a16, a17, a18, a19, a20, a21, a22, a23, a24, rfl⟩ := Kx.list25 xs hx
 obtain ⟨b0, b1, b2, b3, b4, b5, b6, b7, b8, b9, b10, b11, b12, b13, b14, b15, b16, b17, b18, b19, b20, b21, b22, b23, b24, rfl⟩ := Kx.list25 ys hy
 rw [run_equalIn_struct w (n + 3) 44 _ _ (by kernel_rfl) (by kernel_rfl)]
 have q0 := run_equalIn_int (P := Tryz.prog) w (n + 2) 3 .i64 .i64 (a0.toNat : Int) (b0.toNat : Int) Tryz.underlying3
 have q1 := run_equalIn_int (P := Tryz.prog) w (n + 2) 3 .i64 .i64 (a1.toNat : Int) (b1.toNat : Int) Tryz.underlying3
 have q2 := run_equalIn_int (P := Tryz.prog) w (n + 2) 3 .i64 .i64 (a2.toNat : Int) (b2.toNat : Int) Tryz.underlying3
 have q3 := Kx.run_eqIn w 23 12 (n + 1) Tryz.underlying23 [a3, a4, a5, a6, a7, a8, a9, a10, a11, a12, a13, a14] [b3, b4, b5, b6, b7, b8, b9, b10, b11, b12, b13, b14] rfl rfl
 have q4 := Kx.run_eqIn w 40 10 (n + 1) Tryz.underlying40 [a15, a16, a17, a18, a19, a20, a21, a22, a23, a24] [b15, b16, b17, b18, b19, b20, b21, b22, b23, b24] rfl rfl
 have hb : ([a0, a1, a2, a3, a4, a5, a6, a7, a8, a9, a10, a11, a12, a13, a14, a15, a16, a17, a18, a19, a20, a21, a22, a23, a24] == [b0, b1, b2, b3, b4, b5, b6, b7, b8, b9, b10, b11, b12, b13, b14, b15, b16, b17, b18, b19, b20, b21, b22, b23, b24]) = (((a0.toNat : Int) == (b0.toNat : Int)) && (((a1.toNat : Int) == (b1.toNat : Int)) && (((a2.toNat : Int) == (b2.toNat : Int)) && (([a3, a4, a5, a6, a7, a8, a9, a10, a11, a12, a13, a14] == [b3, b4, b5, b6, b7, b8, b9, b10, b11, b12, b13, b14]) && ([a15, a16, a17, a18, a19, a20, a21, a22, a23, a24] == [b15, b16, b17, b18, b19, b20, b21, b22, b23, b24]))))) := by
   rw [Bool.eq_iff_iff]
   simp only [beq_iff_eq, Bool.and_eq_true, List.cons.injEq, Int.ofNat_inj, UInt8.toNat_inj, and_assoc, and_true]
 rw [hb]
 generalize ((a0.toNat : Int) == (b0.toNat : Int)) = r0 at *
 generalize ((a1.toNat : Int) == (b1.toNat : Int)) = r1 at *
 generalize ((a2.toNat : Int) == (b2.toNat : Int)) = r2 at *
 generalize ([a3, a4, a5, a6, a7, a8, a9, a10, a11, a12, a13, a14] == [b3, b4, b5, b6, b7, b8, b9, b10, b11, b12, b13, b14]) = r3 at *
 generalize ([a15, a16, a17, a18, a19, a20, a21, a22, a23, a24] == [b15, b16, b17, b18, b19, b20, b21, b22, b23, b24]) = r4 at *
 simp only [Program.fieldsOf, Tryz.underlying44, Op.eqFields]
 simp [partDX0, partDX1, partDX2, partDX3, partDX4, q0, q1, q2, q3, q4]
 cases r0 <;> cases r1 <;> cases r2 <;> cases r3 <;> cases r4 <;> simp
theorem eqlDX (w : World) (xs ys : List UInt8) (hx : xs.length = 25) (hy : ys.length = 25) : (binOp .eql 44 (.agg (rkR xs).toArray) (.agg (rkR ys).toArray)).run Tryz.prog w = .ok (.bool (xs == ys)) w := by
 rw [run_eql_struct, show (10000 : Nat) = 9996 + 4 from rfl, eqInDX w 9996 xs ys hx hy]; rfl
theorem refRight_any (k : List UInt8) (w : World) (hk : k.length = 25) : Calls Tryz.prog 56 #[.agg (rkR k).toArray] w fun e w' => e = .returned (.bool (rightK k)) ∧ Below w.heap.size w w' := by
 obtain ⟨b0, b1, b2, nm, tg, rfl, hn, ht⟩ := kL_ex k hk
 have HG0 := Lib.hid (heap_alloc_new w (.cells (rkR (kL b0 b1 b2 nm tg)).toArray 44))
 have HB0 := Lib.hid (below_alloc1 w (.cells (rkR (kL b0 b1 b2 nm tg)).toArray 44))
 have KO : Hid (∀ W, Calls Tryz.prog 107 #[.agg (rkR (kL b0 b1 b2 nm tg)).toArray] W fun e w' => e = .returned (.tuple #[.agg (rkR (ofK b0 b1 b2 nm tg)).toArray, .int .i64 (errK b0 b1 b2 nm tg : Nat)]) ∧ Below W.heap.size W w') := fun W => by
   have := refKeyOf_any b0 b1 b2 nm tg W hn ht
   rwa [← rkR_kL] at this
 have HR : Hid (rightK (kL b0 b1 b2 nm tg) = (decide (errK b0 b1 b2 nm tg = 0) && (ofK b0 b1 b2 nm tg == kL b0 b1 b2 nm tg))) := rightK_kL hn
 have HEq : Hid (∀ W, (binOp .eql 44 (.agg (rkR (ofK b0 b1 b2 nm tg)).toArray) (.agg (rkR (kL b0 b1 b2 nm tg)).toArray)).run Tryz.prog W = .ok (.bool (ofK b0 b1 b2 nm tg == kL b0 b1 b2 nm tg)) W) := fun W => eqlDX W _ _ (ofK_len b0 b1 b2 hn ht) hk
 have HLo := Lib.hid (rkR_len _ (ofK_len b0 b1 b2 hn ht))
 have HLk := Lib.hid (rkR_len _ hk)
 go_enter Tryz.func56, Tryz.ntmps56
 go_upto_region 1 with fail
 generalize w.alloc (.cells (rkR (kL b0 b1 b2 nm tg)).toArray 44) = W1 at *
 clear hn ht hk
 generalize ofK b0 b1 b2 nm tg = ok at *
 generalize errK b0 b1 b2 nm tg = ek at *
 go_upto_region 2 with (first
   | ((with_reducible refine gate_ld 44 _ rfl ?_); refine wl_ldr rfl 44 _ rfl w.heap.size 0 (rkR (kL b0 b1 b2 nm tg)) _ Tryz.underlying44 rfl (by rw [sizR44, HLk.out]) rfl (range_whole HG0.out) ?_)
   | (go_at_call 107; (refine (KO.out _).mono ?_); rintro e W2 ⟨rfl, hb2⟩; have HB2 := Lib.hid (HB0.out.trans (hb2.mono HB0.out.size)); have HG2 := Lib.hid ((hb2.block _ (lt_heap HG0.out)).trans HG0.out); clear hb2)
   | ((with_reducible refine gate_st 44 _ _ rfl ?_); refine wl_strn rfl _ _ _ rfl (rkR ok).toArray #[Value.int IntKind.i64 0, Value.int IntKind.i64 0, Value.int IntKind.i64 0, Value.int IntKind.u8 0, Value.int IntKind.u8 0, Value.int IntKind.u8 0, Value.int IntKind.u8 0, Value.int IntKind.u8 0, Value.int IntKind.u8 0, Value.int IntKind.u8 0, Value.int IntKind.u8 0, Value.int IntKind.u8 0, Value.int IntKind.u8 0, Value.int IntKind.u8 0, Value.int IntKind.u8 0, Value.int IntKind.u8 0, Value.int IntKind.u8 0, Value.int IntKind.u8 0, Value.int IntKind.u8 0, Value.int IntKind.u8 0, Value.int IntKind.u8 0, Value.int IntKind.u8 0, Value.int IntKind.u8 0, Value.int IntKind.u8 0, Value.int IntKind.u8 0] _ (by rw [sizR44, List.size_toArray, HLo.out]) (by rw [List.size_toArray, HLo.out]; rfl) (by rw [← Array.all_toList]; exact rkR_one _) (by simp [Act.eval]) rfl ?_))
 have HB3 := Lib.hid (HB2.out.alloc HB2.out.size (.cells (rkR ok).toArray 44))
 have HG3 : Hid ((W2.alloc (.cells (rkR ok).toArray 44)).heap[w.heap.size]? = some (.cells (rkR (kL b0 b1 b2 nm tg)).toArray 44 (0, 0))) := (heap_alloc_old _ _ (lt_heap HG2.out)).trans HG2.out
 have HX3 := Lib.hid (heap_alloc_new W2 (.cells (rkR ok).toArray 44))
 generalize W2.alloc (.cells (rkR ok).toArray 44) = W3 at *
 generalize W2.heap.size = g at *
 clear HB2 HG2 HG0 HB0 KO
 obtain ⟨r, hr⟩ : ∃ r : Bool, (ok == kL b0 b1 b2 nm tg) = r := ⟨_, rfl⟩
 rw [hr] at HR HEq
 clear hr
 by_cases he : ek = 0
 · subst he
   go_wp2_with (first
     | ((with_reducible refine gate_ld 44 (.tmp 3) rfl ?_); refine wl_ldr rfl 44 _ rfl g 0 (rkR ok) _ Tryz.underlying44 rfl (by rw [sizR44, HLo.out]) rfl (range_whole HX3.out) ?_)
     | ((with_reducible refine gate_ld 44 (.tmp 1) rfl ?_); refine wl_ldr rfl 44 _ rfl w.heap.size 0 (rkR (kL b0 b1 b2 nm tg)) _ Tryz.underlying44 rfl (by rw [sizR44, HLk.out]) rfl (range_whole HG3.out) ?_)
     | ((with_reducible refine gate_op (.binOp .eql 44 (.tmp 13) (.tmp 14) 44) rfl ?_); refine wl_val rfl (.bool r) (exec_eqlG _ 44 (.tmp 13) (.tmp 14) rfl (rkR ok).toArray (rkR (kL b0 b1 b2 nm tg)).toArray _ rfl rfl (run_eqGuard_agg _ .eql 44 _ _ _ _ (by kernel_rfl)) (HEq.out _)) ?_))
   go_ret
   exact ⟨by rw [HR.out]; rfl, HB3.out⟩
 · have heI : ((ek : Int) == 0) = false := by simp; omega
   have HR2 : Hid (rightK (kL b0 b1 b2 nm tg) = false) := by show _ = _; rw [HR.out, decide_eq_false he]; rfl
   clear he HR
   go_wp2_with fail
   go_ret
   exact ⟨by rw [HR2.out]; rfl, HB3.out⟩
end Go.Proofs.YtbfefdedjcppaaaGreatDoor
