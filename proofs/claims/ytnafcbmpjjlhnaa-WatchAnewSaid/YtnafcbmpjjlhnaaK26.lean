/- Equality of events (each to itself), of prefixes that are zero; Drain with any number. -/
import Derived.Test.YtnafcbmpjjlhnaaK25
namespace Go.Proofs.Ytnafcbmpjjlhnaa
open Go.RowKit

theorem partE0 (t : Int) (a0 a1 a2 a3 a4 a5 a6 a7 a8 a9 a10 a11 a12 a13 a14 a15 a16 a17 a18 a19 a20 a21 a22 a23 a24 : UInt8) (d m : Bool) (w : World) : (part 33 (evC ⟨t, [a0, a1, a2, a3, a4, a5, a6, a7, a8, a9, a10, a11, a12, a13, a14, a15, a16, a17, a18, a19, a20, a21, a22, a23, a24], d, m, rfl⟩).toArray 0).run Try.prog w = .ok (.int .u64 t) w := by kernel_rfl
theorem partE1 (t : Int) (a0 a1 a2 a3 a4 a5 a6 a7 a8 a9 a10 a11 a12 a13 a14 a15 a16 a17 a18 a19 a20 a21 a22 a23 a24 : UInt8) (d m : Bool) (w : World) : (part 30 (evC ⟨t, [a0, a1, a2, a3, a4, a5, a6, a7, a8, a9, a10, a11, a12, a13, a14, a15, a16, a17, a18, a19, a20, a21, a22, a23, a24], d, m, rfl⟩).toArray 1).run Try.prog w = .ok (.agg (bC [a0, a1, a2, a3, a4, a5, a6, a7, a8, a9, a10, a11, a12, a13, a14, a15, a16, a17, a18, a19, a20, a21, a22, a23, a24])) w := by kernel_rfl
theorem partE2 (t : Int) (a0 a1 a2 a3 a4 a5 a6 a7 a8 a9 a10 a11 a12 a13 a14 a15 a16 a17 a18 a19 a20 a21 a22 a23 a24 : UInt8) (d m : Bool) (w : World) : (part 4 (evC ⟨t, [a0, a1, a2, a3, a4, a5, a6, a7, a8, a9, a10, a11, a12, a13, a14, a15, a16, a17, a18, a19, a20, a21, a22, a23, a24], d, m, rfl⟩).toArray 26).run Try.prog w = .ok (.bool d) w := by kernel_rfl
theorem partE3 (t : Int) (a0 a1 a2 a3 a4 a5 a6 a7 a8 a9 a10 a11 a12 a13 a14 a15 a16 a17 a18 a19 a20 a21 a22 a23 a24 : UInt8) (d m : Bool) (w : World) : (part 4 (evC ⟨t, [a0, a1, a2, a3, a4, a5, a6, a7, a8, a9, a10, a11, a12, a13, a14, a15, a16, a17, a18, a19, a20, a21, a22, a23, a24], d, m, rfl⟩).toArray 27).run Try.prog w = .ok (.bool m) w := by kernel_rfl
theorem eqInEv (w : World) (x : Ev) : (Op.equalIn 10000 52 (.agg (evC x).toArray) (.agg (evC x).toArray)).run Try.prog w = .ok true w := by
  obtain ⟨t, k, d, m, hk⟩ := x
  obtain ⟨a0, a1, a2, a3, a4, a5, a6, a7, a8, a9, a10, a11, a12, a13, a14, a15, a16, a17, a18, a19, a20, a21, a22, a23, a24, rfl⟩ := list25 k hk
  rw [show (10000 : Nat) = 9999 + 1 from rfl, run_equalIn_struct w 9999 52 _ _ (by kernel_rfl) (by kernel_rfl)]
  have q0 := run_equalIn_int (P := Try.prog) w 9998 33 .u64 .u64 t t Try.underlying33
  have q1 := eqInKey w 9995 [a0, a1, a2, a3, a4, a5, a6, a7, a8, a9, a10, a11, a12, a13, a14, a15, a16, a17, a18, a19, a20, a21, a22, a23, a24] [a0, a1, a2, a3, a4, a5, a6, a7, a8, a9, a10, a11, a12, a13, a14, a15, a16, a17, a18, a19, a20, a21, a22, a23, a24] rfl rfl
  have q2 : (Op.equalIn 9999 4 (.bool d) (.bool d)).run Try.prog w = .ok true w := by cases d <;> kernel_rfl
  have q3 : (Op.equalIn 9999 4 (.bool m) (.bool m)).run Try.prog w = .ok true w := by cases m <;> kernel_rfl
  have b0 : (t == t) = true := by simp
  rw [beq_self_eq_true] at q1
  rw [b0] at q0
  simp only [Program.fieldsOf, Try.underlying52, Op.eqFields]
  simp [partE0, partE1, partE2, partE3, q0, q1, q2, q3]
theorem neqEv (w : World) (x : Ev) : (binOp .neq 52 (.agg (evC x).toArray) (.agg (evC x).toArray)).run Try.prog w = .ok (.bool false) w := by
  rw [run_neq_struct]
  show ((Op.equalIn 10000 52 (.agg (evC x).toArray) (.agg (evC x).toArray)).run Try.prog w).andThen _ = _
  rw [eqInEv]
  rfl
theorem eqlEv (w : World) (x : Ev) : (binOp .eql 52 (.agg (evC x).toArray) (.agg (evC x).toArray)).run Try.prog w = .ok (.bool true) w := by
  rw [run_eql_struct, eqInEv]; rfl
theorem exec_neqEv {a : Act} {o : Oper} (w : World) (x y : Operand) (ho : o.op = .binOp .neq 52 x y 52) (e : Ev) (hx : a.eval x = .agg (evC e).toArray) (hy : a.eval y = .agg (evC e).toArray) : (execOp a.eval o).run Try.prog w = .ok (.value (.bool false)) w := by
  have hgd : (eqGuard .neq 52 x y (.agg (evC e).toArray) (.agg (evC e).toArray)).run Try.prog w = .ok () w := run_eqGuard_agg w .neq 52 x y _ _ (by kernel_rfl)
  unfold execOp
  simp only [ho, hx, hy, Sem.run_bind, hgd, neqEv, Result.andThen_ok, Sem.run_pure]
theorem exec_eqlEv {a : Act} {o : Oper} (w : World) (x y : Operand) (ho : o.op = .binOp .eql 52 x y 52) (e : Ev) (hx : a.eval x = .agg (evC e).toArray) (hy : a.eval y = .agg (evC e).toArray) : (execOp a.eval o).run Try.prog w = .ok (.value (.bool true)) w := by
  have hgd : (eqGuard .eql 52 x y (.agg (evC e).toArray) (.agg (evC e).toArray)).run Try.prog w = .ok () w := run_eqGuard_agg w .eql 52 x y _ _ (by kernel_rfl)
  unfold execOp
  simp only [ho, hx, hy, Sem.run_bind, hgd, eqlEv, Result.andThen_ok, Sem.run_pure]
theorem eqlP0 (w : World) : (binOp .eql 32 (.agg z26) (.agg z26)).run Try.prog w = .ok (.bool true) w := by kernel_rfl
end Go.Proofs.Ytnafcbmpjjlhnaa
