/- request.Same. -/
import Derived.Test.YtbfefdedjcppaaaGreatDoorEQ6
namespace Go.Proofs.YtbfefdedjcppaaaGreatDoor
open Go.RowKit
def ryC (x : RpD) (v : Value) : List Value := rpC x ++ [v]
theorem ryC_len (x : RpD) (v : Value) : (ryC x v).length = 15 := by simp [ryC, rpC_len]
theorem ryC_sl (x : RpD) (v : Value) : (ryC x v)[14]? = some v := by
 unfold ryC
 rw [List.getElem?_append_right (by rw [rpC_len]; omega)]; simp [rpC_len]
theorem ryC_one (x : RpD) (v : Value) (h : v.oneCell' = true) : (ryC x v).all (·.oneCell') = true := by
 simp only [ryC, List.all_append, rpC_one, List.all_cons, List.all_nil, h, Bool.and_self]
theorem sizRy : (Tryz.prog.info? 59).map (·.size) = some 15 := by kernel_rfl
theorem sizEv : (Tryz.prog.info? 62).map (·.size) = some 28 := by kernel_rfl
theorem agEvs (w : World) : (isAgg 57).run Tryz.prog w = .ok false w := by simp [isAgg, run_underlying Tryz.underlying57]
theorem exec_neqG {P : Program} {a : Act} {o : Oper} (w : World) (T : TypeId) (x y : Operand) (ho : o.op = .binOp .neq T x y T) (u v : Array Value) (b : Bool) (hx : a.eval x = .agg u) (hy : a.eval y = .agg v) (hg : (eqGuard .neq T x y (.agg u) (.agg v)).run P w = .ok () w) (he : (binOp .neq T (.agg u) (.agg v)).run P w = .ok (.bool b) w) : (execOp a.eval o).run P w = .ok (.value (.bool b)) w := by
 unfold execOp
 simp only [ho, hx, hy, Sem.run_bind, hg, he, Result.andThen_ok, Sem.run_pure]
theorem exec_ixE {o : Oper} {a : Act} {w : World} (x y : Operand) (ho : o.op = .indexAddr 57 x y) (b f : Nat) (n c j : Nat) (hx : a.eval x = .slice (some ⟨b, f, none⟩) n c) (hy : a.eval y = .int .i64 (j : Int)) (hj : j < n) : (execOp a.eval o).run Tryz.prog w = .ok (.value (.pointer (some ⟨b, f + j * 28, none⟩))) w := by
 have hq := sizEv
 cases hq2 : Tryz.prog.info? 62 with
 | none => simp [hq2] at hq
 | some i =>
   have hs : i.size = 28 := by simpa [hq2] using hq
   unfold execOp
   simp only [ho, hx, hy]
   simp [go_sem, Tryz.underlying57, sizeOf, typeInfo, hq2, hs, hj]
theorem exec_fRy {o : Oper} {a : Act} {w : World} (x : Operand) (n k : Nat) (hk : (n = 0 ∧ k = 0) ∨ (n = 1 ∧ k = 14)) (ho : o.op = .fieldAddr 59 x n) (b f : Nat) (hx : a.eval x = .pointer (some ⟨b, f, none⟩)) : (execOp a.eval o).run Tryz.prog w = .ok (.value (.pointer (some ⟨b, f + k, none⟩))) w := by
 rcases hk with ⟨rfl, rfl⟩ | ⟨rfl, rfl⟩ <;>
 · unfold execOp
   simp only [ho, hx]
   simp [go_sem]
end Go.Proofs.YtbfefdedjcppaaaGreatDoor
