/- Slices of events: an element stored; uint64's rest. -/
import Derived.Test.YtbfefdedjcppaaaGreatDoorCU6
namespace Go.Proofs.YtbfefdedjcppaaaGreatDoor
open Go.RowKit
theorem evC_one' (x : Ev) : ∀ u ∈ evC x, u.oneCell' = true := fun u hu => List.all_eq_true.1 (evC_one x) u hu
theorem slAt_take {α : Type} {enc : α → List Value} {k : Nat} {w : World} {q : Option Addr} {xs : List α} (h : SlAt enc k w q xs) (n : Nat) : SlAt enc k w q (xs.take n) := fun i hi => by
 rw [List.length_take] at hi
 have := h i (by omega)
 rwa [List.getElem_take]
theorem exec_lenE {o : Oper} {a : Act} {w : World} (x : Operand) (ho : o.op = .call { callee := .builtin .len, args := #[x], argTypes := #[57] }) (q : Option Addr) (n c : Nat) (hx : a.eval x = .slice q n c) : (execOp a.eval o).run Tryz.prog w = .ok (.value (.int .i64 (n : Int))) w := by
 unfold execOp
 simp only [ho, resolve, invoke, builtin, Sem.run_bind, Sem.run_pure, Result.andThen_ok, List.map_toArray, List.map_cons, List.map_nil, hx]
 simp [go_sem, Tryz.underlying57, goInt]
end Go.Proofs.YtbfefdedjcppaaaGreatDoor
