/- append(s, part...) in a region that lists its operations in order. -/
import Derived.Test.YtagdedjclbmlkaaG5
namespace Go.Proofs.Ytagdedjclbmlkaa
open Go.RowKit

theorem wl_appO {P : Program} {ops : Array Oper} {o : Oper} {rest : List Oper} {a : Act} {w : World} {Q : Exit → Act → World → Prop} {α : Type} {enc : α → List Value} {k : Nat} (hgd : o.guard = none) (T E : TypeId) (bytes : Nat) (z : Value) (hT : P.underlying T = some (.slice E)) (hinf : (P.info? E).map (fun i => (i.zero, i.size, i.bytes)) = some (some z, k, bytes)) (hzk : z.cells.size = k) (hk0 : 0 < k) (hk : ∀ x, (enc x).length = k) (h1 : ∀ x, ∀ u ∈ enc x, u.oneCell' = true)
    (s x : Operand) (ho : o.op = .call { callee := .builtin .append, args := #[s, x], argTypes := #[T, T] })
    (base : Nat) (v : Value) (xs : List α) (hs : a.eval s = v) (hown : OwnE enc E k w base v xs) (q : Option Addr) (m c : Nat) (ys : List α) (hx : a.eval x = .slice q m c) (hm : ys.length = m) (hq : SlAt enc k w q ys) (hq0 : q = none → c = 0)
    (hlen : (xs.length + m) * bytes ≤ 140737488355328) (hml : xs.length + m ≤ maxLen) (hbase : base ≤ w.heap.size)
    (h : ∀ v' w', OwnE enc E k w' base v' (xs ++ ys) → w.grownBy w' v.ownBlock → (v'.ownBlock = v.ownBlock ∨ v'.ownBlock = some w.heap.size) → wpList P ops Q rest (a.put o.dst v') w') : wpList P ops Q (o :: rest) a w :=
  wpList_plain hgd fun _ hK => op_app T E bytes z hT hinf hzk hk0 hk h1 s x ho base v xs hs hown q m c ys hx hm hq hq0 hlen hml hbase fun v' w' g1 g2 g3 => hK _ _ (h v' w' g1 g2 g3)
/-- s[j:] -/
theorem exec_lo {P : Program} {o : Oper} {a : Act} {w : World} {k : Nat} {T E : TypeId} (hT : P.underlying T = some (.slice E)) (hk : (P.info? E).map (·.size) = some k) (x y : Operand) (ho : o.op = .slice T x (some y) none none) (q : Option Addr) (n co j : Nat) (hx : a.eval x = .slice q n co) (hy : a.eval y = .int .i64 (j : Nat)) (hj : j ≤ n) : (execOp a.eval o).run P w = .ok (.value (.slice (cutQ k q j co) (n - j) (co - j))) w := by
  have := run_sl_lo hT hk q n co j hj w
  unfold execOp
  simp only [ho, hx, hy, Option.map_some, Option.map_none, Sem.run_bind, this, Result.andThen_ok, Sem.run_pure]
/-- s[:j] -/
theorem exec_hi {P : Program} {o : Oper} {a : Act} {w : World} {k : Nat} {T E : TypeId} (hT : P.underlying T = some (.slice E)) (hk : (P.info? E).map (·.size) = some k) (x y : Operand) (ho : o.op = .slice T x none (some y) none) (q : Option Addr) (n co j : Nat) (hx : a.eval x = .slice q n co) (hy : a.eval y = .int .i64 (j : Nat)) (hj : j ≤ co) : (execOp a.eval o).run P w = .ok (.value (.slice q j co)) w := by
  have := run_sl_hi hT hk q n co j hj w
  unfold execOp
  simp only [ho, hx, hy, Option.map_some, Option.map_none, Sem.run_bind, this, Result.andThen_ok, Sem.run_pure]
end Go.Proofs.Ytagdedjclbmlkaa
