/- Small laws: a load of one cell in a quiet region; an operation by its value in a listed one. -/
import Derived.Test.YtagdedjclbmlkaaGA
namespace Go.Proofs.Ytagdedjclbmlkaa
open Go.RowKit
section
variable {P : Program} {ops : Array Oper} {Q : Act → Prop} {a : Act} {o : Oper} {rest : List Oper} {W : World}
theorem wq_ld1 (hw : Region.wanted o (yielded ops a.tmps) = true) (T : TypeId) (x : Operand) (ho : o.op = .load T x) (b i : Nat) (v : Value) (hag : ∀ w, (isAgg T).run P w = .ok false w)
    (hx : a.eval x = .pointer (some ⟨b, i, none⟩)) (hc : W.cell? ⟨b, i, none⟩ = some v) (hb : b < W.heap.size)
    (h : wpQuiet P ops (fun w' => ∃ p : Regrown, w' = Sort.grow (redrawn W p.d) p.os) Q rest (a.put o.dst v)) : wpQuiet P ops (fun w' => ∃ p : Regrown, w' = Sort.grow (redrawn W p.d) p.os) Q (o :: rest) a := by
  refine wq_valC v hw (fun w hC => ?_) h
  obtain ⟨⟨dq, osq⟩, rfl⟩ := hC
  have hq : (Sort.grow (redrawn W dq) osq).cell? ⟨b, i, none⟩ = some v := (cell_of ((below_regrown W dq osq).block b hb) i).trans hc
  unfold execOp
  simp only [ho, hx, Sem.run_bind]
  simp [go_sem, hag, hq]
end
section
variable {P : Program} {ops : Array Oper} {Q : Exit → Act → World → Prop} {a : Act} {o : Oper} {rest : List Oper} {w : World}
theorem wl_valG (hw : Region.wanted o (yielded ops a.tmps) = true) (v : Value) (hr : (execOp a.eval o).run P w = .ok (.value v) w) (h : wpList P ops Q rest (a.put o.dst v) w) : wpList P ops Q (o :: rest) a w :=
  wpList_step fun _ hK => by
    rw [if_pos hw]
    unfold Oper.wp
    rw [hr]
    exact hK _ _ h
theorem gate_op (x : Op) (_ : o.op = x) (h : wpList P ops Q (o :: rest) a w) : wpList P ops Q (o :: rest) a w := h
end
theorem exec_st1G {P : Program} {o : Oper} {a : Act} {w : World} (T : TypeId) (hsz : (P.info? T).map (·.size) = some 1) (x y : Operand) (ho : o.op = .store T x y) (b i : Nat) (v : Value) (hx : a.eval x = .pointer (some ⟨b, i, none⟩)) (hy : a.eval y = v) (h1 : v.oneCell' = true) (cur : List Value) (T' : TypeId) (hg : w.heap[b]? = some (.cells cur.toArray T' (0, 0))) (hi : i + 1 ≤ cur.length) :
    (execOp a.eval o).run P w = .ok .skip (w.setRow b (cur.take i ++ [v] ++ cur.drop (i + 1)).toArray) := by
  have hst := run_storeCells_at P b i T' [v] 0 cur.toArray w hg (by simpa using hi) (fun x hx => by simp at hx; subst hx; exact h1)
  have hc : v.cells = #[v] := by cases v <;> first | rfl | cases h1
  have hrun : (storeVar T ⟨b, i, none⟩ v).run P w = .ok () (w.setRow b (cur.take i ++ [v] ++ cur.drop (i + 1)).toArray) := by
    cases hq : P.info? T with
    | none => simp [hq] at hsz
    | some inf =>
      have hs : inf.size = 1 := by simpa [hq] using hsz
      simp only [Nat.add_zero, List.length_singleton] at hst
      simp [storeVar, sizeOf, typeInfo, hq, hc, hs, hst]
  unfold execOp
  simp only [ho, hx, hy, Instr.storeAt, Instr.sureAddr, Sem.run_bind, Sem.run_pure, Result.andThen_ok, hrun]
theorem exec_ld1G {P : Program} {o : Oper} {a : Act} {w : World} (T : TypeId) (hag : ∀ w, (isAgg T).run P w = .ok false w) (x : Operand) (ho : o.op = .load T x) (b i : Nat) (v : Value) (hx : a.eval x = .pointer (some ⟨b, i, none⟩)) (hc : w.cell? ⟨b, i, none⟩ = some v) : (execOp a.eval o).run P w = .ok (.value v) w := by
  unfold execOp
  simp only [ho, hx, Sem.run_bind]
  simp [go_sem, hag, hc]
theorem lt_of_cell {w : World} {b i : Nat} {v : Value} (h : w.cell? ⟨b, i, none⟩ = some v) : b < w.heap.size := by
  cases hb : w.heap[b]? with
  | none => simp [World.cell?, hb] at h
  | some o => exact lt_heap hb
end Go.Proofs.Ytagdedjclbmlkaa
