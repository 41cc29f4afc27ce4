/- A row of writes: an element read, an element stored; the region that swaps two. -/
import Derived.Test.YtnafcbmpjjlhnaaK6
import Derived.Sort.WalkA
namespace Go.Proofs.Ytnafcbmpjjlhnaa
open Go.RowKit

/-- A block that holds a row of writes, and a tail behind it. -/
def WRow (w : World) (g : Nat) (d : Array Wr) (tail : List Value) (T : TypeId) : Prop := w.heap[g]? = some (.cells (d.toList.flatMap wrC ++ tail).toArray T (0, 0))
theorem WRow.range {w : World} {g : Nat} {d : Array Wr} {tail : List Value} {T : TypeId} (h : WRow w g d tail T) (j : Nat) (hj : j < d.size) : w.rangeAt g (0 + j * 35) (wrC d[j]!) := by
  have := range_nth wrC_len (range_app_left (range_whole h)) j (by simpa using hj)
  rw [getElem!_pos d j hj]
  simpa using this
theorem wr_set {α : Type} {enc : α → List Value} {k : Nat} (hk : ∀ x, (enc x).length = k) (xs : List α) (tail : List Value) (j : Nat) (x : α) (hj : j < xs.length) :
    (xs.flatMap enc ++ tail).take (j * k) ++ enc x ++ (xs.flatMap enc ++ tail).drop (j * k + (enc x).length) = (xs.set j x).flatMap enc ++ tail := by
  have h1 : j * k ≤ (xs.flatMap enc).length := by rw [flat_len hk]; exact Nat.mul_le_mul_right _ (Nat.le_of_lt hj)
  have h2 : j * k + k ≤ (xs.flatMap enc).length := by rw [flat_len hk, ← Nat.succ_mul]; exact Nat.mul_le_mul_right _ hj
  rw [hk, List.take_append_of_le_length h1, List.drop_append_of_le_length h2, ← Nat.succ_mul, ← flat_take hk, ← flat_drop hk, List.set_eq_take_append_cons_drop, if_pos hj]
  simp [List.append_assoc]
theorem exec_wr {o : Oper} {a : Act} {w : World} (x y : Operand) (ho : o.op = .store 58 x y) (g j : Nat) (d : Array Wr) (tail : List Value) (T : TypeId) (v : Wr) (hj : j < d.size)
    (hx : a.eval x = .pointer (some ⟨g, 0 + j * 35, none⟩)) (hy : a.eval y = .agg (wrC v).toArray) (hg : WRow w g d tail T) :
    ∃ w', (execOp a.eval o).run Try.prog w = .ok .skip w' ∧ WRow w' g (d.setIfInBounds j v) tail T ∧ Turn [g] w w' := by
  have hjl : j < d.toList.length := by simpa using hj
  have hst := run_storeCells_at Try.prog g (j * 35) T (wrC v) 0 _ w hg (by
    simp only [Array.size, List.length_append, flat_len wrC_len, wrC_len, Nat.add_zero, List.size_toArray]
    have : (j + 1) * 35 ≤ d.toList.length * 35 := Nat.mul_le_mul_right _ hjl
    omega) (fun u hu => (List.all_eq_true.1 (wrC_one v)) u hu)
  simp only [Nat.add_zero] at hst
  rw [wr_set wrC_len d.toList tail j v hjl] at hst
  have hz : (List.flatMap wrC (d.toList.set j v) ++ tail) = ((d.setIfInBounds j v).toList.flatMap wrC ++ tail) := by simp
  refine ⟨w.setRow g (List.flatMap wrC (d.toList.set j v) ++ tail).toArray, ?_, ?_, ?_⟩
  · have hrun : (storeVar 58 ⟨g, j * 35, none⟩ (.agg (wrC v).toArray)).run Try.prog w = .ok () (w.setRow g (List.flatMap wrC (d.toList.set j v) ++ tail).toArray) := by
      cases hq : Try.prog.info? 58 with
      | none => have := sizWr; simp [hq] at this
      | some i =>
        have hs : 35 = i.size := by have := sizWr; simp [hq] at this; omega
        have hs2 : (wrC v).toArray.size = i.size := by simp [wrC_len, hs]
        simp [storeVar, sizeOf, typeInfo, hq, Value.cells, hs2, hst]
    unfold execOp
    simp only [ho, hx, hy, Instr.storeAt, Instr.sureAddr, Sem.run_bind, Sem.run_pure, Result.andThen_ok, Nat.zero_add, hrun]
  · unfold WRow
    rw [← hz]
    exact setRow_at hg
  · exact ⟨rfl, rfl, rfl, by simp, fun k _ hr => setRow_other w g k _ (by simpa using hr)⟩
theorem WRow.turn {w w' : World} {g : Nat} {d : Array Wr} {tail : List Value} {T : TypeId} (h : WRow w g d tail T) (hb : w'.heap[g]? = w.heap[g]?) : WRow w' g d tail T := hb.trans h
theorem swp_get (d : Array Wr) (i j : Nat) : Sort.swp d i j = (d.setIfInBounds i d[j]!).setIfInBounds j d[i]! := rfl
end Go.Proofs.Ytnafcbmpjjlhnaa
