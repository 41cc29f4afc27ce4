/- Slices of events: an element stored; uint64's rest. -/
import Derived.Test.YtbfefdedjcppaaaGreatDoorCU6
namespace Go.Proofs.YtbfefdedjcppaaaGreatDoor
open Go.RowKit

theorem evC_one' (x : Ev) : ∀ u ∈ evC x, u.oneCell' = true := fun u hu => List.all_eq_true.1 (evC_one x) u hu
theorem slAt_take {α : Type} {enc : α → List Value} {k : Nat} {w : World} {q : Option Addr} {xs : List α} (h : SlAt enc k w q xs) (n : Nat) : SlAt enc k w q (xs.take n) := fun i hi => by
  rw [List.length_take] at hi
  have := h i (by omega)
  rwa [List.getElem_take]
theorem flat_put {α : Type} {enc : α → List Value} {k : Nat} (hk : ∀ x, (enc x).length = k) (y : α) : ∀ (xs : List α) (j : Nat), j < xs.length → RowIn (xs.flatMap enc) (j * k) (enc y) = (xs.set j y).flatMap enc
  | [], j, h => by simp at h
  | x :: xs, 0, _ => by
    unfold RowIn
    simp only [Nat.zero_mul, Nat.zero_add, List.flatMap_cons, List.set_cons_zero, List.take_zero, List.nil_append]
    rw [List.drop_left' (by rw [hk, hk])]
  | x :: xs, j + 1, h => by
    have ih := flat_put hk y xs j (by simpa using h)
    unfold RowIn at ih ⊢
    simp only [List.flatMap_cons, List.set_cons_succ]
    rw [← ih, List.take_append, List.drop_append, hk, hk, show (j + 1) * k - k = j * k by rw [Nat.succ_mul]; omega, show (j + 1) * k + k - k = j * k + k by rw [Nat.succ_mul]; omega, List.take_of_length_le (by rw [hk, Nat.succ_mul]; omega), List.drop_eq_nil_of_le (by rw [hk, Nat.succ_mul]; omega)]
    simp
theorem own_put {w : World} {base n c : Nat} {q : Option Addr} {xs : List Ev} (h : OwnE evC 62 28 w base (.slice q n c) xs) (j : Nat) (hj : j < xs.length) (y : Ev) : ∃ g cur, q = some ⟨g, 0, none⟩ ∧ base ≤ g ∧ w.heap[g]? = some (.cells (cur : List Value).toArray 62 (0, 0)) ∧ j * 28 + 28 ≤ cur.length ∧ ∀ w' : World, w'.heap[g]? = some (.cells (RowIn cur (j * 28) (evC y)).toArray 62 (0, 0)) → OwnE evC 62 28 w' base (.slice q n c) (xs.set j y) := by
  obtain ⟨h1, ⟨h2, h3⟩ | ⟨g, cap, cur, hv, hg, hh, hc, hm, hs, ht⟩⟩ := h
  · rw [h3] at hj; simp at hj
  · simp only [Value.slice.injEq] at hv
    obtain ⟨rfl, rfl, rfl⟩ := hv
    have hl : (xs.flatMap evC).length = xs.length * 28 := h1
    have hcl : cur.toList.length = c * 28 := by rw [Array.length_toList, hs]
    have hjl : j * 28 + 28 ≤ xs.length * 28 := by have : j + 1 ≤ xs.length := hj; omega
    have hjc : xs.length * 28 ≤ c * 28 := Nat.mul_le_mul_right _ hc
    refine ⟨g, cur.toList, rfl, hg, by simpa using hh, by omega, fun w' hw => ⟨?_, .inr ⟨g, c, (RowIn cur.toList (j * 28) (evC y)).toArray, by rw [List.length_set], hg, hw, by rw [List.length_set]; exact hc, hm, ?_, ?_⟩⟩⟩
    · rw [← flat_put evC_len y xs j hj, rowIn_len (by rw [evC_len, hl]; omega), hl, List.length_set]
    · rw [List.size_toArray, rowIn_len (by rw [evC_len]; omega), hcl]
    · rw [List.length_set, ← flat_put evC_len y xs j hj, ← ht]
      unfold RowIn
      rw [evC_len]
      rw [List.take_append, List.length_append, List.length_take, evC_len, Nat.min_eq_left (by omega), List.take_of_length_le (by rw [List.length_append, List.length_take, evC_len]; omega), List.take_take, Nat.min_eq_left (by omega), List.drop_take]
theorem exec_cvU {o : Oper} {a : Act} {w : World} (x : Operand) (ho : o.op = .convert 3 60 x) (i : Int) (hx : a.eval x = .int .i64 i) : (execOp a.eval o).run Tryz.prog w = .ok (.value (.int .u64 (((i % 18446744073709551616).toNat : Nat) : Int))) w := by
  have e : IntKind.u64.wrap i = (((i % 18446744073709551616).toNat : Nat) : Int) := by rw [IntKind.wrap_u64]; omega
  unfold execOp
  simp only [ho, hx]
  simp [go_sem, Tryz.underlying60, Tryz.underlying3, e]
theorem exec_rem {o : Oper} {a : Act} {w : World} (x y : Operand) (ho : o.op = .binOp .rem 60 x y 60) (i n : Nat) (hn : 0 < n) (hx : a.eval x = .int .u64 (i : Int)) (hy : a.eval y = .int .u64 (n : Int)) (hi : i < 2 ^ 64) : (execOp a.eval o).run Tryz.prog w = .ok (.value (.int .u64 ((i % n : Nat) : Int))) w := by
  unfold execOp
  simp only [ho, hx, hy]
  simp [go_sem]
  rw [if_neg (by omega), Int.tmod_eq_emod_of_nonneg (by omega)]
theorem exec_cvI {o : Oper} {a : Act} {w : World} (x : Operand) (ho : o.op = .convert 60 3 x) (n : Nat) (hn : n < 2 ^ 63) (hx : a.eval x = .int .u64 (n : Int)) : (execOp a.eval o).run Tryz.prog w = .ok (.value (.int .i64 (n : Int))) w := by
  have e : IntKind.i64.wrap (n : Int) = (n : Int) := by simp [IntKind.wrap, IntKind.bits, IntKind.signed]; omega
  unfold execOp
  simp only [ho, hx]
  simp [go_sem, Tryz.underlying60, Tryz.underlying3, e]
theorem exec_lenE {o : Oper} {a : Act} {w : World} (x : Operand) (ho : o.op = .call { callee := .builtin .len, args := #[x], argTypes := #[57] }) (q : Option Addr) (n c : Nat) (hx : a.eval x = .slice q n c) : (execOp a.eval o).run Tryz.prog w = .ok (.value (.int .i64 (n : Int))) w := by
  unfold execOp
  simp only [ho, resolve, invoke, builtin, Sem.run_bind, Sem.run_pure, Result.andThen_ok, List.map_toArray, List.map_cons, List.map_nil, hx]
  simp [go_sem, Tryz.underlying57, goInt]
end Go.Proofs.YtbfefdedjcppaaaGreatDoor
