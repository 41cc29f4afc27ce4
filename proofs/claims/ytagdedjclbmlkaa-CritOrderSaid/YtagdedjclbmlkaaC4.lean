/- A bit of a key; the highest bit of a byte; the first bit in which keys are unlike. -/
import Derived.Test.YtagdedjclbmlkaaC3
import Derived.Test.YtagdedjclbmlkaaGX
namespace Go.Proofs.Ytagdedjclbmlkaa
open Go.RowKit

theorem and7 : ∀ i : Nat, i < 200 → bits .and .i64 (i : Int) 7 = ((i % 8 : Nat) : Int) := by decide +kernel
theorem and1 : ∀ i : Nat, i < 256 → bits .and .i64 (i : Int) 1 = ((i % 2 : Nat) : Int) := by decide +kernel
theorem wrap_small (kd : IntKind) (hk : kd = .i64 ∨ kd = .u64 ∨ kd = .u8) (r : Nat) (hr : r < 256) : kd.wrap (r : Int) = (r : Int) := by
  rcases hk with rfl | rfl | rfl <;> simp [IntKind.wrap, IntKind.bits, IntKind.signed] <;> omega
theorem ag5 (w : World) : (isAgg 5).run Try.prog w = .ok false w := by simp [isAgg, run_underlying Try.underlying5]
theorem exec_shr3 {o : Oper} {a : Act} {w : World} (x : Operand) (ho : o.op = .binOp .shr 3 x (.const (.int .u64 3)) 114) (i : Nat) (hx : a.eval x = .int .i64 (i : Int)) : (execOp a.eval o).run Try.prog w = .ok (.value (.int .i64 ((i / 8 : Nat) : Int))) w := by
  have h1 : a.eval (.const (.int .u64 3)) = .int .u64 3 := rfl
  unfold execOp
  simp only [ho, hx, h1]
  simp [go_sem]
theorem exec_and7 {o : Oper} {a : Act} {w : World} (x : Operand) (ho : o.op = .binOp .and 3 x (.const (.int .i64 7)) 3) (i : Nat) (hi : i < 200) (hx : a.eval x = .int .i64 (i : Int)) : (execOp a.eval o).run Try.prog w = .ok (.value (.int .i64 ((i % 8 : Nat) : Int))) w := by
  have h1 : a.eval (.const (.int .i64 7)) = .int .i64 7 := rfl
  unfold execOp
  simp only [ho, hx, h1]
  simp [go_sem]
  have := and7 i hi
  simpa using this
theorem exec_sub7 {o : Oper} {a : Act} {w : World} (x : Operand) (ho : o.op = .binOp .sub 3 (.const (.int .i64 7)) x 3) (r : Nat) (hr : r < 8) (hx : a.eval x = .int .i64 (r : Int)) : (execOp a.eval o).run Try.prog w = .ok (.value (.int .i64 ((7 - r : Nat) : Int))) w := by
  have h1 : a.eval (.const (.int .i64 7)) = .int .i64 7 := rfl
  unfold execOp
  simp only [ho, hx, h1]
  simp [go_sem]
  rw [show (7 : Int) - (r : Int) = ((7 - r : Nat) : Int) by omega]
  exact wrap_small _ (.inl rfl) _ (by omega)
theorem exec_cvU {o : Oper} {a : Act} {w : World} (x : Operand) (ho : o.op = .convert 3 114 x) (r : Nat) (hr : r < 64) (hx : a.eval x = .int .i64 (r : Int)) : (execOp a.eval o).run Try.prog w = .ok (.value (.int .u64 (r : Int))) w := by
  unfold execOp
  simp only [ho, hx]
  simp [go_sem]
  exact wrap_small _ (.inr (.inl rfl)) _ (by omega)
theorem exec_shrB {o : Oper} {a : Act} {w : World} (x y : Operand) (ho : o.op = .binOp .shr 5 x y 114) (b : UInt8) (r : Nat) (hr : r < 8) (hx : a.eval x = .int .u8 (b.toNat : Int)) (hy : a.eval y = .int .u64 (r : Int)) : (execOp a.eval o).run Try.prog w = .ok (.value (.int .u8 ((b.toNat / 2 ^ r : Nat) : Int))) w := by
  unfold execOp
  simp only [ho, hx, hy]
  simp [go_sem]
theorem exec_cvI {o : Oper} {a : Act} {w : World} (x : Operand) (ho : o.op = .convert 5 3 x) (r : Nat) (hr : r < 256) (hx : a.eval x = .int .u8 (r : Int)) : (execOp a.eval o).run Try.prog w = .ok (.value (.int .i64 (r : Int))) w := by
  unfold execOp
  simp only [ho, hx]
  simp [go_sem]
  exact wrap_small _ (.inl rfl) _ hr
theorem exec_and1 {o : Oper} {a : Act} {w : World} (x : Operand) (ho : o.op = .binOp .and 3 x (.const (.int .i64 1)) 3) (i : Nat) (hi : i < 256) (hx : a.eval x = .int .i64 (i : Int)) : (execOp a.eval o).run Try.prog w = .ok (.value (.int .i64 ((i % 2 : Nat) : Int))) w := by
  have h1 : a.eval (.const (.int .i64 1)) = .int .i64 1 := rfl
  unfold execOp
  simp only [ho, hx, h1]
  simp [go_sem]
  have := and1 i hi
  simpa using this
/-- A side, as a number. -/
def sideI (s : Bool) : Nat := if s then 1 else 0
theorem side_bit (b : List UInt8) (i : Nat) : (b.getD (i / 8) 0).toNat / 2 ^ (7 - i % 8) % 2 = sideI (bitOf b i) := by
  unfold sideI bitOf
  rw [Nat.testBit_eq_decide_div_mod_eq]
  have : (b.getD (i / 8) 0).toNat / 2 ^ (7 - i % 8) % 2 = 0 ∨ (b.getD (i / 8) 0).toNat / 2 ^ (7 - i % 8) % 2 = 1 := by omega
  rcases this with h | h <;> rw [h] <;> rfl
theorem bC_at (b : List UInt8) (q : Nat) (h : q < b.length) : (bC b)[q]? = some (.int .u8 ((b.getD q 0).toNat : Int)) := by
  rw [bC_get b q h, List.getD_eq_getElem?_getD, List.getElem?_eq_getElem h]
  rfl
set_option maxRecDepth 100000 in
set_option maxHeartbeats 4000000 in
theorem side_any (b : List UInt8) (i : Nat) (w : World) (hb : b.length = 25) (hi : i < 200) :
    Calls Try.prog 36 #[.agg (bC b), .int .i64 (i : Int)] w fun e w' => e = .returned (.int .i64 (sideI (bitOf b i) : Nat)) ∧ Below w.heap.size w w' := by
  have HN := heap_alloc_new w (.cells (bC b) 85)
  have HB := Lib.hid (below_alloc1 w (.cells (bC b) 85))
  have HS := Lib.hid (side_bit b i)
  obtain ⟨y, hy⟩ : ∃ y, y = b.getD (i / 8) 0 := ⟨_, rfl⟩
  have hq : i / 8 < 25 := by omega
  have HC : (w.alloc (.cells (bC b) 85)).cell? ⟨w.heap.size, i / 8, none⟩ = some (.int .u8 (y.toNat : Int)) := by rw [cell_blk HN, bC_at b _ (by omega), hy]
  rw [← hy] at HS
  have hl := lt_heap HN
  clear hy HN
  go_enter Try.func36, Try.ntmps36
  go_upto_region 1 with fail
  generalize w.alloc (.cells (bC b) 85) = W0 at *
  have h256 : y.toNat / 2 ^ (7 - i % 8) < 256 := Nat.lt_of_le_of_lt (Nat.div_le_self _ _) y.toNat_lt
  refine wp_region_lex_below ?_
  repeat (first
    | (refine wq_val (.int .i64 ((i / 8 : Nat) : Int)) rfl (fun w => exec_shr3 (.tmp 5) rfl i rfl) ?_; simp only [Act.put, List.setIfInBounds_toArray, List.set_cons_zero, List.set_cons_succ])
    | (refine wq_val (.int .i64 ((i % 8 : Nat) : Int)) rfl (fun w => exec_and7 (.tmp 9) rfl i hi rfl) ?_; simp only [Act.put, List.setIfInBounds_toArray, List.set_cons_zero, List.set_cons_succ])
    | (refine wq_val (.int .i64 ((7 - i % 8 : Nat) : Int)) rfl (fun w => exec_sub7 (.tmp 10) rfl (i % 8) (by omega) rfl) ?_; simp only [Act.put, List.setIfInBounds_toArray, List.set_cons_zero, List.set_cons_succ])
    | (refine wq_val (.int .u64 ((7 - i % 8 : Nat) : Int)) rfl (fun w => exec_cvU (.tmp 11) rfl (7 - i % 8) (by omega) rfl) ?_; simp only [Act.put, List.setIfInBounds_toArray, List.set_cons_zero, List.set_cons_succ])
    | (refine wq_val (.int .u8 ((y.toNat / 2 ^ (7 - i % 8) : Nat) : Int)) rfl (fun w => exec_shrB (.tmp 8) (.tmp 12) rfl y (7 - i % 8) (by omega) rfl rfl) ?_; simp only [Act.put, List.setIfInBounds_toArray, List.set_cons_zero, List.set_cons_succ])
    | (refine wq_val (.int .i64 ((y.toNat / 2 ^ (7 - i % 8) : Nat) : Int)) rfl (fun w => exec_cvI (.tmp 13) rfl _ h256 rfl) ?_; simp only [Act.put, List.setIfInBounds_toArray, List.set_cons_zero, List.set_cons_succ])
    | (refine wq_val (.int .i64 ((y.toNat / 2 ^ (7 - i % 8) % 2 : Nat) : Int)) rfl (fun w => exec_and1 (.tmp 14) rfl _ h256 rfl) ?_; simp only [Act.put, List.setIfInBounds_toArray, List.set_cons_zero, List.set_cons_succ])
    | (refine wq_ld1 rfl 5 (.tmp 7) rfl w.heap.size (i / 8) (.int .u8 (y.toNat : Int)) ag5 rfl HC hl ?_; simp only [Act.put, List.setIfInBounds_toArray, List.set_cons_zero, List.set_cons_succ])
    | go_big_quiet_step (fail))
  refine wpQuiet_nil ?_
  rintro _ ⟨⟨dq, osq⟩, rfl⟩
  have HB3 := bt HB (below_regrown W0 dq osq)
  go_wp2_with fail
  go_ret
  exact ⟨by rw [← HS.out]; rfl, HB3.out⟩
end Go.Proofs.Ytagdedjclbmlkaa
