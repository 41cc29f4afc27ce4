/- Top; differ; Differ. -/
import Derived.Test.YtagdedjclbmlkaaC4
namespace Go.Proofs.Ytagdedjclbmlkaa
open Go.RowKit

/-- The highest bit below the k-th; below 0: none. -/
def topB (x : Nat) : Nat → Int
  | 0 => -1
  | k + 1 => if x.testBit k then (k : Int) else topB x k
theorem topB_spec (x : Nat) : ∀ k, (topB x k = -1 ∧ ∀ j, j < k → x.testBit j = false) ∨ ∃ t : Nat, t < k ∧ topB x k = (t : Int) ∧ x.testBit t = true ∧ ∀ j, t < j → j < k → x.testBit j = false
  | 0 => .inl ⟨rfl, fun j h => by omega⟩
  | k + 1 => by
    unfold topB
    cases hb : x.testBit k with
    | true => exact .inr ⟨k, by omega, by simp, hb, fun j h1 h2 => by omega⟩
    | false =>
      simp only [Bool.false_eq_true, if_false]
      rcases topB_spec x k with ⟨h1, h2⟩ | ⟨t, h1, h2, h3, h4⟩
      · refine .inl ⟨h1, fun j hj => ?_⟩
        by_cases c : j = k
        · rw [c]; exact hb
        · exact h2 j (by omega)
      · refine .inr ⟨t, by omega, h2, h3, fun j hj hk => ?_⟩
        by_cases c : j = k
        · rw [c]; exact hb
        · exact h4 j hj (by omega)
theorem byte_high {x : Nat} (h : x < 256) {j : Nat} (hj : 8 ≤ j) : x.testBit j = false :=
  Nat.testBit_lt_two_pow (Nat.lt_of_lt_of_le h (show 2 ^ 8 ≤ 2 ^ j from Nat.pow_le_pow_right (by omega) hj))
theorem top_byte {x : Nat} (h : x < 256) (h0 : x ≠ 0) : ∃ t : Nat, t < 8 ∧ topB x 64 = (t : Int) ∧ x.testBit t = true ∧ ∀ j, t < j → x.testBit j = false := by
  rcases topB_spec x 64 with ⟨h1, h2⟩ | ⟨t, h1, h2, h3, h4⟩
  · exfalso
    apply h0
    apply Nat.eq_of_testBit_eq
    intro i
    rw [Nat.zero_testBit]
    by_cases c : i < 64
    · exact h2 i c
    · exact byte_high h (by omega)
  · refine ⟨t, ?_, h2, h3, fun j hj => ?_⟩
    · by_cases c : t < 8
      · exact c
      · rw [byte_high h (by omega)] at h3; cases h3
    · by_cases c : j < 64
      · exact h4 j hj c
      · exact byte_high h (by omega)
def dI : Option Nat → Int
  | none => -1
  | some d => (d : Int)
theorem differ_byte {a b : List UInt8} {q : Nat} (hq : q < 25) (h : ∀ j, j < q → a.getD j 0 = b.getD j 0) (hx : a.getD q 0 ^^^ b.getD q 0 ≠ 0) :
    ∃ t : Nat, t < 8 ∧ topB (a.getD q 0 ^^^ b.getD q 0).toNat 64 = (t : Int) ∧ differ a b = some (8 * q + 7 - t) := by
  have hx0 : (a.getD q 0 ^^^ b.getD q 0).toNat ≠ 0 := fun e => hx (UInt8.toNat_inj.1 e)
  obtain ⟨t, ht, h1, h2, h3⟩ := top_byte (UInt8.toNat_lt _) hx0
  rw [UInt8.toNat_xor, Nat.testBit_xor] at h2
  refine ⟨t, ht, h1, differ_of (by omega) ?_ fun j hj => ?_⟩
  · unfold bitOf
    rw [show (8 * q + 7 - t) / 8 = q by omega, show 7 - (8 * q + 7 - t) % 8 = t by omega]
    intro e
    rw [e] at h2; simp at h2
  · unfold bitOf
    by_cases c : j / 8 < q
    · rw [h _ c]
    · have hjq : j / 8 = q := by omega
      rw [hjq]
      have h4 := h3 (7 - j % 8) (by omega)
      rw [UInt8.toNat_xor, Nat.testBit_xor] at h4
      simpa using h4
theorem differ_same {a b : List UInt8} (h : ∀ j, j < 25 → a.getD j 0 = b.getD j 0) : differ a b = none := by
  cases hd : differ a b with
  | none => rfl
  | some d =>
    obtain ⟨h1, h2, _⟩ := differ_some hd
    exfalso
    apply h2
    unfold bitOf
    rw [h _ (by omega)]
theorem and1U : ∀ i : Nat, i < 256 → bits .and .u64 (i : Int) 1 = ((i % 2 : Nat) : Int) := by decide +kernel
theorem exec_shrU {o : Oper} {a : Act} {w : World} (x y : Operand) (ho : o.op = .binOp .shr 73 x y 114) (n r : Nat) (hr : r < 64) (hx : a.eval x = .int .u64 (n : Int)) (hy : a.eval y = .int .u64 (r : Int)) : (execOp a.eval o).run Try.prog w = .ok (.value (.int .u64 ((n / 2 ^ r : Nat) : Int))) w := by
  unfold execOp
  simp only [ho, hx, hy]
  simp [go_sem]
theorem exec_andU {o : Oper} {a : Act} {w : World} (x : Operand) (ho : o.op = .binOp .and 73 x (.const (.int .u64 1)) 73) (i : Nat) (hi : i < 256) (hx : a.eval x = .int .u64 (i : Int)) : (execOp a.eval o).run Try.prog w = .ok (.value (.int .u64 ((i % 2 : Nat) : Int))) w := by
  have h1 : a.eval (.const (.int .u64 1)) = .int .u64 1 := rfl
  unfold execOp
  simp only [ho, hx, h1]
  simp [go_sem]
  have := and1U i hi
  simpa using this
theorem exec_eq1U {o : Oper} {a : Act} {w : World} (x : Operand) (ho : o.op = .binOp .eql 73 x (.const (.int .u64 1)) 73) (n r : Nat) (hx : a.eval x = .int .u64 ((n / 2 ^ r % 2 : Nat) : Int)) : (execOp a.eval o).run Try.prog w = .ok (.value (.bool (n.testBit r))) w := by
  have h1 : a.eval (.const (.int .u64 1)) = .int .u64 1 := rfl
  unfold execOp
  rw [Nat.testBit_eq_decide_div_mod_eq]
  simp only [ho, hx, h1]
  have : n / 2 ^ r % 2 = 0 ∨ n / 2 ^ r % 2 = 1 := by omega
  rcases this with h | h <;> rw [h] <;> simp [go_sem]
theorem exec_cvB {o : Oper} {a : Act} {w : World} (x : Operand) (ho : o.op = .convert 5 73 x) (r : Nat) (hr : r < 256) (hx : a.eval x = .int .u8 (r : Int)) : (execOp a.eval o).run Try.prog w = .ok (.value (.int .u64 (r : Int))) w := by
  unfold execOp
  simp only [ho, hx]
  simp [go_sem]
  exact wrap_small _ (.inr (.inl rfl)) _ hr
set_option maxRecDepth 100000 in
set_option maxHeartbeats 4000000 in
theorem top_any (x : Nat) (w : World) (hx : x < 256) :
    Calls Try.prog 50 #[.int .u64 (x : Int)] w fun e w' => e = .returned (.int .i64 (topB x 64)) ∧ Below w.heap.size w w' := by
  go_enter Try.func50, Try.ntmps50
  go_wp2_with fail
  go_loopw [3, 5] (fun va vi wr => ∃ k : Nat, k ≤ 64 ∧ vi = .int .i64 k ∧ va = .int .i64 (topB x k) ∧ Hid (Below w.heap.size w wr)) (fun _ vi _ => 64 - (intOf vi).toNat)
  case atStart => exact ⟨0, by omega, rfl, rfl, Below.refl _ _⟩
  case round =>
    obtain ⟨k, hk, rfl, rfl, HB⟩ := hrel
    by_cases h1 : k < 64
    · have h1i : (k : Int) < 64 := by omega
      have h256 : x / 2 ^ k < 256 := Nat.lt_of_le_of_lt (Nat.div_le_self _ _) hx
      have HT : ∀ b, x.testBit k = b → Hid (topB x (k + 1) = if b then (k : Int) else topB x k) := fun b hb => by show _ = _; rw [← hb]; rfl
      cases hb : x.testBit k
      all_goals
        have HT2 := HT _ hb
        clear HT
        go_upto_region 5 with fail
        refine wp_region_lex_below ?_
        repeat (first
          | (refine wq_val (.int .u64 (k : Int)) rfl (fun w => exec_cvU (.tmp 9) rfl k h1 rfl) ?_; simp only [Act.put, List.setIfInBounds_toArray, List.set_cons_zero, List.set_cons_succ])
          | (refine wq_val (.int .u64 ((x / 2 ^ k : Nat) : Int)) rfl (fun w => exec_shrU (.tmp 8) (.tmp 10) rfl x k h1 rfl rfl) ?_; simp only [Act.put, List.setIfInBounds_toArray, List.set_cons_zero, List.set_cons_succ])
          | (refine wq_val (.int .u64 ((x / 2 ^ k % 2 : Nat) : Int)) rfl (fun w => exec_andU (.tmp 11) rfl _ h256 rfl) ?_; simp only [Act.put, List.setIfInBounds_toArray, List.set_cons_zero, List.set_cons_succ])
          | (refine wq_val (.bool (x.testBit k)) rfl (fun w => exec_eq1U (.tmp 12) rfl x k rfl) ?_; rw [hb]; simp only [Act.put, List.setIfInBounds_toArray, List.set_cons_zero, List.set_cons_succ])
          | go_big_quiet_step (fail))
        refine wpQuiet_nil ?_
        rintro _ ⟨⟨dq, osq⟩, rfl⟩
        have HB3 := bt HB (below_regrown wr dq osq)
        clear HB
        generalize Sort.grow (redrawn wr dq) osq = W3 at *
        go_wp2_with fail
        go_roundw
        case rel => exact ⟨k + 1, by omega, by go_num, by rw [HT2.out]; simp, HB3⟩
        case measure => simp [intOf]; omega
    · obtain rfl : k = 64 := by omega
      go_wp2_with fail
      go_ret
      exact ⟨rfl, HB.out⟩
end Go.Proofs.Ytagdedjclbmlkaa
