/- bits.Bottom: the least bit. -/
import Derived.Test.YtmdhlpnieimdaaaT1
namespace Go.Proofs.Ytmdhlpnieimdaaa
open Go.RowKit

/-- The least bit from k on, n places, or -1. -/
def botFrom (x : Nat) : Nat → Nat → Int
  | _, 0 => -1
  | k, n + 1 => if x.testBit k then (k : Int) else botFrom x (k + 1) n
def botOf (x : Nat) : Int := botFrom x 0 64

theorem topTo_none {x : Nat} : ∀ k, (∀ i, i < k → x.testBit i = false) → topTo x k = -1
  | 0, _ => rfl
  | k + 1, h => by rw [topTo, h k (by omega)]; exact topTo_none k fun i hi => h i (by omega)
theorem topTo_one {x j : Nat} : ∀ k, j < k → x.testBit j = true → (∀ i, i < k → i ≠ j → x.testBit i = false) → topTo x k = j
  | k + 1, hj, h1, h2 => by
    rw [topTo]
    by_cases e : j = k
    · subst e; rw [h1]; rfl
    · rw [h2 k (by omega) (by omega)]
      exact topTo_one k (by omega) h1 fun i hi => h2 i (by omega)
theorem botFrom_none {x : Nat} : ∀ n k, (∀ i, k ≤ i → i < k + n → x.testBit i = false) → botFrom x k n = -1
  | 0, _, _ => rfl
  | n + 1, k, h => by rw [botFrom, h k (by omega) (by omega)]; exact botFrom_none n (k + 1) fun i h1 h2 => h i (by omega) (by omega)
theorem botFrom_one {x j : Nat} : ∀ n k, k ≤ j → j < k + n → x.testBit j = true → (∀ i, k ≤ i → i < j → x.testBit i = false) → botFrom x k n = j
  | 0, k, h1, h2, _, _ => by omega
  | n + 1, k, h1, h2, h3, h4 => by
    rw [botFrom]
    by_cases e : k = j
    · subst e; rw [h3]; rfl
    · rw [h4 k (by omega) (by omega)]
      exact botFrom_one n (k + 1) (by omega) (by omega) h3 fun i g1 g2 => h4 i (by omega) g2

/-- A number is nothing, or has a least bit. -/
theorem low_bit (x : Nat) : x = 0 ∨ ∃ j m, x = 2 ^ j * (2 * m + 1) := by
  induction x using Nat.strongRecOn with
  | ind x ih =>
    by_cases h0 : x = 0
    · exact .inl h0
    · right
      by_cases h1 : x % 2 = 1
      · exact ⟨0, x / 2, by rw [Nat.pow_zero, Nat.one_mul]; omega⟩
      · rcases ih (x / 2) (by omega) with h | ⟨j, m, h⟩
        · omega
        · exact ⟨j + 1, m, by
            have : x = 2 * (x / 2) := by omega
            rw [this, h, Nat.pow_succ, Nat.mul_comm (2 ^ j) 2, Nat.mul_assoc]⟩

theorem low_test (j m i : Nat) : (2 ^ j * (2 * m + 1)).testBit i = (decide (j ≤ i) && (2 * m + 1).testBit (i - j)) := by
  rw [Nat.testBit_two_pow_mul]
theorem odd_test (m i : Nat) : (2 * m + 1).testBit i = if i = 0 then true else m.testBit (i - 1) := by
  cases i with
  | zero => simp [Nat.testBit_zero]
  | succ i => rw [Nat.testBit_succ]; simp; congr 1; omega
theorem bottom_law (x : Nat) (hx : x < 18446744073709551616) : topTo (x &&& ((18446744073709551616 - x) % 18446744073709551616)) 64 = botOf x := by
  rcases low_bit x with rfl | ⟨j, m, rfl⟩
  · rfl
  · have h64 : (18446744073709551616 : Nat) = 2 ^ 64 := by decide
    have hj : j < 64 := by
      rcases Nat.lt_or_ge j 64 with h | h
      · exact h
      · have : 2 ^ 64 ≤ 2 ^ j := Nat.pow_le_pow_right (by omega) h
        have : 2 ^ j * 1 ≤ 2 ^ j * (2 * m + 1) := Nat.mul_le_mul_left _ (by omega)
        omega
    have hm : m < 2 ^ (63 - j) := by
      rcases Nat.lt_or_ge m (2 ^ (63 - j)) with h | h
      · exact h
      · have h1 : 2 ^ j * (2 * 2 ^ (63 - j) + 1) ≤ 2 ^ j * (2 * m + 1) := Nat.mul_le_mul_left _ (by omega)
        have h2 : 2 ^ j * (2 * 2 ^ (63 - j)) = 2 ^ 64 := by
          rw [← Nat.pow_succ', ← Nat.pow_add]; congr 1; omega
        rw [Nat.mul_add, h2] at h1
        have : 0 < 2 ^ j := Nat.two_pow_pos j
        omega
    have hneg : 18446744073709551616 - 2 ^ j * (2 * m + 1) = 2 ^ j * (2 * (2 ^ (63 - j) - (m + 1)) + 1) := by
      have h2 : 2 ^ j * (2 * 2 ^ (63 - j)) = 2 ^ 64 := by
        rw [← Nat.pow_succ', ← Nat.pow_add]; congr 1; omega
      rw [h64, ← h2, ← Nat.mul_sub]
      congr 1; omega
    have hpos : 0 < 2 ^ j * (2 * m + 1) := Nat.mul_pos (Nat.two_pow_pos j) (by omega)
    rw [Nat.mod_eq_of_lt (by omega), hneg]
    have hbit : ∀ i, (2 ^ j * (2 * m + 1) &&& 2 ^ j * (2 * (2 ^ (63 - j) - (m + 1)) + 1)).testBit i = decide (i = j) := fun i => by
      rw [Nat.testBit_and, low_test, low_test]
      by_cases hij : j ≤ i
      · rw [decide_eq_true hij, Bool.true_and, Bool.true_and, odd_test, odd_test]
        by_cases e : i - j = 0
        · rw [if_pos e, if_pos e]
          have : i = j := by omega
          simp [this]
        · rw [if_neg e, if_neg e, Nat.testBit_two_pow_sub_succ hm]
          have : i ≠ j := by omega
          cases m.testBit (i - j - 1) <;> simp [this]
      · have : i ≠ j := by omega
        simp [hij, this]
    rw [topTo_one 64 hj (by rw [hbit]; simp) (fun i _ hi => by rw [hbit]; simp [hi])]
    refine (botFrom_one 64 0 (Nat.zero_le _) (by omega) ?_ fun i _ hi => ?_).symm
    · rw [low_test, odd_test]; simp
    · rw [low_test]; simp; omega

theorem neg_u64 (x : Nat) (hx : x < 18446744073709551616) : IntKind.u64.wrap (-(x : Int)) = (((18446744073709551616 - x) % 18446744073709551616 : Nat) : Int) := by
  show (-(x : Int)) % 18446744073709551616 = _
  omega

set_option maxHeartbeats 400000 in
theorem bottom_any (x : Nat) (w : World) (hx : x < 18446744073709551616) :
    Calls Try.prog 20 #[.int .u64 x] w fun e w' => e = .returned (.int .i64 (botOf x)) ∧ w = w' := by
  have hn := neg_u64 x hx
  have ha := bits_and_u64_nat x ((18446744073709551616 - x) % 18446744073709551616) hx (by omega)
  have hlt : (x &&& ((18446744073709551616 - x) % 18446744073709551616)) < 18446744073709551616 := Nat.lt_of_le_of_lt Nat.and_le_left hx
  have HT : Hid (∀ W, Calls Try.prog 25 #[.int .u64 ((x &&& ((18446744073709551616 - x) % 18446744073709551616) : Nat))] W fun e w' => e = .returned (.int .i64 (botOf x)) ∧ W = w') := fun W => by
    have h := top_any _ W hlt
    rw [bottom_law x hx] at h; exact h
  generalize (18446744073709551616 - x) % 18446744073709551616 = y at *
  generalize (x &&& y) = z at *
  go_enter Try.func20, Try.ntmps20
  go_wp2_with (go_at_call 25; (refine (HT.out _).mono ?_); rintro e w1 ⟨rfl, rfl⟩)
  go_ret
  exact ⟨rfl, rfl⟩
end Go.Proofs.Ytmdhlpnieimdaaa
