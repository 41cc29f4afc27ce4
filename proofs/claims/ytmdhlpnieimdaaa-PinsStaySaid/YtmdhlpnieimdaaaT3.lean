/- bits.Ones: how many bits. -/
import Derived.Test.YtmdhlpnieimdaaaT2
namespace Go.Proofs.Ytmdhlpnieimdaaa
open Go.RowKit

def cntTo (x : Nat) : Nat → Nat
  | 0 => 0
  | k + 1 => cntTo x k + if x.testBit k then 1 else 0
def onesOf (x : Nat) : Nat := cntTo x 64
theorem cntTo_le (x : Nat) : ∀ k, cntTo x k ≤ k
  | 0 => Nat.le_refl _
  | k + 1 => by have := cntTo_le x k; rw [cntTo]; split <;> omega
theorem cntTo_same {x y : Nat} : ∀ k, (∀ i, i < k → x.testBit i = y.testBit i) → cntTo x k = cntTo y k
  | 0, _ => rfl
  | k + 1, h => by rw [cntTo, cntTo, h k (by omega), cntTo_same k fun i hi => h i (by omega)]
theorem cntTo_flip {x y j : Nat} : ∀ k, j < k → x.testBit j = true → y.testBit j = false → (∀ i, i ≠ j → x.testBit i = y.testBit i) → cntTo x k = cntTo y k + 1
  | 0, h, _, _, _ => by omega
  | k + 1, h, h1, h2, h3 => by
    rw [cntTo, cntTo]
    by_cases e : j = k
    · subst e
      rw [h1, h2, cntTo_same j fun i hi => h3 i (by omega)]; rfl
    · rw [cntTo_flip k (by omega) h1 h2 h3, h3 k (by omega)]; omega
theorem ones_step (x : Nat) (hx : x < 18446744073709551616) (h0 : x ≠ 0) : onesOf x = onesOf (x &&& (x - 1)) + 1 ∧ (x &&& (x - 1)) < x := by
  rcases low_bit x with rfl | ⟨j, m, rfl⟩
  · exact absurd rfl h0
  · have hj : j < 64 := by
      rcases Nat.lt_or_ge j 64 with h | h
      · exact h
      · have : 2 ^ 64 ≤ 2 ^ j := Nat.pow_le_pow_right (by omega) h
        have : 2 ^ j * 1 ≤ 2 ^ j * (2 * m + 1) := Nat.mul_le_mul_left _ (by omega)
        have h64 : (18446744073709551616 : Nat) = 2 ^ 64 := by decide
        omega
    have hp : 0 < 2 ^ j := Nat.two_pow_pos j
    have e : 2 ^ j * (2 * m + 1) - 1 = 2 ^ j * (2 * m) + (2 ^ j - 1) := by rw [Nat.mul_add]; omega
    have hb : ∀ i, (2 ^ j * (2 * m + 1) &&& (2 ^ j * (2 * m + 1) - 1)).testBit i = (decide (i ≠ j) && (2 ^ j * (2 * m + 1)).testBit i) := fun i => by
      rw [Nat.testBit_and, e, Nat.testBit_two_pow_mul_add _ (by omega), low_test]
      by_cases hij : i < j
      · have : ¬ j ≤ i := by omega
        simp [this]
      · rw [if_neg hij, odd_test]
        by_cases h : i - j = 0
        · have : i = j := by omega
          subst this
          simp
        · have h1 : i ≠ j := by omega
          rw [if_neg h]
          have h2 : (2 * m).testBit (i - j) = m.testBit (i - j - 1) := by
            obtain ⟨n, hn⟩ : ∃ n, i - j = n + 1 := ⟨i - j - 1, by omega⟩
            rw [hn, Nat.testBit_succ]; simp
          rw [h2]; simp [h1]
    have hbj : (2 ^ j * (2 * m + 1)).testBit j = true := by rw [low_test, odd_test]; simp
    refine ⟨cntTo_flip 64 hj hbj (by rw [hb]; simp) fun i hi => by rw [hb]; simp [hi], ?_⟩
    have h1 : (2 ^ j * (2 * m + 1) &&& (2 ^ j * (2 * m + 1) - 1)) ≤ 2 ^ j * (2 * m + 1) - 1 := Nat.and_le_right
    have h2 : 0 < 2 ^ j * (2 * m + 1) := Nat.mul_pos hp (by omega)
    omega
theorem ones_zero : onesOf 0 = 0 := by decide

set_option maxHeartbeats 400000 in
theorem ones_any (x : Nat) (w : World) (hx : x < 18446744073709551616) :
    Calls Try.prog 21 #[.int .u64 x] w fun e w' => e = .returned (.int .i64 (onesOf x)) ∧ w = w' := by
  obtain ⟨t, ht⟩ : ∃ t, Hid (onesOf x = t) := ⟨_, rfl⟩
  rw [ht.out]
  have ht64 : t ≤ 64 := by rw [← ht.out]; exact cntTo_le _ _
  go_enter Try.func21, Try.ntmps21
  go_wp2_with fail
  go_loop [0, 3] (fun v c => ∃ y n : Nat, v = .int .u64 y ∧ c = .int .i64 n ∧ Hid (y < 18446744073709551616) ∧ Hid (n + onesOf y = t)) (fun v _ => (intOf v).toNat)
  case atStart => exact ⟨x, 0, rfl, rfl, hx, by show 0 + onesOf x = t; rw [ht.out]; omega⟩
  case round =>
    obtain ⟨y, n, rfl, rfl, hy, hn⟩ := hrel
    by_cases h0 : y = 0
    · subst h0
      have hn0 : n = t := by have := hn.out; rw [ones_zero] at this; omega
      subst hn0
      go_wp2_with fail
      go_ret
      exact ⟨rfl, rfl⟩
    · obtain ⟨hs, hl⟩ := ones_step y hy.out h0
      have hyl := hy.out
      have hn1 : n + 1 ≤ 64 := by have := hn.out; omega
      have h0' : ¬ (y : Int) = 0 := by omega
      have hsub : IntKind.u64.wrap ((y : Int) - 1) = ((y - 1 : Nat) : Int) := by
        show ((y : Int) - 1) % 18446744073709551616 = _
        omega
      have hand := bits_and_u64_nat y (y - 1) hyl (by omega)
      have HY : Hid ((y &&& (y - 1)) < 18446744073709551616) := Nat.lt_trans hl hyl
      have HN : Hid (n + 1 + onesOf (y &&& (y - 1)) = t) := by have := hn.out; show n + 1 + onesOf (y &&& (y - 1)) = t; omega
      have hyi : (1 : Int) ≤ y := by omega
      clear hs
      generalize (y &&& (y - 1)) = z at *
      go_wp2_with fail
      go_round
      case rel => exact ⟨z, n + 1, rfl, by go_num, HY.out, HN.out⟩
      case measure => simp [intOf]; omega
end Go.Proofs.Ytmdhlpnieimdaaa
