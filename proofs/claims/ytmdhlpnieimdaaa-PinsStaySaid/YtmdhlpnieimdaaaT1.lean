/- bits.Top, bits.Bottom. -/
import Derived.Test.YtmdhlpnieimdaaaRows
import Derived.WalkKit
import Derived.Deep.CutBlock
import Derived.WalkSpells
import Derived.WalkLawsBesides
import Derived.Lib.Hide
import Derived.BigQuiet
import Derived.Outline
import Derived.Laws.Bits64b
import Derived.Lib.QuietBelow
namespace Go.Proofs.Ytmdhlpnieimdaaa
open Go.RowKit

theorem bit_of (x k : Nat) (hx : x < 18446744073709551616) : (bits BinOp.and IntKind.u64 ((x : Int) / 2 ^ k) 1 == 1) = x.testBit k := by
  have e : ((x : Int) / 2 ^ k) = ((x / 2 ^ k : Nat) : Int) := by rw [Int.natCast_ediv, Int.natCast_pow]; rfl
  have hlt : x / 2 ^ k < 18446744073709551616 := Nat.lt_of_le_of_lt (Nat.div_le_self _ _) hx
  have h := bits_and_u64_nat (x / 2 ^ k) 1 (by omega) (by omega)
  rw [e]
  rw [show ((1 : Nat) : Int) = 1 from rfl] at h
  rw [h, Nat.testBit_eq_decide_div_mod_eq, Nat.and_one_is_mod]
  cases hm : decide (x / 2 ^ k % 2 = 1) <;> simp at hm ⊢ <;> omega
/-- The highest bit below k, or -1. -/
def topTo (x : Nat) : Nat → Int
  | 0 => -1
  | k + 1 => if x.testBit k then (k : Int) else topTo x k

set_option maxHeartbeats 400000 in
theorem top_any (x : Nat) (w : World) (hx : x < 18446744073709551616) :
    Calls Try.prog 25 #[.int .u64 x] w fun e w' => e = .returned (.int .i64 (topTo x 64)) ∧ w = w' := by
  go_enter Try.func25, Try.ntmps25
  go_wp2_with fail
  go_loop [3, 5] (fun c i => ∃ k : Nat, k ≤ 64 ∧ i = .int .i64 k ∧ c = .int .i64 (topTo x k)) (fun _ i => 64 - (intOf i).toNat)
  case atStart => exact ⟨0, by omega, rfl, rfl⟩
  case round =>
    obtain ⟨k, hk, rfl, rfl⟩ := hrel
    by_cases hlt : k < 64
    · have hk3 : (k : Int) < 64 := by omega
      have hb := bit_of x k hx
      have HT : Hid (topTo x (k + 1) = if x.testBit k then (k : Int) else topTo x k) := rfl
      cases ht : x.testBit k
      all_goals
        rw [ht] at hb HT
        clear ht
        go_wp2_with fail
        go_round
        case rel => exact ⟨k + 1, by omega, by go_num, by rw [HT.out]; rfl⟩
        case measure => simp [intOf]; omega
    · obtain rfl : k = 64 := by omega
      go_wp2_with fail
      go_ret
      exact ⟨rfl, rfl⟩
end Go.Proofs.Ytmdhlpnieimdaaa
