/- Pin at a table that has a map. -/
import Derived.Test.YtmdhlpnieimdaaaH4
import Derived.Laws.Bits64
namespace Go.Proofs.Ytmdhlpnieimdaaa
open Go.RowKit

/-- The complement of a word. -/
def notW (used : Nat) : Nat := 18446744073709551615 - used
theorem xor_full (x : Nat) (h : x < 18446744073709551616) : 18446744073709551615 ^^^ x = notW x := by
  have e1 : (18446744073709551615 : Nat) = 2 ^ 64 - (0 + 1) := by decide
  have e2 : notW x = 2 ^ 64 - (x + 1) := by unfold notW; omega
  have h' : x < 2 ^ 64 := by omega
  rw [e2, e1]
  apply Nat.eq_of_testBit_eq
  intro i
  rw [Nat.testBit_xor, Nat.testBit_two_pow_sub_succ (by decide), Nat.testBit_two_pow_sub_succ h']
  by_cases hi : i < 64
  · simp [hi]
  · have : x.testBit i = false := Nat.testBit_lt_two_pow (Nat.lt_of_lt_of_le h' (Nat.pow_le_pow_right (by omega) (by omega)))
    simp [hi, this]
theorem not_u64 (used : Nat) (h : used < 18446744073709551616) : bits BinOp.xor IntKind.u64 (if IntKind.u64.signed = true then -1 else IntKind.u64.max) (used : Int) = (notW used : Int) := by
  have := bits_xor_u64_nat 18446744073709551615 used (by omega) h
  rw [xor_full used h] at this
  exact this

set_option maxHeartbeats 400000 in
theorem pin_full (tp used : Nat) (at' : List Nat) (o : Option Nat) (t : Nat) (w : World) (ht : TabAt w tp used at' o) (hb : botOf (notW used) = -1) :
    Calls Try.prog 8 #[.pointer (some ⟨tp, 0, none⟩), .int .u64 t] w fun e w' => e = .returned (.tuple #[.int .i64 0, .int .i64 6]) ∧ w = w' := by
  have hcu := ht.cu
  have hn := not_u64 used ht.hu
  have HB : Hid (∀ W, Calls Try.prog 20 #[.int .u64 (notW used)] W fun e w' => e = .returned (.int .i64 (-1)) ∧ W = w') := fun W => by
    have := bottom_any (notW used) W (by unfold notW; omega)
    rw [hb] at this; exact this
  clear ht hb
  go_enter Try.func8, Try.ntmps8
  go_wp2_with (go_at_call 20; (refine (HB.out _).mono ?_); rintro e w1 ⟨rfl, rfl⟩)
  refine bodyPost_ret (results_tmp2 rfl _ _ _) rfl ?_
  exact ⟨rfl, rfl⟩
end Go.Proofs.Ytmdhlpnieimdaaa
