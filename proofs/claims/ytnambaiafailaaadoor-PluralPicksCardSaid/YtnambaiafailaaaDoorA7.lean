/- Categories of numbers: small functions, and the closures. -/
import Derived.Test.YtnambaiafailaaaDoorG1
import Derived.Test.YtnambaiafailaaaDoorR5
namespace Go.Proofs.YtnambaiafailaaaDoor
open Go.RowKit

theorem ret_i64' {a b : Int} (h : a = b) : Ending.returned (.int .i64 a) = .returned (.int .i64 b) := by rw [h]
set_option maxRecDepth 100000 in
theorem within_any (n a b : Int) (w : World) : Calls Tryd.prog 75 #[.int .u64 n, .int .u64 a, .int .u64 b] w fun e w' => e = .returned (.bool (decide (a ≤ n) && decide (n ≤ b))) ∧ w = w' := by
  by_cases h1 : a ≤ n <;> by_cases h2 : n ≤ b
  all_goals
    go_enter Tryd.func75, Tryd.ntmps75
    go_wp2
    go_ret
    exact ⟨by simp [*], rfl⟩
def wB (n a b : Int) : Bool := decide (a ≤ n) && decide (n ≤ b)
/-- Few, but for those that are one. -/
def slavI (n : Int) : Int := if wB (n % 10) 2 4 && !wB (n % 100) 12 14 then 3 else 4
set_option maxRecDepth 100000 in
theorem slavic_any (n : Int) (w : World) (h0 : 0 ≤ n) : Calls Tryd.prog 73 #[.int .u64 n] w fun e w' => e = .returned (.int .i64 (slavI n)) ∧ w = w' := by
  have HS : Hid (slavI n = if wB (n % 10) 2 4 && !wB (n % 100) 12 14 then 3 else 4) := rfl
  have H1 : Hid (∀ W, Calls Tryd.prog 75 #[.int .u64 (n % 10), .int .u64 2, .int .u64 4] W fun e w' => e = .returned (.bool (wB (n % 10) 2 4)) ∧ W = w') := fun W => within_any _ _ _ W
  have H2 : Hid (∀ W, Calls Tryd.prog 75 #[.int .u64 (n % 100), .int .u64 12, .int .u64 14] W fun e w' => e = .returned (.bool (wB (n % 100) 12 14)) ∧ W = w') := fun W => within_any _ _ _ W
  generalize wB (n % 10) 2 4 = v1 at *
  generalize wB (n % 100) 12 14 = v2 at *
  cases v1 <;> cases v2
  all_goals
    go_enter Tryd.func73, Tryd.ntmps73
    go_wp2_with (go_at_call 75; first | ((with_reducible refine (H1.out _).mono ?_); rintro e w' ⟨rfl, rfl⟩) | ((with_reducible refine (H2.out _).mono ?_); rintro e w' ⟨rfl, rfl⟩))
    go_ret
    exact ⟨ret_i64' (by rw [HS.out]; rfl), rfl⟩
def arabI (n : Int) : Int := if n < 3 then n else if wB (n % 100) 3 10 then 3 else if wB (n % 100) 11 99 then 4 else 5
set_option maxRecDepth 100000 in
theorem arabic_any (n : Int) (w : World) (h0 : 0 ≤ n) : Calls Tryd.prog 76 #[.int .u64 n] w fun e w' => e = .returned (.int .i64 (arabI n)) ∧ w = w' := by
  have HS : Hid (arabI n = if n < 3 then n else if wB (n % 100) 3 10 then 3 else if wB (n % 100) 11 99 then 4 else 5) := rfl
  have H1 : Hid (∀ W, Calls Tryd.prog 75 #[.int .u64 (n % 100), .int .u64 3, .int .u64 10] W fun e w' => e = .returned (.bool (wB (n % 100) 3 10)) ∧ W = w') := fun W => within_any _ _ _ W
  have H2 : Hid (∀ W, Calls Tryd.prog 75 #[.int .u64 (n % 100), .int .u64 11, .int .u64 99] W fun e w' => e = .returned (.bool (wB (n % 100) 11 99)) ∧ W = w') := fun W => within_any _ _ _ W
  generalize wB (n % 100) 3 10 = v1 at *
  generalize wB (n % 100) 11 99 = v2 at *
  by_cases h1 : n < 3
  · rw [if_pos h1] at HS
    clear H1 H2
    go_enter Tryd.func76, Tryd.ntmps76
    go_wp2_with fail
    go_ret
    exact ⟨ret_i64' (by rw [HS.out]; try rfl), rfl⟩
  · rw [if_neg h1] at HS
    cases v1
    · cases v2
      all_goals
        go_enter Tryd.func76, Tryd.ntmps76
        go_wp2_with (first
          | (go_at_call 75; first | ((with_reducible refine (H1.out _).mono ?_); rintro e w' ⟨rfl, rfl⟩) | ((with_reducible refine (H2.out _).mono ?_); rintro e w' ⟨rfl, rfl⟩)))
        go_ret
        exact ⟨ret_i64' (by rw [HS.out]; rfl), rfl⟩
    · go_enter Tryd.func76, Tryd.ntmps76
      go_wp2_with (go_at_call 75; (refine (H1.out _).mono ?_); rintro e w' ⟨rfl, rfl⟩)
      go_ret
      exact ⟨ret_i64' (by rw [HS.out]; rfl), rfl⟩
set_option maxRecDepth 100000 in
theorem other_any (n : Int) (w : World) : Calls Tryd.prog 67 #[.int .u64 n] w fun e w' => e = .returned (.int .i64 5) ∧ w = w' := by
  go_enter Tryd.func67, Tryd.ntmps67
  go_wp2
  go_ret
  exact ⟨rfl, rfl⟩
set_option maxRecDepth 100000 in
theorem single_any (n : Int) (w : World) : Calls Tryd.prog 68 #[.int .u64 n] w fun e w' => e = .returned (.bool (n == 1)) ∧ w = w' := by
  go_enter Tryd.func68, Tryd.ntmps68
  go_wp2
  go_ret
  exact ⟨rfl, rfl⟩
set_option maxRecDepth 100000 in
theorem two_any (n : Int) (w : World) : Calls Tryd.prog 71 #[.int .u64 n] w fun e w' => e = .returned (.bool (decide (n < 2))) ∧ w = w' := by
  go_enter Tryd.func71, Tryd.ntmps71
  go_wp2
  go_ret
  exact ⟨rfl, rfl⟩
set_option maxRecDepth 100000 in
theorem ru_any (n : Int) (w : World) (h0 : 0 ≤ n) : Calls Tryd.prog 72 #[.int .u64 n] w fun e w' => e = .returned (.bool (n % 10 == 1 && n % 100 != 11)) ∧ w = w' := by
  cases h1 : (n % 10 == 1) <;> cases h2 : (n % 100 != 11)
  all_goals
    have h3 : (n % 100 == 11) = !(n % 100 != 11) := by simp [bne]
    rw [h2] at h3
    simp only [Bool.not_true, Bool.not_false] at h3
    go_enter Tryd.func72, Tryd.ntmps72
    go_wp2
    go_ret
    exact ⟨rfl, rfl⟩
def cs5 (n : Int) : Int := if wB n 2 4 then 3 else 5
set_option maxRecDepth 100000 in
theorem cs_any (n : Int) (w : World) : Calls Tryd.prog 74 #[.int .u64 n] w fun e w' => e = .returned (.int .i64 (cs5 n)) ∧ w = w' := by
  have HS : Hid (cs5 n = if wB n 2 4 then 3 else 5) := rfl
  have H1 : Hid (∀ W, Calls Tryd.prog 75 #[.int .u64 n, .int .u64 2, .int .u64 4] W fun e w' => e = .returned (.bool (wB n 2 4)) ∧ W = w') := fun W => within_any _ _ _ W
  generalize wB n 2 4 = v1 at *
  cases v1
  all_goals
    go_enter Tryd.func74, Tryd.ntmps74
    go_wp2_with (go_at_call 75; (refine (H1.out _).mono ?_); rintro e w' ⟨rfl, rfl⟩)
    go_ret
    exact ⟨ret_i64' (by rw [HS.out]; rfl), rfl⟩
def teenB (n : Int) : Bool := decide (11 ≤ n % 100) && decide (n % 100 ≤ 19)
set_option maxRecDepth 100000 in
theorem teen_any (n : Int) (w : World) (h0 : 0 ≤ n) : Calls Tryd.prog 77 #[.int .u64 n] w fun e w' => e = .returned (.bool (teenB n)) ∧ w = w' := by
  have HW := Lib.hid within_any
  go_enter Tryd.func77, Tryd.ntmps77
  go_wp2_with (go_at_call 75; (refine (HW.out _ _ _ _).mono ?_); rintro e w' ⟨rfl, rfl⟩)
  go_ret
  exact ⟨rfl, rfl⟩
set_option maxRecDepth 100000 in
theorem lt1_any (n : Int) (p : Addr) (w : World) (h0 : 0 ≤ n) (hp : w.cell? p = some (.func (.func 77) #[] #[])) : Calls Tryd.prog 78 #[.int .u64 n, .pointer (some p)] w fun e w' => e = .returned (.bool (n % 10 == 1 && !teenB n)) ∧ w = w' := by
  have HT : Hid (∀ W, Calls Tryd.prog 77 #[.int .u64 n] W fun e w' => e = .returned (.bool (teenB n)) ∧ W = w') := fun W => teen_any n W h0
  cases h1 : (n % 10 == 1) <;> cases h2 : teenB n
  all_goals
    rw [h2] at HT
    clear h2
    go_enter Tryd.func78, Tryd.ntmps78
    go_wp2_with (go_at_call 77; (refine (HT.out _).mono ?_); rintro e w' ⟨rfl, rfl⟩)
    go_ret
    exact ⟨rfl, rfl⟩
def lt9 (n : Int) : Int := if wB (n % 10) 2 9 && !teenB n then 3 else 5
set_option maxRecDepth 100000 in
theorem lt9_any (n : Int) (p : Addr) (w : World) (h0 : 0 ≤ n) (hp : w.cell? p = some (.func (.func 77) #[] #[])) : Calls Tryd.prog 79 #[.int .u64 n, .pointer (some p)] w fun e w' => e = .returned (.int .i64 (lt9 n)) ∧ w = w' := by
  have HS : Hid (lt9 n = if wB (n % 10) 2 9 && !teenB n then 3 else 5) := rfl
  have HT : Hid (∀ W, Calls Tryd.prog 77 #[.int .u64 n] W fun e w' => e = .returned (.bool (teenB n)) ∧ W = w') := fun W => teen_any n W h0
  have H1 : Hid (∀ W, Calls Tryd.prog 75 #[.int .u64 (n % 10), .int .u64 2, .int .u64 9] W fun e w' => e = .returned (.bool (wB (n % 10) 2 9)) ∧ W = w') := fun W => within_any _ _ _ W
  generalize teenB n = tb at *
  generalize wB (n % 10) 2 9 = v1 at *
  cases v1 <;> cases tb
  all_goals
    go_enter Tryd.func79, Tryd.ntmps79
    go_wp2_with (first
      | (go_at_call 75; (refine (H1.out _).mono ?_); rintro e w' ⟨rfl, rfl⟩)
      | (go_at_call 77; (refine (HT.out _).mono ?_); rintro e w' ⟨rfl, rfl⟩))
    go_ret
    exact ⟨ret_i64' (by rw [HS.out]; rfl), rfl⟩
end Go.Proofs.YtnambaiafailaaaDoor
