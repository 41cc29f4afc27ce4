/- The body of oneIf at each language; the document's Of. -/
import Derived.Test.YtnambaiafailaaaDoorA7
namespace Go.Proofs.YtnambaiafailaaaDoor
open Go.RowKit

set_option maxRecDepth 100000 in
theorem one_0 (n : Int) (p q : Addr) (w : World) (_ : 0 ≤ n) (hp : w.cell? p = some (.func (.func 68) #[] #[])) (hq : w.cell? q = some (.func (.func 67) #[] #[])) :
    Calls Tryd.prog 66 #[.int .u64 n, .pointer (some p), .pointer (some q)] w fun e w' => e = .returned (.int .i64 (if (n == 1) then 1 else 5)) ∧ w = w' := by
  have HI : Hid (Calls Tryd.prog 68 #[.int .u64 n] w fun e w' => e = .returned (.bool (n == 1)) ∧ w = w') := single_any n w
  have HR : Hid (Calls Tryd.prog 67 #[.int .u64 n] w fun e w' => e = .returned (.int .i64 (5)) ∧ w = w') := other_any n w
  generalize (n == 1) = b at *
  generalize (5 : Int) = v at *
  cases b
  all_goals
    go_enter Tryd.func66, Tryd.ntmps66
    go_wp2_with (first
      | (go_at_call 68; (refine HI.out.mono ?_); rintro e w' ⟨rfl, rfl⟩)
      | (go_at_call 67; (refine HR.out.mono ?_); rintro e w' ⟨rfl, rfl⟩))
    go_ret
    exact ⟨rfl, rfl⟩
set_option maxRecDepth 100000 in
theorem one_2 (n : Int) (p q : Addr) (w : World) (_ : 0 ≤ n) (hp : w.cell? p = some (.func (.func 71) #[] #[])) (hq : w.cell? q = some (.func (.func 67) #[] #[])) :
    Calls Tryd.prog 66 #[.int .u64 n, .pointer (some p), .pointer (some q)] w fun e w' => e = .returned (.int .i64 (if (decide (n < 2)) then 1 else 5)) ∧ w = w' := by
  have HI : Hid (Calls Tryd.prog 71 #[.int .u64 n] w fun e w' => e = .returned (.bool (decide (n < 2))) ∧ w = w') := two_any n w
  have HR : Hid (Calls Tryd.prog 67 #[.int .u64 n] w fun e w' => e = .returned (.int .i64 (5)) ∧ w = w') := other_any n w
  generalize (decide (n < 2)) = b at *
  generalize (5 : Int) = v at *
  cases b
  all_goals
    go_enter Tryd.func66, Tryd.ntmps66
    go_wp2_with (first
      | (go_at_call 71; (refine HI.out.mono ?_); rintro e w' ⟨rfl, rfl⟩)
      | (go_at_call 67; (refine HR.out.mono ?_); rintro e w' ⟨rfl, rfl⟩))
    go_ret
    exact ⟨rfl, rfl⟩
set_option maxRecDepth 100000 in
theorem one_3 (n : Int) (p q : Addr) (w : World) (h0 : 0 ≤ n) (hp : w.cell? p = some (.func (.func 72) #[] #[])) (hq : w.cell? q = some (.func (.func 73) #[] #[])) :
    Calls Tryd.prog 66 #[.int .u64 n, .pointer (some p), .pointer (some q)] w fun e w' => e = .returned (.int .i64 (if (n % 10 == 1 && n % 100 != 11) then 1 else slavI n)) ∧ w = w' := by
  have HI : Hid (Calls Tryd.prog 72 #[.int .u64 n] w fun e w' => e = .returned (.bool (n % 10 == 1 && n % 100 != 11)) ∧ w = w') := ru_any n w h0
  have HR : Hid (Calls Tryd.prog 73 #[.int .u64 n] w fun e w' => e = .returned (.int .i64 (slavI n)) ∧ w = w') := slavic_any n w h0
  generalize (n % 10 == 1 && n % 100 != 11) = b at *
  generalize (slavI n : Int) = v at *
  cases b
  all_goals
    go_enter Tryd.func66, Tryd.ntmps66
    go_wp2_with (first
      | (go_at_call 72; (refine HI.out.mono ?_); rintro e w' ⟨rfl, rfl⟩)
      | (go_at_call 73; (refine HR.out.mono ?_); rintro e w' ⟨rfl, rfl⟩))
    go_ret
    exact ⟨rfl, rfl⟩
set_option maxRecDepth 100000 in
theorem one_4 (n : Int) (p q : Addr) (w : World) (h0 : 0 ≤ n) (hp : w.cell? p = some (.func (.func 68) #[] #[])) (hq : w.cell? q = some (.func (.func 73) #[] #[])) :
    Calls Tryd.prog 66 #[.int .u64 n, .pointer (some p), .pointer (some q)] w fun e w' => e = .returned (.int .i64 (if (n == 1) then 1 else slavI n)) ∧ w = w' := by
  have HI : Hid (Calls Tryd.prog 68 #[.int .u64 n] w fun e w' => e = .returned (.bool (n == 1)) ∧ w = w') := single_any n w
  have HR : Hid (Calls Tryd.prog 73 #[.int .u64 n] w fun e w' => e = .returned (.int .i64 (slavI n)) ∧ w = w') := slavic_any n w h0
  generalize (n == 1) = b at *
  generalize (slavI n : Int) = v at *
  cases b
  all_goals
    go_enter Tryd.func66, Tryd.ntmps66
    go_wp2_with (first
      | (go_at_call 68; (refine HI.out.mono ?_); rintro e w' ⟨rfl, rfl⟩)
      | (go_at_call 73; (refine HR.out.mono ?_); rintro e w' ⟨rfl, rfl⟩))
    go_ret
    exact ⟨rfl, rfl⟩
set_option maxRecDepth 100000 in
theorem one_5 (n : Int) (p q : Addr) (w : World) (_ : 0 ≤ n) (hp : w.cell? p = some (.func (.func 68) #[] #[])) (hq : w.cell? q = some (.func (.func 74) #[] #[])) :
    Calls Tryd.prog 66 #[.int .u64 n, .pointer (some p), .pointer (some q)] w fun e w' => e = .returned (.int .i64 (if (n == 1) then 1 else cs5 n)) ∧ w = w' := by
  have HI : Hid (Calls Tryd.prog 68 #[.int .u64 n] w fun e w' => e = .returned (.bool (n == 1)) ∧ w = w') := single_any n w
  have HR : Hid (Calls Tryd.prog 74 #[.int .u64 n] w fun e w' => e = .returned (.int .i64 (cs5 n)) ∧ w = w') := cs_any n w
  generalize (n == 1) = b at *
  generalize (cs5 n : Int) = v at *
  cases b
  all_goals
    go_enter Tryd.func66, Tryd.ntmps66
    go_wp2_with (first
      | (go_at_call 68; (refine HI.out.mono ?_); rintro e w' ⟨rfl, rfl⟩)
      | (go_at_call 74; (refine HR.out.mono ?_); rintro e w' ⟨rfl, rfl⟩))
    go_ret
    exact ⟨rfl, rfl⟩
set_option maxRecDepth 100000 in
theorem one_7 (n : Int) (p q : Addr) (k : Addr) (w : World) (h0 : 0 ≤ n) (hp : w.cell? p = some (.func (.func 78) #[] #[.pointer (some k)])) (hq : w.cell? q = some (.func (.func 79) #[] #[.pointer (some k)])) (hk : w.cell? k = some (.func (.func 77) #[] #[])) :
    Calls Tryd.prog 66 #[.int .u64 n, .pointer (some p), .pointer (some q)] w fun e w' => e = .returned (.int .i64 (if (n % 10 == 1 && !teenB n) then 1 else lt9 n)) ∧ w = w' := by
  have HI : Hid (Calls Tryd.prog 78 #[.int .u64 n, .pointer (some k)] w fun e w' => e = .returned (.bool (n % 10 == 1 && !teenB n)) ∧ w = w') := lt1_any n k w h0 hk
  have HR : Hid (Calls Tryd.prog 79 #[.int .u64 n, .pointer (some k)] w fun e w' => e = .returned (.int .i64 (lt9 n)) ∧ w = w') := lt9_any n k w h0 hk
  generalize (n % 10 == 1 && !teenB n) = b at *
  generalize (lt9 n : Int) = v at *
  cases b
  all_goals
    go_enter Tryd.func66, Tryd.ntmps66
    go_wp2_with (first
      | (go_at_call 78; (refine HI.out.mono ?_); rintro e w' ⟨rfl, rfl⟩)
      | (go_at_call 79; (refine HR.out.mono ?_); rintro e w' ⟨rfl, rfl⟩))
    go_ret
    exact ⟨rfl, rfl⟩

/-- A number's category in a group. -/
def catI (g : Nat) (n : Int) : Int := match g with
  | 1 => 5
  | 2 => if decide (n < 2) then 1 else 5
  | 3 => if (n % 10 == 1 && n % 100 != 11) then 1 else slavI n
  | 4 => if (n == 1) then 1 else slavI n
  | 5 => if (n == 1) then 1 else cs5 n
  | 6 => arabI n
  | 7 => if (n % 10 == 1 && !teenB n) then 1 else lt9 n
  | _ => if (n == 1) then 1 else 5
/-- A function value that tells categories. -/
def Tells (g : Nat) (W : World) (v : Value) : Prop := match g with
  | 1 => v = .func (.func 67) #[] #[]
  | 6 => v = .func (.func 76) #[] #[]
  | 7 => ∃ p q k : Addr, v = .func (.func 66) #[] #[.pointer (some p), .pointer (some q)] ∧ W.cell? p = some (.func (.func 78) #[] #[.pointer (some k)]) ∧ W.cell? q = some (.func (.func 79) #[] #[.pointer (some k)]) ∧ W.cell? k = some (.func (.func 77) #[] #[])
  | 2 => ∃ p q : Addr, v = .func (.func 66) #[] #[.pointer (some p), .pointer (some q)] ∧ W.cell? p = some (.func (.func 71) #[] #[]) ∧ W.cell? q = some (.func (.func 67) #[] #[])
  | 3 => ∃ p q : Addr, v = .func (.func 66) #[] #[.pointer (some p), .pointer (some q)] ∧ W.cell? p = some (.func (.func 72) #[] #[]) ∧ W.cell? q = some (.func (.func 73) #[] #[])
  | 4 => ∃ p q : Addr, v = .func (.func 66) #[] #[.pointer (some p), .pointer (some q)] ∧ W.cell? p = some (.func (.func 68) #[] #[]) ∧ W.cell? q = some (.func (.func 73) #[] #[])
  | 5 => ∃ p q : Addr, v = .func (.func 66) #[] #[.pointer (some p), .pointer (some q)] ∧ W.cell? p = some (.func (.func 68) #[] #[]) ∧ W.cell? q = some (.func (.func 74) #[] #[])
  | _ => ∃ p q : Addr, v = .func (.func 66) #[] #[.pointer (some p), .pointer (some q)] ∧ W.cell? p = some (.func (.func 68) #[] #[]) ∧ W.cell? q = some (.func (.func 67) #[] #[])
end Go.Proofs.YtnambaiafailaaaDoor
