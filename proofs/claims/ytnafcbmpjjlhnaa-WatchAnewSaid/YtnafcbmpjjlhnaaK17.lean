/- at, Stopped at a registry with a watcher. -/
import Derived.Test.YtnafcbmpjjlhnaaK16
namespace Go.Proofs.Ytnafcbmpjjlhnaa
open Go.RowKit

set_option maxRecDepth 100000 in
set_option maxHeartbeats 4000000 in
theorem atR_any (g j : Nat) (hj : j < 8) (p : Nat) (w : World) (hc : w.cell? ⟨g, j, none⟩ = some (.pointer (some ⟨p, 0, none⟩))) :
    Calls Try.prog 21 #[.pointer (some ⟨g, 0, none⟩), .int .i64 (j : Int)] w fun e w' => e = .returned (.pointer (some ⟨p, 0, none⟩)) ∧ w' = w := by
  have h0 : ¬ (j : Int) < 0 := by omega
  have h8 : ¬ (8 : Int) ≤ (j : Int) := by omega
  go_enter Try.func21, Try.ntmps21
  go_wp2_with fail
  go_ret
  exact ⟨rfl, rfl⟩
set_option maxRecDepth 100000 in
set_option maxHeartbeats 4000000 in
theorem stopped_any (g j : Nat) (hj : j < 8) (p : Nat) (st : Bool) (w : World) (hc : w.cell? ⟨g, j, none⟩ = some (.pointer (some ⟨p, 0, none⟩))) (hs : w.cell? ⟨p, 28, none⟩ = some (.bool st)) :
    Calls Try.prog 11 #[.pointer (some ⟨g, 0, none⟩), .int .i64 (j : Int)] w fun e w' => e = .returned (.bool st) ∧ w' = w := by
  have KA := Lib.hid (atR_any g j hj p w hc)
  clear hc hj
  go_enter Try.func11, Try.ntmps11
  go_wp2_with (go_at_call 21; (refine KA.out.mono ?_); rintro e W2 ⟨rfl, rfl⟩)
  go_ret
  exact ⟨rfl, rfl⟩
end Go.Proofs.Ytnafcbmpjjlhnaa
