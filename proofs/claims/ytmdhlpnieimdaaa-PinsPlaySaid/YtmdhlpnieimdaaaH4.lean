/- Unpin at a nil table; Count at a table. -/
import Derived.Test.YtmdhlpnieimdaaaH3
namespace Go.Proofs.Ytmdhlpnieimdaaa
open Go.RowKit

set_option maxHeartbeats 400000 in
theorem count_tab (tp used : Nat) (at' : List Nat) (r t : Nat) (f : Nat → Nat) (K : List Nat) (w : World) (ht : TabAt w tp used at' (some r)) (hc : CntN w r f K) :
    Calls Try.prog 10 #[.pointer (some ⟨tp, 0, none⟩), .int .u64 t] w fun e w' => e = .returned (.int .i64 (f t)) ∧ w = w' := by
  have hcm := ht.cm
  have hlk := hc.look t
  clear ht hc
  generalize f t = n at *
  go_enter Try.func10, Try.ntmps10
  go_wp2_with fail
  go_ret
  exact ⟨rfl, rfl⟩
set_option maxHeartbeats 400000 in
theorem unpin_nil1 (b : Nat) (id : Int) (w : World) (hb : w.cell? ⟨b, 0, none⟩ = some (.int .i64 id)) :
    Calls Try.prog 7 #[.pointer none, .slice (some ⟨b, 0, none⟩) 1 1] w fun e w' => e = .returned (.int .i64 0) ∧ w = w' := by
  go_enter Try.func7, Try.ntmps7
  go_wp2_with fail
  go_loop [5, 11] (fun c i => c = .int .i64 0 ∧ ∃ k : Nat, k ≤ 1 ∧ i = .int .i64 k) (fun _ i => 1 - (intOf i).toNat)
  case atStart => exact ⟨rfl, 0, by omega, rfl⟩
  case round =>
    obtain ⟨rfl, k, hk, rfl⟩ := hrel
    by_cases h : k = 0
    · subst h
      go_wp2_with (go_at_call 19; (refine (has_nil _ _).mono ?_); rintro e w1 ⟨rfl, rfl⟩)
      go_round
      case rel => exact ⟨rfl, 1, by omega, by go_num⟩
      case measure => simp [intOf]
    · obtain rfl : k = 1 := by omega
      go_wp2_with fail
      go_ret
      exact ⟨rfl, rfl⟩
end Go.Proofs.Ytmdhlpnieimdaaa
