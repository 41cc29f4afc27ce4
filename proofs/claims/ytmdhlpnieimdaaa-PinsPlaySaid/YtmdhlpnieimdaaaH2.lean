/- At, Len, and what a nil table answers. -/
import Derived.Test.YtmdhlpnieimdaaaH1
namespace Go.Proofs.Ytmdhlpnieimdaaa
open Go.RowKit

set_option maxHeartbeats 400000 in
theorem at_nil (id : Int) (w : World) : Calls Try.prog 9 #[.pointer none, .int .i64 id] w fun e w' => e = .returned (.tuple #[.int .u64 0, .bool false]) ∧ w = w' := by
  go_enter Try.func9, Try.ntmps9
  go_wp2_with (go_at_call 19; (refine (has_nil _ _).mono ?_); rintro e w1 ⟨rfl, rfl⟩)
  refine bodyPost_ret (results_tmp2 rfl _ _ _) rfl ?_
  exact ⟨rfl, rfl⟩
set_option maxHeartbeats 400000 in
theorem at_tab (tp used : Nat) (at' : List Nat) (o : Option Nat) (id : Int) (w : World) (ht : TabAt w tp used at' o) :
    Calls Try.prog 9 #[.pointer (some ⟨tp, 0, none⟩), .int .i64 id] w fun e w' => e = .returned (.tuple #[.int .u64 (if hasL used id then at'.getD id.toNat 0 else 0 : Nat), .bool (hasL used id)]) ∧ w = w' := by
  have HH : Hid (Calls Try.prog 19 #[.pointer (some ⟨tp, 0, none⟩), .int .i64 id] w fun e w' => e = .returned (.bool (hasL used id)) ∧ w = w') := has_tab tp used at' o id w ht
  cases hh : hasL used id
  · rw [hh] at HH
    clear ht hh
    go_enter Try.func9, Try.ntmps9
    go_wp2_with (go_at_call 19; (refine HH.out.mono ?_); rintro e w1 ⟨rfl, rfl⟩)
    refine bodyPost_ret (results_tmp2 rfl _ _ _) rfl ?_
    exact ⟨rfl, rfl⟩
  · rw [hh] at HH
    simp only [hasL, Bool.and_eq_true, decide_eq_true_eq] at hh
    obtain ⟨⟨h0, h1⟩, _⟩ := hh
    obtain ⟨k, rfl⟩ : ∃ k : Nat, id = k := ⟨id.toNat, by omega⟩
    have hk : k < at'.length := by rw [ht.hl]; omega
    have hca := ht.ca k hk
    have HG : Hid ((if true = true then at'.getD (k : Int).toNat 0 else 0) = at'[k]) := by
      show (if true = true then at'.getD (k : Int).toNat 0 else 0) = at'[k]
      simp [List.getD, hk]
    rw [HG.out]
    generalize at'[k] = a at *
    clear ht
    go_enter Try.func9, Try.ntmps9
    go_wp2_with (go_at_call 19; (refine HH.out.mono ?_); rintro e w1 ⟨rfl, rfl⟩)
    refine bodyPost_ret (results_tmp2 rfl _ _ _) rfl ?_
    exact ⟨rfl, rfl⟩
set_option maxHeartbeats 400000 in
theorem len_nil (w : World) : Calls Try.prog 12 #[.pointer none] w fun e w' => e = .returned (.int .i64 0) ∧ w = w' := by
  go_enter Try.func12, Try.ntmps12
  go_wp2_with fail
  go_ret
  exact ⟨rfl, rfl⟩
set_option maxHeartbeats 400000 in
theorem len_tab (tp used : Nat) (at' : List Nat) (o : Option Nat) (w : World) (ht : TabAt w tp used at' o) :
    Calls Try.prog 12 #[.pointer (some ⟨tp, 0, none⟩)] w fun e w' => e = .returned (.int .i64 (onesOf used)) ∧ w = w' := by
  have hcu := ht.cu
  have HO : Hid (∀ W, Calls Try.prog 21 #[.int .u64 used] W fun e w' => e = .returned (.int .i64 (onesOf used)) ∧ W = w') := fun W => ones_any used W ht.hu
  clear ht
  go_enter Try.func12, Try.ntmps12
  go_wp2_with (go_at_call 21; (refine (HO.out _).mono ?_); rintro e w1 ⟨rfl, rfl⟩)
  go_ret
  exact ⟨rfl, rfl⟩
end Go.Proofs.Ytmdhlpnieimdaaa
