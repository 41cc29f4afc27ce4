/- hand; the calls at a registry that is nil. -/
import Derived.Test.YtnafcbmpjjlhnaaK12
namespace Go.Proofs.Ytnafcbmpjjlhnaa
open Go.RowKit

set_option maxRecDepth 100000 in
theorem hand_any (p : Nat) (w : World) : Calls Try.prog 20 #[.pointer (some ⟨p, 0, none⟩)] w fun e w' =>
    e = .returned (.func (.func 26) #[] #[.pointer (some ⟨w.heap.size, 0, none⟩)]) ∧ w'.heap[w.heap.size]? = some (.cells #[.pointer (some ⟨p, 0, none⟩)] 34 (0, 0)) ∧ Below w.heap.size w w' := by
  have HB := Lib.hid (below_alloc1 w (.cells #[.pointer (some ⟨p, 0, none⟩)] 34))
  have HG : Hid ((w.alloc (.cells #[.pointer (some ⟨p, 0, none⟩)] 34)).heap[w.heap.size]? = some (.cells #[.pointer (some ⟨p, 0, none⟩)] 34 (0, 0))) := heap_alloc_new _ _
  go_enter Try.func20, Try.ntmps20
  go_wp2_with fail
  go_ret
  exact ⟨rfl, HG.out, HB.out⟩
set_option maxRecDepth 100000 in
theorem atN_any (i : Int) (w : World) : Calls Try.prog 21 #[.pointer none, .int .i64 i] w fun e w' => e = .returned (.pointer none) ∧ w' = w := by
  go_enter Try.func21, Try.ntmps21
  go_wp2_with fail
  go_ret
  exact ⟨rfl, rfl⟩
set_option maxRecDepth 100000 in
theorem watchN_any (i : Int) (k : List UInt8) (d s : Int) (w : World) : Calls Try.prog 5 #[.pointer none, .int .i64 i, .agg (pC k d).toArray, .int .u64 s] w fun e w' => e = .returned (.int .i64 9) ∧ Below w.heap.size w w' := by
  have HB := Lib.hid (below_alloc1 w (.cells (pC k d).toArray 32))
  go_enter Try.func5, Try.ntmps5
  go_wp2_with fail
  go_ret
  exact ⟨rfl, HB.out⟩
set_option maxRecDepth 100000 in
theorem resyncN_any (i s : Int) (w : World) : Calls Try.prog 9 #[.pointer none, .int .i64 i, .int .u64 s] w fun e w' => e = .returned (.int .i64 9) ∧ w' = w := by
  go_enter Try.func9, Try.ntmps9
  go_wp2_with fail
  go_ret
  exact ⟨rfl, rfl⟩
set_option maxRecDepth 100000 in
theorem publishN_any (t : Int) (v : Value) (w : World) : Calls Try.prog 7 #[.pointer none, .int .u64 t, v] w fun e w' => e = .returned (.int .i64 0) ∧ w' = w := by
  go_enter Try.func7, Try.ntmps7
  go_wp2_with fail
  go_ret
  exact ⟨rfl, rfl⟩
set_option maxRecDepth 100000 in
theorem dropN_any (i : Int) (w : World) : Calls Try.prog 13 #[.pointer none, .int .i64 i] w fun e w' => e = .returned (.bool false) ∧ w' = w := by
  go_enter Try.func13, Try.ntmps13
  go_wp2_with (go_at_call 21; (refine (atN_any _ _).mono ?_); rintro e W2 ⟨rfl, rfl⟩)
  go_ret
  exact ⟨rfl, rfl⟩
set_option maxRecDepth 100000 in
theorem lenN_any (i : Int) (w : World) : Calls Try.prog 14 #[.pointer none, .int .i64 i] w fun e w' => e = .returned (.int .i64 0) ∧ w' = w := by
  go_enter Try.func14, Try.ntmps14
  go_wp2_with (go_at_call 21; (refine (atN_any _ _).mono ?_); rintro e W2 ⟨rfl, rfl⟩)
  go_ret
  exact ⟨rfl, rfl⟩
set_option maxRecDepth 100000 in
theorem stoppedN_any (i : Int) (w : World) : Calls Try.prog 11 #[.pointer none, .int .i64 i] w fun e w' => e = .returned (.bool false) ∧ w' = w := by
  go_enter Try.func11, Try.ntmps11
  go_wp2_with (go_at_call 21; (refine (atN_any _ _).mono ?_); rintro e W2 ⟨rfl, rfl⟩)
  go_ret
  exact ⟨rfl, rfl⟩
set_option maxRecDepth 100000 in
theorem drainN_any (i m : Int) (w : World) : Calls Try.prog 10 #[.pointer none, .int .i64 i, .int .i64 m] w fun e w' => e = .returned (.tuple #[.slice none 0 0, .bool false]) ∧ w' = w := by
  go_enter Try.func10, Try.ntmps10
  go_wp2_with (go_at_call 21; (refine (atN_any _ _).mono ?_); rintro e W2 ⟨rfl, rfl⟩)
  go_ret2
  exact ⟨rfl, rfl⟩
set_option maxRecDepth 100000 in
theorem listN_any (w : World) : Calls Try.prog 15 #[.pointer none] w fun e w' => e = .returned (.slice none 0 0) ∧ w' = w := by
  go_enter Try.func15, Try.ntmps15
  go_wp2_with fail
  go_loopw [3, 5] (fun l vi wr => ∃ k : Nat, k ≤ 8 ∧ l = .slice none 0 0 ∧ vi = .int .i64 k ∧ wr = w) (fun _ vi _ => 8 - (intOf vi).toNat)
  case atStart => exact ⟨0, by omega, rfl, rfl, rfl⟩
  case round =>
    obtain ⟨k, hk, rfl, rfl, rfl⟩ := hrel
    by_cases hlt : k < 8
    · have hli : (k : Int) < 8 := by omega
      go_wp2_with (go_at_call 21; (refine (atN_any _ _).mono ?_); rintro e W2 ⟨rfl, rfl⟩)
      go_roundw
      case rel => exact ⟨k + 1, by omega, rfl, by go_num, by first | rfl | trivial⟩
      case measure => simp [intOf]; omega
    · have hli : ¬ (k : Int) < 8 := by omega
      go_wp2_with fail
      go_ret
      exact ⟨rfl, rfl⟩
end Go.Proofs.Ytnafcbmpjjlhnaa
