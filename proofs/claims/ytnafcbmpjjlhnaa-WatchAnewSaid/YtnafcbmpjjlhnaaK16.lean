/- Watch at a depth that is not right. -/
import Derived.Test.YtnafcbmpjjlhnaaK15
namespace Go.Proofs.Ytnafcbmpjjlhnaa
open Go.RowKit

set_option maxRecDepth 100000 in
set_option maxHeartbeats 4000000 in
theorem watch_bad (g j : Nat) (hj : j < 8) (k : List UInt8) (hk : k.length = 25) (d s : Int) (w : World) (hd : depOk d = false) :
    Calls Try.prog 5 #[.pointer (some ⟨g, 0, none⟩), .int .i64 (j : Int), .agg (pC k d).toArray, .int .u64 s] w fun e w' => e = .returned (.int .i64 5) ∧ Below w.heap.size w w' := by
  have HB := Lib.hid (below_alloc1 w (.cells (pC k d).toArray 32))
  have hdd : d < 0 ∨ 5 < d := by have := of_decide_eq_false hd; omega
  have h0 : ¬ (j : Int) < 0 := by omega
  have h8 : ¬ (8 : Int) ≤ (j : Int) := by omega
  have hdc : (w.alloc (.cells (pC k d).toArray 32)).cell? ⟨w.heap.size, 25, none⟩ = some (.int .i64 d) := by rw [cell_blk (heap_alloc_new _ _)]; exact pC_d hk d
  clear hd
  by_cases hd0 : d < 0
  · clear hdd
    go_enter Try.func5, Try.ntmps5
    go_wp2_with fail
    go_ret
    exact ⟨rfl, HB.out⟩
  · have hd5 : 5 < d := by omega
    clear hdd
    go_enter Try.func5, Try.ntmps5
    go_wp2_with fail
    go_ret
    exact ⟨rfl, HB.out⟩
end Go.Proofs.Ytnafcbmpjjlhnaa
