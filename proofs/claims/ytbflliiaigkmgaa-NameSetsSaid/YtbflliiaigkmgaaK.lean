/- The examples that each law asks. -/
import Derived.Test.YtbflliiaigkmgaaO
namespace Go.Proofs.Ytbflliiaigkmgaa
open Go.RowKit

def kA : List UInt8 := [97, 46, 98, 45, 99]
def kB : List UInt8 := [98]
theorem k1 : isName kA = true := by decide +kernel
theorem k2 : isName [97, 98, 99, 100, 101, 102, 103, 104, 105, 106, 107, 108, 109] = false := by decide +kernel
theorem k3 : isName kB = true := by decide +kernel
theorem k4 : rightB (pad kA) = true := by decide +kernel
theorem k5 : front (pad kA) = kA := by decide +kernel
theorem k6 : lessL (pad kA) (pad kB) = true := by decide +kernel

theorem parseA (w : World) : Calls Try.prog 9 #[.string ⟨#[97, 46, 98, 45, 99]⟩] w fun e w' => e = .returned (.tuple #[.agg (bC (pad kA)), .int .i64 0]) ∧ Below w.heap.size w w' := by
  have := parse_any ⟨#[97, 46, 98, 45, 99]⟩ w (by decide)
  rw [parseN, parseE, show (⟨#[97, 46, 98, 45, 99]⟩ : ByteArray).data.toList = kA from rfl, k1] at this
  exact this
theorem parseC (w : World) : Calls Try.prog 9 #[.string ⟨#[97, 98, 99, 100, 101, 102, 103, 104, 105, 106, 107, 108, 109]⟩] w fun e w' => e = .returned (.tuple #[.agg (bC z12), .int .i64 15]) ∧ Below w.heap.size w w' := by
  have := parse_any ⟨#[97, 98, 99, 100, 101, 102, 103, 104, 105, 106, 107, 108, 109]⟩ w (by decide)
  rw [parseN, parseE, show (⟨#[97, 98, 99, 100, 101, 102, 103, 104, 105, 106, 107, 108, 109]⟩ : ByteArray).data.toList = [97, 98, 99, 100, 101, 102, 103, 104, 105, 106, 107, 108, 109] from rfl, k2] at this
  exact this
theorem parseB (w : World) : Calls Try.prog 9 #[.string ⟨#[98]⟩] w fun e w' => e = .returned (.tuple #[.agg (bC (pad kB)), .int .i64 0]) ∧ Below w.heap.size w w' := by
  have := parse_any ⟨#[98]⟩ w (by decide)
  rw [parseN, parseE, show (⟨#[98]⟩ : ByteArray).data.toList = kB from rfl, k3] at this
  exact this
theorem textA (w : World) : Calls Try.prog 12 #[.agg (bC (pad kA))] w fun e w' => e = .returned (.string ⟨#[97, 46, 98, 45, 99]⟩) ∧ Below w.heap.size w w' := by
  have := text_any (pad kA) w (pad_length _)
  rw [textL, k4, if_pos rfl, k5] at this
  exact this
theorem rightA (w : World) : Calls Try.prog 13 #[.agg (bC (pad kA))] w fun e w' => e = .returned (.bool true) ∧ Below w.heap.size w w' := by
  have := right_any (pad kA) w (pad_length _)
  rw [k4] at this
  exact this
theorem lessA (w : World) : Calls Try.prog 16 #[.agg (bC (pad kA)), .agg (bC (pad kB))] w fun e w' => e = .returned (.bool true) ∧ Below w.heap.size w w' := by
  have := less_any (pad kA) (pad kB) w (pad_length _) (pad_length _)
  rw [k6] at this
  exact this

set_option maxRecDepth 100000 in
set_option maxHeartbeats 400000 in
theorem known_any (w : World) : Calls Try.prog 15 #[] w fun e w' => e = .returned (.bool true) ∧ Below w.heap.size w w' := by
  go_enter Try.func15, Try.ntmps15
  go_upto_region 4 with (first
    | (go_at_call 9; (with_reducible refine (parseA _).mono ?_); rintro e w1 ⟨rfl, hb1⟩; have s1 := hb1.size)
    | (go_at_call 9; (with_reducible refine (parseC _).mono ?_); rintro e w2 ⟨rfl, hb2⟩; have s2 := hb2.size)
    | (go_at_call 9; (with_reducible refine (parseB _).mono ?_); rintro e w3 ⟨rfl, hb3⟩; have s3 := hb3.size)
    | (rw [← bC_z12]; with_reducible refine st23n rfl _ _ rfl _ rfl rfl (pad_length _) ?_)
    | (rw [← bC_z12]; with_reducible refine st23n rfl _ _ rfl z12 rfl rfl rfl ?_))
  simp only [World.size_alloc] at s2 s3
  have hA : (w3.alloc (.cells (bC (pad kB)) 23)).heap[w1.heap.size]? = some (.cells (bC (pad kA)) 23) := by
    rw [heap_alloc_old _ _ (by omega), hb3.block _ (by simp; omega), heap_alloc_old _ _ (by omega), hb2.block _ (by simp)]
    exact heap_alloc_new _ _
  have hB : (w3.alloc (.cells (bC (pad kB)) 23)).heap[w3.heap.size]? = some (.cells (bC (pad kB)) 23) := heap_alloc_new _ _
  have HA := Lib.hid hA
  have HB := Lib.hid hB
  have hbel : Below w.heap.size w (w3.alloc (.cells (bC (pad kB)) 23)) :=
    (((hb1.alloc s1 _).trans (hb2.mono (by simp; omega))).alloc (by omega) _ |>.trans (hb3.mono (by simp; omega))).alloc (by omega) _
  have HW := Lib.hid hbel
  clear hA hB hbel hb1 hb2 hb3
  refine wp_region_lex_below ?_
  repeat (first
    | (with_reducible refine wq_load23 _ w1.heap.size (pad kA) (0, 0) rfl rfl rfl HA.out (pad_length _) ?_; simp only [Act.put, List.setIfInBounds_toArray, List.set_cons_zero, List.set_cons_succ])
    | (with_reducible refine wq_load23 _ w3.heap.size (pad kB) (0, 0) rfl rfl rfl HB.out (pad_length _) ?_; simp only [Act.put, List.setIfInBounds_toArray, List.set_cons_zero, List.set_cons_succ])
    | go_big_quiet_step (first | (with_reducible exact rg_call textA _ _) | (with_reducible exact rg_call rightA _ _) | (with_reducible exact rg_call lessA _ _)))
  refine wpQuiet_nil ?_
  rintro _ ⟨⟨dq, osq⟩, rfl⟩
  go_wp2_with fail
  go_ret
  exact ⟨rfl, HW.out.trans ((below_regrown _ dq osq).mono HW.out.size)⟩

end Go.Proofs.Ytbflliiaigkmgaa
