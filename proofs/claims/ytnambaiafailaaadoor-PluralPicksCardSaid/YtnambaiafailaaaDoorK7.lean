/- plural.In. -/
import Derived.Test.YtnambaiafailaaaDoorE7
namespace Go.Proofs.YtnambaiafailaaaDoor
open Go.RowKit

def inB (g : Nat) (c : Int) : Bool := decide (0 ≤ c) && decide (c ≤ 5) && (setI g).toNat.testBit c.toNat
theorem fieldS (f : Value) (k : Int) (W : World) (hf : ∃ F a c, f = .func F a c) : (Instr.field 98 (.agg #[f, .int .u8 k]) 1).run Tryd.prog W = .ok (.int .u8 k) W := by
  obtain ⟨F, a, c, rfl⟩ := hf
  kernel_rfl
theorem tells_func {g : Nat} {W : World} {v : Value} (h : Tells g W v) : ∃ F a c, v = .func F a c := by
  unfold Tells at h
  split at h
  case h_1 => exact ⟨_, _, _, h⟩
  case h_2 => exact ⟨_, _, _, h⟩
  case h_3 => obtain ⟨p, q, k, rfl, _⟩ := h; exact ⟨_, _, _, rfl⟩
  all_goals
    obtain ⟨p, q, rfl, _⟩ := h
    exact ⟨_, _, _, rfl⟩
set_option maxRecDepth 100000 in
set_option maxHeartbeats 4000000 in
theorem in_any (b : List UInt8) (c : Int) (w : World) (hb : b.length = 10) (hmx : MX w) :
    Calls Tryd.prog 35 #[.agg (bC b), .int .i64 c] w fun e w' => e = .returned (.bool (inB (grpL (langB b)) c)) ∧ Below w.heap.size w w' := by
  have HG0 : Hid ((w.alloc (.cells (bC b) 29)).heap[w.heap.size]? = some (.cells (bC b) 29 (0, 0))) := heap_alloc_new _ _
  have HB0 : Hid (Below w.heap.size w (w.alloc (.cells (bC b) 29))) := below_alloc1 _ _
  have HR : Hid (∀ W, Below w.heap.size w W → Calls Tryd.prog 56 #[.agg (bC b)] W fun e w' => RulePost (grpL (langB b)) W e w') := fun W hW => rule_any b W hb (hmx.below hW)
  have H10 := Lib.hid hb
  have hg := grpL_cases (langB b)
  clear hb hmx
  generalize grpL (langB b) = g at *
  by_cases h0 : 0 ≤ c
  · by_cases h5 : c ≤ 5
    · rcases (show c = 0 ∨ c = 1 ∨ c = 2 ∨ c = 3 ∨ c = 4 ∨ c = 5 by omega) with rfl | rfl | rfl | rfl | rfl | rfl <;> rcases hg with rfl | rfl | rfl | rfl | rfl | rfl | rfl | rfl
      all_goals
        clear h0 h5
        go_enter Tryd.func35, Tryd.ntmps35
        go_wp2_with (first
          | (with_reducible refine ld_T rfl _ rfl w.heap.size b H10.out rfl HG0.out ?_)
          | (go_at_call 56; (refine (HR.out _ HB0.out).mono ?_); rintro e w1 ⟨hb1, v, rfl, ht⟩; have HB1 := Lib.hid (HB0.out.trans (hb1.mono HB0.out.size)); clear hb1; have hfs := (fun k W => fieldS v k W (tells_func ht)); simp only [setI]; clear ht))
        go_ret
        exact ⟨by first | rfl | decide, HB1.out⟩
    · have HI : Hid (inB g c = false) := by show inB g c = false; unfold inB; rw [decide_eq_false h5]; simp
      clear HR hg
      go_enter Tryd.func35, Tryd.ntmps35
      go_wp2_with fail
      go_ret
      exact ⟨by rw [HI.out]; rfl, HB0.out⟩
  · have HI : Hid (inB g c = false) := by show inB g c = false; unfold inB; rw [decide_eq_false h0]; simp
    clear HR hg
    go_enter Tryd.func35, Tryd.ntmps35
    go_wp2_with fail
    go_ret
    exact ⟨by rw [HI.out]; rfl, HB0.out⟩
end Go.Proofs.YtnambaiafailaaaDoor
