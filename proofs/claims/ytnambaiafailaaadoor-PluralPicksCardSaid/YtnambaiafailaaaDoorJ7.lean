/- The law's group of a tag. -/
import Derived.Test.YtnambaiafailaaaDoorH7
import Derived.Test.YtnambaiafailaaaDoorI7
import Derived.Test.YtnambaiafailaaaDoorO6
import Derived.Test.YtnambaiafailaaaDoorX5
namespace Go.Proofs.YtnambaiafailaaaDoor
open Go.RowKit

def kT (b : List UInt8) : K5 := ⟨0, 0, 0, z12, b⟩
theorem kT_ok {b : List UInt8} (h : b.length = 10) : (kT b).ok := ⟨rfl, h⟩
theorem ten_list {b : List UInt8} (h : b.length = 10) : ∃ c0 c1 c2 c3 c4 c5 c6 c7 c8 c9, b = [c0, c1, c2, c3, c4, c5, c6, c7, c8, c9] := by
  rcases b with _ | ⟨c0, _ | ⟨c1, _ | ⟨c2, _ | ⟨c3, _ | ⟨c4, _ | ⟨c5, _ | ⟨c6, _ | ⟨c7, _ | ⟨c8, _ | ⟨c9, _ | ⟨c10, n⟩⟩⟩⟩⟩⟩⟩⟩⟩⟩⟩ <;> simp at h
  exact ⟨c0, c1, c2, c3, c4, c5, c6, c7, c8, c9, rfl⟩
theorem built_kT {b : List UInt8} (h : b.length = 10) : Tryd.prog.built 95 [(4, .agg (bC b))] = some (kC (kT b)) := by
  obtain ⟨c0, c1, c2, c3, c4, c5, c6, c7, c8, c9, rfl⟩ := ten_list h
  kernel_rfl
theorem field_rT {b : List UInt8} (h : b.length = 10) (W : World) : (Instr.field 91 (.agg (rK (kT b) 10)) 4).run Tryd.prog W = .ok (.agg (bC b)) W := by
  obtain ⟨c0, c1, c2, c3, c4, c5, c6, c7, c8, c9, rfl⟩ := ten_list h
  kernel_rfl
theorem grpL_nil : grpL [] = 0 := by decide
theorem lang_of {b : List UInt8} (h : b.length = 10) : langB b = if oB b then (oR b).lang else [] := by
  have h1 := right_of h
  unfold langB oB oR
  rw [h1]
  cases ho : ofT b with
  | none => rfl
  | some t =>
    have := of_some h ho
    subst this
    rfl
set_option maxRecDepth 100000 in
set_option maxHeartbeats 2000000 in
theorem group_any (b : List UInt8) (w : World) (hb : b.length = 10) :
    Calls Tryd.prog 27 #[.agg (bC b)] w fun e w' => e = .returned (.int .i64 ((grpL (langB b) : Nat) : Int)) ∧ Below w.heap.size w w' := by
  have HG0 : Hid ((w.alloc (.cells (bC b) 29)).heap[w.heap.size]? = some (.cells (bC b) 29 (0, 0))) := heap_alloc_new _ _
  have HB0 : Hid (Below w.heap.size w (w.alloc (.cells (bC b) 29))) := below_alloc1 _ _
  have HL : Hid (langB b = if oB b then (oR b).lang else []) := lang_of hb
  have HO : Hid (∀ W, Calls Tryd.prog 54 #[.agg (kC (kT b))] W fun e w' => e = .returned (.agg (rK (kT b) 10)) ∧ Below W.heap.size W w') := fun W => of06_any (kT b) W (kT_ok hb)
  have HR : Hid (∀ W, Calls Tryd.prog 18 #[.agg (bC b)] W fun e w' => e = .returned (.tuple #[.agg (tC (oR b)), .bool (oB b)]) ∧ Below W.heap.size W w') := fun W => refOf5_any b W hb
  have HBu := Lib.hid (built_kT hb)
  have hf := field_rT hb
  have H10 := Lib.hid hb
  clear hb
  generalize oR b = t at *
  generalize oB b = is at *
  have hc0 : ∀ W : World, (W.alloc (.cells (tC t) 23)).cell? ⟨W.heap.size, 0, none⟩ = some (.string ⟨t.lang.toArray⟩) := fun W => by rw [cell_blk (heap_alloc_new _ _)]; rfl
  generalize kC (kT b) = kc at *
  generalize rK (kT b) 10 = rk at *
  cases is
  all_goals
    go_enter Tryd.func27, Tryd.ntmps27
    go_wp2_with (first
      | (with_reducible refine ld_T rfl _ rfl w.heap.size b H10.out rfl HG0.out ?_)
      | ((with_reducible refine gate_bd 95 _ rfl ?_); refine wl_bd rfl 95 [(4, .tmp 6)] rfl _ rfl kc HBu.out ?_)
      | (go_at_call 54; (refine (HO.out _).mono ?_); rintro e w1 ⟨rfl, hb1⟩; have HB1 := Lib.hid (HB0.out.trans (hb1.mono HB0.out.size)); clear hb1)
      | (go_at_call 18; (refine (HR.out _).mono ?_); rintro e w2 ⟨rfl, hb2⟩; have HB2 := Lib.hid (HB1.out.trans (hb2.mono HB1.out.size)); clear hb2; have hc1 := hc0 w2)
      | ((with_reducible refine gate_st 23 _ _ rfl ?_); refine wl_strn rfl 23 _ _ rfl (tC t) _ _ siz23 rfl (tC_one _) rfl rfl ?_)
      | (go_at_call 55; (refine (refGroup_any t.lang _).mono ?_); rintro e w3 ⟨rfl, rfl⟩))
    go_ret
    exact ⟨by rw [HL.out]; first | rfl | (rw [if_neg (by simp), grpL_nil]; rfl), HB2.out.alloc HB2.out.size _⟩
end Go.Proofs.YtnambaiafailaaaDoor
