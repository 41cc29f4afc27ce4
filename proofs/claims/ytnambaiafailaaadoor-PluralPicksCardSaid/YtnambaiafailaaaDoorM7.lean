/- The law's known of chapter 07. -/
import Derived.Test.YtnambaiafailaaaDoorE7
import Derived.Test.YtnambaiafailaaaDoorAA5
namespace Go.Proofs.YtnambaiafailaaaDoor
open Go.RowKit

def ruT : T3 := ⟨[114, 117], [], []⟩
def arT : T3 := ⟨[97, 114], [], []⟩
def ruB : List UInt8 := [114, 117, 0, 0, 0, 0, 0, 0, 0, 0]
def arB : List UInt8 := [97, 114, 0, 0, 0, 0, 0, 0, 0, 0]
theorem ruB_eq : bytT ruT = ruB := by decide +kernel
theorem arB_eq : bytT arT = arB := by decide +kernel
theorem cat_ru1 : catI (grpL (langB ruB)) 21 = 1 := by decide +kernel
theorem cat_ru2 : catI (grpL (langB ruB)) 112 = 4 := by decide +kernel
theorem cat_ar : catI (grpL (langB arB)) 103 = 3 := by decide +kernel
theorem cat_rt : catI (grpL (langB tag0)) 0 = 5 := by decide +kernel
set_option maxRecDepth 100000 in
set_option maxHeartbeats 4000000 in
theorem known7_any (w : World) (hmx : MX w) :
    Calls Tryd.prog 28 #[] w fun e w' => e = .returned (.bool true) ∧ Below w.heap.size w w' := by
  have HTo1 : Hid (∀ W : World, Calls Tryd.prog 14 #[.agg #[.string ⟨#[114, 117]⟩, .string ⟨#[]⟩, .string ⟨#[]⟩]] W fun e w' => e = .returned (.agg (bC ruB)) ∧ Below W.heap.size W w') := fun W => by rw [← ruB_eq]; exact to_any ruT W (by decide) (by decide) (by decide)
  have HTo2 : Hid (∀ W : World, Calls Tryd.prog 14 #[.agg #[.string ⟨#[97, 114]⟩, .string ⟨#[]⟩, .string ⟨#[]⟩]] W fun e w' => e = .returned (.agg (bC arB)) ∧ Below W.heap.size W w') := fun W => by rw [← arB_eq]; exact to_any arT W (by decide) (by decide) (by decide)
  have HO1 : Hid (∀ W, Below w.heap.size w W → Calls Tryd.prog 29 #[.agg (bC ruB), .int .u64 21] W fun e w' => e = .returned (.int .i64 1) ∧ Below W.heap.size W w') := fun W hW => by rw [← cat_ru1]; exact pluralOf_any ruB 21 W rfl (hmx.below hW) (by omega)
  have HO2 : Hid (∀ W, Below w.heap.size w W → Calls Tryd.prog 29 #[.agg (bC ruB), .int .u64 112] W fun e w' => e = .returned (.int .i64 4) ∧ Below W.heap.size W w') := fun W hW => by rw [← cat_ru2]; exact pluralOf_any ruB 112 W rfl (hmx.below hW) (by omega)
  have HO3 : Hid (∀ W, Below w.heap.size w W → Calls Tryd.prog 29 #[.agg (bC arB), .int .u64 103] W fun e w' => e = .returned (.int .i64 3) ∧ Below W.heap.size W w') := fun W hW => by rw [← cat_ar]; exact pluralOf_any arB 103 W rfl (hmx.below hW) (by omega)
  have HO4 : Hid (∀ W, Below w.heap.size w W → Calls Tryd.prog 29 #[.agg #[.int .u8 0, .int .u8 0, .int .u8 0, .int .u8 0, .int .u8 0, .int .u8 0, .int .u8 0, .int .u8 0, .int .u8 0, .int .u8 0], .int .u64 0] W fun e w' => e = .returned (.int .i64 5) ∧ Below W.heap.size W w') := fun W hW => by rw [← cat_rt]; exact pluralOf_any tag0 0 W rfl (hmx.below hW) (by omega)
  have HR10 : Hid (ruB.length = 10) := rfl
  have HA10 : Hid (arB.length = 10) := rfl
  have HT10 : Hid (tag0.length = 10) := rfl
  clear hmx
  generalize ruB = ru at *
  generalize arB = ar at *
  have HB0 : Hid (Below w.heap.size w w) := Below.refl _ _
  go_enter Tryd.func28, Tryd.ntmps28
  go_upto_region 2 with (first
    | (go_at_call 14; first
        | ((with_reducible refine (HTo1.out _).mono ?_); rintro e w1 ⟨rfl, hb1⟩; have HB1 := Lib.hid hb1; clear hb1)
        | ((with_reducible refine (HTo2.out _).mono ?_); rintro e w2 ⟨rfl, hb2⟩; have HB2 := Lib.hid (HB1.out.trans (hb2.mono HB1.out.size)); clear hb2))
    | ((with_reducible refine gate_st 29 _ _ rfl ?_); first
        | (refine st_T rfl _ _ rfl w2.heap.size ru tag0 HR10.out rfl _ rfl rfl (heap_alloc2_old _ _ _) ?_)
        | (refine st_T rfl _ _ rfl (w2.heap.size + 1) ar tag0 HA10.out rfl _ rfl rfl ((setRow_other _ _ _ _ (by omega)).trans (heap_alloc2_new _ _ _)) ?_)))
  rw [show (Obj.cells #[Value.int IntKind.u8 0, Value.int IntKind.u8 0, Value.int IntKind.u8 0, Value.int IntKind.u8 0, Value.int IntKind.u8 0, Value.int IntKind.u8 0, Value.int IntKind.u8 0, Value.int IntKind.u8 0, Value.int IntKind.u8 0, Value.int IntKind.u8 0] 29) = Obj.cells (bC tag0) 29 from rfl]
  have HG1 : Hid (((((w2.alloc (.cells (bC tag0) 29)).alloc (.cells (bC tag0) 29)).setRow w2.heap.size (bC ru)).setRow (w2.heap.size + 1) (bC ar)).heap[w2.heap.size]? = some (.cells (bC ru) 29 (0, 0))) := (setRow_other _ _ _ _ (by omega)).trans (setRow_at (heap_alloc2_old _ _ _))
  have HG2 : Hid (((((w2.alloc (.cells (bC tag0) 29)).alloc (.cells (bC tag0) 29)).setRow w2.heap.size (bC ru)).setRow (w2.heap.size + 1) (bC ar)).heap[w2.heap.size + 1]? = some (.cells (bC ar) 29 (0, 0))) := setRow_at ((setRow_other _ _ _ _ (by omega)).trans (heap_alloc2_new _ _ _))
  have HB3 : Hid (Below w.heap.size w ((((w2.alloc (.cells (bC tag0) 29)).alloc (.cells (bC tag0) 29)).setRow w2.heap.size (bC ru)).setRow (w2.heap.size + 1) (bC ar))) := setRow_below (setRow_below ((HB2.out.alloc HB2.out.size _).alloc (by have := HB2.out.size; simp; omega) _) HB2.out.size _) (by have := HB2.out.size; omega) _
  generalize ((((w2.alloc (.cells (bC tag0) 29)).alloc (.cells (bC tag0) 29)).setRow w2.heap.size (bC ru)).setRow (w2.heap.size + 1) (bC ar)) = W5 at *
  clear HB1 HB2 HTo1 HTo2
  go_wp2_with (first
    | (with_reducible refine ld_T rfl _ rfl w2.heap.size ru HR10.out rfl HG1.out ?_)
    | (go_at_call 29; (with_reducible refine (HO1.out _ HB3.out).mono ?_); rintro e w6 ⟨rfl, hb6⟩; have HB6 := Lib.hid (HB3.out.trans (hb6.mono HB3.out.size)); have HG6 : Hid (w6.heap[w2.heap.size]? = some (.cells (bC ru) 29 (0, 0))) := (by (show _ = _; rw [hb6.block _ (lt_heap HG1.out)]; exact HG1.out)); have HA6 : Hid (w6.heap[w2.heap.size + 1]? = some (.cells (bC ar) 29 (0, 0))) := (by (show _ = _; rw [hb6.block _ (lt_heap HG2.out)]; exact HG2.out)); clear hb6)
    | (with_reducible refine ld_T rfl _ rfl w2.heap.size ru HR10.out rfl HG6.out ?_)
    | (go_at_call 29; (with_reducible refine (HO2.out _ HB6.out).mono ?_); rintro e w7 ⟨rfl, hb7⟩; have HB7 := Lib.hid (HB6.out.trans (hb7.mono HB6.out.size)); have HA7 : Hid (w7.heap[w2.heap.size + 1]? = some (.cells (bC ar) 29 (0, 0))) := (by (show _ = _; rw [hb7.block _ (lt_heap HA6.out)]; exact HA6.out)); clear hb7)
    | (with_reducible refine ld_T rfl _ rfl (w2.heap.size + 1) ar HA10.out rfl HA7.out ?_)
    | (go_at_call 29; (with_reducible refine (HO3.out _ HB7.out).mono ?_); rintro e w8 ⟨rfl, hb8⟩; have HB8 := Lib.hid (HB7.out.trans (hb8.mono HB7.out.size)); clear hb8)
    | (go_at_call 29; (with_reducible refine (HO4.out _ HB8.out).mono ?_); rintro e w9 ⟨rfl, hb9⟩; have HB9 := Lib.hid (HB8.out.trans (hb9.mono HB8.out.size)); clear hb9))
  go_ret
  exact ⟨rfl, HB9.out⟩
end Go.Proofs.YtnambaiafailaaaDoor
