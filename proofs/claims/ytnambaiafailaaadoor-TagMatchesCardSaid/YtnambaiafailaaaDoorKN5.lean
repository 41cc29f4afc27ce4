/- The law's known of chapter 05. -/
import Derived.Test.YtnambaiafailaaaDoorJ5
namespace Go.Proofs.YtnambaiafailaaaDoor
open Go.RowKit

def zhB : List UInt8 := [122, 104, 0, 72, 97, 110, 116, 84, 87, 0]
theorem zh_tag : tagR [90, 72, 45, 104, 97, 110, 116, 45, 116, 119] = zhB ∧ tagE [90, 72, 45, 104, 97, 110, 116, 45, 116, 119] = 0 := by decide +kernel
theorem de_tag : tagR [100, 101, 45, 49, 57, 57, 54] = tag0 ∧ tagE [100, 101, 45, 49, 57, 57, 54] = 14 := by decide +kernel
theorem zh_text : textB zhB = [122, 104, 45, 72, 97, 110, 116, 45, 84, 87] := by decide +kernel
theorem zh_four : (upX ⟨zhB, rfl⟩).length = 4 := by decide +kernel
/-- A chain's length. -/
theorem chain_len (x0 : B10) (w : World) (hmx : MX w) : Calls Tryd.prog 23 #[.agg (bC x0.1)] w fun e W' => ∃ q cap, e = .returned (.slice q (upX x0).length cap) ∧ Below w.heap.size w W' := by
  refine (chain_any x0 w hmx).mono ?_
  rintro e W' ⟨v, rfl, ho, hb⟩
  obtain ⟨q, cap, rfl, _⟩ := ho.at encB_len
  exact ⟨q, cap, rfl, hb⟩
set_option maxRecDepth 100000 in
set_option maxHeartbeats 4000000 in
theorem known5_any (w : World) (hmx : MX w) :
    Calls Tryd.prog 13 #[] w fun e w' => e = .returned (.bool true) ∧ Below w.heap.size w w' := by
  have HP1 : Hid (∀ W, Below w.heap.size w W → Calls Tryd.prog 12 #[.string ⟨#[90, 72, 45, 104, 97, 110, 116, 45, 116, 119]⟩] W fun e w' => e = .returned (.tuple #[.agg (bC zhB), .int .i64 0]) ∧ Below W.heap.size W w') := fun W hW => by
    have := tagParse_any ⟨#[90, 72, 45, 104, 97, 110, 116, 45, 116, 119]⟩ W (by decide) (hmx.below hW)
    rwa [zh_tag.1, zh_tag.2] at this
  have HP2 : Hid (∀ W, Below w.heap.size w W → Calls Tryd.prog 12 #[.string ⟨#[100, 101, 45, 49, 57, 57, 54]⟩] W fun e w' => e = .returned (.tuple #[.agg (bC tag0), .int .i64 14]) ∧ Below W.heap.size W w') := fun W hW => by
    have := tagParse_any ⟨#[100, 101, 45, 49, 57, 57, 54]⟩ W (by decide) (hmx.below hW)
    rwa [de_tag.1, de_tag.2] at this
  have HTx : Hid (∀ W, Below w.heap.size w W → Calls Tryd.prog 15 #[.agg (bC zhB)] W fun e w' => e = .returned (.string ⟨#[122, 104, 45, 72, 97, 110, 116, 45, 84, 87]⟩) ∧ Below W.heap.size W w') := fun W hW => by
    have := tagText_any zhB W rfl (hmx.below hW)
    rwa [zh_text] at this
  have HCh : Hid (∀ W, Below w.heap.size w W → Calls Tryd.prog 23 #[.agg (bC zhB)] W fun e w' => ∃ q cap, e = .returned (.slice q 4 cap) ∧ Below W.heap.size W w') := fun W hW => by
    have := chain_len ⟨zhB, rfl⟩ W (hmx.below hW)
    rwa [zh_four] at this
  have HL : Hid (zhB.length = 10) := rfl
  have HZ : Hid (tag0.length = 10) := rfl
  have HB0 : Hid (Below w.heap.size w w) := Below.refl _ _
  clear hmx
  generalize zhB = zh at *
  go_enter Tryd.func13, Tryd.ntmps13
  go_upto_region 2 with (first
    | (go_at_call 12; (refine (HP1.out _ HB0.out).mono ?_); rintro e w1 ⟨rfl, hb1⟩; have HB1 := Lib.hid hb1; clear hb1)
    | ((with_reducible refine gate_st 29 _ _ rfl ?_); refine st_T rfl _ _ rfl w1.heap.size zh tag0 HL.out rfl _ rfl rfl (heap_alloc_new _ _) ?_))
  rw [show (Obj.cells #[Value.int IntKind.u8 0, Value.int IntKind.u8 0, Value.int IntKind.u8 0, Value.int IntKind.u8 0, Value.int IntKind.u8 0, Value.int IntKind.u8 0, Value.int IntKind.u8 0, Value.int IntKind.u8 0, Value.int IntKind.u8 0, Value.int IntKind.u8 0] 29) = Obj.cells (bC tag0) 29 from rfl]
  have HG2 : Hid (((w1.alloc (.cells (bC tag0) 29)).setRow w1.heap.size (bC zh)).heap[w1.heap.size]? = some (.cells (bC zh) 29 (0, 0))) := setRow_at (heap_alloc_new _ _)
  have HB2 : Hid (Below w.heap.size w ((w1.alloc (.cells (bC tag0) 29)).setRow w1.heap.size (bC zh))) := setRow_below (HB1.out.alloc HB1.out.size _) HB1.out.size _
  generalize ((w1.alloc (.cells (bC tag0) 29)).setRow w1.heap.size (bC zh)) = W2 at *
  generalize w1.heap.size = g at *
  clear HB1
  go_upto_region 3 with (first
    | (go_at_call 12; (refine (HP2.out _ HB2.out).mono ?_); rintro e w3 ⟨rfl, hb3⟩; have HB3 := Lib.hid (HB2.out.trans (hb3.mono HB2.out.size)); have HG3 : Hid (w3.heap[g]? = some (.cells (bC zh) 29 (0, 0))) := (by (show _ = _; rw [hb3.block _ (lt_heap HG2.out)]; exact HG2.out)); clear hb3)
    | ((with_reducible refine gate_st 29 _ _ rfl ?_); refine st_T rfl _ _ rfl w3.heap.size tag0 tag0 HZ.out rfl _ rfl rfl (heap_alloc_new _ _) ?_))
  rw [show (Obj.cells #[Value.int IntKind.u8 0, Value.int IntKind.u8 0, Value.int IntKind.u8 0, Value.int IntKind.u8 0, Value.int IntKind.u8 0, Value.int IntKind.u8 0, Value.int IntKind.u8 0, Value.int IntKind.u8 0, Value.int IntKind.u8 0, Value.int IntKind.u8 0] 29) = Obj.cells (bC tag0) 29 from rfl]
  have hlt3 := lt_heap HG3.out
  have HG4 : Hid (((w3.alloc (.cells (bC tag0) 29)).setRow w3.heap.size (bC tag0)).heap[g]? = some (.cells (bC zh) 29 (0, 0))) := (setRow_other _ _ _ _ (by omega)).trans ((heap_alloc_old _ _ hlt3).trans HG3.out)
  have HB4 : Hid (Below w.heap.size w ((w3.alloc (.cells (bC tag0) 29)).setRow w3.heap.size (bC tag0))) := setRow_below (HB3.out.alloc HB3.out.size _) HB3.out.size _
  generalize ((w3.alloc (.cells (bC tag0) 29)).setRow w3.heap.size (bC tag0)) = W4 at *
  clear HB3 HG2 HG3 HB2 hlt3
  go_wp2_with (first
    | (with_reducible refine ld_T rfl _ rfl g zh HL.out rfl HG4.out ?_)
    | (go_at_call 15; (refine (HTx.out _ HB4.out).mono ?_); rintro e w5 ⟨rfl, hb5⟩; have HB5 := Lib.hid (HB4.out.trans (hb5.mono HB4.out.size)); have HG5 : Hid (w5.heap[g]? = some (.cells (bC zh) 29 (0, 0))) := (by (show _ = _; rw [hb5.block _ (lt_heap HG4.out)]; exact HG4.out)); clear hb5)
    | (with_reducible refine ld_T rfl _ rfl g zh HL.out rfl HG5.out ?_)
    | (go_at_call 23; (refine (HCh.out _ HB5.out).mono ?_); rintro e w6 ⟨q, cap, rfl, hb6⟩; have HB6 := Lib.hid (HB5.out.trans (hb6.mono HB5.out.size)); clear hb6))
  go_ret
  exact ⟨rfl, HB6.out⟩
end Go.Proofs.YtnambaiafailaaaDoor
