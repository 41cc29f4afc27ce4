/- TagChains: the walk. -/
import Derived.Test.YtnambaiafailaaaDoorTCh5
namespace Go.Proofs.YtnambaiafailaaaDoor
open Go.RowKit

set_option maxRecDepth 100000 in
set_option maxHeartbeats 16000000 in
theorem TagChains_nowrong (t x1 : List UInt8) (x : B10) (s : ByteArray) (mm : Nat) (xs : List B10) (m : Nat) (w : World) (hlx : xs.length = m) (hm4 : m ≤ 4) (hs : s.size ≤ 9223372036854775807) (hmin : min (s.size : Int) 30 = (mm : Int)) (hl : t = x.1)
    (HKn : Hid (∀ W, Below w.heap.size w W → Calls Tryd.prog 13 #[] W fun e w' => e = .returned (.bool true) ∧ Below W.heap.size W w'))
    (HTP : Hid (∀ W, Below w.heap.size w W → Calls Tryd.prog 12 #[.string (s.extract 0 mm)] W fun e w' => e = .returned (.tuple #[.agg (bC x1), .int .i64 14]) ∧ Below W.heap.size W w'))
    (HCh : Hid (∀ W, Below w.heap.size w W → Calls Tryd.prog 23 #[.agg (bC x.1)] W fun e w' => ∃ q cap, e = .returned (.slice q m cap) ∧ SlAt encB 10 w' q xs ∧ m ≤ cap ∧ Below W.heap.size W w'))
    (HRi : Hid (∀ W, Below w.heap.size w W → Calls Tryd.prog 17 #[.agg (bC x.1)] W fun e w' => e = .returned (.bool false) ∧ Below W.heap.size W w'))
    (hm0 : m = 0)
    (HLt : Hid (t.length = 10)) (HLx : Hid (x1.length = 10)) :
    Calls Tryd.prog 5 #[.agg (bC t), .string s] w fun e w' => e = .returned (.bool true) ∧ Below w.heap.size w w' := by
  have hms : (mm : Int) ≤ s.size := by omega
  have hmm0 : (0 : Int) ≤ mm := by omega
  have hm30 : (mm : Int) ≤ 30 := by omega
  have FL : Hid ((w.alloc (.cells (bC t) 29)).heap[w.heap.size]? = some (Obj.cells (bC t) 29 (0, 0))) := heap_alloc_new _ _
  have HB : Hid (Below w.heap.size w (w.alloc (.cells (bC t) 29))) := below_alloc1 _ _
  have HL2 : Hid (x.1.length = 10) := x.2
  subst hm0
  have HL0 := Lib.hid hl
  clear hl
  go_enter Tryd.func5, Tryd.ntmps5
  go_upto_region 1 with fail
  generalize (w.alloc (.cells (bC t) 29)) = W0 at *
  go_upto_region 2 with (first
    | (go_at_call 12; (refine (HTP.out _ HB.out).mono ?_); rintro e w1 ⟨rfl, hb1⟩; have FL := kp FL hb1; have HB := bt HB hb1; clear hb1)
    | ((with_reducible refine gate_st 29 _ _ rfl ?_); refine st_T rfl _ _ rfl w1.heap.size x1 tag0 HLx.out rfl _ rfl rfl (heap_alloc_new _ _) ?_))
  rw [show (Obj.cells #[Value.int IntKind.u8 0, Value.int IntKind.u8 0, Value.int IntKind.u8 0, Value.int IntKind.u8 0, Value.int IntKind.u8 0, Value.int IntKind.u8 0, Value.int IntKind.u8 0, Value.int IntKind.u8 0, Value.int IntKind.u8 0, Value.int IntKind.u8 0] 29) = Obj.cells (bC tag0) 29 from rfl]
  have hbx := bel_st w1 (.cells (bC tag0) 29) (bC x1)
  have FX : Hid (((w1.alloc (.cells (bC tag0) 29)).setRow w1.heap.size (bC x1)).heap[w1.heap.size]? = some (Obj.cells (bC x1) 29 (0, 0))) := setRow_at (heap_alloc_new _ _)
  have FL := kp FL hbx
  have HB := bt HB hbx
  clear hbx
  generalize ((w1.alloc (.cells (bC tag0) 29)).setRow w1.heap.size (bC x1)) = V1 at *
  generalize w1.heap.size = bx at *
  go_upto_region 4 with fail
  clear FX
  rw [HL0.out] at FL
  go_upto_region 5 with (first
    | (with_reducible refine ld_T rfl _ rfl w.heap.size x.1 HL2.out rfl FL.out ?_)
    | (go_at_call 23; (refine (HCh.out _ HB.out).mono ?_); rintro e w6 ⟨qc, cc, rfl, hsl, hcc, hb6⟩; have FL := kp FL hb6; have HB := bt HB hb6; have HSl := Lib.hid hsl; clear hb6 hsl))
  go_wp2_with (first
    | (with_reducible refine ld_T rfl _ rfl w.heap.size x.1 HL2.out rfl FL.out ?_)
    | (go_at_call 17; (refine (HRi.out _ HB.out).mono ?_); rintro e w7 ⟨rfl, hb7⟩; have FL := kp FL hb7; have HSl := ks HSl hb7; have HB := bt HB hb7; clear hb7)
    | (go_at_call 13; (refine (HKn.out _ HB.out).mono ?_); rintro e w8 ⟨rfl, hb8⟩; have FL := kp FL hb8; have HSl := ks HSl hb8; have HB := bt HB hb8; clear hb8))
  go_ret
  exact ⟨rfl, HB.out⟩
end Go.Proofs.YtnambaiafailaaaDoor
