/- TagBytes: the walk (a). -/
import Derived.Test.YtnambaiafailaaaDoorTBh5
namespace Go.Proofs.YtnambaiafailaaaDoor
open Go.RowKit

set_option maxRecDepth 100000 in
set_option maxHeartbeats 16000000 in
theorem TagBytes_is_wrong (b l x1 p2 : List UInt8) (y1 y2 : T3) (xs : List B10) (cs : List T3) (tx : Array UInt8) (w : World) (hlx : xs.length = 0) (hlc : cs.length = 0) 
    (HKn : Hid (∀ W, Below w.heap.size w W → Calls Tryd.prog 13 #[] W fun e w' => e = .returned (.bool true) ∧ Below W.heap.size W w'))
    (HRO : Hid (∀ W, Below w.heap.size w W → Calls Tryd.prog 18 #[.agg (bC b)] W fun e w' => e = .returned (.tuple #[.agg (tC y1), .bool true]) ∧ Below W.heap.size W w'))
    (HTO : Hid (∀ W, Below w.heap.size w W → Calls Tryd.prog 19 #[.agg (bC b)] W fun e w' => e = .returned (.tuple #[.agg (bC x1), .int .i64 0]) ∧ Below W.heap.size W w'))
    (HTo1 : Hid (∀ W, Below w.heap.size w W → Calls Tryd.prog 14 #[.agg (tC y1)] W fun e w' => e = .returned (.agg (bC x1)) ∧ Below W.heap.size W w'))
    (HBy1 : Hid (∀ W, Below w.heap.size w W → Calls Tryd.prog 20 #[.agg (bC x1)] W fun e w' => e = .returned (.agg (bC b)) ∧ Below W.heap.size W w'))
    (HRw : Hid (∀ W, Below w.heap.size w W → Calls Tryd.prog 21 #[.agg (bC l)] W fun e w' => e = .returned (.agg (bC l)) ∧ Below W.heap.size W w'))
    (HRO2 : Hid (∀ W, Below w.heap.size w W → Calls Tryd.prog 18 #[.agg (bC l)] W fun e w' => e = .returned (.tuple #[.agg (tC y2), .bool false]) ∧ Below W.heap.size W w'))
    (HPa : Hid (∀ W, Below w.heap.size w W → Calls Tryd.prog 22 #[.agg (bC l)] W fun e w' => e = .returned (.tuple #[.agg (bC p2), .bool false]) ∧ Below W.heap.size W w'))
    (HBy2 : Hid (∀ W, Below w.heap.size w W → Calls Tryd.prog 20 #[.agg (bC l)] W fun e w' => e = .returned (.agg (bC l)) ∧ Below W.heap.size W w'))
    (HRi : Hid (∀ W, Below w.heap.size w W → Calls Tryd.prog 17 #[.agg (bC l)] W fun e w' => e = .returned (.bool false) ∧ Below W.heap.size W w'))
    (HCh : Hid (∀ W, Below w.heap.size w W → Calls Tryd.prog 23 #[.agg (bC l)] W fun e w' => ∃ q cap, e = .returned (.slice q 0 cap) ∧ SlAt encB 10 w' q xs ∧ 0 ≤ cap ∧ Below W.heap.size W w'))
    (HTx : Hid (∀ W, Below w.heap.size w W → Calls Tryd.prog 15 #[.agg (bC l)] W fun e w' => e = .returned (.string ⟨#[]⟩) ∧ Below W.heap.size W w'))
    (HL1 : Hid (b.length = 10)) (HL2 : Hid (l.length = 10)) (HLx : Hid (x1.length = 10)) (HLp : Hid (p2.length = 10)) (hp2 : p2 = tag0) :
    Calls Tryd.prog 4 #[.agg (bC b), .agg (bC l)] w fun e w' => e = .returned (.bool true) ∧ Below w.heap.size w w' := by
  have FB : Hid (((w.alloc (.cells (bC b) 39)).alloc (.cells (bC l) 29)).heap[w.heap.size]? = some (Obj.cells (bC b) 39 (0, 0))) := heap_alloc2_old _ _ _
  have FL : Hid (((w.alloc (.cells (bC b) 39)).alloc (.cells (bC l) 29)).heap[w.heap.size + 1]? = some (Obj.cells (bC l) 29 (0, 0))) := heap_alloc2_new _ _ _
  have HB : Hid (Below w.heap.size w ((w.alloc (.cells (bC b) 39)).alloc (.cells (bC l) 29))) := below_alloc2 _ _ _
  have hn1 : ∀ W, (binOp .neq 29 (.agg (bC x1)) (.agg (bC x1))).run Tryd.prog W = .ok (.bool false) W := fun W => by have := neq10 W x1 x1 HLx.out HLx.out; rwa [show (!(x1 == x1)) = false from by simp] at this
  have hn2 : ∀ W, (binOp .neq 39 (.agg (bC b)) (.agg (bC b))).run Tryd.prog W = .ok (.bool false) W := fun W => by have := neqB W 39 10 Tryd.underlying39 b b HL1.out HL1.out; rwa [show (!(b == b)) = false from by simp] at this
  have hn3 : ∀ W, (binOp .neq 39 (.agg (bC l)) (.agg (bC l))).run Tryd.prog W = .ok (.bool false) W := fun W => by have := neqB W 39 10 Tryd.underlying39 l l HL2.out HL2.out; rwa [show (!(l == l)) = false from by simp] at this
  have hn4 : ∀ W, (binOp .eql 29 (.agg (bC p2)) (.agg #[.int .u8 0, .int .u8 0, .int .u8 0, .int .u8 0, .int .u8 0, .int .u8 0, .int .u8 0, .int .u8 0, .int .u8 0, .int .u8 0])).run Tryd.prog W = .ok (.bool true) W := fun W => by rw [hp2]; exact eql10 W tag0 tag0 rfl rfl
  clear hp2
  go_enter Tryd.func4, Tryd.ntmps4
  go_upto_region 1 with fail
  generalize ((w.alloc (.cells (bC b) 39)).alloc (.cells (bC l) 29)) = W0 at *
  go_upto_region 2 with (first
    | ((with_reducible refine gate_ld 39 _ rfl ?_); refine ld_A rfl _ rfl w.heap.size b HL1.out rfl FB.out ?_)
    | (go_at_call 18; (refine (HRO.out _ HB.out).mono ?_); rintro e w1 ⟨rfl, hb1⟩; have FB := kp FB hb1; have FL := kp FL hb1; have HB := bt HB hb1; clear hb1)
    | ((with_reducible refine gate_st 23 _ _ rfl ?_); refine st_3 rfl _ _ rfl w1.heap.size y1 t30 _ rfl rfl (heap_alloc_new _ _) ?_))
  rw [show (Obj.cells #[Value.string ⟨#[]⟩, Value.string ⟨#[]⟩, Value.string ⟨#[]⟩] 23) = Obj.cells (tC t30) 23 from rfl]
  have hbx := bel_st w1 (.cells (tC t30) 23) (tC y1)
  have FW : Hid (((w1.alloc (.cells (tC t30) 23)).setRow w1.heap.size (tC y1)).heap[w1.heap.size]? = some (Obj.cells (tC y1) 23 (0, 0))) := setRow_at (heap_alloc_new _ _)
  have FB := kp FB hbx
  have FL := kp FL hbx
  have HB := bt HB hbx
  clear hbx
  generalize ((w1.alloc (.cells (tC t30) 23)).setRow w1.heap.size (tC y1)) = V1 at *
  generalize w1.heap.size = bw at *
  go_upto_region 3 with (first
    | ((with_reducible refine gate_ld 39 _ rfl ?_); refine ld_A rfl _ rfl w.heap.size b HL1.out rfl FB.out ?_)
    | (go_at_call 19; (refine (HTO.out _ HB.out).mono ?_); rintro e w2 ⟨rfl, hb2⟩; have FB := kp FB hb2; have FL := kp FL hb2; have FW := kp FW hb2; have HB := bt HB hb2; clear hb2)
    | ((with_reducible refine gate_st 29 _ _ rfl ?_); refine st_T rfl _ _ rfl w2.heap.size x1 tag0 HLx.out rfl _ rfl rfl (heap_alloc_new _ _) ?_))
  rw [show (Obj.cells #[Value.int IntKind.u8 0, Value.int IntKind.u8 0, Value.int IntKind.u8 0, Value.int IntKind.u8 0, Value.int IntKind.u8 0, Value.int IntKind.u8 0, Value.int IntKind.u8 0, Value.int IntKind.u8 0, Value.int IntKind.u8 0, Value.int IntKind.u8 0] 29) = Obj.cells (bC tag0) 29 from rfl]
  have hbx := bel_st w2 (.cells (bC tag0) 29) (bC x1)
  have FX : Hid (((w2.alloc (.cells (bC tag0) 29)).setRow w2.heap.size (bC x1)).heap[w2.heap.size]? = some (Obj.cells (bC x1) 29 (0, 0))) := setRow_at (heap_alloc_new _ _)
  have FB := kp FB hbx
  have FL := kp FL hbx
  have FW := kp FW hbx
  have HB := bt HB hbx
  clear hbx
  generalize ((w2.alloc (.cells (bC tag0) 29)).setRow w2.heap.size (bC x1)) = V2 at *
  generalize w2.heap.size = bx at *
  refine wp_region_quiet_below (by kernel_rfl) (by kernel_rfl) ?_
  repeat (first
    | (with_reducible refine wq_T rfl _ rfl bx x1 HLx.out rfl FX.out ?_; simp only [Act.put, List.setIfInBounds_toArray, List.set_cons_zero, List.set_cons_succ])
    | (with_reducible refine wq_3 rfl _ rfl bw y1 rfl FW.out ?_; simp only [Act.put, List.setIfInBounds_toArray, List.set_cons_zero, List.set_cons_succ])
    | (with_reducible refine wq_A rfl _ rfl w.heap.size b HL1.out rfl FB.out ?_; simp only [Act.put, List.setIfInBounds_toArray, List.set_cons_zero, List.set_cons_succ])
    | go_big_quiet_step (first | (with_reducible exact rg_callB (at2 HTo1 HB) _ _) | (with_reducible exact rg_callB (at2 HBy1 HB) _ _)))
  refine wpQuiet_nil ?_
  rintro _ ⟨⟨dq, osq⟩, rfl⟩
  have hbq := below_regrown V2 dq osq
  have FB := kp FB hbq
  have FL := kp FL hbq
  have FW := kp FW hbq
  have FX := kp FX hbq
  have HB := bt HB hbq
  clear hbq
  generalize Sort.grow (redrawn V2 dq) osq = V3 at *
  go_upto_region 5 with fail
  go_upto_region 6 with (first
    | (with_reducible refine ld_T rfl _ rfl (w.heap.size + 1) l HL2.out rfl FL.out ?_)
    | (go_at_call 21; (refine (HRw.out _ HB.out).mono ?_); rintro e w3 ⟨rfl, hb3⟩; have FL := kp FL hb3; have HB := bt HB hb3; clear hb3)
    | (go_at_call 18; (refine (HRO2.out _ HB.out).mono ?_); rintro e w4 ⟨rfl, hb4⟩; have FL := kp FL hb4; have HB := bt HB hb4; clear hb4)
    | ((with_reducible refine gate_st 23 _ _ rfl ?_); refine st_3 rfl _ _ rfl w4.heap.size y2 t30 _ rfl rfl (heap_alloc_new _ _) ?_))
  rw [show (Obj.cells #[Value.string ⟨#[]⟩, Value.string ⟨#[]⟩, Value.string ⟨#[]⟩] 23) = Obj.cells (tC t30) 23 from rfl]
  have hbx := bel_st w4 (.cells (tC t30) 23) (tC y2)
  have FY : Hid (((w4.alloc (.cells (tC t30) 23)).setRow w4.heap.size (tC y2)).heap[w4.heap.size]? = some (Obj.cells (tC y2) 23 (0, 0))) := setRow_at (heap_alloc_new _ _)
  have FL := kp FL hbx
  have HB := bt HB hbx
  clear hbx
  generalize ((w4.alloc (.cells (tC t30) 23)).setRow w4.heap.size (tC y2)) = V4 at *
  generalize w4.heap.size = bq at *
  go_upto_region 7 with (first
    | (with_reducible refine ld_T rfl _ rfl (w.heap.size + 1) l HL2.out rfl FL.out ?_)
    | (go_at_call 22; (refine (HPa.out _ HB.out).mono ?_); rintro e w5 ⟨rfl, hb5⟩; have FL := kp FL hb5; have FY := kp FY hb5; have HB := bt HB hb5; clear hb5)
    | ((with_reducible refine gate_st 29 _ _ rfl ?_); refine st_T rfl _ _ rfl w5.heap.size p2 tag0 HLp.out rfl _ rfl rfl (heap_alloc_new _ _) ?_))
  rw [show (Obj.cells #[Value.int IntKind.u8 0, Value.int IntKind.u8 0, Value.int IntKind.u8 0, Value.int IntKind.u8 0, Value.int IntKind.u8 0, Value.int IntKind.u8 0, Value.int IntKind.u8 0, Value.int IntKind.u8 0, Value.int IntKind.u8 0, Value.int IntKind.u8 0] 29) = Obj.cells (bC tag0) 29 from rfl]
  have hbx := bel_st w5 (.cells (bC tag0) 29) (bC p2)
  have FP : Hid (((w5.alloc (.cells (bC tag0) 29)).setRow w5.heap.size (bC p2)).heap[w5.heap.size]? = some (Obj.cells (bC p2) 29 (0, 0))) := setRow_at (heap_alloc_new _ _)
  have FL := kp FL hbx
  have FY := kp FY hbx
  have HB := bt HB hbx
  clear hbx
  generalize ((w5.alloc (.cells (bC tag0) 29)).setRow w5.heap.size (bC p2)) = V5 at *
  generalize w5.heap.size = bp at *
  go_upto_region 8 with (first
    | (with_reducible refine ld_T rfl _ rfl (w.heap.size + 1) l HL2.out rfl FL.out ?_)
    | (go_at_call 23; (refine (HCh.out _ HB.out).mono ?_); rintro e w6 ⟨qc, cc, rfl, hsl, hcc, hb6⟩; have FL := kp FL hb6; have FY := kp FY hb6; have FP := kp FP hb6; have HB := bt HB hb6; have HSl := Lib.hid hsl; clear hb6 hsl))
  refine wp_region_quiet_below (by kernel_rfl) (by kernel_rfl) ?_
  repeat (first
    | (with_reducible refine wq_T rfl _ rfl (w.heap.size + 1) l HL2.out rfl FL.out ?_; simp only [Act.put, List.setIfInBounds_toArray, List.set_cons_zero, List.set_cons_succ])
    | go_big_quiet_step (first | (with_reducible exact rg_callB (at2 HBy2 HB) _ _) | (with_reducible exact rg_callB (at2 HRw HB) _ _) | (with_reducible exact rg_callB (at2 HRi HB) _ _)))
  refine wpQuiet_nil ?_
  rintro _ ⟨⟨dq, osq⟩, rfl⟩
  have hbq := below_regrown w6 dq osq
  have FL := kp FL hbq
  have FY := kp FY hbq
  have FP := kp FP hbq
  have HSl := ks HSl hbq
  have HB := bt HB hbq
  clear hbq
  generalize Sort.grow (redrawn w6 dq) osq = V6 at *
  go_wp2_with (first
    | (with_reducible refine ld_T rfl _ rfl (w.heap.size + 1) l HL2.out rfl FL.out ?_)
    | (with_reducible refine ld_T rfl _ rfl bp p2 HLp.out rfl FP.out ?_)
    | (go_at_call 13; (refine (HKn.out _ HB.out).mono ?_); rintro e w7 ⟨rfl, hb7⟩; have FL := kp FL hb7; have FY := kp FY hb7; have FP := kp FP hb7; have HSl := ks HSl hb7; have HB := bt HB hb7; clear hb7)
    | (go_at_call 15; (refine (HTx.out _ HB.out).mono ?_); rintro e w8 ⟨rfl, hb8⟩; have FL := kp FL hb8; have FY := kp FY hb8; have FP := kp FP hb8; have HSl := ks HSl hb8; have HB := bt HB hb8; clear hb8))
  go_ret
  exact ⟨rfl, HB.out⟩
set_option maxRecDepth 100000 in
set_option maxHeartbeats 16000000 in
theorem TagBytes_no_wrong (b l x1 p2 : List UInt8) (y1 y2 : T3) (xs : List B10) (cs : List T3) (tx : Array UInt8) (w : World) (hlx : xs.length = 0) (hlc : cs.length = 0) 
    (HKn : Hid (∀ W, Below w.heap.size w W → Calls Tryd.prog 13 #[] W fun e w' => e = .returned (.bool true) ∧ Below W.heap.size W w'))
    (HRO : Hid (∀ W, Below w.heap.size w W → Calls Tryd.prog 18 #[.agg (bC b)] W fun e w' => e = .returned (.tuple #[.agg (tC y1), .bool false]) ∧ Below W.heap.size W w'))
    (HTO : Hid (∀ W, Below w.heap.size w W → Calls Tryd.prog 19 #[.agg (bC b)] W fun e w' => e = .returned (.tuple #[.agg (bC x1), .int .i64 14]) ∧ Below W.heap.size W w'))
    (HRw : Hid (∀ W, Below w.heap.size w W → Calls Tryd.prog 21 #[.agg (bC l)] W fun e w' => e = .returned (.agg (bC l)) ∧ Below W.heap.size W w'))
    (HRO2 : Hid (∀ W, Below w.heap.size w W → Calls Tryd.prog 18 #[.agg (bC l)] W fun e w' => e = .returned (.tuple #[.agg (tC y2), .bool false]) ∧ Below W.heap.size W w'))
    (HPa : Hid (∀ W, Below w.heap.size w W → Calls Tryd.prog 22 #[.agg (bC l)] W fun e w' => e = .returned (.tuple #[.agg (bC p2), .bool false]) ∧ Below W.heap.size W w'))
    (HBy2 : Hid (∀ W, Below w.heap.size w W → Calls Tryd.prog 20 #[.agg (bC l)] W fun e w' => e = .returned (.agg (bC l)) ∧ Below W.heap.size W w'))
    (HRi : Hid (∀ W, Below w.heap.size w W → Calls Tryd.prog 17 #[.agg (bC l)] W fun e w' => e = .returned (.bool false) ∧ Below W.heap.size W w'))
    (HCh : Hid (∀ W, Below w.heap.size w W → Calls Tryd.prog 23 #[.agg (bC l)] W fun e w' => ∃ q cap, e = .returned (.slice q 0 cap) ∧ SlAt encB 10 w' q xs ∧ 0 ≤ cap ∧ Below W.heap.size W w'))
    (HTx : Hid (∀ W, Below w.heap.size w W → Calls Tryd.prog 15 #[.agg (bC l)] W fun e w' => e = .returned (.string ⟨#[]⟩) ∧ Below W.heap.size W w'))
    (HL1 : Hid (b.length = 10)) (HL2 : Hid (l.length = 10)) (HLx : Hid (x1.length = 10)) (HLp : Hid (p2.length = 10)) (hx1 : x1 = tag0) (hp2 : p2 = tag0) :
    Calls Tryd.prog 4 #[.agg (bC b), .agg (bC l)] w fun e w' => e = .returned (.bool true) ∧ Below w.heap.size w w' := by
  have FB : Hid (((w.alloc (.cells (bC b) 39)).alloc (.cells (bC l) 29)).heap[w.heap.size]? = some (Obj.cells (bC b) 39 (0, 0))) := heap_alloc2_old _ _ _
  have FL : Hid (((w.alloc (.cells (bC b) 39)).alloc (.cells (bC l) 29)).heap[w.heap.size + 1]? = some (Obj.cells (bC l) 29 (0, 0))) := heap_alloc2_new _ _ _
  have HB : Hid (Below w.heap.size w ((w.alloc (.cells (bC b) 39)).alloc (.cells (bC l) 29))) := below_alloc2 _ _ _
  have hn1 : ∀ W, (binOp .neq 29 (.agg (bC x1)) (.agg #[.int .u8 0, .int .u8 0, .int .u8 0, .int .u8 0, .int .u8 0, .int .u8 0, .int .u8 0, .int .u8 0, .int .u8 0, .int .u8 0])).run Tryd.prog W = .ok (.bool false) W := fun W => by rw [hx1]; exact neq10 W tag0 tag0 rfl rfl
  have hn3 : ∀ W, (binOp .neq 39 (.agg (bC l)) (.agg (bC l))).run Tryd.prog W = .ok (.bool false) W := fun W => by have := neqB W 39 10 Tryd.underlying39 l l HL2.out HL2.out; rwa [show (!(l == l)) = false from by simp] at this
  have hn4 : ∀ W, (binOp .eql 29 (.agg (bC p2)) (.agg #[.int .u8 0, .int .u8 0, .int .u8 0, .int .u8 0, .int .u8 0, .int .u8 0, .int .u8 0, .int .u8 0, .int .u8 0, .int .u8 0])).run Tryd.prog W = .ok (.bool true) W := fun W => by rw [hp2]; exact eql10 W tag0 tag0 rfl rfl
  clear hx1
  clear hp2
  go_enter Tryd.func4, Tryd.ntmps4
  go_upto_region 1 with fail
  generalize ((w.alloc (.cells (bC b) 39)).alloc (.cells (bC l) 29)) = W0 at *
  go_upto_region 2 with (first
    | ((with_reducible refine gate_ld 39 _ rfl ?_); refine ld_A rfl _ rfl w.heap.size b HL1.out rfl FB.out ?_)
    | (go_at_call 18; (refine (HRO.out _ HB.out).mono ?_); rintro e w1 ⟨rfl, hb1⟩; have FB := kp FB hb1; have FL := kp FL hb1; have HB := bt HB hb1; clear hb1)
    | ((with_reducible refine gate_st 23 _ _ rfl ?_); refine st_3 rfl _ _ rfl w1.heap.size y1 t30 _ rfl rfl (heap_alloc_new _ _) ?_))
  rw [show (Obj.cells #[Value.string ⟨#[]⟩, Value.string ⟨#[]⟩, Value.string ⟨#[]⟩] 23) = Obj.cells (tC t30) 23 from rfl]
  have hbx := bel_st w1 (.cells (tC t30) 23) (tC y1)
  have FW : Hid (((w1.alloc (.cells (tC t30) 23)).setRow w1.heap.size (tC y1)).heap[w1.heap.size]? = some (Obj.cells (tC y1) 23 (0, 0))) := setRow_at (heap_alloc_new _ _)
  have FB := kp FB hbx
  have FL := kp FL hbx
  have HB := bt HB hbx
  clear hbx
  generalize ((w1.alloc (.cells (tC t30) 23)).setRow w1.heap.size (tC y1)) = V1 at *
  generalize w1.heap.size = bw at *
  go_upto_region 3 with (first
    | ((with_reducible refine gate_ld 39 _ rfl ?_); refine ld_A rfl _ rfl w.heap.size b HL1.out rfl FB.out ?_)
    | (go_at_call 19; (refine (HTO.out _ HB.out).mono ?_); rintro e w2 ⟨rfl, hb2⟩; have FB := kp FB hb2; have FL := kp FL hb2; have FW := kp FW hb2; have HB := bt HB hb2; clear hb2)
    | ((with_reducible refine gate_st 29 _ _ rfl ?_); refine st_T rfl _ _ rfl w2.heap.size x1 tag0 HLx.out rfl _ rfl rfl (heap_alloc_new _ _) ?_))
  rw [show (Obj.cells #[Value.int IntKind.u8 0, Value.int IntKind.u8 0, Value.int IntKind.u8 0, Value.int IntKind.u8 0, Value.int IntKind.u8 0, Value.int IntKind.u8 0, Value.int IntKind.u8 0, Value.int IntKind.u8 0, Value.int IntKind.u8 0, Value.int IntKind.u8 0] 29) = Obj.cells (bC tag0) 29 from rfl]
  have hbx := bel_st w2 (.cells (bC tag0) 29) (bC x1)
  have FX : Hid (((w2.alloc (.cells (bC tag0) 29)).setRow w2.heap.size (bC x1)).heap[w2.heap.size]? = some (Obj.cells (bC x1) 29 (0, 0))) := setRow_at (heap_alloc_new _ _)
  have FB := kp FB hbx
  have FL := kp FL hbx
  have FW := kp FW hbx
  have HB := bt HB hbx
  clear hbx
  generalize ((w2.alloc (.cells (bC tag0) 29)).setRow w2.heap.size (bC x1)) = V2 at *
  generalize w2.heap.size = bx at *
  refine wp_region_quiet_below (by kernel_rfl) (by kernel_rfl) ?_
  repeat (first
    | (with_reducible refine wq_T rfl _ rfl bx x1 HLx.out rfl FX.out ?_; simp only [Act.put, List.setIfInBounds_toArray, List.set_cons_zero, List.set_cons_succ])
    | (with_reducible refine wq_3 rfl _ rfl bw y1 rfl FW.out ?_; simp only [Act.put, List.setIfInBounds_toArray, List.set_cons_zero, List.set_cons_succ])
    | (with_reducible refine wq_A rfl _ rfl w.heap.size b HL1.out rfl FB.out ?_; simp only [Act.put, List.setIfInBounds_toArray, List.set_cons_zero, List.set_cons_succ])
    | go_big_quiet_step (first | (with_reducible exact rg_callB (at2 HKn HB) _ _)))
  refine wpQuiet_nil ?_
  rintro _ ⟨⟨dq, osq⟩, rfl⟩
  have hbq := below_regrown V2 dq osq
  have FB := kp FB hbq
  have FL := kp FL hbq
  have FW := kp FW hbq
  have FX := kp FX hbq
  have HB := bt HB hbq
  clear hbq
  generalize Sort.grow (redrawn V2 dq) osq = V3 at *
  go_upto_region 5 with fail
  go_upto_region 6 with (first
    | (with_reducible refine ld_T rfl _ rfl (w.heap.size + 1) l HL2.out rfl FL.out ?_)
    | (go_at_call 21; (refine (HRw.out _ HB.out).mono ?_); rintro e w3 ⟨rfl, hb3⟩; have FL := kp FL hb3; have HB := bt HB hb3; clear hb3)
    | (go_at_call 18; (refine (HRO2.out _ HB.out).mono ?_); rintro e w4 ⟨rfl, hb4⟩; have FL := kp FL hb4; have HB := bt HB hb4; clear hb4)
    | ((with_reducible refine gate_st 23 _ _ rfl ?_); refine st_3 rfl _ _ rfl w4.heap.size y2 t30 _ rfl rfl (heap_alloc_new _ _) ?_))
  rw [show (Obj.cells #[Value.string ⟨#[]⟩, Value.string ⟨#[]⟩, Value.string ⟨#[]⟩] 23) = Obj.cells (tC t30) 23 from rfl]
  have hbx := bel_st w4 (.cells (tC t30) 23) (tC y2)
  have FY : Hid (((w4.alloc (.cells (tC t30) 23)).setRow w4.heap.size (tC y2)).heap[w4.heap.size]? = some (Obj.cells (tC y2) 23 (0, 0))) := setRow_at (heap_alloc_new _ _)
  have FL := kp FL hbx
  have HB := bt HB hbx
  clear hbx
  generalize ((w4.alloc (.cells (tC t30) 23)).setRow w4.heap.size (tC y2)) = V4 at *
  generalize w4.heap.size = bq at *
  go_upto_region 7 with (first
    | (with_reducible refine ld_T rfl _ rfl (w.heap.size + 1) l HL2.out rfl FL.out ?_)
    | (go_at_call 22; (refine (HPa.out _ HB.out).mono ?_); rintro e w5 ⟨rfl, hb5⟩; have FL := kp FL hb5; have FY := kp FY hb5; have HB := bt HB hb5; clear hb5)
    | ((with_reducible refine gate_st 29 _ _ rfl ?_); refine st_T rfl _ _ rfl w5.heap.size p2 tag0 HLp.out rfl _ rfl rfl (heap_alloc_new _ _) ?_))
  rw [show (Obj.cells #[Value.int IntKind.u8 0, Value.int IntKind.u8 0, Value.int IntKind.u8 0, Value.int IntKind.u8 0, Value.int IntKind.u8 0, Value.int IntKind.u8 0, Value.int IntKind.u8 0, Value.int IntKind.u8 0, Value.int IntKind.u8 0, Value.int IntKind.u8 0] 29) = Obj.cells (bC tag0) 29 from rfl]
  have hbx := bel_st w5 (.cells (bC tag0) 29) (bC p2)
  have FP : Hid (((w5.alloc (.cells (bC tag0) 29)).setRow w5.heap.size (bC p2)).heap[w5.heap.size]? = some (Obj.cells (bC p2) 29 (0, 0))) := setRow_at (heap_alloc_new _ _)
  have FL := kp FL hbx
  have FY := kp FY hbx
  have HB := bt HB hbx
  clear hbx
  generalize ((w5.alloc (.cells (bC tag0) 29)).setRow w5.heap.size (bC p2)) = V5 at *
  generalize w5.heap.size = bp at *
  go_upto_region 8 with (first
    | (with_reducible refine ld_T rfl _ rfl (w.heap.size + 1) l HL2.out rfl FL.out ?_)
    | (go_at_call 23; (refine (HCh.out _ HB.out).mono ?_); rintro e w6 ⟨qc, cc, rfl, hsl, hcc, hb6⟩; have FL := kp FL hb6; have FY := kp FY hb6; have FP := kp FP hb6; have HB := bt HB hb6; have HSl := Lib.hid hsl; clear hb6 hsl))
  refine wp_region_quiet_below (by kernel_rfl) (by kernel_rfl) ?_
  repeat (first
    | (with_reducible refine wq_T rfl _ rfl (w.heap.size + 1) l HL2.out rfl FL.out ?_; simp only [Act.put, List.setIfInBounds_toArray, List.set_cons_zero, List.set_cons_succ])
    | go_big_quiet_step (first | (with_reducible exact rg_callB (at2 HBy2 HB) _ _) | (with_reducible exact rg_callB (at2 HRw HB) _ _) | (with_reducible exact rg_callB (at2 HRi HB) _ _)))
  refine wpQuiet_nil ?_
  rintro _ ⟨⟨dq, osq⟩, rfl⟩
  have hbq := below_regrown w6 dq osq
  have FL := kp FL hbq
  have FY := kp FY hbq
  have FP := kp FP hbq
  have HSl := ks HSl hbq
  have HB := bt HB hbq
  clear hbq
  generalize Sort.grow (redrawn w6 dq) osq = V6 at *
  go_wp2_with (first
    | (with_reducible refine ld_T rfl _ rfl (w.heap.size + 1) l HL2.out rfl FL.out ?_)
    | (with_reducible refine ld_T rfl _ rfl bp p2 HLp.out rfl FP.out ?_)
    | (go_at_call 13; (refine (HKn.out _ HB.out).mono ?_); rintro e w7 ⟨rfl, hb7⟩; have FL := kp FL hb7; have FY := kp FY hb7; have FP := kp FP hb7; have HSl := ks HSl hb7; have HB := bt HB hb7; clear hb7)
    | (go_at_call 15; (refine (HTx.out _ HB.out).mono ?_); rintro e w8 ⟨rfl, hb8⟩; have FL := kp FL hb8; have FY := kp FY hb8; have FP := kp FP hb8; have HSl := ks HSl hb8; have HB := bt HB hb8; clear hb8))
  go_ret
  exact ⟨rfl, HB.out⟩
end Go.Proofs.YtnambaiafailaaaDoor
