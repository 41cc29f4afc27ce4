/- TagChains: the walk. -/
import Derived.Test.YtnambaiafailaaaDoorTCh5
namespace Go.Proofs.YtnambaiafailaaaDoor
open Go.RowKit

set_option maxRecDepth 100000 in
set_option maxHeartbeats 16000000 in
theorem TagChains_okright3 (t x1 : List UInt8) (x : B10) (s : ByteArray) (mm : Nat) (xs : List B10) (m : Nat) (w : World) (hlx : xs.length = m) (hm4 : m ≤ 4) (hs : s.size ≤ 9223372036854775807) (hmin : min (s.size : Int) 30 = (mm : Int)) (hl : x1 = x.1)
    (HKn : Hid (∀ W, Below w.heap.size w W → Calls Tryd.prog 13 #[] W fun e w' => e = .returned (.bool true) ∧ Below W.heap.size W w'))
    (HTP : Hid (∀ W, Below w.heap.size w W → Calls Tryd.prog 12 #[.string (s.extract 0 mm)] W fun e w' => e = .returned (.tuple #[.agg (bC x1), .int .i64 0]) ∧ Below W.heap.size W w'))
    (HCh : Hid (∀ W, Below w.heap.size w W → Calls Tryd.prog 23 #[.agg (bC x.1)] W fun e w' => ∃ q cap, e = .returned (.slice q m cap) ∧ SlAt encB 10 w' q xs ∧ m ≤ cap ∧ Below W.heap.size W w'))
    (HRi : Hid (∀ W, Below w.heap.size w W → Calls Tryd.prog 17 #[.agg (bC x.1)] W fun e w' => e = .returned (.bool true) ∧ Below W.heap.size W w'))
    (HTx : Hid (∀ (y : B10), ∀ W, Below w.heap.size w W → Calls Tryd.prog 15 #[.agg (bC y.1)] W fun e w' => e = .returned (.string ⟨(textB y.1).toArray⟩) ∧ Below W.heap.size W w'))
    (HPy : Hid (∀ (y : B10), rightT y.1 = true → ∀ W, Below w.heap.size w W → Calls Tryd.prog 12 #[.string ⟨(textB y.1).toArray⟩] W fun e w' => e = .returned (.tuple #[.agg (bC y.1), .int .i64 0]) ∧ Below W.heap.size W w'))
    (HPa : Hid (∀ (y : B10), ∀ W, Below w.heap.size w W → Calls Tryd.prog 22 #[.agg (bC y.1)] W fun e w' => e = .returned (.tuple #[.agg (bC (parR y.1)), .bool (parOk y.1)]) ∧ Below W.heap.size W w'))
    (HBe : Hid (∀ (y : B10), ∀ W, Below w.heap.size w W → Calls Tryd.prog 25 #[.agg (bC x.1), .agg (bC y.1)] W fun e w' => e = .returned (.bool (memX y.1 xs)) ∧ Below W.heap.size W w'))
    (HCo : Hid (∀ (y : B10), ∀ W, Below w.heap.size w W → Calls Tryd.prog 26 #[.agg (bC x.1), .agg (bC y.1)] W fun e w' => e = .returned (.agg (bC (coR x y))) ∧ Below W.heap.size W w'))
    (HRo : Hid (∀ j (h : j < xs.length), RoundT x xs j xs[j])) (hm1 : 0 < m) (H0 : Hid (∀ (h : 0 < xs.length), (xs[0]).1 = x.1)) (HZl : Hid (∀ (h : m - 1 < xs.length), (xs[m - 1]).1 = tag0))
    (hmM : m = 3)
    (HLt : Hid (t.length = 10)) (HLx : Hid (x1.length = 10)) :
    Calls Tryd.prog 5 #[.agg (bC t), .string s] w fun e w' => e = .returned (.bool true) ∧ Below w.heap.size w w' := by
  have hms : (mm : Int) ≤ s.size := by omega
  have hmm0 : (0 : Int) ≤ mm := by omega
  have hm30 : (mm : Int) ≤ 30 := by omega
  have FL : Hid ((w.alloc (.cells (bC t) 29)).heap[w.heap.size]? = some (Obj.cells (bC t) 29 (0, 0))) := heap_alloc_new _ _
  have HB : Hid (Below w.heap.size w (w.alloc (.cells (bC t) 29))) := below_alloc1 _ _
  have HL2 : Hid (x.1.length = 10) := x.2
  have hn1 : ∀ W, (binOp .neq 29 (.agg (bC x.1)) (.agg (bC x.1))).run Tryd.prog W = .ok (.bool false) W := fun W => by have := neq10 W x.1 x.1 x.2 x.2; rwa [show (!(x.1 == x.1)) = false from by simp] at this
  have hn2 : ∀ W, (binOp .neq 29 (.agg (bC tag0)) (.agg #[.int .u8 0, .int .u8 0, .int .u8 0, .int .u8 0, .int .u8 0, .int .u8 0, .int .u8 0, .int .u8 0, .int .u8 0, .int .u8 0])).run Tryd.prog W = .ok (.bool false) W := fun W => neq10 W tag0 tag0 rfl rfl
  have hq1 : m = 1 → ∀ W, (binOp .neq 29 (.agg (bC x.1)) (.agg #[.int .u8 0, .int .u8 0, .int .u8 0, .int .u8 0, .int .u8 0, .int .u8 0, .int .u8 0, .int .u8 0, .int .u8 0, .int .u8 0])).run Tryd.prog W = .ok (.bool false) W := fun e W => by
    have h1 := H0.out (by omega)
    have h2 := HZl.out (by omega)
    simp only [e, Nat.sub_self] at h2
    rw [h1] at h2
    rw [h2]; exact neq10 W tag0 tag0 rfl rfl
  subst hmM
  clear hq1
  have HL0 := Lib.hid hl
  clear hl
  go_enter Tryd.func5, Tryd.ntmps5
  go_upto_region 1 with fail
  generalize (w.alloc (.cells (bC t) 29)) = W0 at *
  go_upto_region 2 with (first
    | (go_at_call 12; (refine (HTP.out _ HB.out).mono ?_); rintro e w1 ⟨rfl, hb1⟩; have FL := kp FL hb1; have HB := bt HB hb1; clear hb1)
    | ((with_reducible refine gate_st 29 _ _ rfl ?_); refine st_T rfl _ _ rfl w1.heap.size x1 tag0 HLx.out rfl _ rfl rfl (heap_alloc_new _ _) ?_))
  rw [show (Obj.cells #[Value.int IntKind.u8 0, Value.int IntKind.u8 0, Value.int IntKind.u8 0, Value.int IntKind.u8 0, Value.int IntKind.u8 0, Value.int IntKind.u8 0, Value.int IntKind.u8 0, Value.int IntKind.u8 0, Value.int IntKind.u8 0, Value.int IntKind.u8 0] 29) = Obj.cells (bC tag0) 29 from rfl]
  have hbx := bel_st w1 (.cells (bC tag0) 29) (bC x1)
  have FX : Hid (((w1.alloc (.cells (bC tag0) 29)).setRow w1.heap.size (bC x1)).heap[w1.heap.size]? = some (Obj.cells (bC x1) 29 (0, 0))) := setRow_at (heap_alloc_new _ _)
  have FL := kp FL hbx
  have HB := bt HB hbx
  clear hbx
  generalize ((w1.alloc (.cells (bC tag0) 29)).setRow w1.heap.size (bC x1)) = V1 at *
  generalize w1.heap.size = bx at *
  go_upto_region 4 with (first
    | (with_reducible refine ld_T rfl _ rfl bx x1 HLx.out rfl FX.out ?_)
    | ((with_reducible refine gate_st 29 _ _ rfl ?_); refine st_T rfl _ _ rfl w.heap.size x1 t HLx.out HLt.out _ rfl rfl FL.out ?_))
  have hB5 := Lib.hid (setRow_below HB.out (Nat.le_refl _) (bC x1))
  have FL : Hid ((V1.setRow w.heap.size (bC x1)).heap[w.heap.size]? = some (Obj.cells (bC x1) 29 (0, 0))) := setRow_at FL.out
  have HB := hB5
  clear hB5 FX
  generalize (V1.setRow w.heap.size (bC x1)) = W9 at *
  rw [HL0.out] at FL
  go_upto_region 5 with (first
    | (with_reducible refine ld_T rfl _ rfl w.heap.size x.1 HL2.out rfl FL.out ?_)
    | (go_at_call 23; (refine (HCh.out _ HB.out).mono ?_); rintro e w6 ⟨qc, cc, rfl, hsl, hcc, hb6⟩; have FL := kp FL hb6; have HB := bt HB hb6; have HSl := Lib.hid hsl; clear hb6 hsl))
  go_upto_region 7 with (first
    | (with_reducible refine ld_T rfl _ rfl w.heap.size x.1 HL2.out rfl FL.out ?_)
    | (go_at_call 17; (refine (HRi.out _ HB.out).mono ?_); rintro e w7 ⟨rfl, hb7⟩; have FL := kp FL hb7; have HSl := ks HSl hb7; have HB := bt HB hb7; clear hb7))
  obtain ⟨b0, f0, rfl, h0a, h0b⟩ := HSl.out 0 (by omega)
  obtain ⟨bz, fz, hqz, hza, hzb⟩ := HSl.out (xs.length - 1) (by omega)
  simp only [Option.some.injEq, Addr.mk.injEq, and_true] at hqz
  obtain ⟨rfl, rfl⟩ := hqz
  have he0 : (xs[0]).1 = x.1 := H0.out (by omega)
  have hez : (xs[xs.length - 1]).1 = tag0 := by
    have := HZl.out (by omega)
    simpa [hlx] using this
  simp only [hlx] at hzb hez
  have R0 := Lib.hid (InRow.mk h0a h0b)
  have RZ := Lib.hid (InRow.mk hza hzb)
  have E0 := Lib.hid he0
  have EZ := Lib.hid hez
  clear h0a h0b hza hzb he0 hez
  refine wp_region_quiet_below (by kernel_rfl) (by kernel_rfl) ?_
  repeat (first
    | (with_reducible refine wq_T rfl _ rfl w.heap.size x.1 HL2.out rfl FL.out ?_; simp only [Act.put, List.setIfInBounds_toArray, List.set_cons_zero, List.set_cons_succ])
    | (first | (refine wq_ix _ rfl 46 29 _ _ rfl Tryd.underlying46 10 sizTag b0 f0 _ cc 0 rfl rfl (by omega) ?_; simp only [Act.put, List.setIfInBounds_toArray, List.set_cons_zero, List.set_cons_succ]) | (refine wq_ix _ rfl 46 29 _ _ rfl Tryd.underlying46 10 sizTag b0 f0 _ cc 1 rfl rfl (by omega) ?_; simp only [Act.put, List.setIfInBounds_toArray, List.set_cons_zero, List.set_cons_succ]) | (refine wq_ix _ rfl 46 29 _ _ rfl Tryd.underlying46 10 sizTag b0 f0 _ cc 2 rfl rfl (by omega) ?_; simp only [Act.put, List.setIfInBounds_toArray, List.set_cons_zero, List.set_cons_succ]) | (refine wq_ix _ rfl 46 29 _ _ rfl Tryd.underlying46 10 sizTag b0 f0 _ cc 3 rfl rfl (by omega) ?_; simp only [Act.put, List.setIfInBounds_toArray, List.set_cons_zero, List.set_cons_succ]))
    | (first | (refine wq_eB rfl _ rfl b0 (f0 + 0 * 10) _ x.1 E0.out rfl R0.out.row R0.out.lt ?_; simp only [Act.put, List.setIfInBounds_toArray, List.set_cons_zero, List.set_cons_succ]) | (refine wq_eB rfl _ rfl b0 _ _ tag0 EZ.out rfl RZ.out.row RZ.out.lt ?_; simp only [Act.put, List.setIfInBounds_toArray, List.set_cons_zero, List.set_cons_succ]))
    | go_big_quiet_step (first | (with_reducible exact rg_callB (at2 HKn HB) _ _)))
  refine wpQuiet_nil ?_
  rintro _ ⟨⟨dq, osq⟩, rfl⟩
  have hbq := below_regrown w7 dq osq
  have FL := kp FL hbq
  have HSl := ks HSl hbq
  have HB := bt HB hbq
  clear hbq
  generalize Sort.grow (redrawn w7 dq) osq = V2 at *
  go_wp2_with fail
  go_loopw [8] (fun i wr => ∃ j : Nat, j ≤ 3 ∧ i = .int .i64 j ∧ Below w.heap.size w wr ∧ SlAt encB 10 wr (some ⟨b0, f0, none⟩) xs ∧ wr.heap[w.heap.size]? = some (Obj.cells (bC x.1) 29 (0, 0))) (fun i _ => 3 - (intOf i).toNat)
  case atStart => exact ⟨0, Nat.zero_le _, rfl, HB.out, HSl.out, FL.out⟩
  case round =>
    obtain ⟨j, hj, rfl, hB1, hsl1, hfl1⟩ := hrel
    clear HB HSl FL R0 RZ E0 EZ
    have HB := Lib.hid hB1
    have HSl := Lib.hid hsl1
    have FL := Lib.hid hfl1
    clear hB1 hsl1 hfl1
    by_cases hjm : j < 3
    · skip
      obtain rfl | rfl | rfl : j = 0 ∨ j = 1 ∨ j = 2 := by omega
      · have hjx : 0 < xs.length := by omega
        obtain ⟨ba, fa, hqa, hba, hra⟩ := HSl.out 0 hjx
        simp only [Option.some.injEq, Addr.mk.injEq, and_true] at hqa
        obtain ⟨rfl, rfl⟩ := hqa
        have hro := HRo.out 0 hjx
        have RJ := Lib.hid (InRow.mk hba hra)
        clear hba hra
        have hjy : 1 < xs.length := by omega
        obtain ⟨ba, fa, hqa, hba, hra⟩ := HSl.out 1 hjy
        simp only [Option.some.injEq, Addr.mk.injEq, and_true] at hqa
        obtain ⟨rfl, rfl⟩ := hqa
        have RK := Lib.hid (InRow.mk hba hra)
        clear hba hra
        have hpar := hro.par hjy
        simp only [Nat.reduceAdd] at hpar
        have hpk : parOk (xs[0]).1 = true := by rw [hro.ok]; exact decide_eq_true hjy
        have hyr := hro.right
        have hym := hro.mem
        have hyc := hro.com
        clear hro
        generalize xs[0] = y at *
        have KT := Lib.hid (HTx.out y)
        have KP := Lib.hid (HPy.out y hyr)
        have KA := Lib.hid (HPa.out y)
        have KB := Lib.hid (HBe.out y)
        have KC := Lib.hid (HCo.out y)
        rw [hym] at KB
        rw [hyc] at KC
        rw [hpk] at KA
        generalize xs[1] = z at *
        rw [hpar] at KA
        have HLz : Hid (z.1.length = 10) := z.2
        have HLy : Hid (y.1.length = 10) := y.2
        have hn5 : ∀ W, (binOp .neq 29 (.agg (bC y.1)) (.agg (bC y.1))).run Tryd.prog W = .ok (.bool false) W := fun W => by have := neq10 W y.1 y.1 y.2 y.2; rwa [show (!(y.1 == y.1)) = false from by simp] at this
        have hn6 : ∀ W, (binOp .neq 29 (.agg (bC z.1)) (.agg (bC z.1))).run Tryd.prog W = .ok (.bool false) W := fun W => by have := neq10 W z.1 z.1 z.2 z.2; rwa [show (!(z.1 == z.1)) = false from by simp] at this
        clear hyr hym hyc hpk hpar
        go_upto_region 12 with fail
        go_upto_region 13 with (first
          | (refine wl_ix rfl 46 29 _ _ rfl Tryd.underlying46 10 sizTag b0 f0 3 cc 0 rfl rfl (by omega) ?_)
          | (refine wl_eB rfl _ rfl b0 (f0 + 0 * 10) y rfl RJ.out.row ?_)
          | (go_at_call 15; (refine (KT.out _ HB.out).mono ?_); rintro e w21 ⟨rfl, hb21⟩; have HSl := ks HSl hb21; have FL := kp FL hb21; have RJ := kr RJ hb21; have RK := kr RK hb21; have HB := bt HB hb21; clear hb21)
          | (go_at_call 12; (refine (KP.out _ HB.out).mono ?_); rintro e w22 ⟨rfl, hb22⟩; have HSl := ks HSl hb22; have FL := kp FL hb22; have RJ := kr RJ hb22; have RK := kr RK hb22; have HB := bt HB hb22; clear hb22)
          | ((with_reducible refine gate_st 29 _ _ rfl ?_); refine st_T rfl _ _ rfl w22.heap.size y.1 tag0 HLy.out rfl _ rfl rfl (heap_alloc_new _ _) ?_))
        rw [show (Obj.cells #[Value.int IntKind.u8 0, Value.int IntKind.u8 0, Value.int IntKind.u8 0, Value.int IntKind.u8 0, Value.int IntKind.u8 0, Value.int IntKind.u8 0, Value.int IntKind.u8 0, Value.int IntKind.u8 0, Value.int IntKind.u8 0, Value.int IntKind.u8 0] 29) = Obj.cells (bC tag0) 29 from rfl]
        have hbx := bel_st w22 (.cells (bC tag0) 29) (bC y.1)
        have FY : Hid (((w22.alloc (.cells (bC tag0) 29)).setRow w22.heap.size (bC y.1)).heap[w22.heap.size]? = some (Obj.cells (bC y.1) 29 (0, 0))) := setRow_at (heap_alloc_new _ _)
        have HSl := ks HSl hbx
        have FL := kp FL hbx
        have RJ := kr RJ hbx
        have RK := kr RK hbx
        have HB := bt HB hbx
        clear hbx
        generalize ((w22.alloc (.cells (bC tag0) 29)).setRow w22.heap.size (bC y.1)) = V101 at *
        generalize w22.heap.size = bq at *
        go_upto_region 14 with (first
          | (refine wl_ix rfl 46 29 _ _ rfl Tryd.underlying46 10 sizTag b0 f0 3 cc 0 rfl rfl (by omega) ?_)
          | (refine wl_eB rfl _ rfl b0 (f0 + 0 * 10) y rfl RJ.out.row ?_)
          | (go_at_call 22; (refine (KA.out _ HB.out).mono ?_); rintro e w23 ⟨rfl, hb23⟩; have HSl := ks HSl hb23; have FL := kp FL hb23; have RJ := kr RJ hb23; have RK := kr RK hb23; have FY := kp FY hb23; have HB := bt HB hb23; clear hb23)
          | ((with_reducible refine gate_st 29 _ _ rfl ?_); refine st_T rfl _ _ rfl w23.heap.size z.1 tag0 HLz.out rfl _ rfl rfl (heap_alloc_new _ _) ?_))
        rw [show (Obj.cells #[Value.int IntKind.u8 0, Value.int IntKind.u8 0, Value.int IntKind.u8 0, Value.int IntKind.u8 0, Value.int IntKind.u8 0, Value.int IntKind.u8 0, Value.int IntKind.u8 0, Value.int IntKind.u8 0, Value.int IntKind.u8 0, Value.int IntKind.u8 0] 29) = Obj.cells (bC tag0) 29 from rfl]
        have hbx := bel_st w23 (.cells (bC tag0) 29) (bC z.1)
        have FP : Hid (((w23.alloc (.cells (bC tag0) 29)).setRow w23.heap.size (bC z.1)).heap[w23.heap.size]? = some (Obj.cells (bC z.1) 29 (0, 0))) := setRow_at (heap_alloc_new _ _)
        have HSl := ks HSl hbx
        have FL := kp FL hbx
        have RJ := kr RJ hbx
        have RK := kr RK hbx
        have FY := kp FY hbx
        have HB := bt HB hbx
        clear hbx
        generalize ((w23.alloc (.cells (bC tag0) 29)).setRow w23.heap.size (bC z.1)) = V102 at *
        generalize w23.heap.size = bp at *
        refine wp_region_quiet_below (by kernel_rfl) (by kernel_rfl) ?_
        repeat (first
          | go_big_quiet_skip
          | (with_reducible refine wq_T rfl _ rfl w.heap.size x.1 HL2.out rfl FL.out ?_; simp only [Act.put, List.setIfInBounds_toArray, List.set_cons_zero, List.set_cons_succ])
          | (with_reducible refine wq_T rfl _ rfl bq y.1 HLy.out rfl FY.out ?_; simp only [Act.put, List.setIfInBounds_toArray, List.set_cons_zero, List.set_cons_succ])
          | (with_reducible refine wq_T rfl _ rfl bp z.1 HLz.out rfl FP.out ?_; simp only [Act.put, List.setIfInBounds_toArray, List.set_cons_zero, List.set_cons_succ])
          | (refine wq_ix _ rfl 46 29 _ _ rfl Tryd.underlying46 10 sizTag b0 f0 _ cc 0 rfl rfl (by omega) ?_; simp only [Act.put, List.setIfInBounds_toArray, List.set_cons_zero, List.set_cons_succ])
          | (refine wq_eB rfl _ rfl b0 (f0 + 0 * 10) y y.1 rfl rfl RJ.out.row RJ.out.lt ?_; simp only [Act.put, List.setIfInBounds_toArray, List.set_cons_zero, List.set_cons_succ])
          | (refine wq_ix _ rfl 46 29 _ _ rfl Tryd.underlying46 10 sizTag b0 f0 _ cc 1 rfl rfl (by omega) ?_; simp only [Act.put, List.setIfInBounds_toArray, List.set_cons_zero, List.set_cons_succ])
          | (refine wq_eB rfl _ rfl b0 (f0 + 1 * 10) z z.1 rfl rfl RK.out.row RK.out.lt ?_; simp only [Act.put, List.setIfInBounds_toArray, List.set_cons_zero, List.set_cons_succ])
          | go_big_quiet_step (first | (with_reducible exact rg_callB (at2 KB HB) _ _) | (with_reducible exact rg_callB (at2 KC HB) _ _)))
        refine wpQuiet_nil ?_
        rintro _ ⟨⟨dq, osq⟩, rfl⟩
        have hbq := below_regrown V102 dq osq
        have HSl := ks HSl hbq
        have FL := kp FL hbq
        have RJ := kr RJ hbq
        have RK := kr RK hbq
        have FY := kp FY hbq
        have FP := kp FP hbq
        have HB := bt HB hbq
        clear hbq
        generalize Sort.grow (redrawn V102 dq) osq = V103 at *
        go_wp2_with fail
        go_roundw
        case rel =>
          exact ⟨_, _, _, _, _, _, _, _, _, _, _, _, _, _, _, _, _, _, _, _, _, _, _, _, _, _, _, _, _, _, _, _, _, _, _, _, _, _, _, _, _, _, _, _, _, _, _, _, _, _, _, _, _, _, _, _, _, _, _, _, _, _, _, _, _, _, _, _, _, _, _, _, _, _, _, _, _, _, _, _, _, _, ⟨1, by omega, rfl, HB.out, HSl.out, FL.out⟩, rfl⟩
        case measure => simp [intOf]
      · have hjx : 1 < xs.length := by omega
        obtain ⟨ba, fa, hqa, hba, hra⟩ := HSl.out 1 hjx
        simp only [Option.some.injEq, Addr.mk.injEq, and_true] at hqa
        obtain ⟨rfl, rfl⟩ := hqa
        have hro := HRo.out 1 hjx
        have RJ := Lib.hid (InRow.mk hba hra)
        clear hba hra
        have hjy : 2 < xs.length := by omega
        obtain ⟨ba, fa, hqa, hba, hra⟩ := HSl.out 2 hjy
        simp only [Option.some.injEq, Addr.mk.injEq, and_true] at hqa
        obtain ⟨rfl, rfl⟩ := hqa
        have RK := Lib.hid (InRow.mk hba hra)
        clear hba hra
        have hpar := hro.par hjy
        simp only [Nat.reduceAdd] at hpar
        have hpk : parOk (xs[1]).1 = true := by rw [hro.ok]; exact decide_eq_true hjy
        have hyr := hro.right
        have hym := hro.mem
        have hyc := hro.com
        clear hro
        generalize xs[1] = y at *
        have KT := Lib.hid (HTx.out y)
        have KP := Lib.hid (HPy.out y hyr)
        have KA := Lib.hid (HPa.out y)
        have KB := Lib.hid (HBe.out y)
        have KC := Lib.hid (HCo.out y)
        rw [hym] at KB
        rw [hyc] at KC
        rw [hpk] at KA
        generalize xs[2] = z at *
        rw [hpar] at KA
        have HLz : Hid (z.1.length = 10) := z.2
        have HLy : Hid (y.1.length = 10) := y.2
        have hn5 : ∀ W, (binOp .neq 29 (.agg (bC y.1)) (.agg (bC y.1))).run Tryd.prog W = .ok (.bool false) W := fun W => by have := neq10 W y.1 y.1 y.2 y.2; rwa [show (!(y.1 == y.1)) = false from by simp] at this
        have hn6 : ∀ W, (binOp .neq 29 (.agg (bC z.1)) (.agg (bC z.1))).run Tryd.prog W = .ok (.bool false) W := fun W => by have := neq10 W z.1 z.1 z.2 z.2; rwa [show (!(z.1 == z.1)) = false from by simp] at this
        clear hyr hym hyc hpk hpar
        go_upto_region 12 with fail
        go_upto_region 13 with (first
          | (refine wl_ix rfl 46 29 _ _ rfl Tryd.underlying46 10 sizTag b0 f0 3 cc 1 rfl rfl (by omega) ?_)
          | (refine wl_eB rfl _ rfl b0 (f0 + 1 * 10) y rfl RJ.out.row ?_)
          | (go_at_call 15; (refine (KT.out _ HB.out).mono ?_); rintro e w21 ⟨rfl, hb21⟩; have HSl := ks HSl hb21; have FL := kp FL hb21; have RJ := kr RJ hb21; have RK := kr RK hb21; have HB := bt HB hb21; clear hb21)
          | (go_at_call 12; (refine (KP.out _ HB.out).mono ?_); rintro e w22 ⟨rfl, hb22⟩; have HSl := ks HSl hb22; have FL := kp FL hb22; have RJ := kr RJ hb22; have RK := kr RK hb22; have HB := bt HB hb22; clear hb22)
          | ((with_reducible refine gate_st 29 _ _ rfl ?_); refine st_T rfl _ _ rfl w22.heap.size y.1 tag0 HLy.out rfl _ rfl rfl (heap_alloc_new _ _) ?_))
        rw [show (Obj.cells #[Value.int IntKind.u8 0, Value.int IntKind.u8 0, Value.int IntKind.u8 0, Value.int IntKind.u8 0, Value.int IntKind.u8 0, Value.int IntKind.u8 0, Value.int IntKind.u8 0, Value.int IntKind.u8 0, Value.int IntKind.u8 0, Value.int IntKind.u8 0] 29) = Obj.cells (bC tag0) 29 from rfl]
        have hbx := bel_st w22 (.cells (bC tag0) 29) (bC y.1)
        have FY : Hid (((w22.alloc (.cells (bC tag0) 29)).setRow w22.heap.size (bC y.1)).heap[w22.heap.size]? = some (Obj.cells (bC y.1) 29 (0, 0))) := setRow_at (heap_alloc_new _ _)
        have HSl := ks HSl hbx
        have FL := kp FL hbx
        have RJ := kr RJ hbx
        have RK := kr RK hbx
        have HB := bt HB hbx
        clear hbx
        generalize ((w22.alloc (.cells (bC tag0) 29)).setRow w22.heap.size (bC y.1)) = V201 at *
        generalize w22.heap.size = bq at *
        go_upto_region 14 with (first
          | (refine wl_ix rfl 46 29 _ _ rfl Tryd.underlying46 10 sizTag b0 f0 3 cc 1 rfl rfl (by omega) ?_)
          | (refine wl_eB rfl _ rfl b0 (f0 + 1 * 10) y rfl RJ.out.row ?_)
          | (go_at_call 22; (refine (KA.out _ HB.out).mono ?_); rintro e w23 ⟨rfl, hb23⟩; have HSl := ks HSl hb23; have FL := kp FL hb23; have RJ := kr RJ hb23; have RK := kr RK hb23; have FY := kp FY hb23; have HB := bt HB hb23; clear hb23)
          | ((with_reducible refine gate_st 29 _ _ rfl ?_); refine st_T rfl _ _ rfl w23.heap.size z.1 tag0 HLz.out rfl _ rfl rfl (heap_alloc_new _ _) ?_))
        rw [show (Obj.cells #[Value.int IntKind.u8 0, Value.int IntKind.u8 0, Value.int IntKind.u8 0, Value.int IntKind.u8 0, Value.int IntKind.u8 0, Value.int IntKind.u8 0, Value.int IntKind.u8 0, Value.int IntKind.u8 0, Value.int IntKind.u8 0, Value.int IntKind.u8 0] 29) = Obj.cells (bC tag0) 29 from rfl]
        have hbx := bel_st w23 (.cells (bC tag0) 29) (bC z.1)
        have FP : Hid (((w23.alloc (.cells (bC tag0) 29)).setRow w23.heap.size (bC z.1)).heap[w23.heap.size]? = some (Obj.cells (bC z.1) 29 (0, 0))) := setRow_at (heap_alloc_new _ _)
        have HSl := ks HSl hbx
        have FL := kp FL hbx
        have RJ := kr RJ hbx
        have RK := kr RK hbx
        have FY := kp FY hbx
        have HB := bt HB hbx
        clear hbx
        generalize ((w23.alloc (.cells (bC tag0) 29)).setRow w23.heap.size (bC z.1)) = V202 at *
        generalize w23.heap.size = bp at *
        refine wp_region_quiet_below (by kernel_rfl) (by kernel_rfl) ?_
        repeat (first
          | go_big_quiet_skip
          | (with_reducible refine wq_T rfl _ rfl w.heap.size x.1 HL2.out rfl FL.out ?_; simp only [Act.put, List.setIfInBounds_toArray, List.set_cons_zero, List.set_cons_succ])
          | (with_reducible refine wq_T rfl _ rfl bq y.1 HLy.out rfl FY.out ?_; simp only [Act.put, List.setIfInBounds_toArray, List.set_cons_zero, List.set_cons_succ])
          | (with_reducible refine wq_T rfl _ rfl bp z.1 HLz.out rfl FP.out ?_; simp only [Act.put, List.setIfInBounds_toArray, List.set_cons_zero, List.set_cons_succ])
          | (refine wq_ix _ rfl 46 29 _ _ rfl Tryd.underlying46 10 sizTag b0 f0 _ cc 1 rfl rfl (by omega) ?_; simp only [Act.put, List.setIfInBounds_toArray, List.set_cons_zero, List.set_cons_succ])
          | (refine wq_eB rfl _ rfl b0 (f0 + 1 * 10) y y.1 rfl rfl RJ.out.row RJ.out.lt ?_; simp only [Act.put, List.setIfInBounds_toArray, List.set_cons_zero, List.set_cons_succ])
          | (refine wq_ix _ rfl 46 29 _ _ rfl Tryd.underlying46 10 sizTag b0 f0 _ cc 2 rfl rfl (by omega) ?_; simp only [Act.put, List.setIfInBounds_toArray, List.set_cons_zero, List.set_cons_succ])
          | (refine wq_eB rfl _ rfl b0 (f0 + 2 * 10) z z.1 rfl rfl RK.out.row RK.out.lt ?_; simp only [Act.put, List.setIfInBounds_toArray, List.set_cons_zero, List.set_cons_succ])
          | go_big_quiet_step (first | (with_reducible exact rg_callB (at2 KB HB) _ _) | (with_reducible exact rg_callB (at2 KC HB) _ _)))
        refine wpQuiet_nil ?_
        rintro _ ⟨⟨dq, osq⟩, rfl⟩
        have hbq := below_regrown V202 dq osq
        have HSl := ks HSl hbq
        have FL := kp FL hbq
        have RJ := kr RJ hbq
        have RK := kr RK hbq
        have FY := kp FY hbq
        have FP := kp FP hbq
        have HB := bt HB hbq
        clear hbq
        generalize Sort.grow (redrawn V202 dq) osq = V203 at *
        go_wp2_with fail
        go_roundw
        case rel =>
          exact ⟨_, _, _, _, _, _, _, _, _, _, _, _, _, _, _, _, _, _, _, _, _, _, _, _, _, _, _, _, _, _, _, _, _, _, _, _, _, _, _, _, _, _, _, _, _, _, _, _, _, _, _, _, _, _, _, _, _, _, _, _, _, _, _, _, _, _, _, _, _, _, _, _, _, _, _, _, _, _, _, _, _, _, ⟨2, by omega, rfl, HB.out, HSl.out, FL.out⟩, rfl⟩
        case measure => simp [intOf]
      · have hjx : 2 < xs.length := by omega
        obtain ⟨ba, fa, hqa, hba, hra⟩ := HSl.out 2 hjx
        simp only [Option.some.injEq, Addr.mk.injEq, and_true] at hqa
        obtain ⟨rfl, rfl⟩ := hqa
        have hro := HRo.out 2 hjx
        have RJ := Lib.hid (InRow.mk hba hra)
        clear hba hra
        have hpk : parOk (xs[2]).1 = false := by rw [hro.ok]; exact decide_eq_false (by omega)
        have hyr := hro.right
        have hym := hro.mem
        have hyc := hro.com
        clear hro
        generalize xs[2] = y at *
        have KT := Lib.hid (HTx.out y)
        have KP := Lib.hid (HPy.out y hyr)
        have KA := Lib.hid (HPa.out y)
        have KB := Lib.hid (HBe.out y)
        have KC := Lib.hid (HCo.out y)
        rw [hym] at KB
        rw [hyc] at KC
        rw [hpk] at KA
        have HLz : Hid ((parR y.1).length = 10) := parR_len y.2
        have HLy : Hid (y.1.length = 10) := y.2
        have hn5 : ∀ W, (binOp .neq 29 (.agg (bC y.1)) (.agg (bC y.1))).run Tryd.prog W = .ok (.bool false) W := fun W => by have := neq10 W y.1 y.1 y.2 y.2; rwa [show (!(y.1 == y.1)) = false from by simp] at this
        clear hyr hym hyc hpk
        go_upto_region 12 with fail
        go_upto_region 13 with (first
          | (refine wl_ix rfl 46 29 _ _ rfl Tryd.underlying46 10 sizTag b0 f0 3 cc 2 rfl rfl (by omega) ?_)
          | (refine wl_eB rfl _ rfl b0 (f0 + 2 * 10) y rfl RJ.out.row ?_)
          | (go_at_call 15; (refine (KT.out _ HB.out).mono ?_); rintro e w21 ⟨rfl, hb21⟩; have HSl := ks HSl hb21; have FL := kp FL hb21; have RJ := kr RJ hb21; have HB := bt HB hb21; clear hb21)
          | (go_at_call 12; (refine (KP.out _ HB.out).mono ?_); rintro e w22 ⟨rfl, hb22⟩; have HSl := ks HSl hb22; have FL := kp FL hb22; have RJ := kr RJ hb22; have HB := bt HB hb22; clear hb22)
          | ((with_reducible refine gate_st 29 _ _ rfl ?_); refine st_T rfl _ _ rfl w22.heap.size y.1 tag0 HLy.out rfl _ rfl rfl (heap_alloc_new _ _) ?_))
        rw [show (Obj.cells #[Value.int IntKind.u8 0, Value.int IntKind.u8 0, Value.int IntKind.u8 0, Value.int IntKind.u8 0, Value.int IntKind.u8 0, Value.int IntKind.u8 0, Value.int IntKind.u8 0, Value.int IntKind.u8 0, Value.int IntKind.u8 0, Value.int IntKind.u8 0] 29) = Obj.cells (bC tag0) 29 from rfl]
        have hbx := bel_st w22 (.cells (bC tag0) 29) (bC y.1)
        have FY : Hid (((w22.alloc (.cells (bC tag0) 29)).setRow w22.heap.size (bC y.1)).heap[w22.heap.size]? = some (Obj.cells (bC y.1) 29 (0, 0))) := setRow_at (heap_alloc_new _ _)
        have HSl := ks HSl hbx
        have FL := kp FL hbx
        have RJ := kr RJ hbx
        have HB := bt HB hbx
        clear hbx
        generalize ((w22.alloc (.cells (bC tag0) 29)).setRow w22.heap.size (bC y.1)) = V301 at *
        generalize w22.heap.size = bq at *
        go_upto_region 14 with (first
          | (refine wl_ix rfl 46 29 _ _ rfl Tryd.underlying46 10 sizTag b0 f0 3 cc 2 rfl rfl (by omega) ?_)
          | (refine wl_eB rfl _ rfl b0 (f0 + 2 * 10) y rfl RJ.out.row ?_)
          | (go_at_call 22; (refine (KA.out _ HB.out).mono ?_); rintro e w23 ⟨rfl, hb23⟩; have HSl := ks HSl hb23; have FL := kp FL hb23; have RJ := kr RJ hb23; have FY := kp FY hb23; have HB := bt HB hb23; clear hb23)
          | ((with_reducible refine gate_st 29 _ _ rfl ?_); refine st_T rfl _ _ rfl w23.heap.size (parR y.1) tag0 HLz.out rfl _ rfl rfl (heap_alloc_new _ _) ?_))
        rw [show (Obj.cells #[Value.int IntKind.u8 0, Value.int IntKind.u8 0, Value.int IntKind.u8 0, Value.int IntKind.u8 0, Value.int IntKind.u8 0, Value.int IntKind.u8 0, Value.int IntKind.u8 0, Value.int IntKind.u8 0, Value.int IntKind.u8 0, Value.int IntKind.u8 0] 29) = Obj.cells (bC tag0) 29 from rfl]
        have hbx := bel_st w23 (.cells (bC tag0) 29) (bC (parR y.1))
        have FP : Hid (((w23.alloc (.cells (bC tag0) 29)).setRow w23.heap.size (bC (parR y.1))).heap[w23.heap.size]? = some (Obj.cells (bC (parR y.1)) 29 (0, 0))) := setRow_at (heap_alloc_new _ _)
        have HSl := ks HSl hbx
        have FL := kp FL hbx
        have RJ := kr RJ hbx
        have FY := kp FY hbx
        have HB := bt HB hbx
        clear hbx
        generalize ((w23.alloc (.cells (bC tag0) 29)).setRow w23.heap.size (bC (parR y.1))) = V302 at *
        generalize w23.heap.size = bp at *
        refine wp_region_quiet_below (by kernel_rfl) (by kernel_rfl) ?_
        repeat (first
          | go_big_quiet_skip
          | (with_reducible refine wq_T rfl _ rfl w.heap.size x.1 HL2.out rfl FL.out ?_; simp only [Act.put, List.setIfInBounds_toArray, List.set_cons_zero, List.set_cons_succ])
          | (with_reducible refine wq_T rfl _ rfl bq y.1 HLy.out rfl FY.out ?_; simp only [Act.put, List.setIfInBounds_toArray, List.set_cons_zero, List.set_cons_succ])
          | (with_reducible refine wq_T rfl _ rfl bp (parR y.1) HLz.out rfl FP.out ?_; simp only [Act.put, List.setIfInBounds_toArray, List.set_cons_zero, List.set_cons_succ])
          | (refine wq_ix _ rfl 46 29 _ _ rfl Tryd.underlying46 10 sizTag b0 f0 _ cc 2 rfl rfl (by omega) ?_; simp only [Act.put, List.setIfInBounds_toArray, List.set_cons_zero, List.set_cons_succ])
          | (refine wq_eB rfl _ rfl b0 (f0 + 2 * 10) y y.1 rfl rfl RJ.out.row RJ.out.lt ?_; simp only [Act.put, List.setIfInBounds_toArray, List.set_cons_zero, List.set_cons_succ])
          | go_big_quiet_step (first | (with_reducible exact rg_callB (at2 KB HB) _ _) | (with_reducible exact rg_callB (at2 KC HB) _ _)))
        refine wpQuiet_nil ?_
        rintro _ ⟨⟨dq, osq⟩, rfl⟩
        have hbq := below_regrown V302 dq osq
        have HSl := ks HSl hbq
        have FL := kp FL hbq
        have RJ := kr RJ hbq
        have FY := kp FY hbq
        have FP := kp FP hbq
        have HB := bt HB hbq
        clear hbq
        generalize Sort.grow (redrawn V302 dq) osq = V303 at *
        go_wp2_with fail
        go_roundw
        case rel =>
          exact ⟨_, _, _, _, _, _, _, _, _, _, _, _, _, _, _, _, _, _, _, _, _, _, _, _, _, _, _, _, _, _, _, _, _, _, _, _, _, _, _, _, _, _, _, _, _, _, _, _, _, _, _, _, _, _, _, _, _, _, _, _, _, _, _, _, _, _, _, _, _, _, _, _, _, _, _, _, _, _, _, _, _, _, ⟨3, by omega, rfl, HB.out, HSl.out, FL.out⟩, rfl⟩
        case measure => simp [intOf]
    · have hji : ¬ (j : Int) < 3 := by omega
      go_wp2_with (first
        | (go_at_call 13; (refine (HKn.out _ HB.out).mono ?_); rintro e w9 ⟨rfl, hb9⟩; have HB := bt HB hb9; clear hb9))
      go_ret
      exact ⟨rfl, HB.out⟩
end Go.Proofs.YtnambaiafailaaaDoor
