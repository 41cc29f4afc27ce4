/- tag's Of. -/
import Derived.Test.YtbfefdedjcppaaaGreatDoorRA
namespace Go.Proofs.YtbfefdedjcppaaaGreatDoor
set_option maxRecDepth 100000
set_option maxHeartbeats 4000000
open Go.RowKit
def ofR (b : List UInt8) : List UInt8 := if rightT b then b else tag0
def ofE (b : List UInt8) : Int := if rightT b then 0 else 14
theorem tagOf_any (b : List UInt8) (w : World) (hb : b.length = 10) (hmx : MX w) :
   Calls Tryz.prog 130 #[.agg (bC b)] w fun e w' => e = .returned (.tuple #[.agg (bC (ofR b)), .int .i64 (ofE b)]) ∧ Below w.heap.size w w' := by
 have HRi : Hid (∀ W, Below w.heap.size w W → Calls Tryz.prog 57 #[.agg (bC b)] W fun e w' => e = .returned (.bool (rightT b)) ∧ Below W.heap.size W w') := fun W hW => right_any5 b W hb (hmx.below hW)
 have HOf : Hid (ofR b = (if rightT b then b else tag0) ∧ ofE b = if rightT b then 0 else 14) := ⟨rfl, rfl⟩
 clear hmx
 have H10 := Lib.hid hb
 have HO := Lib.hid (ovl_three b hb)
 have HS0 : Hid (CpSt w b tag0 40 28 (((w.alloc (.cells (bC b) 40)).alloc (.cells (bC tag0) 28)).alloc (.cells (bC tag0) 28))) := CpSt.start w b _ _
 clear hb
 go_enter Tryz.func130, Tryz.ntmps130
 go_upto_region 2 with fail
 rw [show (Obj.cells #[Value.int .u8 0, .int .u8 0, .int .u8 0, .int .u8 0, .int .u8 0, .int .u8 0, .int .u8 0, .int .u8 0, .int .u8 0, .int .u8 0] 28) = Obj.cells (bC tag0) 28 from rfl]
 generalize (((w.alloc (.cells (bC b) 40)).alloc (.cells (bC tag0) 28)).alloc (.cells (bC tag0) 28)) = W1 at *
 go_still_tail 3, (by kernel_rfl)
 refine cp_bytes (w := W1.drew) rfl (.tmp 6) (.tmp 7) rfl (w.heap.size + 1 + 1) 0 3 3 w.heap.size 0 3 10 rfl rfl tag0 _ HS0.out.drew.dst (b.take 3) (by simp [H10.out]) (by have := range_sub (range_whole (w := W1.drew) (g := w.heap.size) (vs := (bC b).toList) (by simpa using HS0.out.drew.src)) 0 3; simpa using this) (by simp [ovl, tag0, H10.out]) ?_
 have HS1 := Lib.hid (CpSt.step (c' := ovl tag0 0 (b.take 3)) HS0.out.drew)
 generalize W1.drew.setRow (w.heap.size + 1 + 1) (bC (ovl tag0 0 (b.take 3))) = W2 at *
 go_wp2_with fail
 go_still_tail 3, (by kernel_rfl)
 refine cp_bytes (w := W2.drew) rfl (.tmp 10) (.tmp 11) rfl (w.heap.size + 1 + 1) 3 4 4 w.heap.size 3 4 7 rfl rfl (ovl tag0 0 (b.take 3)) _ HS1.out.drew.dst ((b.drop 3).take 4) (by simp [H10.out]) (by have := range_sub (range_whole (w := W2.drew) (g := w.heap.size) (vs := (bC b).toList) (by simpa using HS1.out.drew.src)) 3 4; simpa using this) (by simp [ovl, tag0, H10.out]) ?_
 have HS2 := Lib.hid (CpSt.step (c' := ovl (ovl tag0 0 (b.take 3)) 3 ((b.drop 3).take 4)) HS1.out.drew)
 generalize W2.drew.setRow (w.heap.size + 1 + 1) (bC (ovl (ovl tag0 0 (b.take 3)) 3 ((b.drop 3).take 4))) = W3 at *
 go_wp2_with fail
 go_still_tail 3, (by kernel_rfl)
 refine cp_bytes (w := W3.drew) rfl (.tmp 14) (.tmp 15) rfl (w.heap.size + 1 + 1) 7 3 3 w.heap.size 7 3 3 rfl rfl (ovl (ovl tag0 0 (b.take 3)) 3 ((b.drop 3).take 4)) _ HS2.out.drew.dst ((b.drop 7).take 3) (by simp [H10.out]) (by have := range_sub (range_whole (w := W3.drew) (g := w.heap.size) (vs := (bC b).toList) (by simpa using HS2.out.drew.src)) 7 3; simpa using this) (by simp [ovl, tag0, H10.out]) ?_
 have HS3 := Lib.hid (CpSt.step (c' := ovl (ovl (ovl tag0 0 (b.take 3)) 3 ((b.drop 3).take 4)) 7 ((b.drop 7).take 3)) HS2.out.drew)
 generalize W3.drew.setRow (w.heap.size + 1 + 1) (bC (ovl (ovl (ovl tag0 0 (b.take 3)) 3 ((b.drop 3).take 4)) 7 ((b.drop 7).take 3))) = W4 at *
 have e7 : (b.drop 7).take 3 = b.drop 7 := List.take_of_length_le (by simp [H10.out])
 rw [e7, HO.out] at HS3
 clear HS0 HS1 HS2 HO e7
 obtain ⟨r, hr, hr2⟩ := HS3.out.res
 have HG0 := Lib.hid HS3.out.dst
 have HG1 := Lib.hid hr2
 have HR := Lib.hid hr
 have HB0 := Lib.hid HS3.out.bel
 clear hr hr2 HS3
 have HZ : Hid (tag0.length = 10) := rfl
 cases hr : rightT b
 · rw [hr] at HRi HOf
   go_wp2_with (first
     | (with_reducible refine ld_T rfl _ rfl (w.heap.size + 1 + 1) b H10.out rfl HG0.out ?_)
     | (go_at_call 57; (refine (HRi.out _ HB0.out).mono ?_); rintro e w1 ⟨rfl, hb1⟩; have HB1 := Lib.hid (HB0.out.trans (hb1.mono HB0.out.size)); have HA1 : Hid (w1.heap[w.heap.size + 1]? = some (.cells (bC r) 28 (0, 0))) := (by (show _ = _; rw [hb1.block _ (lt_heap HG1.out)]; exact HG1.out)); clear hb1)
     | ((with_reducible refine gate_st 28 _ _ rfl ?_); refine st_T rfl _ _ rfl (w.heap.size + 1) tag0 r rfl HR.out _ rfl rfl HA1.out ?_))
   refine bodyPost_ret (res_rowc_tmp (P := Tryz.prog) (T := 28) (T' := 28) (t := 3) rfl _ _ (w.heap.size + 1) (bC tag0) (0, 0) rfl (setRow_at HA1.out) Tryz.underlying28 rfl (by rw [sizTag, bC_size]; exact congrArg some HZ.out.symm)) rfl ⟨?_, setRow_below HB1.out (by omega) _⟩
   rw [HOf.out.1, HOf.out.2]; rfl
 · rw [hr] at HRi HOf
   go_wp2_with (first
     | (with_reducible refine ld_T rfl _ rfl (w.heap.size + 1 + 1) b H10.out rfl HG0.out ?_)
     | (go_at_call 57; (refine (HRi.out _ HB0.out).mono ?_); rintro e w1 ⟨rfl, hb1⟩; have HB1 := Lib.hid (HB0.out.trans (hb1.mono HB0.out.size)); have HA0 : Hid (w1.heap[w.heap.size + 1 + 1]? = some (.cells (bC b) 28 (0, 0))) := (by (show _ = _; rw [hb1.block _ (lt_heap HG0.out)]; exact HG0.out)); have HA1 : Hid (w1.heap[w.heap.size + 1]? = some (.cells (bC r) 28 (0, 0))) := (by (show _ = _; rw [hb1.block _ (lt_heap HG1.out)]; exact HG1.out)); clear hb1)
     | (with_reducible refine ld_T rfl _ rfl (w.heap.size + 1 + 1) b H10.out rfl HA0.out ?_)
     | ((with_reducible refine gate_st 28 _ _ rfl ?_); refine st_T rfl _ _ rfl (w.heap.size + 1) b r H10.out HR.out _ rfl rfl HA1.out ?_))
   refine bodyPost_ret (res_rowc_tmp (P := Tryz.prog) (T := 28) (T' := 28) (t := 3) rfl _ _ (w.heap.size + 1) (bC b) (0, 0) rfl (setRow_at HA1.out) Tryz.underlying28 rfl (by rw [sizTag, bC_size]; exact congrArg some H10.out.symm)) rfl ⟨?_, setRow_below HB1.out (by omega) _⟩
   rw [HOf.out.1, HOf.out.2]; rfl
end Go.Proofs.YtbfefdedjcppaaaGreatDoor
