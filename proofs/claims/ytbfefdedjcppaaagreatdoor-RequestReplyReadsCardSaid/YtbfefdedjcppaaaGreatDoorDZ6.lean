/- The document's Parse. -/
import Derived.Test.YtbfefdedjcppaaaGreatDoorDY6
import Derived.Test.YtbfefdedjcppaaaGreatDoorPB6
namespace Go.Proofs.YtbfefdedjcppaaaGreatDoor
set_option maxRecDepth 100000
set_option maxHeartbeats 16000000
open Go.RowKit Go.Deep
theorem kN_le7 (e : Nat) (l : List UInt8) : kN e l ≤ l.length := by
 unfold kN; split
 · exact Nat.zero_le _
 · exact byteK_le l
theorem kT_le7 (m e : Nat) (l : List UInt8) : kT m e l ≤ l.length := by
 unfold kT; split
 · exact Nat.zero_le _
 · exact textN_le m l
theorem kM_le7 (m e : Nat) (l : List UInt8) : kM m e l ≤ l.length := by
 unfold kM; split
 · exact Nat.zero_le _
 · exact numK_le m l
theorem sizRy26 : (Tryz.prog.info? 72).map (·.size) = some 15 := by kernel_rfl
theorem sizIn26 : (Tryz.prog.info? 103).map (·.size) = some 2 := by kernel_rfl
theorem bldIn1 (q : Option Addr) (n c : Nat) : Tryz.prog.built 101 [(0, .slice q n c)] = some #[.slice q n c, .int .i64 0] := by kernel_rfl
theorem bldIn2 (q : Option Addr) (n c : Nat) : Tryz.prog.built 103 [(0, .agg #[.slice q n c, .int .i64 0])] = some #[.slice q n c, .int .i64 0] := by kernel_rfl
theorem bldF3 : Tryz.prog.built 134 [(0, .int .i64 3), (1, .int .u64 4294967295)] = some #[.int .i64 3, .int .u64 4294967295, .string ⟨#[]⟩] := by kernel_rfl
theorem bldF4 : Tryz.prog.built 134 [(0, .int .i64 3), (1, .int .u64 18446744073709551615)] = some #[.int .i64 3, .int .u64 18446744073709551615, .string ⟨#[]⟩] := by kernel_rfl
theorem bldRy26 : Tryz.prog.built 72 [] = some (ryC zeroR (.slice none 0 0)).toArray := by kernel_rfl
def DaP (l : List UInt8) (w : World) (e : Ending) (w' : World) : Prop := ∃ v, e = .returned (.tuple #[.agg (ryC (dpD l) v).toArray, .int .i64 (dpE l : Nat)]) ∧ OwnE evD 79 28 w' w.heap.size v (dpV l) ∧ Below w.heap.size w w'
theorem refParse26_any (q : Option Addr) (n c : Nat) (l : List UInt8) (w : World) (h : RdOk w q n c l) : Calls Tryz.prog 16 #[.slice q n c] w (DaP l w) := by
 have HS0 : Hid (DaSt w (((w.alloc (.cells (ryC zeroR (.slice none 0 0)).toArray 72)).alloc (.cells #[.slice q n c, .int .i64 ((0 : Nat) : Int)] 103)).alloc (.cells (ryC zeroR (.slice none 0 0)).toArray 72)) zeroR l 0 (.slice none 0 0)) := by
   have e1 := heap_alloc2_old w (.cells (ryC zeroR (.slice none 0 0)).toArray 72) (.cells #[.slice q n c, .int .i64 ((0 : Nat) : Int)] 103)
   have e2 := heap_alloc2_new w (.cells (ryC zeroR (.slice none 0 0)).toArray 72) (.cells #[.slice q n c, .int .i64 ((0 : Nat) : Int)] 103)
   have eb := below_alloc2 w (.cells (ryC zeroR (.slice none 0 0)).toArray 72) (.cells #[.slice q n c, .int .i64 ((0 : Nat) : Int)] 103)
   have es : ((w.alloc (.cells (ryC zeroR (.slice none 0 0)).toArray 72)).alloc (.cells #[.slice q n c, .int .i64 ((0 : Nat) : Int)] 103)).heap.size = w.heap.size + 2 := by simp
   generalize (w.alloc (.cells (ryC zeroR (.slice none 0 0)).toArray 72)).alloc (.cells #[.slice q n c, .int .i64 ((0 : Nat) : Int)] 103) = V at *
   refine ⟨eb.alloc (by omega) _, ?_, ⟨q, n, c, ?_, h⟩, ?_⟩
   · rw [heap_alloc_old _ _ (by omega)]; exact e1
   · rw [heap_alloc_old _ _ (by omega)]; exact e2
   · rw [← es]; exact heap_alloc_new _ _
 have HDE : Hid (dpE l = if (dL l).e = 0 ∧ 0 < (dL l).l.length then 3 else (dL l).e) := rfl
 have HDD : Hid (dpD l = if dpE l = 0 then (dF l).d else zeroR) := rfl
 have HDV : Hid (dpV l = if dpE l = 0 then (dL l).evs else []) := rfl
 have HDL : Hid (dL l = ldN (vN (dF l).e (dF l).l) (dM (dF l))) := rfl
 have HDF : Hid (dF l = ddN (ddSt (ddTag (ddText (ddErr ⟨zeroR, l, 0⟩))))) := rfl
 clear h
 go_enter Tryz.func16, Tryz.ntmps16
 go_upto_region 3 with (first
   | ((with_reducible refine gate_bd 101 _ rfl ?_); refine wl_bd rfl _ [(0, .tmp 21)] rfl [(0, .slice q n c)] rfl #[.slice q n c, .int .i64 0] (bldIn1 q n c) ?_)
   | ((with_reducible refine gate_bd 103 _ rfl ?_); refine wl_bd rfl _ [(0, .tmp 22)] rfl [(0, .agg #[.slice q n c, .int .i64 0])] rfl #[.slice q n c, .int .i64 0] (bldIn2 q n c) ?_)
   | ((with_reducible refine gate_st 103 _ _ rfl ?_); refine wl_strn rfl _ _ _ rfl #[.slice q n c, .int .i64 ((0 : Nat) : Int)] #[Value.slice none 0 0, Value.int IntKind.i64 0] _ (by rw [sizIn26]; rfl) rfl (by rw [← Array.all_toList]; rfl) (by simp [Act.eval]) rfl ?_))
 rw [show (Obj.cells #[Value.int .i64 0, Value.string ⟨#[]⟩, .int .u8 0, .int .u8 0, .int .u8 0, .int .u8 0, .int .u8 0, .int .u8 0, .int .u8 0, .int .u8 0, .int .u8 0, .int .u8 0, .int .i64 0, .int .i64 0, Value.slice none 0 0] 72) = Obj.cells (ryC zeroR (.slice none 0 0)).toArray 72 from rfl]
 simp only [Nat.add_assoc, Nat.reduceAdd]
 generalize (((w.alloc (.cells (ryC zeroR (.slice none 0 0)).toArray 72)).alloc (.cells #[.slice q n c, .int .i64 ((0 : Nat) : Int)] 103)).alloc (.cells (ryC zeroR (.slice none 0 0)).toArray 72)) = W1 at *
 obtain ⟨x0, hx0⟩ : ∃ x : DD, x = ⟨zeroR, l, 0⟩ := ⟨_, rfl⟩
 have HS : Hid (DaSt w W1 x0.d x0.l x0.e (.slice none 0 0)) := by rw [hx0]; exact HS0
 rw [← hx0] at HDF
 clear hx0 HS0
 obtain ⟨q0, n0, c0, hi, hr⟩ := HS.out.in_
 have HI := Lib.hid hi
 have HR := Lib.hid hr
 have HRd := Lib.hid (hr.below HS.out.bel)
 have hln : x0.l.length = n0 := hr.ln
 clear hi hr
 have KN := Lib.hid (inNumber_any q0 n0 c0 x0.e 0 255 0 x0.l _ HRd.out)
 go_upto_region 4 with (first
   | ((with_reducible refine gate_ld 103 _ rfl ?_); refine wl_ldr rfl 103 _ rfl (w.heap.size + 1) 0 [.slice q0 n0 c0, .int .i64 (x0.e : Int)] _ Tryz.underlying103 rfl (by rw [sizIn26]; rfl) rfl (range_whole HI.out) ?_)
   | (go_at_call 32; (refine KN.out.mono ?_); rintro e W7 ⟨rfl, hb⟩; have HI2 := Lib.hid ((hb.block _ (lt_heap HI.out)).trans HI.out); have HS := Lib.hid (HS.out.below hb); clear hb)
   | ((with_reducible refine gate_st 103 _ _ rfl ?_); refine wl_strG rfl 103 _ _ rfl (w.heap.size + 1) #[.slice (tq q0 c0 (kN x0.e x0.l)) (n0 - kN x0.e x0.l) (c0 - kN x0.e x0.l), .int .i64 ((numIE 0 255 0 x0.e x0.l : Nat) : Int)] #[.slice q0 n0 c0, .int .i64 (x0.e : Int)] 103 (by rw [sizIn26]; rfl) rfl (by rw [← Array.all_toList]; rfl) rfl (by first | rfl | simp [Act.eval, Act.put]) HI2.out (fun W8 h1 h2 => ?_); have HS := Lib.hid (HS.out.setIn h1 h2 (HR.out.tail ((by rw [← hln]; exact kN_le7 _ _)))); clear h1 h2; try simp only [Act.put])
   | ((with_reducible refine gate_st 3 _ _ rfl ?_); refine wl_st1G rfl 3 siz3n _ _ rfl (w.heap.size + 2) 0 (.int .i64 (vN x0.e x0.l : Nat)) (by first | rfl | simp [Act.eval, Act.put]) (by first | rfl | simp [Act.eval, Act.put]) rfl (ryC x0.d (.slice none 0 0)) (ryC ({ x0.d with err := (vN x0.e x0.l : Nat) }) (.slice none 0 0)) 72 HS.out.r_ (by rw [ryC_len]; decide) (rfl) (fun W9 h1 h2 => ?_); have HS := Lib.hid (HS.out.setR h1 h2); clear h1 h2; try simp only [Act.put]))
 have HSn : Hid (DaSt w W9 (ddErr x0).d (ddErr x0).l (ddErr x0).e (.slice none 0 0)) := HS
 clear HS HI HI2 HR HRd hln KN
 have HS := Lib.hid HSn.out
 clear HSn
 generalize ddErr x0 = x1 at *
 obtain ⟨q1, n1, c1, hi, hr⟩ := HS.out.in_
 have HI := Lib.hid hi
 have HR := Lib.hid hr
 have HRd := Lib.hid (hr.below HS.out.bel)
 have hln : x1.l.length = n1 := hr.ln
 clear hi hr
 have KN := Lib.hid (inText_any q1 n1 c1 x1.e 1200 x1.l _ HRd.out (by decide))
 go_upto_region 5 with (first
   | ((with_reducible refine gate_ld 103 _ rfl ?_); refine wl_ldr rfl 103 _ rfl (w.heap.size + 1) 0 [.slice q1 n1 c1, .int .i64 (x1.e : Int)] _ Tryz.underlying103 rfl (by rw [sizIn26]; rfl) rfl (range_whole HI.out) ?_)
   | (go_at_call 53; (refine KN.out.mono ?_); rintro e W7 ⟨rfl, hb⟩; have HI2 := Lib.hid ((hb.block _ (lt_heap HI.out)).trans HI.out); have HS := Lib.hid (HS.out.below hb); clear hb)
   | ((with_reducible refine gate_st 103 _ _ rfl ?_); refine wl_strG rfl 103 _ _ rfl (w.heap.size + 1) #[.slice (tq q1 c1 (kT 1200 x1.e x1.l)) (n1 - kT 1200 x1.e x1.l) (c1 - kT 1200 x1.e x1.l), .int .i64 ((eT 1200 x1.e x1.l : Nat) : Int)] #[.slice q1 n1 c1, .int .i64 (x1.e : Int)] 103 (by rw [sizIn26]; rfl) rfl (by rw [← Array.all_toList]; rfl) rfl (by first | rfl | simp [Act.eval, Act.put]) HI2.out (fun W8 h1 h2 => ?_); have HS := Lib.hid (HS.out.setIn h1 h2 (HR.out.tail ((by rw [← hln]; exact kT_le7 _ _ _)))); clear h1 h2; try simp only [Act.put])
   | ((with_reducible refine gate_st 9 _ _ rfl ?_); refine wl_st1G rfl 9 siz9n _ _ rfl (w.heap.size + 2) 1 (.string ⟨(sT 1200 x1.e x1.l).toArray⟩) (by first | rfl | simp [Act.eval, Act.put]) (by first | rfl | simp [Act.eval, Act.put]) rfl (ryC x1.d (.slice none 0 0)) (ryC ({ x1.d with text := ⟨(sT 1200 x1.e x1.l).toArray⟩ }) (.slice none 0 0)) 72 HS.out.r_ (by rw [ryC_len]; decide) (rfl) (fun W9 h1 h2 => ?_); have HS := Lib.hid (HS.out.setR h1 h2); clear h1 h2; try simp only [Act.put]))
 have HSn : Hid (DaSt w W9 (ddText x1).d (ddText x1).l (ddText x1).e (.slice none 0 0)) := HS
 clear HS HI HI2 HR HRd hln KN
 have HS := Lib.hid HSn.out
 clear HSn
 generalize ddText x1 = x2 at *
 obtain ⟨q2, n2, c2, hi, hr⟩ := HS.out.in_
 have HI := Lib.hid hi
 have HR := Lib.hid hr
 have HRd := Lib.hid (hr.below HS.out.bel)
 have hln : x2.l.length = n2 := hr.ln
 clear hi hr
 have KN := Lib.hid (inTag_any q2 n2 c2 x2.e x2.l _ HRd.out)
 go_upto_region 6 with (first
   | ((with_reducible refine gate_ld 103 _ rfl ?_); refine wl_ldr rfl 103 _ rfl (w.heap.size + 1) 0 [.slice q2 n2 c2, .int .i64 (x2.e : Int)] _ Tryz.underlying103 rfl (by rw [sizIn26]; rfl) rfl (range_whole HI.out) ?_)
   | (go_at_call 54; (refine KN.out.mono ?_); rintro e W7 ⟨rfl, hb⟩; have HI2 := Lib.hid ((hb.block _ (lt_heap HI.out)).trans HI.out); have HS := Lib.hid (HS.out.below hb); clear hb)
   | ((with_reducible refine gate_st 103 _ _ rfl ?_); refine wl_strG rfl 103 _ _ rfl (w.heap.size + 1) #[.slice (tq q2 c2 (kT 12 x2.e x2.l)) (n2 - kT 12 x2.e x2.l) (c2 - kT 12 x2.e x2.l), .int .i64 ((tagIE x2.e x2.l : Nat) : Int)] #[.slice q2 n2 c2, .int .i64 (x2.e : Int)] 103 (by rw [sizIn26]; rfl) rfl (by rw [← Array.all_toList]; rfl) rfl (by first | rfl | simp [Act.eval, Act.put]) HI2.out (fun W8 h1 h2 => ?_); have HS := Lib.hid (HS.out.setIn h1 h2 (HR.out.tail ((by rw [← hln]; exact kT_le7 _ _ _)))); clear h1 h2; try simp only [Act.put])
   | ((with_reducible refine gate_st 40 _ _ rfl ?_); refine wl_stR rfl 40 _ _ rfl (w.heap.size + 2) 2 (bC (tagIV x2.e x2.l)).toList (by rw [siz10A]; simp [bC, tagIV_len]) rfl (by first | rfl | simp [Act.eval, Act.put]) (bC_oneL _) (ryC x2.d (.slice none 0 0)) 72 HS.out.r_ (by rw [ryC_len]; simp [bC, tagIV_len]) (fun W9 h1 h2 => ?_); have HS : Hid (DaSt w W9 { x2.d with tag := tagIV x2.e x2.l, lt := tagIV_len _ _ } (x2.l.drop (kT 12 x2.e x2.l)) (tagIE x2.e x2.l) (.slice none 0 0)) := HS.out.setR (by rw [ry_tag _ _ _ (tagIV_len _ _)] at h1; exact h1) h2; clear h1 h2; try simp only [Act.put]))
 have HSn : Hid (DaSt w W9 (ddTag x2).d (ddTag x2).l (ddTag x2).e (.slice none 0 0)) := HS
 clear HS HI HI2 HR HRd hln KN
 have HS := Lib.hid HSn.out
 clear HSn
 generalize ddTag x2 = x3 at *
 obtain ⟨q3, n3, c3, hi, hr⟩ := HS.out.in_
 have HI := Lib.hid hi
 have HR := Lib.hid hr
 have HRd := Lib.hid (hr.below HS.out.bel)
 have hln : x3.l.length = n3 := hr.ln
 clear hi hr
 have KN := Lib.hid (inNumber_any q3 n3 c3 x3.e 0 255 0 x3.l _ HRd.out)
 go_upto_region 7 with (first
   | ((with_reducible refine gate_ld 103 _ rfl ?_); refine wl_ldr rfl 103 _ rfl (w.heap.size + 1) 0 [.slice q3 n3 c3, .int .i64 (x3.e : Int)] _ Tryz.underlying103 rfl (by rw [sizIn26]; rfl) rfl (range_whole HI.out) ?_)
   | (go_at_call 32; (refine KN.out.mono ?_); rintro e W7 ⟨rfl, hb⟩; have HI2 := Lib.hid ((hb.block _ (lt_heap HI.out)).trans HI.out); have HS := Lib.hid (HS.out.below hb); clear hb)
   | ((with_reducible refine gate_st 103 _ _ rfl ?_); refine wl_strG rfl 103 _ _ rfl (w.heap.size + 1) #[.slice (tq q3 c3 (kN x3.e x3.l)) (n3 - kN x3.e x3.l) (c3 - kN x3.e x3.l), .int .i64 ((numIE 0 255 0 x3.e x3.l : Nat) : Int)] #[.slice q3 n3 c3, .int .i64 (x3.e : Int)] 103 (by rw [sizIn26]; rfl) rfl (by rw [← Array.all_toList]; rfl) rfl (by first | rfl | simp [Act.eval, Act.put]) HI2.out (fun W8 h1 h2 => ?_); have HS := Lib.hid (HS.out.setIn h1 h2 (HR.out.tail ((by rw [← hln]; exact kN_le7 _ _)))); clear h1 h2; try simp only [Act.put])
   | ((with_reducible refine gate_st 3 _ _ rfl ?_); refine wl_st1G rfl 3 siz3n _ _ rfl (w.heap.size + 2) 12 (.int .i64 (vN x3.e x3.l : Nat)) (by first | rfl | simp [Act.eval, Act.put]) (by first | rfl | simp [Act.eval, Act.put]) rfl (ryC x3.d (.slice none 0 0)) (ryC ({ x3.d with st := (vN x3.e x3.l : Nat) }) (.slice none 0 0)) 72 HS.out.r_ (by rw [ryC_len]; decide) (ry_st _ _ _) (fun W9 h1 h2 => ?_); have HS := Lib.hid (HS.out.setR h1 h2); clear h1 h2; try simp only [Act.put]))
 have HSn : Hid (DaSt w W9 (ddSt x3).d (ddSt x3).l (ddSt x3).e (.slice none 0 0)) := HS
 clear HS HI HI2 HR HRd hln KN
 have HS := Lib.hid HSn.out
 clear HSn
 generalize ddSt x3 = x4 at *
 obtain ⟨q4, n4, c4, hi, hr⟩ := HS.out.in_
 have HI := Lib.hid hi
 have HR := Lib.hid hr
 have HRd := Lib.hid (hr.below HS.out.bel)
 have hln : x4.l.length = n4 := hr.ln
 clear hi hr
 have KN := Lib.hid (rreadM_any q4 n4 c4 x4.e 4294967295 x4.l _ HRd.out (by decide))
 have hwr : IntKind.i64.wrap ((vM 4294967295 x4.e x4.l : Nat) : Int) = ((vM 4294967295 x4.e x4.l : Nat) : Int) := by
   have := vM_le 4294967295 x4.e x4.l
   rw [IntKind.wrap_i64]; omega
 go_upto_region 8 with (first
   | ((with_reducible refine gate_ld 101 _ rfl ?_); refine wl_ldr rfl 101 _ rfl (w.heap.size + 1) 0 [.slice q4 n4 c4, .int .i64 (x4.e : Int)] _ Tryz.underlying101 rfl (by rw [sizRdr]; rfl) rfl (range_whole HI.out) ?_)
   | ((with_reducible refine gate_bd 134 _ rfl ?_); refine wl_bd rfl _ [(0, .const (.int .i64 3)), (1, .const (.int .u64 4294967295))] rfl [(0, .int .i64 3), (1, .int .u64 4294967295)] rfl #[.int .i64 3, .int .u64 4294967295, .string ⟨#[]⟩] bldF3 ?_)
   | (go_at_call 55; (refine KN.out.mono ?_); rintro e W7 ⟨rfl, hb⟩; have HI2 := Lib.hid ((hb.block _ (lt_heap HI.out)).trans HI.out); have HS2 := Lib.hid (HS.out.below hb); clear hb)
   | ((with_reducible refine gate_st 101 _ _ rfl ?_); refine wl_strn rfl _ _ _ rfl #[.slice (tq q4 c4 (kM 4294967295 x4.e x4.l)) (n4 - kM 4294967295 x4.e x4.l) (c4 - kM 4294967295 x4.e x4.l), .int .i64 ((eM 4294967295 x4.e x4.l : Nat) : Int)] #[Value.slice none 0 0, Value.int IntKind.i64 0] _ (by rw [sizRdr]; rfl) rfl (by rw [← Array.all_toList]; rfl) (by simp [Act.eval]) rfl ?_))
 have HGr : Hid ((W7.alloc (.cells #[.slice (tq q4 c4 (kM 4294967295 x4.e x4.l)) (n4 - kM 4294967295 x4.e x4.l) (c4 - kM 4294967295 x4.e x4.l), .int .i64 ((eM 4294967295 x4.e x4.l : Nat) : Int)] 101)).heap[W7.heap.size]? = some (.cells #[.slice (tq q4 c4 (kM 4294967295 x4.e x4.l)) (n4 - kM 4294967295 x4.e x4.l) (c4 - kM 4294967295 x4.e x4.l), .int .i64 ((eM 4294967295 x4.e x4.l : Nat) : Int)] 101 (0, 0))) := heap_alloc_new _ _
 have HS3 := Lib.hid (HS2.out.below (below_alloc1 W7 (.cells #[.slice (tq q4 c4 (kM 4294967295 x4.e x4.l)) (n4 - kM 4294967295 x4.e x4.l) (c4 - kM 4294967295 x4.e x4.l), .int .i64 ((eM 4294967295 x4.e x4.l : Nat) : Int)] 101)))
 have HI3 := Lib.hid (((below_alloc1 W7 (.cells #[.slice (tq q4 c4 (kM 4294967295 x4.e x4.l)) (n4 - kM 4294967295 x4.e x4.l) (c4 - kM 4294967295 x4.e x4.l), .int .i64 ((eM 4294967295 x4.e x4.l : Nat) : Int)] 101)).block _ (lt_heap HI2.out)).trans HI2.out)
 clear HS HI HI2 HS2 HRd KN
 go_upto_region 10 with (first
   | ((with_reducible refine gate_ld 101 _ rfl ?_); refine wl_ldr rfl 101 _ rfl W7.heap.size 0 [.slice (tq q4 c4 (kM 4294967295 x4.e x4.l)) (n4 - kM 4294967295 x4.e x4.l) (c4 - kM 4294967295 x4.e x4.l), .int .i64 ((eM 4294967295 x4.e x4.l : Nat) : Int)] _ Tryz.underlying101 rfl (by rw [sizRdr]; rfl) rfl (range_whole HGr.out) ?_)
   | ((with_reducible refine gate_st 101 _ _ rfl ?_); refine wl_strG rfl 101 _ _ rfl (w.heap.size + 1) #[.slice (tq q4 c4 (kM 4294967295 x4.e x4.l)) (n4 - kM 4294967295 x4.e x4.l) (c4 - kM 4294967295 x4.e x4.l), .int .i64 ((eM 4294967295 x4.e x4.l : Nat) : Int)] #[.slice q4 n4 c4, .int .i64 (x4.e : Int)] 103 (by rw [sizRdr]; rfl) rfl (by rw [← Array.all_toList]; rfl) rfl (by first | rfl | simp [Act.eval, Act.put]) HI3.out (fun W8 h1 h2 => ?_); have HS := Lib.hid (HS3.out.setIn h1 h2 (HR.out.tail (by rw [← hln]; exact kM_le7 _ _ _))); clear h1 h2; try simp only [Act.put])
   | ((with_reducible refine gate_st 3 _ _ rfl ?_); refine wl_st1G rfl 3 siz3n _ _ rfl (w.heap.size + 2) 13 (.int .i64 (vM 4294967295 x4.e x4.l : Nat)) (by first | rfl | simp [Act.eval, Act.put]) (by first | rfl | simp [Act.eval, Act.put]) rfl (ryC x4.d (.slice none 0 0)) (ryC ({ x4.d with n := (vM 4294967295 x4.e x4.l : Nat) }) (.slice none 0 0)) 72 HS.out.r_ (by rw [ryC_len]; decide) (ry_n _ _ _) (fun W9 h1 h2 => ?_); have HS := Lib.hid (HS.out.setR h1 h2); clear h1 h2; try simp only [Act.put]))
 have HSn : Hid (DaSt w W9 (ddN x4).d (ddN x4).l (ddN x4).e (.slice none 0 0)) := HS
 clear HS HR hln hwr HS3 HI3 HGr
 have HS := Lib.hid HSn.out
 clear HSn
 rw [← HDF.out] at HS
 clear HDF
 generalize dF l = xf at *
 obtain ⟨q5, n5, c5, hi, hr⟩ := HS.out.in_
 have HI := Lib.hid hi
 have HR := Lib.hid hr
 have HRd := Lib.hid (hr.below HS.out.bel)
 have hln : xf.l.length = n5 := hr.ln
 clear hi hr
 have KN := Lib.hid (inNumber_any q5 n5 c5 xf.e 0 16 2 xf.l _ HRd.out)
 go_upto_region 11 with (first
   | ((with_reducible refine gate_ld 103 _ rfl ?_); refine wl_ldr rfl 103 _ rfl (w.heap.size + 1) 0 [.slice q5 n5 c5, .int .i64 (xf.e : Int)] _ Tryz.underlying103 rfl (by rw [sizIn26]; rfl) rfl (range_whole HI.out) ?_)
   | (go_at_call 32; (refine KN.out.mono ?_); rintro e W7 ⟨rfl, hb⟩; have HI2 := Lib.hid ((hb.block _ (lt_heap HI.out)).trans HI.out); have HS := Lib.hid (HS.out.below hb); clear hb)
   | ((with_reducible refine gate_st 103 _ _ rfl ?_); refine wl_strG rfl 103 _ _ rfl (w.heap.size + 1) #[.slice (tq q5 c5 (kN xf.e xf.l)) (n5 - kN xf.e xf.l) (c5 - kN xf.e xf.l), .int .i64 ((numIE 0 16 2 xf.e xf.l : Nat) : Int)] #[.slice q5 n5 c5, .int .i64 (xf.e : Int)] 103 (by rw [sizIn26]; rfl) rfl (by rw [← Array.all_toList]; rfl) rfl (by first | rfl | simp [Act.eval, Act.put]) HI2.out (fun W8 h1 h2 => ?_); have HS := Lib.hid (HS.out.setIn h1 h2 (HR.out.tail ((by rw [← hln]; exact kN_le7 _ _)))); clear h1 h2; try simp only [Act.put]))
 have HSn : Hid (DaSt w W8 xf.d (dM xf).l (dM xf).e (.slice none 0 0)) := HS
 clear HS HI HI2 HR HRd hln KN
 have hvl : vN xf.e xf.l ≤ 255 := by
   unfold vN
   split
   · exact Nat.zero_le _
   · have := byteV_lt xf.l; omega
 have HEv0 : Hid ((dM xf).evs = []) := rfl
 generalize vN xf.e xf.l = N at *
 generalize dM xf = s0 at *
 go_wp2_with fail
 go_loopw [10, 11, 12, 13, 14, 15, 16, 17, 18, 19] (fun i s11 s12 s13 s14 s15 s16 s17 s18 s19 wr => (∃ u : Value, s11 = u) ∧ (∃ u : Value, s12 = u) ∧ (∃ u : Value, s13 = u) ∧ (∃ u : Value, s14 = u) ∧ (∃ u : Value, s15 = u) ∧ (∃ u : Value, s16 = u) ∧ (∃ u : Value, s17 = u) ∧ (∃ u : Value, s18 = u) ∧ (∃ u : Value, s19 = u) ∧ ∃ (k : Nat) (v : Value), k ≤ N ∧ i = .int .i64 (k : Int) ∧ Hid (DaSt w wr xf.d (ldN k s0).l (ldN k s0).e v) ∧ Hid (OwnE evD 79 28 wr (w.heap.size + 3) v (ldN k s0).evs)) (fun i _ _ _ _ _ _ _ _ _ _ => N - (intOf i).toNat)
 case atStart => exact ⟨⟨_, rfl⟩, ⟨_, rfl⟩, ⟨_, rfl⟩, ⟨_, rfl⟩, ⟨_, rfl⟩, ⟨_, rfl⟩, ⟨_, rfl⟩, ⟨_, rfl⟩, ⟨_, rfl⟩, 0, _, Nat.zero_le _, rfl, HSn.out, (by show OwnE _ _ _ _ _ _ s0.evs; rw [HEv0.out]; exact OwnE.nil _ _)⟩
 case round =>
   obtain ⟨_, _, _, _, _, _, _, _, _, k, v, hk, rfl, HSa, HOa⟩ := hrel
   clear HSn
   by_cases hlt : k < N
   · have hlt' : (k : Int) < (N : Int) := by omega
     by_cases he : (ldN k s0).e = 0
     · skip
       rw [he] at HSa
       have HST : Hid (ldN (k + 1) s0 = ⟨(ldN k s0).evs ++ [dEv (ldN k s0).l], dkL3 (ldN k s0).l, dkE3 (ldN k s0).l⟩) := by show ldStep (ldN k s0) = _; unfold ldStep; rw [if_pos he]
       have HEL := Lib.hid (ldN_len HEv0.out k)
       have hce : wr.cell? ⟨w.heap.size + 1, 1, none⟩ = some (.int .i64 0) := by
         obtain ⟨q7, n7, c7, hi, _⟩ := HSa.out.in_
         rw [cell_blk hi]; rfl
       clear he
       generalize (ldN k s0).evs = es at *
       generalize (ldN k s0).l = ls at *
       have HL3 : Hid (dkL3 ls = if vN 0 ls = 2 then (dA ls).l else dkL (dA ls).e (dA ls).l 25) := rfl
       have HE3 : Hid (dkE3 ls = if vN 0 ls = 2 then (dA ls).e else if dkE (dA ls).e (dA ls).l 25 = 0 ∧ rightK (dkKey ls) = false then 3 else dkE (dA ls).e (dA ls).l 25) := rfl
       have HKy : Hid (dkKey ls = if vN 0 ls = 2 then zeros25 else dkB (dA ls).e (dA ls).l 25) := rfl
       have HEvd : Hid (∀ (ky : List UInt8) (h : ky.length = 25), ky = dkKey ls → dEv ls = ⟨(dAt ls : Nat), ky, vN 0 ls == 1, vN 0 ls == 2, h⟩) := fun ky h e => by subst e; rfl
       have HAl : Hid ((dA ls).l = (dK0 ls).l.drop (kM 18446744073709551615 (dK0 ls).e (dK0 ls).l) ∧ (dA ls).e = eM 18446744073709551615 (dK0 ls).e (dK0 ls).l ∧ dAt ls = vM 18446744073709551615 (dK0 ls).e (dK0 ls).l) := ⟨rfl, rfl, rfl⟩
       have HB0 := Lib.hid (DbSt.start HSa.out HOa.out)
       go_upto_region 16 with fail
       rw [show (Obj.cells #[Value.int .u64 0, .int .i64 0, .int .i64 0, .int .i64 0, .int .u8 0, .int .u8 0, .int .u8 0, .int .u8 0, .int .u8 0, .int .u8 0, .int .u8 0, .int .u8 0, .int .u8 0, .int .u8 0, .int .u8 0, .int .u8 0, .int .u8 0, .int .u8 0, .int .u8 0, .int .u8 0, .int .u8 0, .int .u8 0, .int .u8 0, .int .u8 0, .int .u8 0, .int .u8 0, Value.bool false, Value.bool false] 79) = Obj.cells (evD evZd).toArray 79 from rfl]
       generalize wr.alloc (.cells (evD evZd).toArray 79) = W10 at *
       generalize wr.heap.size = g at *
       clear HSa HOa hce
       obtain ⟨q8, n8, c8, hi, hr⟩ := HB0.out.s.in_
       have HI := Lib.hid hi
       have HR := Lib.hid hr
       have KN := Lib.hid (inNumber_any q8 n8 c8 0 0 2 3 ls W10 (hr.below HB0.out.s.bel))
       have hln : ls.length = n8 := hr.ln
       clear hi hr
       go_upto_region 17 with (first
         | ((with_reducible refine gate_ld 103 _ rfl ?_); refine wl_ldr rfl 103 _ rfl (w.heap.size + 1) 0 [.slice q8 n8 c8, .int .i64 ((0 : Nat) : Int)] _ Tryz.underlying103 rfl (by rw [sizIn26]; rfl) rfl (range_whole HI.out) ?_)
         | (go_at_call 32; (refine KN.out.mono ?_); rintro e W11 ⟨rfl, hb⟩; have HI2 := Lib.hid ((hb.block _ (lt_heap HI.out)).trans HI.out); have HB1 := Lib.hid (HB0.out.below hb); clear hb)
         | ((with_reducible refine gate_st 103 _ _ rfl ?_); refine wl_strG rfl 103 _ _ rfl (w.heap.size + 1) #[.slice (tq q8 c8 (kN 0 ls)) (n8 - kN 0 ls) (c8 - kN 0 ls), .int .i64 ((numIE 0 2 3 0 ls : Nat) : Int)] #[.slice q8 n8 c8, .int .i64 ((0 : Nat) : Int)] 103 (by rw [sizIn26]; rfl) rfl (by rw [← Array.all_toList]; rfl) rfl (by first | rfl | simp [Act.eval, Act.put]) HI2.out (fun W12 h1 h2 => ?_); have HB2 := Lib.hid (HB1.out.setIn h1 h2 (HR.out.tail (by rw [← hln]; exact kN_le7 _ _))); clear h1 h2; try simp only [Act.put]))
       have HB : Hid (DbSt w W12 xf.d (dK0 ls).l (dK0 ls).e v es g evZd) := HB2
       clear HI HI2 HR KN hln HB0 HB1 HB2
       have hkd : vN 0 ls ≤ 255 := kN_leA 0 ls
       generalize vN 0 ls = kd at *
       generalize (dK0 ls).l = l1 at *
       generalize (dK0 ls).e = e1 at *
       obtain ⟨q8, n8, c8, hi, hr⟩ := HB.out.s.in_
       have HI := Lib.hid hi
       have HR := Lib.hid hr
       have KN := Lib.hid (rreadM_any q8 n8 c8 e1 18446744073709551615 l1 W12 (hr.below HB.out.s.bel) (by decide))
       have hln : l1.length = n8 := hr.ln
       clear hi hr
       go_upto_region 18 with (first
         | ((with_reducible refine gate_ld 101 _ rfl ?_); refine wl_ldr rfl 101 _ rfl (w.heap.size + 1) 0 [.slice q8 n8 c8, .int .i64 (e1 : Int)] _ Tryz.underlying101 rfl (by rw [sizRdr]; rfl) rfl (range_whole HI.out) ?_)
         | ((with_reducible refine gate_bd 134 _ rfl ?_); refine wl_bd rfl _ [(0, .const (.int .i64 3)), (1, .const (.int .u64 18446744073709551615))] rfl [(0, .int .i64 3), (1, .int .u64 18446744073709551615)] rfl #[.int .i64 3, .int .u64 18446744073709551615, .string ⟨#[]⟩] bldF4 ?_)
         | (go_at_call 55; (refine KN.out.mono ?_); rintro e W7 ⟨rfl, hb⟩; have HI2 := Lib.hid ((hb.block _ (lt_heap HI.out)).trans HI.out); have HS2 := Lib.hid (HB.out.below hb); clear hb)
         | ((with_reducible refine gate_st 101 _ _ rfl ?_); refine wl_strn rfl _ _ _ rfl #[.slice (tq q8 c8 (kM 18446744073709551615 e1 l1)) (n8 - kM 18446744073709551615 e1 l1) (c8 - kM 18446744073709551615 e1 l1), .int .i64 ((eM 18446744073709551615 e1 l1 : Nat) : Int)] #[Value.slice none 0 0, Value.int IntKind.i64 0] _ (by rw [sizRdr]; rfl) rfl (by rw [← Array.all_toList]; rfl) (by simp [Act.eval]) rfl ?_))
       have HGr : Hid ((W7.alloc (.cells #[.slice (tq q8 c8 (kM 18446744073709551615 e1 l1)) (n8 - kM 18446744073709551615 e1 l1) (c8 - kM 18446744073709551615 e1 l1), .int .i64 ((eM 18446744073709551615 e1 l1 : Nat) : Int)] 101)).heap[W7.heap.size]? = some (.cells #[.slice (tq q8 c8 (kM 18446744073709551615 e1 l1)) (n8 - kM 18446744073709551615 e1 l1) (c8 - kM 18446744073709551615 e1 l1), .int .i64 ((eM 18446744073709551615 e1 l1 : Nat) : Int)] 101 (0, 0))) := heap_alloc_new _ _
       have HS3 := Lib.hid (HS2.out.below (below_alloc1 W7 (.cells #[.slice (tq q8 c8 (kM 18446744073709551615 e1 l1)) (n8 - kM 18446744073709551615 e1 l1) (c8 - kM 18446744073709551615 e1 l1), .int .i64 ((eM 18446744073709551615 e1 l1 : Nat) : Int)] 101)))
       have HI3 := Lib.hid (((below_alloc1 W7 (.cells #[.slice (tq q8 c8 (kM 18446744073709551615 e1 l1)) (n8 - kM 18446744073709551615 e1 l1) (c8 - kM 18446744073709551615 e1 l1), .int .i64 ((eM 18446744073709551615 e1 l1 : Nat) : Int)] 101)).block _ (lt_heap HI2.out)).trans HI2.out)
       have HGx := HS3
       clear HS2 HI2 HI HB
       go_upto_region 19 with (first
         | ((with_reducible refine gate_ld 101 _ rfl ?_); refine wl_ldr rfl 101 _ rfl W7.heap.size 0 [.slice (tq q8 c8 (kM 18446744073709551615 e1 l1)) (n8 - kM 18446744073709551615 e1 l1) (c8 - kM 18446744073709551615 e1 l1), .int .i64 ((eM 18446744073709551615 e1 l1 : Nat) : Int)] _ Tryz.underlying101 rfl (by rw [sizRdr]; rfl) rfl (range_whole HGr.out) ?_)
         | ((with_reducible refine gate_st 101 _ _ rfl ?_); refine wl_strG rfl 101 _ _ rfl (w.heap.size + 1) #[.slice (tq q8 c8 (kM 18446744073709551615 e1 l1)) (n8 - kM 18446744073709551615 e1 l1) (c8 - kM 18446744073709551615 e1 l1), .int .i64 ((eM 18446744073709551615 e1 l1 : Nat) : Int)] #[.slice q8 n8 c8, .int .i64 (e1 : Int)] 103 (by rw [sizRdr]; rfl) rfl (by rw [← Array.all_toList]; rfl) rfl (by first | rfl | simp [Act.eval, Act.put]) HI3.out (fun W8 h1 h2 => ?_); have HBn := Lib.hid (HS3.out.setIn h1 h2 (HR.out.tail (by rw [← hln]; exact kM_le7 _ _ _))); clear h1 h2; try simp only [Act.put]))
       have HB1 : Hid (DbSt w W8 xf.d (dA ls).l (dA ls).e v es g evZd) := by rw [HAl.out.1, HAl.out.2.1]; exact HBn
       clear HBn HS3 HI3 HGr HGx HR hln KN
       rw [HAl.out.2.2] at HEvd
       have f1 : ((kd : Int) == 1) = (kd == 1) := by rw [Bool.eq_iff_iff]; simp; omega
       have f2 : ((kd : Int) == 2) = (kd == 2) := by rw [Bool.eq_iff_iff]; simp; omega
       go_upto_region 20 with (first
         | ((with_reducible refine gate_st 60 _ _ rfl ?_); refine wl_st1G rfl 60 siz60n _ _ rfl g 0 (.int .u64 (vM 18446744073709551615 e1 l1 : Nat)) (by first | rfl | simp [Act.eval, Act.put]) (by first | rfl | simp [Act.eval, Act.put]) rfl (evD evZd) (evD { evZd with at_ := (vM 18446744073709551615 e1 l1 : Nat) }) 79 HB1.out.ev (by rw [evD_len]; decide) rfl (fun W20 h1 h2 => ?_); have HB2 := Lib.hid (HB1.out.setV h1 h2); clear h1 h2; try simp only [Act.put])
         | ((with_reducible refine gate_st 4 (.tmp 103) _ rfl ?_); refine wl_st1G rfl 4 siz4b _ _ rfl g 26 (.bool (kd == 1)) (by first | rfl | simp [Act.eval, Act.put]) (by first | rfl | (simp [Act.eval, Act.put]; first | exact f1 | exact f1.symm)) rfl (evD { evZd with at_ := (vM 18446744073709551615 e1 l1 : Nat) }) _ 79 HB2.out.ev (by rw [evD_len]; decide) (evD_dead _ _) (fun W21 h1 h2 => ?_); have HB3 := Lib.hid (HB2.out.setV h1 h2); clear h1 h2; try simp only [Act.put])
         | ((with_reducible refine gate_st 4 (.tmp 104) _ rfl ?_); refine wl_st1G rfl 4 siz4b _ _ rfl g 27 (.bool (kd == 2)) (by first | rfl | simp [Act.eval, Act.put]) (by first | rfl | (simp [Act.eval, Act.put]; first | exact f2 | exact f2.symm)) rfl (evD { evZd with at_ := (vM 18446744073709551615 e1 l1 : Nat), dead := (kd == 1) }) _ 79 HB3.out.ev (by rw [evD_len]; decide) (evD_mark _ _) (fun W22 h1 h2 => ?_); have HB4 := Lib.hid (HB3.out.setV h1 h2); clear h1 h2; try simp only [Act.put]))
       have HB5 : Hid (DbSt w W22 xf.d (dA ls).l (dA ls).e v es g ⟨(vM 18446744073709551615 e1 l1 : Nat), zeros25, kd == 1, kd == 2, rfl⟩) := by
         exact HB4.out
       clear HB1 HB2 HB3 HB4 HAl f1 f2
       generalize vM 18446744073709551615 e1 l1 = at2 at *
       generalize (dA ls).l = l2 at *
       generalize (dA ls).e = e2 at *
       have HC0 := Lib.hid (DcSt.start HB5.out)
       go_upto_region 22 with fail
       rw [show (Obj.cells #[Value.int .u8 0, .int .u8 0, .int .u8 0, .int .u8 0, .int .u8 0, .int .u8 0, .int .u8 0, .int .u8 0, .int .u8 0, .int .u8 0, .int .u8 0, .int .u8 0, .int .u8 0, .int .u8 0, .int .u8 0, .int .u8 0, .int .u8 0, .int .u8 0, .int .u8 0, .int .u8 0, .int .u8 0, .int .u8 0, .int .u8 0, .int .u8 0, .int .u8 0] 108) = Obj.cells (bC zeros25) 108 from rfl]
       generalize W22.alloc (.cells (bC zeros25) 108) = W23 at *
       generalize W22.heap.size = g2 at *
       clear HB5
       have HC1 : Hid (DcSt w W23 xf.d (dkL e2 l2 0) (dkE e2 l2 0) v es g ⟨(at2 : Int), zeros25, kd == 1, kd == 2, rfl⟩ g2 (dkB e2 l2 0)) := by
         rw [dkB_zero]
         have h1 : dkL e2 l2 0 = l2 := by unfold dkL; split <;> rfl
         have h2 : dkE e2 l2 0 = e2 := by
           unfold dkE
           split
           · rename_i h; rw [h]; rfl
           · rfl
         rw [h1, h2]; exact HC0
       clear HC0
       by_cases hk2 : kd = 2
       · subst hk2
         rw [if_pos rfl] at HL3 HE3 HKy
         have HKy2 := Lib.hid HKy.out
         have hdl : dkL e2 l2 0 = l2 := by unfold dkL; split <;> rfl
         have hde : dkE e2 l2 0 = e2 := by
           unfold dkE
           split
           · rename_i h; rw [h]; rfl
           · rfl
         rw [hdl, hde, dkB_zero] at HC1
         clear hdl hde
         go_wp2_with fail
         go_loopw [17, 18, 19] (fun s17 s18 s19 wx => (∃ u : Value, s18 = u) ∧ (∃ u : Value, s19 = u) ∧ s17 = .int .i64 0 ∧ Hid (DcSt w wx xf.d l2 e2 v es g ⟨(at2 : Int), zeros25, 2 == 1, 2 == 2, rfl⟩ g2 zeros25)) (fun _ _ _ _ => 0)
         case atStart => exact ⟨⟨_, rfl⟩, ⟨_, rfl⟩, rfl, HC1.out⟩
         case round =>
           obtain ⟨_, _, rfl, HC2⟩ := hrel
           clear HC1
           have KRd := Lib.hid (fun W => read06_any zeros25 rfl W)
           go_upto_region 30 with (first
             | ((with_reducible refine gate_ld 108 _ rfl ?_); refine wl_ldr rfl 108 _ rfl g2 0 (bC zeros25).toList _ Tryz.underlying108 rfl (by rw [Kx.siz25]; rfl) rfl (range_whole (by simpa using HC2.out.a)) ?_)
             | (go_at_call 35; (refine (KRd.out _).mono ?_); rintro e W27 ⟨rfl, hb⟩; have HB7 := Lib.hid (HC2.out.b.below hb); clear hb)
             | ((with_reducible refine gate_st 44 _ _ rfl ?_); refine wl_stR rfl 44 _ _ rfl g 1 (rkR zeros25) (by rw [sizR44]; rfl) (by first | rfl | simp [Act.eval, Act.put]) (by first | rfl | simp [Act.eval, Act.put]) (fun u hu => List.all_eq_true.1 (rkR_one zeros25) u hu) (evD ⟨(at2 : Int), zeros25, 2 == 1, 2 == 2, rfl⟩) 79 HB7.out.ev (by rw [evD_len, rkR_len _ rfl]; decide) (fun W28 h1 h2 => ?_); have HF : Hid (DbSt w W28 xf.d l2 e2 v es g ⟨(at2 : Int), zeros25, 2 == 1, 2 == 2, rfl⟩) := HB7.out.setV (by rw [evD_key _ _ rfl] at h1; exact h1) h2; clear h1 h2; try simp only [Act.put]))
           clear HC2 HB7 KRd
           have hcr : W28.cell? ⟨w.heap.size + 2, 14, none⟩ = some v := by rw [cell_blk HF.out.s.r_, List.getElem?_toArray]; exact ryC_sl _ _
           go_wp2_with (first
             | ((with_reducible refine gate_ld 79 _ rfl ?_); refine wl_ldr rfl 79 _ rfl g 0 (evD ⟨(at2 : Int), zeros25, 2 == 1, 2 == 2, rfl⟩) _ Tryz.underlying79 rfl (by rw [sizEvD, evD_len]) rfl (range_whole HF.out.ev) ?_)
             | (refine wl_bs1 (k := 28) 70 79 64 (.agg (evD evZd).toArray) Tryz.underlying70 infoEvD evZd_sz (by omega) (by omega) evD_len rfl (.tmp 144) rfl ⟨(at2 : Int), zeros25, 2 == 1, 2 == 2, rfl⟩ rfl ?_)
             | (at_builtin; refine wl_app1 (k := 28) 70 79 64 (.agg (evD evZd).toArray) Tryz.underlying70 infoEvD evZd_sz (by omega) evD_len evD_one rfl (.tmp 143) (.tmp 145) rfl (w.heap.size + 3) v es rfl (HF.out.o.below (below_alloc1 _ _)) _ 1 ⟨(at2 : Int), zeros25, 2 == 1, 2 == 2, rfl⟩ rfl (range_whole (heap_alloc_new _ _)) (by have := HEL.out; omega) (by have := HEL.out; unfold maxLen; omega) (by have := HF.out.hg; have := lt_heap HF.out.ev; simp; omega) ?_; intro v9 w9 hv9 hg9; have HV9 := Lib.hid hv9; have HS9 := Lib.hid ((HF.out.s.below (below_alloc1 _ _)).high (grown_below hg9 (fun b hb => (HF.out.o.lt b hb).1) (by have := HF.out.hg; have := lt_heap HF.out.ev; simp; omega))); (obtain ⟨q9, c9, hs9⟩ := hv9.slice); have h19 : v9.oneCell' = true := (by rw [hs9]; rfl); clear hs9 hv9 hg9)
             | ((with_reducible refine gate_st 70 _ _ rfl ?_); refine wl_st1G rfl 70 sizEvDs _ _ rfl (w.heap.size + 2) 14 v9 (by first | rfl | simp [Act.eval, Act.put]) (by first | rfl | simp [Act.eval, Act.put]) h19 (ryC xf.d v) (ryC xf.d v9) 72 HS9.out.r_ (by rw [ryC_len]; decide) (ryC_setE _ _ _) (fun W31 h1 h2 => ?_); have HSX := Lib.hid (HS9.out.setR h1 h2); have HOX := Lib.hid (HV9.out.block fun b hb => h2.block b (HV9.out.lt b hb).2 (by have := (HV9.out.lt b hb).1; simp; omega)); clear h1 h2; try simp only [Act.put]))
           have HSt : Hid (ldN (k + 1) s0 = ⟨es ++ [⟨(at2 : Int), zeros25, 2 == 1, 2 == 2, rfl⟩], l2, e2⟩) := by show _ = _; rw [HST.out, HEvd.out zeros25 rfl HKy2.out.symm, HL3.out, HE3.out]
           go_roundw
           case rel => exact ⟨⟨_, rfl⟩, ⟨_, rfl⟩, ⟨_, rfl⟩, ⟨_, rfl⟩, ⟨_, rfl⟩, ⟨_, rfl⟩, ⟨_, rfl⟩, ⟨_, rfl⟩, ⟨_, rfl⟩, k + 1, v9, by omega, by simp, (by rw [HSt.out]; exact HSX), (by rw [HSt.out]; exact HOX)⟩
           case measure => simp [intOf]; omega
       · rw [if_neg hk2] at HL3 HE3 HKy
         have hkI : ((kd : Int) != 2) = true := by simp; omega
         have hkI2 : ((kd : Int) == 2) = false := by simp; omega
         have hkI3 : ¬ (kd : Int) = 2 := by omega
         go_wp2_with fail
         go_loopw [17, 18, 19] (fun s17 s18 s19 wx => (∃ u : Value, s18 = u) ∧ (∃ u : Value, s19 = u) ∧ ∃ j : Nat, j ≤ 25 ∧ s17 = .int .i64 (j : Int) ∧ Hid (DcSt w wx xf.d (dkL e2 l2 j) (dkE e2 l2 j) v es g ⟨(at2 : Int), zeros25, kd == 1, kd == 2, rfl⟩ g2 (dkB e2 l2 j))) (fun s17 _ _ _ => 25 - (intOf s17).toNat)
         case atStart => exact ⟨⟨_, rfl⟩, ⟨_, rfl⟩, 0, Nat.zero_le _, rfl, HC1.out⟩
         case round =>
           obtain ⟨_, _, j, hj, rfl, HC2⟩ := hrel
           clear HC1
           by_cases hjl : j < 25
           · have hjI : (j : Int) < 25 := by omega
             have hj0 : ¬ (j : Int) < 0 := by omega
             have HJ : Hid (j < 25) := hjl
             obtain ⟨d1, d2, _, _⟩ := dk_step e2 l2 j
             have HD1 := Lib.hid d1
             have HD2 := Lib.hid d2
             have HDB := Lib.hid (dkB_step e2 l2 hjl)
             have HDLn := Lib.hid (dkB_len e2 l2 (Nat.le_of_lt hjl))
             clear d1 d2
             obtain ⟨qa, na, ca, hi, hr⟩ := HC2.out.b.s.in_
             have HI := Lib.hid hi
             have HR := Lib.hid hr
             have KN := Lib.hid (inNumber_any qa na ca (dkE e2 l2 j) 0 255 0 (dkL e2 l2 j) _ (hr.below HC2.out.b.s.bel))
             have hln := hr.ln
             have hvn := kN_leA (dkE e2 l2 j) (dkL e2 l2 j)
             clear hi hr
             have hkle := kN_le7 (dkE e2 l2 j) (dkL e2 l2 j)
             generalize kN (dkE e2 l2 j) (dkL e2 l2 j) = kn at *
             generalize vN (dkE e2 l2 j) (dkL e2 l2 j) = vn at *
             generalize numIE 0 255 0 (dkE e2 l2 j) (dkL e2 l2 j) = ne at *
             have hw8 : IntKind.u8.wrap (vn : Int) = (vn : Int) := by rw [IntKind.wrap_u8]; omega
             go_upto_region 25 with (first
               | ((with_reducible refine gate_ld 103 _ rfl ?_); refine wl_ldr rfl 103 _ rfl (w.heap.size + 1) 0 [.slice qa na ca, .int .i64 ((dkE e2 l2 j : Nat) : Int)] _ Tryz.underlying103 rfl (by rw [sizIn26]; rfl) rfl (range_whole HI.out) ?_)
               | (go_at_call 32; (refine KN.out.mono ?_); rintro e W40 ⟨rfl, hb⟩; have HI2 := Lib.hid ((hb.block _ (lt_heap HI.out)).trans HI.out); have HC3 := Lib.hid (HC2.out.below hb); clear hb)
               | ((with_reducible refine gate_st 103 _ _ rfl ?_); refine wl_strn rfl _ _ _ rfl #[.slice (tq qa ca kn) (na - kn) (ca - kn), .int .i64 ((ne : Nat) : Int)] #[Value.slice none 0 0, Value.int IntKind.i64 0] _ (by rw [sizIn26]; rfl) rfl (by rw [← Array.all_toList]; rfl) (by simp [Act.eval]) rfl ?_))
             have HGi : Hid ((W40.alloc (.cells #[.slice (tq qa ca kn) (na - kn) (ca - kn), .int .i64 ((ne : Nat) : Int)] 103)).heap[W40.heap.size]? = some (.cells #[.slice (tq qa ca kn) (na - kn) (ca - kn), .int .i64 ((ne : Nat) : Int)] 103 (0, 0))) := heap_alloc_new _ _
             have HC4 := Lib.hid (HC3.out.below (below_alloc1 W40 (.cells #[.slice (tq qa ca kn) (na - kn) (ca - kn), .int .i64 ((ne : Nat) : Int)] 103)))
             have HI4 := Lib.hid (((below_alloc1 W40 (.cells #[.slice (tq qa ca kn) (na - kn) (ca - kn), .int .i64 ((ne : Nat) : Int)] 103)).block _ (lt_heap HI2.out)).trans HI2.out)
             clear HC3 HI2 HI KN HC2
             go_wp2_with (first
               | ((with_reducible refine gate_ld 103 _ rfl ?_); refine wl_ldr rfl 103 _ rfl W40.heap.size 0 [.slice (tq qa ca kn) (na - kn) (ca - kn), .int .i64 ((ne : Nat) : Int)] _ Tryz.underlying103 rfl (by rw [sizIn26]; rfl) rfl (range_whole HGi.out) ?_)
               | ((with_reducible refine gate_st 103 _ _ rfl ?_); refine wl_strG rfl 103 _ _ rfl (w.heap.size + 1) #[.slice (tq qa ca kn) (na - kn) (ca - kn), .int .i64 ((ne : Nat) : Int)] #[.slice qa na ca, .int .i64 ((dkE e2 l2 j : Nat) : Int)] 103 (by rw [sizIn26]; rfl) rfl (by rw [← Array.all_toList]; rfl) rfl (by first | rfl | simp [Act.eval, Act.put]) HI4.out (fun W41 h1 h2 => ?_); have HC5 := Lib.hid (HC4.out.setIn h1 h2 (HR.out.tail (by rw [← hln]; exact hkle))); clear h1 h2; try simp only [Act.put])
               | ((with_reducible refine gate_st 5 _ _ rfl ?_); refine wl_st1G rfl 5 siz5u _ _ rfl g2 j (.int .u8 (vn : Int)) (by first | rfl | simp [Act.eval, Act.put]) (by first | rfl | simp [Act.eval, Act.put]) rfl (bC (dkB e2 l2 j)).toList (bC (dkB e2 l2 (j + 1))).toList 108 HC5.out.a (by rw [show (bC (dkB e2 l2 j)).toList.length = 25 by simp [bC, HDLn.out]]; exact HJ.out) HDB.out (fun W42 h1 h2 => ?_); have HC6 := Lib.hid (HC5.out.setA h1 h2); clear h1 h2; try simp only [Act.put]))
             have HC7 : Hid (DcSt w W42 xf.d (dkL e2 l2 (j + 1)) (dkE e2 l2 (j + 1)) v es g ⟨(at2 : Int), zeros25, kd == 1, kd == 2, rfl⟩ g2 (dkB e2 l2 (j + 1))) := by
               have := HC6.out
               rw [HD1.out, HD2.out] at this
               exact this
             go_roundw
             case rel => exact ⟨⟨_, rfl⟩, ⟨_, rfl⟩, j + 1, by omega, by simp, HC7.out⟩
             case measure => simp [intOf]; omega
           · obtain rfl : j = 25 := by omega
             have KRd := Lib.hid (fun W => read06_any (dkB e2 l2 25) (dkB_len e2 l2 (Nat.le_refl _)) W)
             have KRt := Lib.hid (fun W => refRight_any (dkB e2 l2 25) W (dkB_len e2 l2 (Nat.le_refl _)))
             have HLk := Lib.hid (dkB_len e2 l2 (Nat.le_refl 25))
             rw [HKy.out] at HE3
             have HKy2 := Lib.hid HKy.out
             clear HKy
             generalize dkB e2 l2 25 = ky at *
             generalize dkE e2 l2 25 = e3 at *
             generalize dkL e2 l2 25 = l3 at *
             go_upto_region 28 with (first
               | ((with_reducible refine gate_ld 108 _ rfl ?_); refine wl_ldr rfl 108 _ rfl g2 0 (bC ky).toList _ Tryz.underlying108 rfl (by rw [Kx.siz25]; simp [bC, HLk.out]) rfl (range_whole (by simpa using HC2.out.a)) ?_)
               | (go_at_call 35; (refine (KRd.out _).mono ?_); rintro e W27 ⟨rfl, hb⟩; have HB7 := Lib.hid (HC2.out.b.below hb); clear hb)
               | ((with_reducible refine gate_st 44 _ _ rfl ?_); refine wl_stR rfl 44 _ _ rfl g 1 (rkR ky) (by rw [sizR44, rkR_len _ HLk.out]) (by first | rfl | simp [Act.eval, Act.put]) (by first | rfl | simp [Act.eval, Act.put]) (fun u hu => List.all_eq_true.1 (rkR_one ky) u hu) (evD ⟨(at2 : Int), zeros25, kd == 1, kd == 2, rfl⟩) 79 HB7.out.ev (by rw [evD_len, rkR_len _ HLk.out]; decide) (fun W28 h1 h2 => ?_); have HG : Hid (DbSt w W28 xf.d l3 e3 v es g ⟨(at2 : Int), ky, kd == 1, kd == 2, HLk.out⟩) := HB7.out.setV (by rw [evD_key _ _ HLk.out] at h1; exact h1) h2; clear h1 h2; try simp only [Act.put]))
             clear HC2 HB7 KRd
             obtain ⟨qb, nb, cb, hi, hr⟩ := HG.out.s.in_
             have hce : W28.cell? ⟨w.heap.size + 1, 1, none⟩ = some (.int .i64 (e3 : Int)) := by rw [cell_blk hi]; rfl
             have HIb := Lib.hid hi
             have HRb := Lib.hid hr
             clear hi hr
             have HRk := Lib.hid (evD_keyR (range_whole HG.out.ev))
             by_cases he3 : e3 = 0
             · subst he3
               cases hrk : rightK ky with
               | true =>
                 rw [hrk] at KRt
                 have HE4 : Hid (dkE3 ls = 0) := by show _ = _; rw [HE3.out, if_neg (by rw [hrk]; simp)]
                 clear HE3 hrk
                 go_upto_region 30 with (first
                   | ((with_reducible refine gate_ld 44 _ rfl ?_); refine wl_ldr rfl 44 _ rfl g 1 (rkR ky) _ Tryz.underlying44 rfl (by rw [sizR44, rkR_len _ HLk.out]) rfl HRk.out ?_)
                   | (go_at_call 56; (refine (KRt.out _).mono ?_); rintro e W29 ⟨rfl, hb⟩; have HF := Lib.hid (HG.out.below hb); clear hb))
                 have hcr : W29.cell? ⟨w.heap.size + 2, 14, none⟩ = some v := by rw [cell_blk HF.out.s.r_, List.getElem?_toArray]; exact ryC_sl _ _
                 clear HG hce HIb HRb HRk KRt
                 go_wp2_with (first
                   | ((with_reducible refine gate_ld 79 _ rfl ?_); refine wl_ldr rfl 79 _ rfl g 0 (evD ⟨(at2 : Int), ky, kd == 1, kd == 2, HLk.out⟩) _ Tryz.underlying79 rfl (by rw [sizEvD, evD_len]) rfl (range_whole HF.out.ev) ?_)
                   | (refine wl_bs1 (k := 28) 70 79 64 (.agg (evD evZd).toArray) Tryz.underlying70 infoEvD evZd_sz (by omega) (by omega) evD_len rfl (.tmp 144) rfl ⟨(at2 : Int), ky, kd == 1, kd == 2, HLk.out⟩ rfl ?_)
                   | (at_builtin; refine wl_app1 (k := 28) 70 79 64 (.agg (evD evZd).toArray) Tryz.underlying70 infoEvD evZd_sz (by omega) evD_len evD_one rfl (.tmp 143) (.tmp 145) rfl (w.heap.size + 3) v es rfl (HF.out.o.below (below_alloc1 _ _)) _ 1 ⟨(at2 : Int), ky, kd == 1, kd == 2, HLk.out⟩ rfl (range_whole (heap_alloc_new _ _)) (by have := HEL.out; omega) (by have := HEL.out; unfold maxLen; omega) (by have := HF.out.hg; have := lt_heap HF.out.ev; simp; omega) ?_; intro v9 w9 hv9 hg9; have HV9 := Lib.hid hv9; have HS9 := Lib.hid ((HF.out.s.below (below_alloc1 _ _)).high (grown_below hg9 (fun b hb => (HF.out.o.lt b hb).1) (by have := HF.out.hg; have := lt_heap HF.out.ev; simp; omega))); (obtain ⟨q9, c9, hs9⟩ := hv9.slice); have h19 : v9.oneCell' = true := (by rw [hs9]; rfl); clear hs9 hv9 hg9)
                   | ((with_reducible refine gate_st 70 _ _ rfl ?_); refine wl_st1G rfl 70 sizEvDs _ _ rfl (w.heap.size + 2) 14 v9 (by first | rfl | simp [Act.eval, Act.put]) (by first | rfl | simp [Act.eval, Act.put]) h19 (ryC xf.d v) (ryC xf.d v9) 72 HS9.out.r_ (by rw [ryC_len]; decide) (ryC_setE _ _ _) (fun W31 h1 h2 => ?_); have HSX := Lib.hid (HS9.out.setR h1 h2); have HOX := Lib.hid (HV9.out.block fun b hb => h2.block b (HV9.out.lt b hb).2 (by have := (HV9.out.lt b hb).1; simp; omega)); clear h1 h2; try simp only [Act.put]))
                 have HSt : Hid (ldN (k + 1) s0 = ⟨es ++ [⟨(at2 : Int), ky, kd == 1, kd == 2, HLk.out⟩], l3, 0⟩) := by show _ = _; rw [HST.out, HEvd.out ky HLk.out HKy2.out.symm, HL3.out, HE4.out]
                 go_roundw
                 case rel => exact ⟨⟨_, rfl⟩, ⟨_, rfl⟩, ⟨_, rfl⟩, ⟨_, rfl⟩, ⟨_, rfl⟩, ⟨_, rfl⟩, ⟨_, rfl⟩, ⟨_, rfl⟩, ⟨_, rfl⟩, k + 1, v9, by omega, by simp, (by rw [HSt.out]; exact HSX), (by rw [HSt.out]; exact HOX)⟩
                 case measure => simp [intOf]; omega
               | false =>
                 rw [hrk] at KRt
                 have HE4 : Hid (dkE3 ls = 3) := by show _ = _; rw [HE3.out, if_pos (by rw [hrk]; simp)]
                 clear HE3 hrk
                 go_upto_region 30 with (first
                   | ((with_reducible refine gate_ld 44 _ rfl ?_); refine wl_ldr rfl 44 _ rfl g 1 (rkR ky) _ Tryz.underlying44 rfl (by rw [sizR44, rkR_len _ HLk.out]) rfl HRk.out ?_)
                   | (go_at_call 56; (refine (KRt.out _).mono ?_); rintro e W29 ⟨rfl, hb⟩; have HG2 := Lib.hid (HG.out.below hb); have HI9 := Lib.hid ((hb.block _ (lt_heap HIb.out)).trans HIb.out); clear hb)
                   | ((with_reducible refine gate_st 3 _ _ rfl ?_); refine wl_st1G rfl 3 siz3n _ _ rfl (w.heap.size + 1) 1 (.int .i64 3) (by first | rfl | simp [Act.eval, Act.put]) (by first | rfl | simp [Act.eval, Act.put]) rfl [.slice qb nb cb, .int .i64 ((0 : Nat) : Int)] [.slice qb nb cb, .int .i64 ((3 : Nat) : Int)] 103 HI9.out (by show 2 ≤ 2; omega) rfl (fun W39 h1 h2 => ?_); have HF := Lib.hid (HG2.out.setIn h1 h2 HRb.out); clear h1 h2; try simp only [Act.put]))
                 have hcr : W39.cell? ⟨w.heap.size + 2, 14, none⟩ = some v := by rw [cell_blk HF.out.s.r_, List.getElem?_toArray]; exact ryC_sl _ _
                 clear HG HG2 HI9 hce HIb HRb HRk KRt
                 go_wp2_with (first
                   | ((with_reducible refine gate_ld 79 _ rfl ?_); refine wl_ldr rfl 79 _ rfl g 0 (evD ⟨(at2 : Int), ky, kd == 1, kd == 2, HLk.out⟩) _ Tryz.underlying79 rfl (by rw [sizEvD, evD_len]) rfl (range_whole HF.out.ev) ?_)
                   | (refine wl_bs1 (k := 28) 70 79 64 (.agg (evD evZd).toArray) Tryz.underlying70 infoEvD evZd_sz (by omega) (by omega) evD_len rfl (.tmp 144) rfl ⟨(at2 : Int), ky, kd == 1, kd == 2, HLk.out⟩ rfl ?_)
                   | (at_builtin; refine wl_app1 (k := 28) 70 79 64 (.agg (evD evZd).toArray) Tryz.underlying70 infoEvD evZd_sz (by omega) evD_len evD_one rfl (.tmp 143) (.tmp 145) rfl (w.heap.size + 3) v es rfl (HF.out.o.below (below_alloc1 _ _)) _ 1 ⟨(at2 : Int), ky, kd == 1, kd == 2, HLk.out⟩ rfl (range_whole (heap_alloc_new _ _)) (by have := HEL.out; omega) (by have := HEL.out; unfold maxLen; omega) (by have := HF.out.hg; have := lt_heap HF.out.ev; simp; omega) ?_; intro v9 w9 hv9 hg9; have HV9 := Lib.hid hv9; have HS9 := Lib.hid ((HF.out.s.below (below_alloc1 _ _)).high (grown_below hg9 (fun b hb => (HF.out.o.lt b hb).1) (by have := HF.out.hg; have := lt_heap HF.out.ev; simp; omega))); (obtain ⟨q9, c9, hs9⟩ := hv9.slice); have h19 : v9.oneCell' = true := (by rw [hs9]; rfl); clear hs9 hv9 hg9)
                   | ((with_reducible refine gate_st 70 _ _ rfl ?_); refine wl_st1G rfl 70 sizEvDs _ _ rfl (w.heap.size + 2) 14 v9 (by first | rfl | simp [Act.eval, Act.put]) (by first | rfl | simp [Act.eval, Act.put]) h19 (ryC xf.d v) (ryC xf.d v9) 72 HS9.out.r_ (by rw [ryC_len]; decide) (ryC_setE _ _ _) (fun W31 h1 h2 => ?_); have HSX := Lib.hid (HS9.out.setR h1 h2); have HOX := Lib.hid (HV9.out.block fun b hb => h2.block b (HV9.out.lt b hb).2 (by have := (HV9.out.lt b hb).1; simp; omega)); clear h1 h2; try simp only [Act.put]))
                 have HSt : Hid (ldN (k + 1) s0 = ⟨es ++ [⟨(at2 : Int), ky, kd == 1, kd == 2, HLk.out⟩], l3, 3⟩) := by show _ = _; rw [HST.out, HEvd.out ky HLk.out HKy2.out.symm, HL3.out, HE4.out]
                 go_roundw
                 case rel => exact ⟨⟨_, rfl⟩, ⟨_, rfl⟩, ⟨_, rfl⟩, ⟨_, rfl⟩, ⟨_, rfl⟩, ⟨_, rfl⟩, ⟨_, rfl⟩, ⟨_, rfl⟩, ⟨_, rfl⟩, k + 1, v9, by omega, by simp, (by rw [HSt.out]; exact HSX), (by rw [HSt.out]; exact HOX)⟩
                 case measure => simp [intOf]; omega
             · have he4 : ((e3 : Int) == 0) = false := by simp; omega
               have HE4 : Hid (dkE3 ls = e3) := by show _ = _; rw [HE3.out, if_neg (fun h => he3 h.1)]
               clear HE3
               go_upto_region 30 with fail
               have HF := Lib.hid HG.out
               have hcr : W28.cell? ⟨w.heap.size + 2, 14, none⟩ = some v := by rw [cell_blk HF.out.s.r_, List.getElem?_toArray]; exact ryC_sl _ _
               clear HG hce HIb HRb HRk KRt he3 he4
               go_wp2_with (first
                 | ((with_reducible refine gate_ld 79 _ rfl ?_); refine wl_ldr rfl 79 _ rfl g 0 (evD ⟨(at2 : Int), ky, kd == 1, kd == 2, HLk.out⟩) _ Tryz.underlying79 rfl (by rw [sizEvD, evD_len]) rfl (range_whole HF.out.ev) ?_)
                 | (refine wl_bs1 (k := 28) 70 79 64 (.agg (evD evZd).toArray) Tryz.underlying70 infoEvD evZd_sz (by omega) (by omega) evD_len rfl (.tmp 144) rfl ⟨(at2 : Int), ky, kd == 1, kd == 2, HLk.out⟩ rfl ?_)
                 | (at_builtin; refine wl_app1 (k := 28) 70 79 64 (.agg (evD evZd).toArray) Tryz.underlying70 infoEvD evZd_sz (by omega) evD_len evD_one rfl (.tmp 143) (.tmp 145) rfl (w.heap.size + 3) v es rfl (HF.out.o.below (below_alloc1 _ _)) _ 1 ⟨(at2 : Int), ky, kd == 1, kd == 2, HLk.out⟩ rfl (range_whole (heap_alloc_new _ _)) (by have := HEL.out; omega) (by have := HEL.out; unfold maxLen; omega) (by have := HF.out.hg; have := lt_heap HF.out.ev; simp; omega) ?_; intro v9 w9 hv9 hg9; have HV9 := Lib.hid hv9; have HS9 := Lib.hid ((HF.out.s.below (below_alloc1 _ _)).high (grown_below hg9 (fun b hb => (HF.out.o.lt b hb).1) (by have := HF.out.hg; have := lt_heap HF.out.ev; simp; omega))); (obtain ⟨q9, c9, hs9⟩ := hv9.slice); have h19 : v9.oneCell' = true := (by rw [hs9]; rfl); clear hs9 hv9 hg9)
                 | ((with_reducible refine gate_st 70 _ _ rfl ?_); refine wl_st1G rfl 70 sizEvDs _ _ rfl (w.heap.size + 2) 14 v9 (by first | rfl | simp [Act.eval, Act.put]) (by first | rfl | simp [Act.eval, Act.put]) h19 (ryC xf.d v) (ryC xf.d v9) 72 HS9.out.r_ (by rw [ryC_len]; decide) (ryC_setE _ _ _) (fun W31 h1 h2 => ?_); have HSX := Lib.hid (HS9.out.setR h1 h2); have HOX := Lib.hid (HV9.out.block fun b hb => h2.block b (HV9.out.lt b hb).2 (by have := (HV9.out.lt b hb).1; simp; omega)); clear h1 h2; try simp only [Act.put]))
               have HSt : Hid (ldN (k + 1) s0 = ⟨es ++ [⟨(at2 : Int), ky, kd == 1, kd == 2, HLk.out⟩], l3, e3⟩) := by show _ = _; rw [HST.out, HEvd.out ky HLk.out HKy2.out.symm, HL3.out, HE4.out]
               go_roundw
               case rel => exact ⟨⟨_, rfl⟩, ⟨_, rfl⟩, ⟨_, rfl⟩, ⟨_, rfl⟩, ⟨_, rfl⟩, ⟨_, rfl⟩, ⟨_, rfl⟩, ⟨_, rfl⟩, ⟨_, rfl⟩, k + 1, v9, by omega, by simp, (by rw [HSt.out]; exact HSX), (by rw [HSt.out]; exact HOX)⟩
               case measure => simp [intOf]; omega
     · have heI : ((ldN k s0).e : Int) ≠ 0 := by omega
       have heI2 : (((ldN k s0).e : Int) == 0) = false := by simp; omega
       obtain ⟨q7, n7, c7, hi, hr⟩ := HSa.out.in_
       have HI := Lib.hid hi
       have hce : wr.cell? ⟨w.heap.size + 1, 1, none⟩ = some (.int .i64 ((ldN k s0).e : Int)) := by rw [cell_blk hi]; rfl
       have HY : Hid (ldN k s0 = dL l) := by show _ = _; rw [HDL.out]; exact (ldN_stop he N (by omega)).symm
       have HEd : Hid ((if (ldN k s0).e = 0 ∧ 0 < n7 then 3 else (ldN k s0).e) = dpE l) := by show _ = _; rw [HDE.out, ← HY.out, ← hr.ln]
       have KEn : Hid (∀ W, Calls Tryz.prog 36 #[.agg #[.slice q7 n7 c7, .int .i64 ((ldN k s0).e : Int)]] W fun en w' => en = .returned (.int .i64 ((dpE l : Nat) : Int)) ∧ Below W.heap.size W w') := fun W => by have := inEnd_any q7 n7 c7 (ldN k s0).e W; rwa [HEd.out] at this
       rw [← HY.out] at HDV
       clear hi hr HEd HDE HDL HY
       by_cases hz : dpE l = 0
       · rw [if_pos hz] at HDD HDV
         rw [hz] at KEn
         obtain ⟨qv, cv, hv⟩ := HOa.out.slice
         have HVs := Lib.hid hv
         have hv1 : v.oneCell' = true := by rw [hv]; rfl
         clear hv
         go_wp2_with (first
           | ((with_reducible refine gate_ld 103 _ rfl ?_); refine wl_ldr rfl 103 _ rfl (w.heap.size + 1) 0 [.slice q7 n7 c7, .int .i64 ((ldN k s0).e : Int)] _ Tryz.underlying103 rfl (by rw [sizIn26]; rfl) rfl (range_whole HI.out) ?_)
           | (go_at_call 36; (refine (KEn.out _).mono ?_); rintro e W7 ⟨rfl, hb⟩; have HS7 := Lib.hid (HSa.out.below hb); have HO7 := Lib.hid (HOa.out.below hb); clear hb)
           | ((with_reducible refine gate_ld 72 _ rfl ?_); refine wl_ldr rfl 72 _ rfl (w.heap.size + 2) 0 (ryC xf.d v) _ Tryz.underlying72 rfl (by rw [sizRy26, ryC_len]) rfl (range_whole HS7.out.r_) ?_)
           | ((with_reducible refine gate_st 72 _ _ rfl ?_); refine wl_strG rfl 72 _ _ rfl w.heap.size (ryC xf.d v).toArray (ryC zeroR (.slice none 0 0)).toArray 72 (by rw [sizRy26, List.size_toArray, ryC_len]) (by rw [List.size_toArray, List.size_toArray, ryC_len, ryC_len]) (by rw [← Array.all_toList]; exact ryC_one _ _ hv1) rfl (by first | rfl | simp [Act.eval, Act.put]) HS7.out.res (fun W8 h1 h2 => ?_); have HR8 := Lib.hid h1; have HT8 := Lib.hid h2; clear h1 h2; try simp only [Act.put]))
         refine bodyPost_ret (res_rowc_tmp (P := Tryz.prog) (T := 72) (T' := 72) (t := 3) rfl _ _ w.heap.size (ryC xf.d v).toArray (0, 0) rfl HR8.out Tryz.underlying72 rfl (by rw [sizRy26, List.size_toArray, ryC_len])) rfl ?_
         refine ⟨v, by rw [HDD.out, hz]; rfl, ?_, HS7.out.bel.trans (HT8.out.below (fun k hk => by simp at hk; omega) HS7.out.bel.size)⟩
         rw [HDV.out]
         exact (HO7.out.base (by omega)).block fun b hb => HT8.out.block b (HO7.out.lt b hb).2 (by have := (HO7.out.lt b hb).1; simp; omega)
       · have hz2 : ((dpE l : Int) != 0) = true := by simp; omega
         have hz3 : ((dpE l : Int) == 0) = false := by simp; omega
         rw [if_neg hz] at HDD HDV
         go_wp2_with (first
           | ((with_reducible refine gate_ld 103 _ rfl ?_); refine wl_ldr rfl 103 _ rfl (w.heap.size + 1) 0 [.slice q7 n7 c7, .int .i64 ((ldN k s0).e : Int)] _ Tryz.underlying103 rfl (by rw [sizIn26]; rfl) rfl (range_whole HI.out) ?_)
           | (go_at_call 36; (refine (KEn.out _).mono ?_); rintro e W7 ⟨rfl, hb⟩; have HS7 := Lib.hid (HSa.out.below hb); clear hb)
           | ((with_reducible refine gate_bd 72 _ rfl ?_); refine wl_bd rfl _ [] rfl [] rfl (ryC zeroR (.slice none 0 0)).toArray bldRy26 ?_)
           | ((with_reducible refine gate_st 72 _ _ rfl ?_); refine wl_strG rfl 72 _ _ rfl w.heap.size (ryC zeroR (.slice none 0 0)).toArray (ryC zeroR (.slice none 0 0)).toArray 72 (by rw [sizRy26, List.size_toArray, ryC_len]) rfl (by rw [← Array.all_toList]; exact ryC_one _ _ rfl) rfl (by first | rfl | simp [Act.eval, Act.put]) HS7.out.res (fun W8 h1 h2 => ?_); have HR8 := Lib.hid h1; have HT8 := Lib.hid h2; clear h1 h2; try simp only [Act.put]))
         refine bodyPost_ret (res_rowc_tmp (P := Tryz.prog) (T := 72) (T' := 72) (t := 3) rfl _ _ w.heap.size (ryC zeroR (.slice none 0 0)).toArray (0, 0) rfl HR8.out Tryz.underlying72 rfl (by rw [sizRy26, List.size_toArray, ryC_len])) rfl ?_
         refine ⟨.slice none 0 0, by rw [HDD.out]; rfl, ?_, HS7.out.bel.trans (HT8.out.below (fun k hk => by simp at hk; omega) HS7.out.bel.size)⟩
         rw [HDV.out]
         exact OwnE.nil _ _
   · obtain rfl : N = k := by omega
     have hlt' : ¬ (N : Int) < (N : Int) := by omega
     obtain ⟨q7, n7, c7, hi, hr⟩ := HSa.out.in_
     have HI := Lib.hid hi
     have hce : wr.cell? ⟨w.heap.size + 1, 1, none⟩ = some (.int .i64 ((ldN N s0).e : Int)) := by rw [cell_blk hi]; rfl
     have HY : Hid (ldN N s0 = dL l) := by show _ = _; rw [HDL.out]
     have HEd : Hid ((if (ldN N s0).e = 0 ∧ 0 < n7 then 3 else (ldN N s0).e) = dpE l) := by show _ = _; rw [HDE.out, ← HY.out, ← hr.ln]
     have KEn : Hid (∀ W, Calls Tryz.prog 36 #[.agg #[.slice q7 n7 c7, .int .i64 ((ldN N s0).e : Int)]] W fun en w' => en = .returned (.int .i64 ((dpE l : Nat) : Int)) ∧ Below W.heap.size W w') := fun W => by have := inEnd_any q7 n7 c7 (ldN N s0).e W; rwa [HEd.out] at this
     rw [← HY.out] at HDV
     clear hi hr HEd HDE HDL HY
     by_cases hz : dpE l = 0
     · rw [if_pos hz] at HDD HDV
       rw [hz] at KEn
       obtain ⟨qv, cv, hv⟩ := HOa.out.slice
       have HVs := Lib.hid hv
       have hv1 : v.oneCell' = true := by rw [hv]; rfl
       clear hv
       go_wp2_with (first
         | ((with_reducible refine gate_ld 103 _ rfl ?_); refine wl_ldr rfl 103 _ rfl (w.heap.size + 1) 0 [.slice q7 n7 c7, .int .i64 ((ldN N s0).e : Int)] _ Tryz.underlying103 rfl (by rw [sizIn26]; rfl) rfl (range_whole HI.out) ?_)
         | (go_at_call 36; (refine (KEn.out _).mono ?_); rintro e W7 ⟨rfl, hb⟩; have HS7 := Lib.hid (HSa.out.below hb); have HO7 := Lib.hid (HOa.out.below hb); clear hb)
         | ((with_reducible refine gate_ld 72 _ rfl ?_); refine wl_ldr rfl 72 _ rfl (w.heap.size + 2) 0 (ryC xf.d v) _ Tryz.underlying72 rfl (by rw [sizRy26, ryC_len]) rfl (range_whole HS7.out.r_) ?_)
         | ((with_reducible refine gate_st 72 _ _ rfl ?_); refine wl_strG rfl 72 _ _ rfl w.heap.size (ryC xf.d v).toArray (ryC zeroR (.slice none 0 0)).toArray 72 (by rw [sizRy26, List.size_toArray, ryC_len]) (by rw [List.size_toArray, List.size_toArray, ryC_len, ryC_len]) (by rw [← Array.all_toList]; exact ryC_one _ _ hv1) rfl (by first | rfl | simp [Act.eval, Act.put]) HS7.out.res (fun W8 h1 h2 => ?_); have HR8 := Lib.hid h1; have HT8 := Lib.hid h2; clear h1 h2; try simp only [Act.put]))
       refine bodyPost_ret (res_rowc_tmp (P := Tryz.prog) (T := 72) (T' := 72) (t := 3) rfl _ _ w.heap.size (ryC xf.d v).toArray (0, 0) rfl HR8.out Tryz.underlying72 rfl (by rw [sizRy26, List.size_toArray, ryC_len])) rfl ?_
       refine ⟨v, by rw [HDD.out, hz]; rfl, ?_, HS7.out.bel.trans (HT8.out.below (fun k hk => by simp at hk; omega) HS7.out.bel.size)⟩
       rw [HDV.out]
       exact (HO7.out.base (by omega)).block fun b hb => HT8.out.block b (HO7.out.lt b hb).2 (by have := (HO7.out.lt b hb).1; simp; omega)
     · have hz2 : ((dpE l : Int) != 0) = true := by simp; omega
       have hz3 : ((dpE l : Int) == 0) = false := by simp; omega
       rw [if_neg hz] at HDD HDV
       go_wp2_with (first
         | ((with_reducible refine gate_ld 103 _ rfl ?_); refine wl_ldr rfl 103 _ rfl (w.heap.size + 1) 0 [.slice q7 n7 c7, .int .i64 ((ldN N s0).e : Int)] _ Tryz.underlying103 rfl (by rw [sizIn26]; rfl) rfl (range_whole HI.out) ?_)
         | (go_at_call 36; (refine (KEn.out _).mono ?_); rintro e W7 ⟨rfl, hb⟩; have HS7 := Lib.hid (HSa.out.below hb); clear hb)
         | ((with_reducible refine gate_bd 72 _ rfl ?_); refine wl_bd rfl _ [] rfl [] rfl (ryC zeroR (.slice none 0 0)).toArray bldRy26 ?_)
         | ((with_reducible refine gate_st 72 _ _ rfl ?_); refine wl_strG rfl 72 _ _ rfl w.heap.size (ryC zeroR (.slice none 0 0)).toArray (ryC zeroR (.slice none 0 0)).toArray 72 (by rw [sizRy26, List.size_toArray, ryC_len]) rfl (by rw [← Array.all_toList]; exact ryC_one _ _ rfl) rfl (by first | rfl | simp [Act.eval, Act.put]) HS7.out.res (fun W8 h1 h2 => ?_); have HR8 := Lib.hid h1; have HT8 := Lib.hid h2; clear h1 h2; try simp only [Act.put]))
       refine bodyPost_ret (res_rowc_tmp (P := Tryz.prog) (T := 72) (T' := 72) (t := 3) rfl _ _ w.heap.size (ryC zeroR (.slice none 0 0)).toArray (0, 0) rfl HR8.out Tryz.underlying72 rfl (by rw [sizRy26, List.size_toArray, ryC_len])) rfl ?_
       refine ⟨.slice none 0 0, by rw [HDD.out]; rfl, ?_, HS7.out.bel.trans (HT8.out.below (fun k hk => by simp at hk; omega) HS7.out.bel.size)⟩
       rw [HDV.out]
       exact OwnE.nil _ _
end Go.Proofs.YtbfefdedjcppaaaGreatDoor
