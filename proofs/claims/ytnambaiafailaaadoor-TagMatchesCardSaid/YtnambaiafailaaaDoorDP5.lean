/- tag's Parent. -/
import Derived.Test.YtnambaiafailaaaDoorD5
namespace Go.Proofs.YtnambaiafailaaaDoor
open Go.RowKit

def parOk (b : List UInt8) : Bool := rightT b && !(b == tag0)
def parR (b : List UInt8) : List UInt8 := if parOk b then parB b else tag0
set_option maxRecDepth 100000 in
set_option maxHeartbeats 4000000 in
theorem parent_any (b : List UInt8) (w : World) (hb : b.length = 10) (hmx : MX w) :
    Calls Tryd.prog 22 #[.agg (bC b)] w fun e w' => e = .returned (.tuple #[.agg (bC (parR b)), .bool (parOk b)]) ∧ Below w.heap.size w w' := by
  have HG0 : Hid (((w.alloc (.cells (bC b) 29)).alloc (.cells (bC tag0) 29)).heap[w.heap.size]? = some (.cells (bC b) 29 (0, 0))) := heap_alloc2_old _ _ _
  have HG1 : Hid (((w.alloc (.cells (bC b) 29)).alloc (.cells (bC tag0) 29)).heap[w.heap.size + 1]? = some (.cells (bC tag0) 29 (0, 0))) := heap_alloc2_new _ _ _
  have HB0 : Hid (Below w.heap.size w ((w.alloc (.cells (bC b) 29)).alloc (.cells (bC tag0) 29))) := below_alloc2 _ _ _
  have HRi : Hid (∀ W, Below w.heap.size w W → Calls Tryd.prog 17 #[.agg (bC b)] W fun e w' => e = .returned (.bool (rightT b)) ∧ Below W.heap.size W w') := fun W hW => right_any5 b W hb (hmx.below hW)
  have he : ∀ W, (binOp .eql 29 (.agg (bC b)) (.agg #[.int .u8 0, .int .u8 0, .int .u8 0, .int .u8 0, .int .u8 0, .int .u8 0, .int .u8 0, .int .u8 0, .int .u8 0, .int .u8 0])).run Tryd.prog W = .ok (.bool (b == tag0)) W := fun W => eql10 W b tag0 hb rfl
  have hn3 : ∀ W, (binOp .neq 26 (.agg (bC ((b.drop 7).take 3))) (.agg #[.int .u8 0, .int .u8 0, .int .u8 0])).run Tryd.prog W = .ok (.bool (!((b.drop 7).take 3 == z3))) W := fun W => neqB W 26 3 Tryd.underlying26 _ z3 (by simp; omega) rfl
  have hn4 : ∀ W, (binOp .neq 27 (.agg (bC ((b.drop 3).take 4))) (.agg #[.int .u8 0, .int .u8 0, .int .u8 0, .int .u8 0])).run Tryd.prog W = .ok (.bool (!((b.drop 3).take 4 == z4))) W := fun W => neqB W 27 4 Tryd.underlying27 _ z4 (by simp; omega) rfl
  have H7 : Hid ((b.drop 7).take 3 = b.drop 7) := List.take_of_length_le (by simp; omega)
  have HO7 : Hid (ovl b 7 z3 = b.take 7 ++ z3) := by
    show _ = _; rw [ovl, show 7 + z3.length = 10 from rfl, List.drop_eq_nil_of_le (by omega), List.append_nil]
  have HO3 : Hid (ovl b 3 z4 = b.take 3 ++ z4 ++ b.drop 7) := rfl
  have HR : Hid (parOk b = (rightT b && !(b == tag0)) ∧ parR b = if parOk b then parB b else tag0) := ⟨rfl, rfl⟩
  have HPB : Hid (parB b = if b.drop 7 ≠ z3 then b.take 7 ++ z3 else if (b.drop 3).take 4 ≠ z4 then b.take 3 ++ z4 ++ b.drop 7 else tag0) := rfl
  have H10 := Lib.hid hb
  have hfit : Hid (7 + z3.length ≤ b.length ∧ 3 + z4.length ≤ b.length ∧ 7 + 3 ≤ b.length ∧ 3 + 4 ≤ b.length) := ⟨by rw [hb]; decide, by rw [hb]; decide, by omega, by omega⟩
  have s3 : Hid ((Tryd.prog.info? 26).map (·.size) = some 3) := by show _ = _; kernel_rfl
  have s4 : Hid ((Tryd.prog.info? 27).map (·.size) = some 4) := by show _ = _; kernel_rfl
  have hz3 : bC z3 = #[.int .u8 0, .int .u8 0, .int .u8 0] := rfl
  have hz4 : bC z4 = #[.int .u8 0, .int .u8 0, .int .u8 0, .int .u8 0] := rfl
  have HZ := Lib.hid (And.intro hz3 hz4)
  clear hb hmx hz3 hz4
  have hlen : Hid ((ovl b 7 z3).length = 10 ∧ (ovl b 3 z4).length = 10) := ⟨by rw [ovl_len hfit.out.1]; exact H10.out, by rw [ovl_len hfit.out.2.1]; exact H10.out⟩
  rcases hr : rightT b with _ | _
  · rw [hr] at HRi
    have HRes : Hid (parR b = tag0 ∧ parOk b = false) := by
      have h1 : parOk b = false := by rw [HR.out.1, hr]; rfl
      exact ⟨by rw [HR.out.2, h1]; rfl, h1⟩
    have HL : Hid (tag0.length = 10) := rfl
    clear hr HR HPB he hn3 hn4
    go_enter Tryd.func22, Tryd.ntmps22
    go_upto_region 2 with fail
    rw [show (Obj.cells #[.int .u8 0, .int .u8 0, .int .u8 0, .int .u8 0, .int .u8 0, .int .u8 0, .int .u8 0, .int .u8 0, .int .u8 0, .int .u8 0] 29) = Obj.cells (bC tag0) 29 from rfl]
    generalize ((w.alloc (.cells (bC b) 29)).alloc (.cells (bC tag0) 29)) = W1 at *
    go_wp2_with (first
      | (with_reducible refine ld_T rfl _ rfl w.heap.size b H10.out rfl HG0.out ?_)
      | (go_at_call 17; (refine (HRi.out _ HB0.out).mono ?_); rintro e w1 ⟨rfl, hb1⟩; have HB1 := Lib.hid (HB0.out.trans (hb1.mono HB0.out.size)); have HA0 : Hid (w1.heap[w.heap.size]? = some (.cells (bC b) 29 (0, 0))) := (by (show _ = _; rw [hb1.block _ (lt_heap HG0.out)]; exact HG0.out)); have HA1 : Hid (w1.heap[w.heap.size + 1]? = some (.cells (bC tag0) 29 (0, 0))) := (by (show _ = _; rw [hb1.block _ (lt_heap HG1.out)]; exact HG1.out)); clear hb1)
      | (with_reducible refine ld_T rfl _ rfl w.heap.size b H10.out rfl HA0.out ?_)
      | ((with_reducible refine gate_st 29 _ _ rfl ?_); refine st_T rfl _ _ rfl (w.heap.size + 1) tag0 tag0 rfl rfl _ rfl rfl HA1.out ?_))
    refine bodyPost_ret (res_rowc_tmp (P := Tryd.prog) (T := 29) (T' := 29) (t := 3) rfl _ _ (w.heap.size + 1) (bC tag0) (0, 0) rfl (setRow_at HA1.out) Tryd.underlying29 rfl (by rw [sizTag, bC_size]; exact congrArg some HL.out.symm)) rfl ⟨?_, setRow_below HB1.out (by omega) _⟩
    rw [HRes.out.1, HRes.out.2]; rfl
  · rw [hr] at HRi
    rcases h0 : (b == tag0) with _ | _
    · rw [h0] at he
      have HOk : Hid (parOk b = true) := by show _ = _; rw [HR.out.1, hr, h0]; rfl
      rcases h3 : ((b.drop 7).take 3 == z3) with _ | _
      · rw [h3] at hn3
        have HRes : Hid (parR b = ovl b 7 z3 ∧ parOk b = true) := by
          refine ⟨?_, HOk.out⟩
          rw [HR.out.2, HOk.out, if_pos rfl, HPB.out, if_pos (by rw [H7.out] at h3; simpa using h3), HO7.out]
        have HL := Lib.hid hlen.out.1
        clear hr h0 h3 HR HPB hn4 HOk
        go_enter Tryd.func22, Tryd.ntmps22
        go_upto_region 2 with fail
        rw [show (Obj.cells #[.int .u8 0, .int .u8 0, .int .u8 0, .int .u8 0, .int .u8 0, .int .u8 0, .int .u8 0, .int .u8 0, .int .u8 0, .int .u8 0] 29) = Obj.cells (bC tag0) 29 from rfl]
        generalize ((w.alloc (.cells (bC b) 29)).alloc (.cells (bC tag0) 29)) = W1 at *
        go_wp2_with (first
          | (with_reducible refine ld_T rfl _ rfl w.heap.size b H10.out rfl HG0.out ?_)
          | (go_at_call 17; (refine (HRi.out _ HB0.out).mono ?_); rintro e w1 ⟨rfl, hb1⟩; have HB1 := Lib.hid (HB0.out.trans (hb1.mono HB0.out.size)); have HA0 : Hid (w1.heap[w.heap.size]? = some (.cells (bC b) 29 (0, 0))) := (by (show _ = _; rw [hb1.block _ (lt_heap HG0.out)]; exact HG0.out)); have HA1 : Hid (w1.heap[w.heap.size + 1]? = some (.cells (bC tag0) 29 (0, 0))) := (by (show _ = _; rw [hb1.block _ (lt_heap HG1.out)]; exact HG1.out)); clear hb1)
          | (with_reducible refine ld_T rfl _ rfl w.heap.size b H10.out rfl HA0.out ?_)
          | ((with_reducible refine gate_ld 26 _ rfl ?_); refine ld_mid rfl 26 _ rfl w.heap.size 7 b 3 29 _ Tryd.underlying26 rfl HA0.out rfl s3.out hfit.out.2.2.1 ?_)
          | ((with_reducible refine gate_st 26 _ _ rfl ?_); refine st_mid rfl 26 _ _ rfl w.heap.size 7 b z3 29 HA0.out rfl rfl s3.out hfit.out.1 ?_)
          | (with_reducible refine ld_T rfl _ rfl w.heap.size (ovl b 7 z3) HL.out rfl (setRow_at HA0.out) ?_)
          | ((with_reducible refine gate_st 29 _ _ rfl ?_); refine st_T rfl _ _ rfl (w.heap.size + 1) (ovl b 7 z3) tag0 HL.out rfl _ rfl rfl ((setRow_other _ _ _ _ (by omega)).trans HA1.out) ?_))
        refine bodyPost_ret (res_rowc_tmp (P := Tryd.prog) (T := 29) (T' := 29) (t := 3) rfl _ _ (w.heap.size + 1) (bC (ovl b 7 z3)) (0, 0) rfl (setRow_at ((setRow_other _ _ _ _ (by omega)).trans HA1.out)) Tryd.underlying29 rfl (by rw [sizTag, bC_size]; exact congrArg some HL.out.symm)) rfl ⟨?_, setRow_below (setRow_below HB1.out (Nat.le_refl _) _) (by omega) _⟩
        rw [HRes.out.1, HRes.out.2]; rfl
      · rw [h3] at hn3
        rcases h4 : ((b.drop 3).take 4 == z4) with _ | _
        · rw [h4] at hn4
          have HRes : Hid (parR b = ovl b 3 z4 ∧ parOk b = true) := by
            refine ⟨?_, HOk.out⟩
            rw [HR.out.2, HOk.out, if_pos rfl, HPB.out, if_neg (by rw [H7.out] at h3; simpa using h3), if_pos (by simpa using h4), HO3.out]
          have HL := Lib.hid hlen.out.2
          clear hr h0 h3 h4 HR HPB HOk
          go_enter Tryd.func22, Tryd.ntmps22
          go_upto_region 2 with fail
          rw [show (Obj.cells #[.int .u8 0, .int .u8 0, .int .u8 0, .int .u8 0, .int .u8 0, .int .u8 0, .int .u8 0, .int .u8 0, .int .u8 0, .int .u8 0] 29) = Obj.cells (bC tag0) 29 from rfl]
          generalize ((w.alloc (.cells (bC b) 29)).alloc (.cells (bC tag0) 29)) = W1 at *
          go_wp2_with (first
            | (with_reducible refine ld_T rfl _ rfl w.heap.size b H10.out rfl HG0.out ?_)
            | (go_at_call 17; (refine (HRi.out _ HB0.out).mono ?_); rintro e w1 ⟨rfl, hb1⟩; have HB1 := Lib.hid (HB0.out.trans (hb1.mono HB0.out.size)); have HA0 : Hid (w1.heap[w.heap.size]? = some (.cells (bC b) 29 (0, 0))) := (by (show _ = _; rw [hb1.block _ (lt_heap HG0.out)]; exact HG0.out)); have HA1 : Hid (w1.heap[w.heap.size + 1]? = some (.cells (bC tag0) 29 (0, 0))) := (by (show _ = _; rw [hb1.block _ (lt_heap HG1.out)]; exact HG1.out)); clear hb1)
            | (with_reducible refine ld_T rfl _ rfl w.heap.size b H10.out rfl HA0.out ?_)
            | ((with_reducible refine gate_ld 26 _ rfl ?_); refine ld_mid rfl 26 _ rfl w.heap.size 7 b 3 29 _ Tryd.underlying26 rfl HA0.out rfl s3.out hfit.out.2.2.1 ?_)
            | ((with_reducible refine gate_ld 27 _ rfl ?_); refine ld_mid rfl 27 _ rfl w.heap.size 3 b 4 29 _ Tryd.underlying27 rfl HA0.out rfl s4.out hfit.out.2.2.2 ?_)
            | ((with_reducible refine gate_st 27 _ _ rfl ?_); refine st_mid rfl 27 _ _ rfl w.heap.size 3 b z4 29 HA0.out rfl rfl s4.out hfit.out.2.1 ?_)
            | (with_reducible refine ld_T rfl _ rfl w.heap.size (ovl b 3 z4) HL.out rfl (setRow_at HA0.out) ?_)
            | ((with_reducible refine gate_st 29 _ _ rfl ?_); refine st_T rfl _ _ rfl (w.heap.size + 1) (ovl b 3 z4) tag0 HL.out rfl _ rfl rfl ((setRow_other _ _ _ _ (by omega)).trans HA1.out) ?_))
          refine bodyPost_ret (res_rowc_tmp (P := Tryd.prog) (T := 29) (T' := 29) (t := 3) rfl _ _ (w.heap.size + 1) (bC (ovl b 3 z4)) (0, 0) rfl (setRow_at ((setRow_other _ _ _ _ (by omega)).trans HA1.out)) Tryd.underlying29 rfl (by rw [sizTag, bC_size]; exact congrArg some HL.out.symm)) rfl ⟨?_, setRow_below (setRow_below HB1.out (Nat.le_refl _) _) (by omega) _⟩
          rw [HRes.out.1, HRes.out.2]; rfl
        · rw [h4] at hn4
          have HRes : Hid (parR b = tag0 ∧ parOk b = true) := by
            refine ⟨?_, HOk.out⟩
            rw [HR.out.2, HOk.out, if_pos rfl, HPB.out, if_neg (by rw [H7.out] at h3; simpa using h3), if_neg (by simpa using h4)]
          have HL : Hid (tag0.length = 10) := rfl
          clear hr h0 h3 h4 HR HPB HOk
          go_enter Tryd.func22, Tryd.ntmps22
          go_upto_region 2 with fail
          rw [show (Obj.cells #[.int .u8 0, .int .u8 0, .int .u8 0, .int .u8 0, .int .u8 0, .int .u8 0, .int .u8 0, .int .u8 0, .int .u8 0, .int .u8 0] 29) = Obj.cells (bC tag0) 29 from rfl]
          generalize ((w.alloc (.cells (bC b) 29)).alloc (.cells (bC tag0) 29)) = W1 at *
          go_wp2_with (first
            | (with_reducible refine ld_T rfl _ rfl w.heap.size b H10.out rfl HG0.out ?_)
            | (go_at_call 17; (refine (HRi.out _ HB0.out).mono ?_); rintro e w1 ⟨rfl, hb1⟩; have HB1 := Lib.hid (HB0.out.trans (hb1.mono HB0.out.size)); have HA0 : Hid (w1.heap[w.heap.size]? = some (.cells (bC b) 29 (0, 0))) := (by (show _ = _; rw [hb1.block _ (lt_heap HG0.out)]; exact HG0.out)); have HA1 : Hid (w1.heap[w.heap.size + 1]? = some (.cells (bC tag0) 29 (0, 0))) := (by (show _ = _; rw [hb1.block _ (lt_heap HG1.out)]; exact HG1.out)); clear hb1)
            | (with_reducible refine ld_T rfl _ rfl w.heap.size b H10.out rfl HA0.out ?_)
            | ((with_reducible refine gate_ld 26 _ rfl ?_); refine ld_mid rfl 26 _ rfl w.heap.size 7 b 3 29 _ Tryd.underlying26 rfl HA0.out rfl s3.out hfit.out.2.2.1 ?_)
            | ((with_reducible refine gate_ld 27 _ rfl ?_); refine ld_mid rfl 27 _ rfl w.heap.size 3 b 4 29 _ Tryd.underlying27 rfl HA0.out rfl s4.out hfit.out.2.2.2 ?_)
            | ((with_reducible refine gate_st 29 _ _ rfl ?_); first
                | (refine st_T rfl _ _ rfl w.heap.size tag0 b rfl H10.out _ rfl rfl HA0.out ?_)
                | (refine st_T rfl _ _ rfl (w.heap.size + 1) tag0 tag0 rfl rfl _ rfl rfl ((setRow_other _ _ _ _ (by omega)).trans HA1.out) ?_))
            | (with_reducible refine ld_T rfl _ rfl w.heap.size tag0 HL.out rfl (setRow_at HA0.out) ?_))
          refine bodyPost_ret (res_rowc_tmp (P := Tryd.prog) (T := 29) (T' := 29) (t := 3) rfl _ _ (w.heap.size + 1) (bC tag0) (0, 0) rfl (setRow_at ((setRow_other _ _ _ _ (by omega)).trans HA1.out)) Tryd.underlying29 rfl (by rw [sizTag, bC_size]; exact congrArg some HL.out.symm)) rfl ⟨?_, setRow_below (setRow_below HB1.out (Nat.le_refl _) _) (by omega) _⟩
          rw [HRes.out.1, HRes.out.2]; rfl
    · rw [h0] at he
      have HRes : Hid (parR b = tag0 ∧ parOk b = false) := by
        have h1 : parOk b = false := by rw [HR.out.1, hr, h0]; rfl
        exact ⟨by rw [HR.out.2, h1]; rfl, h1⟩
      have HL : Hid (tag0.length = 10) := rfl
      clear hr h0 HR HPB hn3 hn4
      go_enter Tryd.func22, Tryd.ntmps22
      go_upto_region 2 with fail
      rw [show (Obj.cells #[.int .u8 0, .int .u8 0, .int .u8 0, .int .u8 0, .int .u8 0, .int .u8 0, .int .u8 0, .int .u8 0, .int .u8 0, .int .u8 0] 29) = Obj.cells (bC tag0) 29 from rfl]
      generalize ((w.alloc (.cells (bC b) 29)).alloc (.cells (bC tag0) 29)) = W1 at *
      go_wp2_with (first
        | (with_reducible refine ld_T rfl _ rfl w.heap.size b H10.out rfl HG0.out ?_)
        | (go_at_call 17; (refine (HRi.out _ HB0.out).mono ?_); rintro e w1 ⟨rfl, hb1⟩; have HB1 := Lib.hid (HB0.out.trans (hb1.mono HB0.out.size)); have HA0 : Hid (w1.heap[w.heap.size]? = some (.cells (bC b) 29 (0, 0))) := (by (show _ = _; rw [hb1.block _ (lt_heap HG0.out)]; exact HG0.out)); have HA1 : Hid (w1.heap[w.heap.size + 1]? = some (.cells (bC tag0) 29 (0, 0))) := (by (show _ = _; rw [hb1.block _ (lt_heap HG1.out)]; exact HG1.out)); clear hb1)
        | (with_reducible refine ld_T rfl _ rfl w.heap.size b H10.out rfl HA0.out ?_)
        | ((with_reducible refine gate_st 29 _ _ rfl ?_); refine st_T rfl _ _ rfl (w.heap.size + 1) tag0 tag0 rfl rfl _ rfl rfl HA1.out ?_))
      refine bodyPost_ret (res_rowc_tmp (P := Tryd.prog) (T := 29) (T' := 29) (t := 3) rfl _ _ (w.heap.size + 1) (bC tag0) (0, 0) rfl (setRow_at HA1.out) Tryd.underlying29 rfl (by rw [sizTag, bC_size]; exact congrArg some HL.out.symm)) rfl ⟨?_, setRow_below HB1.out (by omega) _⟩
      rw [HRes.out.1, HRes.out.2]; rfl
end Go.Proofs.YtnambaiafailaaaDoor
