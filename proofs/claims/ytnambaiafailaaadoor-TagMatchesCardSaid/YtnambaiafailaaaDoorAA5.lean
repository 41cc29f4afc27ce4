/- The law's To: a tag, as the program's. -/
import Derived.Test.YtnambaiafailaaaDoorZ5
namespace Go.Proofs.YtnambaiafailaaaDoor
open Go.RowKit

theorem siz10A : (Tryd.prog.info? 39).map (·.size) = some 10 := by kernel_rfl
set_option maxRecDepth 100000 in
set_option maxHeartbeats 4000000 in
theorem to_any (t : T3) (w : World) (hl : t.lang.length ≤ 3) (hs : t.script.length ≤ 4) (hr : t.region.length ≤ 3) :
    Calls Tryd.prog 14 #[.agg (tC t)] w fun e w' => e = .returned (.agg (bC (bytT t))) ∧ Below w.heap.size w w' := by
  have HBy : Hid (∀ W : World, Calls Tryd.prog 32 #[.agg (tC t)] W fun e w' => e = .returned (.agg (bC (bytT t))) ∧ Below W.heap.size W w') := fun W => refBytes_any t W hl hs hr
  have H10 : Hid ((bytT t).length = 10) := by show (bytT t).length = 10; rw [bytT, List.length_append, List.length_append, padTo_len hl, padTo_len hs, padTo_len hr]
  have HG0 : Hid (((w.alloc (.cells (tC t) 23)).alloc (.cells (bC tag0) 29)).heap[w.heap.size]? = some (.cells (tC t) 23 (0, 0))) := heap_alloc2_old _ _ _
  have HG1 : Hid (((w.alloc (.cells (tC t) 23)).alloc (.cells (bC tag0) 29)).heap[w.heap.size + 1]? = some (.cells (bC tag0) 29 (0, 0))) := heap_alloc2_new _ _ _
  have HB1 : Hid (Below w.heap.size w ((w.alloc (.cells (tC t) 23)).alloc (.cells (bC tag0) 29))) := below_alloc2 _ _ _
  generalize bytT t = bt at *
  clear hl hs hr
  go_enter Tryd.func14, Tryd.ntmps14
  go_upto_region 1 with fail
  rw [show (Obj.cells #[Value.int IntKind.u8 0, Value.int IntKind.u8 0, Value.int IntKind.u8 0, Value.int IntKind.u8 0, Value.int IntKind.u8 0, Value.int IntKind.u8 0, Value.int IntKind.u8 0, Value.int IntKind.u8 0, Value.int IntKind.u8 0, Value.int IntKind.u8 0] 29) = Obj.cells (bC tag0) 29 from rfl]
  generalize ((w.alloc (.cells (tC t) 23)).alloc (.cells (bC tag0) 29)) = W1 at *
  go_upto_region 2 with (first
    | (with_reducible refine ld_R3 rfl _ rfl w.heap.size t rfl HG0.out ?_)
    | (go_at_call 32; (refine (HBy.out _).mono ?_); rintro e w2 ⟨rfl, hb2⟩; have HB2 := Lib.hid hb2; clear hb2)
    | ((with_reducible refine gate_st 39 _ _ rfl ?_); refine wl_strn rfl 39 _ _ rfl (bC bt) _ _ (by rw [siz10A, bC_size, H10.out]) (by rw [bC_size, H10.out]; rfl) (bC_one _) rfl rfl ?_))
  have HG3 : Hid ((w2.alloc (.cells (bC bt) 39)).heap[w2.heap.size]? = some (.cells (bC bt) 39 (0, 0))) := heap_alloc_new _ _
  have HB3 := Lib.hid ((HB1.out.trans (HB2.out.mono HB1.out.size)).alloc (HB1.out.trans (HB2.out.mono HB1.out.size)).size (.cells (bC bt) 39))
  have HN3 : Hid ((w2.alloc (.cells (bC bt) 39)).heap[w.heap.size + 1]? = some (.cells (bC tag0) 29 (0, 0))) := by
    show _ = _
    have hl1 := lt_heap HG1.out
    rw [heap_alloc_old _ _ (Nat.lt_of_lt_of_le hl1 HB2.out.size), HB2.out.block _ hl1]; exact HG1.out
  clear HG0 HG1 HB1 HB2 HBy
  generalize w2.alloc (.cells (bC bt) 39) = W3 at *
  have hlt : w2.heap.size < W3.heap.size := lt_heap HG3.out
  have hlt1 : w.heap.size + 1 < W3.heap.size := lt_heap HN3.out
  have hne : w2.heap.size ≠ W3.heap.size := by omega
  have HCt : Hid (∀ (j : Nat) (hj : j < bt.length), W3.cell? ⟨w2.heap.size, j, none⟩ = some (.int .u8 (bt[j].toNat : Int))) := fun j hj => by rw [cell_blk HG3.out, bC_get _ _ hj]
  have hz0 : bC (padK 10 bt 0) = #[.int .u8 0, .int .u8 0, .int .u8 0, .int .u8 0, .int .u8 0, .int .u8 0, .int .u8 0, .int .u8 0, .int .u8 0, .int .u8 0] := rfl
  have HZ0 := Lib.hid hz0
  clear hz0
  go_wp2_with fail
  rw [← HZ0.out]
  go_loopw [5] (fun i wr => ∃ j : Nat, j ≤ 10 ∧ i = .int .i64 j ∧ wr = W3.alloc (.cells (bC (padK 10 bt j)) 29)) (fun i _ => 10 - (intOf i).toNat)
  case atStart => exact ⟨0, by omega, rfl, rfl⟩
  case round =>
    obtain ⟨j, hj, rfl, rfl⟩ := hrel
    by_cases hl : j < 10
    · obtain ⟨tb, hjt, hct, hold⟩ : ∃ tb : UInt8, (bC (padK 10 bt j)).setIfInBounds j (.int .u8 (tb.toNat : Int)) = bC (padK 10 bt (j + 1)) ∧ W3.cell? ⟨w2.heap.size, j, none⟩ = some (.int .u8 (tb.toNat : Int)) ∧ (bC (padK 10 bt j))[j]? = some (.int .u8 0) := by
        have hlb : j < bt.length := by rw [H10.out]; exact hl
        refine ⟨bt[j], by rw [bC_set, padK_next 10 bt j hlb hl], HCt.out j hlb, ?_⟩
        rw [bC_get _ _ (by rw [padK_len (by omega) hj]; exact hl)]
        have : (padK 10 bt j)[j]'(by rw [padK_len (by omega) hj]; exact hl) = 0 := by
          unfold padK
          rw [List.getElem_append_right (by simp; omega)]
          simp
        rw [this]; rfl
      have HJ := Lib.hid hjt
      clear HCt hjt
      have bt' := byte_lt tb
      rcases (show j = 0 ∨ j = 1 ∨ j = 2 ∨ j = 3 ∨ j = 4 ∨ j = 5 ∨ j = 6 ∨ j = 7 ∨ j = 8 ∨ j = 9 by omega) with rfl | rfl | rfl | rfl | rfl | rfl | rfl | rfl | rfl | rfl
      all_goals
        simp only [Nat.reduceAdd] at hct hold HJ
        go_wp2_with fail
        go_roundw
        case rel => first | exact ⟨1, by omega, rfl, by rw [HJ.out]⟩ | exact ⟨2, by omega, rfl, by rw [HJ.out]⟩ | exact ⟨3, by omega, rfl, by rw [HJ.out]⟩ | exact ⟨4, by omega, rfl, by rw [HJ.out]⟩ | exact ⟨5, by omega, rfl, by rw [HJ.out]⟩ | exact ⟨6, by omega, rfl, by rw [HJ.out]⟩ | exact ⟨7, by omega, rfl, by rw [HJ.out]⟩ | exact ⟨8, by omega, rfl, by rw [HJ.out]⟩ | exact ⟨9, by omega, rfl, by rw [HJ.out]⟩ | exact ⟨10, by omega, rfl, by rw [HJ.out]⟩
        case measure => simp [intOf]
    · obtain rfl : j = 10 := by omega
      have HE : Hid (padK 10 bt 10 = bt) := by
        show _ = _
        rw [padK, List.take_of_length_le (by rw [H10.out]; omega)]; simp
      rw [HE.out]
      go_wp2_with (first
        | (with_reducible refine ld_T rfl _ rfl W3.heap.size bt H10.out rfl (heap_alloc_new _ _) ?_)
        | ((with_reducible refine gate_st 29 _ _ rfl ?_); refine st_T rfl _ _ rfl (w.heap.size + 1) bt tag0 H10.out rfl _ rfl rfl (by rw [heap_alloc_old _ _ hlt1]; exact HN3.out) ?_))
      refine bodyPost_ret (res_rowc (P := Tryd.prog) (T := 29) (T' := 29) rfl _ _ (w.heap.size + 1) (bC bt) (0, 0) rfl (setRow_at (old := bC tag0) (by rw [heap_alloc_old _ _ hlt1]; exact HN3.out)) Tryd.underlying29 rfl (by rw [sizTag, bC_size, H10.out])) rfl ⟨rfl, setRow_below (HB3.out.alloc HB3.out.size _) (by omega) _⟩
end Go.Proofs.YtnambaiafailaaaDoor
