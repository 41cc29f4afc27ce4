/- The law's raw: a tag's ten bytes. -/
import Derived.Test.YtnambaiafailaaaDoorAA5
namespace Go.Proofs.YtnambaiafailaaaDoor
open Go.RowKit

set_option maxRecDepth 100000 in
set_option maxHeartbeats 4000000 in
theorem raw_any (bt : List UInt8) (w : World) (hb : bt.length = 10) :
    Calls Tryd.prog 21 #[.agg (bC bt)] w fun e w' => e = .returned (.agg (bC bt)) ∧ Below w.heap.size w w' := by
  have H10 := Lib.hid hb
  have HG3 : Hid (((w.alloc (.cells (bC bt) 29)).alloc (.cells (bC tag0) 39)).heap[w.heap.size]? = some (.cells (bC bt) 29 (0, 0))) := heap_alloc2_old _ _ _
  have HN3 : Hid (((w.alloc (.cells (bC bt) 29)).alloc (.cells (bC tag0) 39)).heap[w.heap.size + 1]? = some (.cells (bC tag0) 39 (0, 0))) := heap_alloc2_new _ _ _
  have HB3 : Hid (Below w.heap.size w ((w.alloc (.cells (bC bt) 29)).alloc (.cells (bC tag0) 39))) := below_alloc2 _ _ _
  have HS3 : Hid (((w.alloc (.cells (bC bt) 29)).alloc (.cells (bC tag0) 39)).heap.size = w.heap.size + 1 + 1) := by show _ = _; simp
  clear hb
  go_enter Tryd.func21, Tryd.ntmps21
  go_upto_region 1 with fail
  rw [show (Obj.cells #[Value.int IntKind.u8 0, Value.int IntKind.u8 0, Value.int IntKind.u8 0, Value.int IntKind.u8 0, Value.int IntKind.u8 0, Value.int IntKind.u8 0, Value.int IntKind.u8 0, Value.int IntKind.u8 0, Value.int IntKind.u8 0, Value.int IntKind.u8 0] 39) = Obj.cells (bC tag0) 39 from rfl]
  generalize ((w.alloc (.cells (bC bt) 29)).alloc (.cells (bC tag0) 39)) = W3 at *
  have hs3 := HS3.out
  have hlt : w.heap.size < W3.heap.size := lt_heap HG3.out
  have hlt1 : w.heap.size + 1 < W3.heap.size := lt_heap HN3.out
  have hne : w.heap.size ≠ W3.heap.size := by omega
  clear hs3
  have HCt : Hid (∀ (j : Nat) (hj : j < bt.length), W3.cell? ⟨w.heap.size, j, none⟩ = some (.int .u8 (bt[j].toNat : Int))) := fun j hj => by rw [cell_blk HG3.out, bC_get _ _ hj]
  have hz0 : bC (padK 10 bt 0) = #[.int .u8 0, .int .u8 0, .int .u8 0, .int .u8 0, .int .u8 0, .int .u8 0, .int .u8 0, .int .u8 0, .int .u8 0, .int .u8 0] := rfl
  have HZ0 := Lib.hid hz0
  clear hz0
  go_wp2_with fail
  rw [← HZ0.out]
  go_loopw [4] (fun i wr => ∃ j : Nat, j ≤ 10 ∧ i = .int .i64 j ∧ wr = W3.alloc (.cells (bC (padK 10 bt j)) 39)) (fun i _ => 10 - (intOf i).toNat)
  case atStart => exact ⟨0, by omega, rfl, rfl⟩
  case round =>
    obtain ⟨j, hj, rfl, rfl⟩ := hrel
    by_cases hl : j < 10
    · obtain ⟨tb, hjt, hct, hold⟩ : ∃ tb : UInt8, (bC (padK 10 bt j)).setIfInBounds j (.int .u8 (tb.toNat : Int)) = bC (padK 10 bt (j + 1)) ∧ W3.cell? ⟨w.heap.size, j, none⟩ = some (.int .u8 (tb.toNat : Int)) ∧ (bC (padK 10 bt j))[j]? = some (.int .u8 0) := by
        have hlb : j < bt.length := by rw [H10.out]; exact hl
        refine ⟨bt[j], by rw [bC_set, padK_next 10 bt j hlb hl], HCt.out j hlb, ?_⟩
        rw [bC_get _ _ (by rw [padK_len (by omega) hj]; exact hl)]
        have : (padK 10 bt j)[j]'(by rw [padK_len (by omega) hj]; exact hl) = 0 := by
          unfold padK
          rw [List.getElem_append_right (by simp; omega)]
          simp
        rw [this]; rfl
      have HJ := Lib.hid hjt
      clear HCt hjt
      have bt' := byte_lt tb
      rcases (show j = 0 ∨ j = 1 ∨ j = 2 ∨ j = 3 ∨ j = 4 ∨ j = 5 ∨ j = 6 ∨ j = 7 ∨ j = 8 ∨ j = 9 by omega) with rfl | rfl | rfl | rfl | rfl | rfl | rfl | rfl | rfl | rfl
      all_goals
        simp only [Nat.reduceAdd] at hct hold HJ
        go_wp2_with fail
        go_roundw
        case rel => first | exact ⟨1, by omega, rfl, by rw [HJ.out]⟩ | exact ⟨2, by omega, rfl, by rw [HJ.out]⟩ | exact ⟨3, by omega, rfl, by rw [HJ.out]⟩ | exact ⟨4, by omega, rfl, by rw [HJ.out]⟩ | exact ⟨5, by omega, rfl, by rw [HJ.out]⟩ | exact ⟨6, by omega, rfl, by rw [HJ.out]⟩ | exact ⟨7, by omega, rfl, by rw [HJ.out]⟩ | exact ⟨8, by omega, rfl, by rw [HJ.out]⟩ | exact ⟨9, by omega, rfl, by rw [HJ.out]⟩ | exact ⟨10, by omega, rfl, by rw [HJ.out]⟩
        case measure => simp [intOf]
    · obtain rfl : j = 10 := by omega
      have HE : Hid (padK 10 bt 10 = bt) := by
        show _ = _
        rw [padK, List.take_of_length_le (by rw [H10.out]; omega)]; simp
      rw [HE.out]
      go_wp2_with (first
        | ((with_reducible refine gate_ld 39 _ rfl ?_); refine wl_ldr rfl _ _ rfl W3.heap.size 0 (bC bt).toList _ Tryd.underlying39 rfl (by rw [siz10A]; simp [bC, H10.out]) rfl (range_whole (by simpa using (heap_alloc_new W3 (.cells (bC bt) 39)))) ?_)
        | ((with_reducible refine gate_st 39 _ _ rfl ?_); refine wl_str rfl 39 _ _ rfl (w.heap.size + 1) (bC bt) (bC tag0) 39 (by rw [siz10A, bC_size, H10.out]) (by rw [bC_size, bC_size, H10.out]; rfl) (bC_one _) rfl rfl (by rw [heap_alloc_old _ _ hlt1]; exact HN3.out) ?_))
      refine bodyPost_ret (res_rowc (P := Tryd.prog) (T := 39) (T' := 39) rfl _ _ (w.heap.size + 1) (bC bt) (0, 0) rfl (setRow_at (old := bC tag0) (by rw [heap_alloc_old _ _ hlt1]; exact HN3.out)) Tryd.underlying39 rfl (by rw [siz10A, bC_size, H10.out])) rfl ⟨rfl, setRow_below (HB3.out.alloc HB3.out.size _) (by omega) _⟩
end Go.Proofs.YtnambaiafailaaaDoor
