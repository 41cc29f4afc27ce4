/- Of; Cut; ofs. -/
import Derived.Test.YtmbbhnbfgcmkgaaDoorA2
namespace Go.Proofs.YtmbbhnbfgcmkgaaDoor
open Go.RowKit

set_option maxRecDepth 100000 in
set_option maxHeartbeats 2000000 in
theorem of_any (x : A4) (w : World) (hok : OkA w x) :
    Calls Tryd.prog 11 #[.agg (a4C x).toArray] w fun e w' => e = .returned (.agg (d4C x.d).toArray) ∧ Below w.heap.size w w' := by
  have hcv := conv_any ((w.alloc (.cells (a4C x).toArray 36)).alloc (.cells (d4C d40).toArray 32)) x.q x.cap x.b (hok.row.below (below_alloc2 _ _ _))
  have HB := Lib.hid (below_alloc2 w (.cells (a4C x).toArray 36) (.cells (d4C x.d).toArray 32))
  have HG : Hid (((w.alloc (.cells (a4C x).toArray 36)).alloc (.cells (d4C x.d).toArray 32)).heap[w.heap.size + 1]? = some (Obj.cells (d4C x.d).toArray 32 (0, 0))) := heap_alloc2_new _ _ _
  clear hok
  obtain ⟨k, wh, n, q, cap, b⟩ := x
  simp only [a4C, d4C, d40, A4.d] at hcv HB HG ⊢
  go_enter Tryd.func11, Tryd.ntmps11
  go_wp2_with (first
    | ((with_reducible refine gate_st 32 _ _ rfl ?_); refine wl_strn rfl _ _ _ rfl #[.int .i64 k, .int .i64 wh, .int .i64 n, .string ⟨b.toArray⟩] _ _ sizD4 rfl rfl rfl rfl ?_))
  refine bodyPost_ret (res_rowc rfl _ _ (w.heap.size + 1) _ _ rfl HG.out Tryd.underlying32 rfl sizD4) rfl ⟨rfl, HB.out⟩
end Go.Proofs.YtmbbhnbfgcmkgaaDoor
