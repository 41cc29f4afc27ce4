/- Less. -/
import Derived.Test.YtagdedjclbmlkaaC19
import Derived.Test.YtagdedjclbmlkaaGX
import Derived.Test.YtagdedjclbmlkaaD4
namespace Go.Proofs.Ytagdedjclbmlkaa
open Go.RowKit

set_option maxRecDepth 100000 in
set_option maxHeartbeats 4000000 in
theorem less_any (x y : List UInt8) (w : World) (hx : x.length = 25) (hy : y.length = 25) :
    Calls Try.prog 30 #[.agg (bC x), .agg (bC y)] w fun e w' => e = .returned (.bool (ltK x y)) ∧ Below w.heap.size w w' := by
  have FA : Hid (((w.alloc (.cells (bC x) 30)).alloc (.cells (bC y) 30)).heap[w.heap.size]? = some (Obj.cells (bC x) 30 (0, 0))) := heap_alloc2_old _ _ _
  have FB : Hid (((w.alloc (.cells (bC x) 30)).alloc (.cells (bC y) 30)).heap[w.heap.size + 1]? = some (Obj.cells (bC y) 30 (0, 0))) := heap_alloc2_new _ _ _
  have HB := Lib.hid (below_alloc2 w (.cells (bC x) 30) (.cells (bC y) 30))
  have HX := Lib.hid hx
  have HY := Lib.hid hy
  clear hx hy
  go_enter Try.func30, Try.ntmps30
  go_upto_region 1 with fail
  generalize ((w.alloc (.cells (bC x) 30)).alloc (.cells (bC y) 30)) = W0 at *
  refine wp_region_pair [(7, .agg (bC x)), (8, .agg (bC x)), (9, .agg (bC y)), (10, .agg (bC y))] 5 6 (bC z25) (bC z25) (bC x) (bC y) 85 85 (by kernel_rfl) (by kernel_rfl) rfl (by simp) (by simp) _ _ _ _ rfl rfl rfl rfl
    ⟨rfl, rfl, fun a w => by kernel_rfl⟩ ⟨rfl, rfl, fun a w => by kernel_rfl⟩
    ⟨rfl, rfl, fun a' w' g hd hp hg => exec_str _ (.tmp 5) (.tmp 8) rfl g (bC x) (bC z25) _ (by rw [siz25, bC_size, HX.out]) (by rw [bC_size, bC_size, HX.out]; rfl) (bC_one x) hp (hd 1 (by simp) (by kernel_rfl)) hg⟩
    ⟨rfl, rfl, fun a' w' g hd hp hg => exec_str _ (.tmp 6) (.tmp 10) rfl g (bC y) (bC z25) _ (by rw [siz25, bC_size, HY.out]) (by rw [bC_size, bC_size, HY.out]; rfl) (bC_one y) hp (hd 3 (by simp) (by kernel_rfl)) hg⟩
    (by kernel_rfl) (by kernel_rfl) (by kernel_rfl) (by kernel_rfl) ?_ ?_
  · intro i hi a' w' hfr hdep hbel K hK
    have hi4 : i < 4 := hi
    obtain rfl | rfl | rfl | rfl : i = 0 ∨ i = 1 ∨ i = 2 ∨ i = 3 := by omega
    · exact wpOp_ldr rfl rfl _ _ rfl w.heap.size 0 (bC x).toList _ Try.underlying30 rfl (by rw [sizKey]; simp [bC, HX.out]) (hfr.off 2 (by simp)) (range_of_block (range_whole (by simpa using FA.out)) (hbel.block _ (lt_heap FA.out))) (by simpa using hK w' (Below.refl _ _))
    · exact wpOp_enter rfl rfl (exec_call1 rfl (enters_of Try.func35 (by kernel_rfl) rfl) (x := .tmp 7) (v := .agg (bC x)) (hdep 0 (by simp) (by kernel_rfl)) w') (keyBytes_any x w' HX.out) hK
    · exact wpOp_ldr rfl rfl _ _ rfl (w.heap.size + 1) 0 (bC y).toList _ Try.underlying30 rfl (by rw [sizKey]; simp [bC, HY.out]) (hfr.off 3 (by simp)) (range_of_block (range_whole (by simpa using FB.out)) (hbel.block _ (lt_heap FB.out))) (by simpa using hK w' (Below.refl _ _))
    · exact wpOp_enter rfl rfl (exec_call1 rfl (enters_of Try.func35 (by kernel_rfl) rfl) (x := .tmp 9) (v := .agg (bC y)) (hdep 2 (by simp) (by kernel_rfl)) w') (keyBytes_any y w' HY.out) hK
  · intro W g h hgh hg0 hh0 hbel hg hh
    have HB2 := Lib.hid (HB.out.trans (hbel.mono HB.out.size))
    have HG := Lib.hid hg
    have HH := Lib.hid hh
    clear hg hh hbel HB FA FB hg0 hh0 hgh
    simp only [puts, List.cons_append, List.nil_append, List.setIfInBounds_toArray, List.set_cons_zero, List.set_cons_succ]
    have KC : ∀ dq osq, Calls Try.prog 48 #[.slice (some ⟨g, 0, none⟩) 25 25, .slice (some ⟨h, 0, none⟩) 25 25] (Sort.grow (redrawn W dq) osq) fun e w' => e = .returned (.int .i64 (Lib.compareBytes x y)) ∧ ∃ p : Regrown, w' = Sort.grow (redrawn W p.d) p.os := fun dq osq =>
      Calls.regrown_of ((compare_any g 0 25 25 h 0 25 25 x y (Sort.grow (redrawn W dq) osq) HX.out HY.out (range_whole (by simpa using rg_block HG.out dq osq)) (range_whole (by simpa using rg_block HH.out dq osq))).mono fun e w' h => ⟨h.1, by rw [h.2]; exact Below.refl _ _⟩)
    go_upto_region 2 with fail
    refine wp_region_quiet_below (by kernel_rfl) (by kernel_rfl) ?_
    repeat (first
      | (refine wq_val (.bool (ltK x y)) rfl (fun w => exec_ltI (.tmp 13) (.const (.int .i64 0)) rfl _ 0 _ (cmp_lt _ _) rfl rfl) ?_; simp only [Act.put, List.setIfInBounds_toArray, List.set_cons_zero, List.set_cons_succ])
      | go_big_quiet_step (first | (exact KC _ _)))
    refine wpQuiet_nil ?_
    rintro _ ⟨⟨dq, osq⟩, rfl⟩
    have HB9 := Lib.hid (HB2.out.trans ((below_regrown W dq osq).mono HB2.out.size))
    go_wp2_with fail
    go_ret
    exact ⟨rfl, HB9.out⟩
end Go.Proofs.Ytagdedjclbmlkaa
