/- Key's Less. -/
import Derived.Test.YtagdedjclbmlkaaK2
namespace Go.Proofs.Ytagdedjclbmlkaa
open Go.RowKit

set_option maxRecDepth 100000 in
set_option maxHeartbeats 4000000 in
theorem keyLess_any (a b : List UInt8) (w : World) (ha : a.length = 25) (hb : b.length = 25) :
    Calls Try.prog 30 #[.agg (bC a), .agg (bC b)] w fun e w' => e = .returned (.bool (decide (Lib.compareBytes a b < 0))) ∧ Below w.heap.size w w' := by
  have FA : Hid (((w.alloc (.cells (bC a) 30)).alloc (.cells (bC b) 30)).heap[w.heap.size]? = some (Obj.cells (bC a) 30 (0, 0))) := heap_alloc2_old _ _ _
  have FB : Hid (((w.alloc (.cells (bC a) 30)).alloc (.cells (bC b) 30)).heap[w.heap.size + 1]? = some (Obj.cells (bC b) 30 (0, 0))) := heap_alloc2_new _ _ _
  have HB : Hid (Below w.heap.size w ((w.alloc (.cells (bC a) 30)).alloc (.cells (bC b) 30))) := below_alloc2 _ _ _
  have KA : Hid (∀ W, Below w.heap.size w W → Calls Try.prog 35 #[.agg (bC a)] W fun e w' => e = .returned (.agg (bC a)) ∧ Below W.heap.size W w') := fun W _ => keyBytes_any a W ha
  have KB : Hid (∀ W, Below w.heap.size w W → Calls Try.prog 35 #[.agg (bC b)] W fun e w' => e = .returned (.agg (bC b)) ∧ Below W.heap.size W w') := fun W _ => keyBytes_any b W hb
  have HLa := Lib.hid ha
  have HLb := Lib.hid hb
  clear ha hb
  go_enter Try.func30, Try.ntmps30
  go_upto_region 1 with fail
  generalize ((w.alloc (.cells (bC a) 30)).alloc (.cells (bC b) 30)) = W0 at *
  refine wp_region_pair [(7, .agg (bC a)), (8, .agg (bC a)), (9, .agg (bC b)), (10, .agg (bC b))] 5 6 (bC z25) (bC z25) (bC a) (bC b) 85 85 (by kernel_rfl) (by kernel_rfl) rfl (by simp) (by simp) _ _ _ _ rfl rfl rfl rfl
    ⟨rfl, rfl, fun a w => by kernel_rfl⟩ ⟨rfl, rfl, fun a w => by kernel_rfl⟩
    ⟨rfl, rfl, fun a' w' g hd hp hg => exec_str _ (.tmp 5) (.tmp 8) rfl g (bC a) (bC z25) _ (by rw [siz25, bC_size, HLa.out]) (by rw [bC_size, bC_size, HLa.out]; rfl) (bC_one a) hp (hd 1 (by simp) (by kernel_rfl)) hg⟩
    ⟨rfl, rfl, fun a' w' g hd hp hg => exec_str _ (.tmp 6) (.tmp 10) rfl g (bC b) (bC z25) _ (by rw [siz25, bC_size, HLb.out]) (by rw [bC_size, bC_size, HLb.out]; rfl) (bC_one b) hp (hd 3 (by simp) (by kernel_rfl)) hg⟩
    (by kernel_rfl) (by kernel_rfl) (by kernel_rfl) (by kernel_rfl) ?_ ?_
  · intro i hi a' w' hfr hdep hbel K hK
    have hi4 : i < 4 := hi
    obtain rfl | rfl | rfl | rfl : i = 0 ∨ i = 1 ∨ i = 2 ∨ i = 3 := by omega
    · exact wpOp_ldr rfl rfl _ _ rfl w.heap.size 0 (bC a).toList _ Try.underlying30 rfl (by rw [sizKey]; simp [bC_size, HLa.out]) (hfr.off 2 (by simp)) (range_of_block (range_whole (by simpa using FA.out)) (hbel.block _ (lt_heap FA.out))) (by simpa using hK w' (Below.refl _ _))
    · exact wpOp_enter rfl rfl (exec_call1 rfl (enters_of Try.func35 (by kernel_rfl) rfl) (x := .tmp 7) (v := .agg (bC a)) (hdep 0 (by simp) (by kernel_rfl)) w') (KA.out w' (HB.out.trans (hbel.mono HB.out.size))) hK
    · exact wpOp_ldr rfl rfl _ _ rfl (w.heap.size + 1) 0 (bC b).toList _ Try.underlying30 rfl (by rw [sizKey]; simp [bC_size, HLb.out]) (hfr.off 3 (by simp)) (range_of_block (range_whole (by simpa using FB.out)) (hbel.block _ (lt_heap FB.out))) (by simpa using hK w' (Below.refl _ _))
    · exact wpOp_enter rfl rfl (exec_call1 rfl (enters_of Try.func35 (by kernel_rfl) rfl) (x := .tmp 9) (v := .agg (bC b)) (hdep 2 (by simp) (by kernel_rfl)) w') (KB.out w' (HB.out.trans (hbel.mono HB.out.size))) hK
  · intro W g h hgh hg0 hh0 hbel hg hh
    have HB2 := Lib.hid (HB.out.trans (hbel.mono HB.out.size))
    have HC : Hid (∀ W', Below W.heap.size W W' → Calls Try.prog 48 #[.slice (some ⟨g, 0, none⟩) 25 25, .slice (some ⟨h, 0, none⟩) 25 25] W' fun e w' => e = .returned (.int .i64 (Lib.compareBytes a b)) ∧ Below W'.heap.size W' w') := fun W' hW =>
      (compare_any g 0 25 25 h 0 25 25 a b W' HLa.out HLb.out (range_of_block (range_whole (by simpa using hg)) (hW.block _ (lt_heap hg))) (range_of_block (range_whole (by simpa using hh)) (hW.block _ (lt_heap hh)))).mono fun e w' ⟨he, hw⟩ => ⟨he, hw ▸ Below.refl _ _⟩
    clear hg hh hbel HB FA FB KA KB hg0 hh0 hgh
    simp only [puts, List.cons_append, List.nil_append, List.setIfInBounds_toArray, List.set_cons_zero, List.set_cons_succ]
    generalize hce : Lib.compareBytes a b = c at *
    have HCe := Lib.hid hce
    clear hce
    go_wp2_with fail
    refine wp_region_quiet_below (by kernel_rfl) (by kernel_rfl) ?_
    repeat (go_big_quiet_step (first | (with_reducible exact rg_callB HC.out _ _)))
    refine wpQuiet_nil ?_
    rintro _ ⟨⟨dq, osq⟩, rfl⟩
    have HB3 := bt HB2 (below_regrown W dq osq)
    go_wp2_with fail
    go_ret
    exact ⟨ret_bool (by rw [HCe.out]), HB3.out⟩
end Go.Proofs.Ytagdedjclbmlkaa
