/- Next and First of a nil tree; the chapter's example. -/
import Derived.Test.YtagdedjclbmlkaaC22
import Derived.Test.YtagdedjclbmlkaaC10
namespace Go.Proofs.Ytagdedjclbmlkaa
open Go.RowKit

attribute [local go_sem] Oper.semAt_some

/-- Both result cells set to zero, and out. -/
theorem outZero {P : Program} (w W : World) (g D : Nat) (hg : w.heap.size ≤ g) (h1 : W.heap[g]? = some (.cells (bC z25) 30 (0, 0))) (h2 : W.heap[g + 1]? = some (.cells #[.bool false] 4 (0, 0))) (hB : Below w.heap.size w W) (hK : W.heap[D]? = some (.deferred (some []))) (hD : g + 1 < D) :
    ∃ W8 : World, ((W.setRow g (bC z25)).setRow (g + 1) #[.bool false]) = W8 ∧ W8.heap[g]? = some (.cells (bC z25) 30 (0, 0)) ∧ W8.heap[g + 1]? = some (.cells #[.bool false] 4 (0, 0)) ∧ W8.heap[D]? = some (.deferred (some [])) ∧ Below w.heap.size w W8 := by
  have hg2 : ((W.setRow g (bC z25)).heap[g + 1]? = some (.cells #[.bool false] 4 (0, 0))) := (setRow_other _ _ _ _ (by omega)).trans h2
  exact ⟨_, rfl, (setRow_other _ _ _ _ (by omega)).trans (setRow_at h1), setRow_at hg2, (setRow_other _ _ _ _ (by omega)).trans ((setRow_other _ _ _ _ (by omega)).trans hK), setRow_below (setRow_below hB (by omega) _) (by omega) _⟩
set_option maxRecDepth 100000 in
set_option maxHeartbeats 4000000 in
theorem firstNil_any (w : World) :
    Calls Try.prog 28 #[.pointer none] w fun e w' => e = .returned (nextR none) ∧ Below w.heap.size w w' := by
  refine (callsIn_wide (n := 5)).1 ?_
  refine callsIn_of_wp_marks Try.func28 rfl trivial ?_ rfl
  simp only [Try.ntmps28, List.size_toArray, List.length_cons, List.length_nil, Nat.reduceAdd, Nat.reduceSub, Array.replicate_succ, Array.replicate_zero, List.push_toArray, List.append_toArray, List.nil_append, List.cons_append]
  have HB1 := Lib.hid (below_alloc2 w (.cells (bC z25) 30) (.cells #[.bool false] 4))
  have HG0 := Lib.hid (heap_alloc2_old w (.cells (bC z25) 30) (.cells #[.bool false] 4))
  have HG1 := Lib.hid (heap_alloc2_new w (.cells (bC z25) 30) (.cells #[.bool false] 4))
  gi_upto_region 1 with fail
  show Code.wpIn _ _ _ _ _ _ ((w.alloc (.cells (bC z25) 30)).alloc (.cells #[.bool false] 4))
  generalize ((w.alloc (.cells (bC z25) 30)).alloc (.cells #[.bool false] 4)) = W1 at *
  gi_wp2_with (first
    | (refine ⟨trivial, ?_⟩; gi_at_call 45; (refine (callsIn_wide.2 (leaves_any _ none 0 0 _)).mono ?_); rintro e w5 ⟨rfl, rfl⟩))
  have hbl := below_alloc2 W1 (.cells #[.pointer none] 31) (.cells #[.slice none 0 0] 109)
  have HH0 : Hid (((W1.alloc (.cells #[.pointer none] 31)).alloc (.cells #[.slice none 0 0] 109)).heap[w.heap.size]? = some (.cells (bC z25) 30 (0, 0))) := (hbl.block _ (lt_heap HG0.out)).trans HG0.out
  have HH1 : Hid (((W1.alloc (.cells #[.pointer none] 31)).alloc (.cells #[.slice none 0 0] 109)).heap[w.heap.size + 1]? = some (.cells #[.bool false] 4 (0, 0))) := (hbl.block _ (lt_heap HG1.out)).trans HG1.out
  have HB2 : Hid (Below w.heap.size w ((W1.alloc (.cells #[.pointer none] 31)).alloc (.cells #[.slice none 0 0] 109))) := HB1.out.trans (hbl.mono HB1.out.size)
  refine rangeNil W1.heap.size _ rfl (heap_alloc2_old _ _ _) ?_
  intro D W hD hB hK
  clear hbl
  generalize ((W1.alloc (.cells #[.pointer none] 31)).alloc (.cells #[.slice none 0 0] 109)) = W2 at *
  have HI0 := Lib.hid ((hB.block _ (lt_heap HH0.out)).trans HH0.out)
  have HI1 := Lib.hid ((hB.block _ (lt_heap HH1.out)).trans HH1.out)
  have HBf := Lib.hid (HB2.out.trans (hB.mono HB2.out.size))
  have hD2 : w.heap.size + 1 < D := Nat.lt_of_lt_of_le (lt_heap HH1.out) hD
  have HKd := Lib.hid hK
  clear hB hK
  gi_wp2_with (first
    | ((refine inl_str rfl 30 _ _ rfl w.heap.size (bC z25) (bC z25) 30 (by rw [sizKey, bC_size]; rfl) rfl (bC_one _) rfl rfl HI0.out ?_))
    | ((refine in_skip rfl (by intro c hc; cases hc) (by intro c hc; cases hc) _ (exec_st1G 4 siz4c _ _ rfl (w.heap.size + 1) 0 (.bool false) rfl rfl rfl [.bool false] 4 ((setRow_other _ _ _ _ (by omega)).trans HI1.out) (by simp)) ?_)))
  obtain ⟨W8, h8, e1, e2, e3, e4⟩ := outZero (P := Try.prog) w W w.heap.size D (Nat.le_refl _) HI0.out HI1.out HBf.out HKd.out hD2
  show bodyPostM _ _ _ _ _ _ _ ((W.setRow w.heap.size (bC z25)).setRow (w.heap.size + 1) #[.bool false])
  rw [h8]
  refine ⟨by simp, .inl ⟨_, _, rfl, run_takeDeferred e3, ?_⟩⟩
  exact ⟨_, res_rowc_cell rfl _ _ w.heap.size (w.heap.size + 1) (bC z25) (0, 0) (.bool false) rfl ((World.putObj_heap_other (by omega)).trans e1) Try.underlying30 rfl (by rw [sizKey, bC_size]; rfl) rfl (load_bool ((World.putObj_heap_other (by omega)).trans e2)), rfl, e4.trans (belowK_b (w := w) (Nat.le_refl _) W8 D _ _ (by omega) e3 rfl rfl)⟩
set_option maxRecDepth 100000 in
set_option maxHeartbeats 4000000 in
theorem nextNil_any (k : List UInt8) (w : World) (hk : k.length = 25) :
    Calls Try.prog 26 #[.pointer none, .agg (bC k)] w fun e w' => e = .returned (nextR none) ∧ Below w.heap.size w w' := by
  refine (callsIn_wide (n := 5)).1 ?_
  refine callsIn_of_wp_marks Try.func26 rfl trivial ?_ rfl
  simp only [Try.ntmps26, List.size_toArray, List.length_cons, List.length_nil, Nat.reduceAdd, Nat.reduceSub, Array.replicate_succ, Array.replicate_zero, List.push_toArray, List.append_toArray, List.nil_append, List.cons_append]
  have HK := Lib.hid hk
  have hb1 := below_alloc1 w (.cells (bC k) 30)
  have hb2 := hb1.alloc hb1.size (.cells (bC z25) 30)
  have hb3 := hb2.alloc hb2.size (.cells #[.bool false] 4)
  have HB1 := Lib.hid hb3
  have HG0 : Hid ((((w.alloc (.cells (bC k) 30)).alloc (.cells (bC z25) 30)).alloc (.cells #[.bool false] 4)).heap[w.heap.size]? = some (.cells (bC k) 30 (0, 0))) := by
    show _ = _
    exact (heap_alloc_old _ _ (by simp; omega)).trans (heap_alloc2_old _ _ _)
  have HG1 : Hid ((((w.alloc (.cells (bC k) 30)).alloc (.cells (bC z25) 30)).alloc (.cells #[.bool false] 4)).heap[w.heap.size + 1]? = some (.cells (bC z25) 30 (0, 0))) := by
    show _ = _
    exact (heap_alloc_old _ _ (by simp)).trans (heap_alloc2_new _ _ _)
  have HG2 : Hid ((((w.alloc (.cells (bC k) 30)).alloc (.cells (bC z25) 30)).alloc (.cells #[.bool false] 4)).heap[w.heap.size + 1 + 1]? = some (.cells #[.bool false] 4 (0, 0))) := by
    show _ = _
    have := heap_alloc_new ((w.alloc (.cells (bC k) 30)).alloc (.cells (bC z25) 30)) (.cells #[.bool false] 4)
    simpa using this
  clear hk hb1 hb2 hb3
  gi_upto_region 1 with fail
  show Code.wpIn _ _ _ _ _ _ (((w.alloc (.cells (bC k) 30)).alloc (.cells (bC z25) 30)).alloc (.cells #[.bool false] 4))
  generalize (((w.alloc (.cells (bC k) 30)).alloc (.cells (bC z25) 30)).alloc (.cells #[.bool false] 4)) = W1 at *
  gi_upto_region 2 with (first
    | ((refine inl_ldr rfl 30 _ rfl w.heap.size 0 (bC k).toList _ Try.underlying30 rfl (by rw [sizKey]; simp [bC, HK.out]) rfl (range_whole (by simpa using HG0.out)) ?_))
    | (refine ⟨trivial, ?_⟩; gi_at_call 35; (refine (callsIn_wide.2 (keyBytes_any k _ HK.out)).mono ?_); rintro e w2 ⟨rfl, hb⟩; have HB2 := Lib.hid hb; clear hb)
    | (refine inl_strn rfl 85 _ _ rfl (bC k) (bC z25) 85 (by rw [siz25, bC_size, HK.out]) (by rw [bC_size, bC_size, HK.out]; rfl) (bC_one _) rfl rfl ?_))
  simp only [Act.put]
  have hba := HB2.out.alloc HB2.out.size (.cells (bC k) 85)
  have HBw : Hid (Below w.heap.size w (w2.alloc (.cells (bC k) 85))) := HB1.out.trans (hba.mono HB1.out.size)
  have HE1 : Hid ((w2.alloc (.cells (bC k) 85)).heap[w.heap.size + 1]? = some (.cells (bC z25) 30 (0, 0))) := by
    show _ = _
    exact (hba.block _ (lt_heap HG1.out)).trans HG1.out
  have HE2 : Hid ((w2.alloc (.cells (bC k) 85)).heap[w.heap.size + 1 + 1]? = some (.cells #[.bool false] 4 (0, 0))) := by
    show _ = _
    exact (hba.block _ (lt_heap HG2.out)).trans HG2.out
  clear HB1 HG0 HG1 HG2 HB2 hba
  generalize (w2.alloc (.cells (bC k) 85)) = W3 at *
  generalize w2.heap.size = nb at *
  gi_wp2_with (first
    | (refine ⟨trivial, ?_⟩; gi_at_call 45; (refine (callsIn_wide.2 (leaves_any _ none 0 0 _)).mono ?_); rintro e w5 ⟨rfl, rfl⟩))
  have hbl := below_alloc2 W3 (.cells #[.pointer none] 31) (.cells #[.slice none 0 0] 109)
  have HH0 : Hid (((W3.alloc (.cells #[.pointer none] 31)).alloc (.cells #[.slice none 0 0] 109)).heap[w.heap.size + 1]? = some (.cells (bC z25) 30 (0, 0))) := (hbl.block _ (lt_heap HE1.out)).trans HE1.out
  have HH1 : Hid (((W3.alloc (.cells #[.pointer none] 31)).alloc (.cells #[.slice none 0 0] 109)).heap[w.heap.size + 1 + 1]? = some (.cells #[.bool false] 4 (0, 0))) := (hbl.block _ (lt_heap HE2.out)).trans HE2.out
  have HB2 : Hid (Below w.heap.size w ((W3.alloc (.cells #[.pointer none] 31)).alloc (.cells #[.slice none 0 0] 109))) := HBw.out.trans (hbl.mono HBw.out.size)
  refine rangeNil W3.heap.size _ rfl (heap_alloc2_old _ _ _) ?_
  intro D W hD hB hK
  clear hbl
  generalize ((W3.alloc (.cells #[.pointer none] 31)).alloc (.cells #[.slice none 0 0] 109)) = W2 at *
  have HI0 := Lib.hid ((hB.block _ (lt_heap HH0.out)).trans HH0.out)
  have HI1 := Lib.hid ((hB.block _ (lt_heap HH1.out)).trans HH1.out)
  have HBf := Lib.hid (HB2.out.trans (hB.mono HB2.out.size))
  have hD2 : w.heap.size + 1 + 1 < D := Nat.lt_of_lt_of_le (lt_heap HH1.out) hD
  have HKd := Lib.hid hK
  clear hB hK
  gi_wp2_with (first
    | ((refine inl_str rfl 30 _ _ rfl (w.heap.size + 1) (bC z25) (bC z25) 30 (by rw [sizKey, bC_size]; rfl) rfl (bC_one _) rfl rfl HI0.out ?_))
    | ((refine in_skip rfl (by intro c hc; cases hc) (by intro c hc; cases hc) _ (exec_st1G 4 siz4c _ _ rfl (w.heap.size + 1 + 1) 0 (.bool false) rfl rfl rfl [.bool false] 4 ((setRow_other _ _ _ _ (by omega)).trans HI1.out) (by simp)) ?_)))
  obtain ⟨W8, h8, e1, e2, e3, e4⟩ := outZero (P := Try.prog) w W (w.heap.size + 1) D (by omega) HI0.out HI1.out HBf.out HKd.out hD2
  show bodyPostM _ _ _ _ _ _ _ ((W.setRow (w.heap.size + 1) (bC z25)).setRow (w.heap.size + 1 + 1) #[.bool false])
  rw [h8]
  refine ⟨by simp, .inl ⟨_, _, rfl, run_takeDeferred e3, ?_⟩⟩
  exact ⟨_, res_rowc_cell rfl _ _ (w.heap.size + 1) (w.heap.size + 1 + 1) (bC z25) (0, 0) (.bool false) rfl ((World.putObj_heap_other (by omega)).trans e1) Try.underlying30 rfl (by rw [sizKey, bC_size]; rfl) rfl (load_bool ((World.putObj_heap_other (by omega)).trans e2)), rfl, e4.trans (belowK_b (w := w) (Nat.le_refl _) W8 D _ _ (by omega) e3 rfl rfl)⟩
end Go.Proofs.Ytagdedjclbmlkaa
