/- The document's Less. -/
import Derived.Test.YtagdedjclbmlkaaD3
import Derived.Test.YtagdedjclbmlkaaGX
namespace Go.Proofs.Ytagdedjclbmlkaa
open Go.RowKit

theorem lt_first {x y : List UInt8} (hx : x.length = 25) (hy : y.length = 25) {i : Nat} (hi : i < 25) (he : ∀ j, j < i → x.getD j 0 = y.getD j 0) (hne : x.getD i 0 ≠ y.getD i 0) : ltK x y = decide (x.getD i 0 < y.getD i 0) := by
  by_cases h : x.getD i 0 < y.getD i 0
  · rw [ltK_at (by omega) (by omega) he h, decide_eq_true h]
  · have h2 : y.getD i 0 < x.getD i 0 := by
      rw [UInt8.lt_iff_toNat_lt] at h ⊢
      have : (x.getD i 0).toNat ≠ (y.getD i 0).toNat := fun e => hne (UInt8.toNat_inj.1 e)
      omega
    have h3 := ltK_at (x := y) (y := x) (by omega) (by omega) (fun j hj => (he j hj).symm) h2
    rw [decide_eq_false h]
    cases hc : ltK x y with
    | false => rfl
    | true => have := ltK_trans hc h3; rw [ltK_irrefl] at this; cases this
theorem lt_same {x y : List UInt8} (hx : x.length = 25) (hy : y.length = 25) (he : ∀ j, j < 25 → x.getD j 0 = y.getD j 0) : ltK x y = false := by
  have : x = y := by
    apply List.ext_getElem (by omega)
    intro j h1 h2
    have := he j (by omega)
    simpa [List.getD_eq_getElem?_getD, List.getElem?_eq_getElem h1, List.getElem?_eq_getElem h2] using this
  rw [this]; exact ltK_irrefl y
theorem exec_neB {o : Oper} {a : Act} {w : World} (x y : Operand) (ho : o.op = .binOp .neq 5 x y 5) (b c : UInt8) (hx : a.eval x = .int .u8 (b.toNat : Int)) (hy : a.eval y = .int .u8 (c.toNat : Int)) : (execOp a.eval o).run Try.prog w = .ok (.value (.bool (b != c))) w := by
  unfold execOp
  simp only [ho, hx, hy]
  by_cases h : b = c
  · subst h; simp [go_sem]
  · have h2 : ¬ b.toNat = c.toNat := fun e => h (UInt8.toNat_inj.1 e)
    have h3 : (b != c) = true := by simpa using h
    rw [h3]
    simp [go_sem]
    omega
theorem exec_ltB {o : Oper} {a : Act} {w : World} (x y : Operand) (ho : o.op = .binOp .lss 5 x y 5) (b c : UInt8) (hx : a.eval x = .int .u8 (b.toNat : Int)) (hy : a.eval y = .int .u8 (c.toNat : Int)) : (execOp a.eval o).run Try.prog w = .ok (.value (.bool (decide (b < c)))) w := by
  unfold execOp
  simp only [ho, hx, hy]
  by_cases h : b.toNat < c.toNat
  · have h3 : decide (b < c) = true := by rw [decide_eq_true_iff, UInt8.lt_iff_toNat_lt]; exact h
    rw [h3]
    simp [go_sem, h]
  · have h3 : decide (b < c) = false := by rw [decide_eq_false_iff_not, UInt8.lt_iff_toNat_lt]; exact h
    rw [h3]
    simp [go_sem, h]
theorem bC_cell {W : World} {g : Nat} {l : List UInt8} {T : TypeId} (h : W.heap[g]? = some (.cells (bC l) T (0, 0))) (i : Nat) (hi : i < l.length) : W.cell? ⟨g, i, none⟩ = some (.int .u8 ((l.getD i 0).toNat : Int)) := by
  rw [cell_blk h, bC_get l i hi]
  simp [List.getD_eq_getElem?_getD, List.getElem?_eq_getElem hi]
set_option maxRecDepth 100000 in
set_option maxHeartbeats 4000000 in
theorem rless_any (x y : List UInt8) (w : World) (hx : x.length = 25) (hy : y.length = 25) :
    Calls Try.prog 37 #[.agg (rkC x).toArray, .agg (rkC y).toArray] w fun e w' => e = .returned (.bool (ltK x y)) ∧ Below w.heap.size w w' := by
  have FA : Hid (((w.alloc (.cells (rkC x).toArray 40)).alloc (.cells (rkC y).toArray 40)).heap[w.heap.size]? = some (Obj.cells (rkC x).toArray 40 (0, 0))) := heap_alloc2_old _ _ _
  have FB : Hid (((w.alloc (.cells (rkC x).toArray 40)).alloc (.cells (rkC y).toArray 40)).heap[w.heap.size + 1]? = some (Obj.cells (rkC y).toArray 40 (0, 0))) := heap_alloc2_new _ _ _
  have HB := Lib.hid (below_alloc2 w (.cells (rkC x).toArray 40) (.cells (rkC y).toArray 40))
  have HX := Lib.hid hx
  have HY := Lib.hid hy
  clear hx hy
  go_enter Try.func37, Try.ntmps37
  go_upto_region 1 with fail
  generalize ((w.alloc (.cells (rkC x).toArray 40)).alloc (.cells (rkC y).toArray 40)) = W0 at *
  refine wp_region_pair [(8, .agg (rkC x).toArray), (9, .agg (bC x)), (10, .agg (rkC y).toArray), (11, .agg (bC y))] 5 6 (bC z25) (bC z25) (bC x) (bC y) 85 85 (by kernel_rfl) (by kernel_rfl) rfl (by simp) (by simp) _ _ _ _ rfl rfl rfl rfl
    ⟨rfl, rfl, fun a w => by kernel_rfl⟩ ⟨rfl, rfl, fun a w => by kernel_rfl⟩
    ⟨rfl, rfl, fun a' w' g hd hp hg => exec_str _ (.tmp 5) (.tmp 9) rfl g (bC x) (bC z25) _ (by rw [siz25, bC_size, HX.out]) (by rw [bC_size, bC_size, HX.out]; rfl) (bC_one x) hp (hd 1 (by simp) (by kernel_rfl)) hg⟩
    ⟨rfl, rfl, fun a' w' g hd hp hg => exec_str _ (.tmp 6) (.tmp 11) rfl g (bC y) (bC z25) _ (by rw [siz25, bC_size, HY.out]) (by rw [bC_size, bC_size, HY.out]; rfl) (bC_one y) hp (hd 3 (by simp) (by kernel_rfl)) hg⟩
    (by kernel_rfl) (by kernel_rfl) (by kernel_rfl) (by kernel_rfl) ?_ ?_
  · intro i hi a' w' hfr hdep hbel K hK
    have hi4 : i < 4 := hi
    obtain rfl | rfl | rfl | rfl : i = 0 ∨ i = 1 ∨ i = 2 ∨ i = 3 := by omega
    · exact wpOp_ldr rfl rfl _ _ rfl w.heap.size 0 (rkC x) _ Try.underlying40 rfl (by rw [sizRK, rkC_len HX.out]) (hfr.off 2 (by simp)) (range_of_block (range_whole (by simpa using FA.out)) (hbel.block _ (lt_heap FA.out))) (by simpa using hK w' (Below.refl _ _))
    · exact wpOp_enter rfl rfl (exec_call1 rfl (enters_of Try.func42 (by kernel_rfl) rfl) (x := .tmp 8) (v := .agg (rkC x).toArray) (hdep 0 (by simp) (by kernel_rfl)) w') (rbytes_any x w' HX.out) hK
    · exact wpOp_ldr rfl rfl _ _ rfl (w.heap.size + 1) 0 (rkC y) _ Try.underlying40 rfl (by rw [sizRK, rkC_len HY.out]) (hfr.off 3 (by simp)) (range_of_block (range_whole (by simpa using FB.out)) (hbel.block _ (lt_heap FB.out))) (by simpa using hK w' (Below.refl _ _))
    · exact wpOp_enter rfl rfl (exec_call1 rfl (enters_of Try.func42 (by kernel_rfl) rfl) (x := .tmp 10) (v := .agg (rkC y).toArray) (hdep 2 (by simp) (by kernel_rfl)) w') (rbytes_any y w' HY.out) hK
  · intro W g h hgh hg0 hh0 hbel hg hh
    have HB2 := Lib.hid (HB.out.trans (hbel.mono HB.out.size))
    have HG := Lib.hid hg
    have HH := Lib.hid hh
    clear hg hh hbel HB FA FB hg0 hh0 hgh
    simp only [puts, List.cons_append, List.nil_append, List.setIfInBounds_toArray, List.set_cons_zero, List.set_cons_succ]
    go_wp2_with fail
    go_loopw [7] (fun vi wr => ∃ (i : Nat), i ≤ 25 ∧ vi = .int .i64 i ∧ Hid (Below W.heap.size W wr) ∧ Hid (∀ j, j < i → x.getD j 0 = y.getD j 0)) (fun vi _ => 25 - (intOf vi).toNat)
    case atStart => exact ⟨0, Nat.zero_le _, rfl, Lib.hid (Below.refl _ _), Lib.hid (fun j h => absurd h (by omega))⟩
    case round =>
      obtain ⟨i, hi, rfl, HR, HE⟩ := hrel
      by_cases h1 : i < 25
      · have h1i : (i : Int) < 25 := by omega
        have hgr := (HR.out.block _ (lt_heap HG.out)).trans HG.out
        have hhr := (HR.out.block _ (lt_heap HH.out)).trans HH.out
        have hc1 := bC_cell hgr i (by rw [HX.out]; exact h1)
        have hc2 := bC_cell hhr i (by rw [HY.out]; exact h1)
        have hl1 := lt_heap hgr
        have hl2 := lt_heap hhr
        clear hgr hhr
        obtain ⟨bx, hbx⟩ : ∃ bx, bx = x.getD i 0 := ⟨_, rfl⟩
        obtain ⟨yb, hyb⟩ : ∃ yb, yb = y.getD i 0 := ⟨_, rfl⟩
        rw [← hbx] at hc1
        rw [← hyb] at hc2
        have HBx := Lib.hid hbx
        have HYb := Lib.hid hyb
        clear hbx hyb
        go_upto_region 5 with fail
        refine wp_region_quiet_below (by kernel_rfl) (by kernel_rfl) ?_
        repeat (first
          | (refine wq_ld1 rfl 5 (.tmp 17) rfl g i (.int .u8 (bx.toNat : Int)) ag5 rfl hc1 hl1 ?_; simp only [Act.put, List.setIfInBounds_toArray, List.set_cons_zero, List.set_cons_succ])
          | (refine wq_ld1 rfl 5 (.tmp 20) rfl h i (.int .u8 (yb.toNat : Int)) ag5 rfl hc2 hl2 ?_; simp only [Act.put, List.setIfInBounds_toArray, List.set_cons_zero, List.set_cons_succ])
          | (refine wq_val (.bool (bx != yb)) rfl (fun w => exec_neB (.tmp 18) (.tmp 21) rfl bx yb rfl rfl) ?_; simp only [Act.put, List.setIfInBounds_toArray, List.set_cons_zero, List.set_cons_succ])
          | go_big_quiet_step (fail))
        refine wpQuiet_nil ?_
        rintro _ ⟨⟨dq, osq⟩, rfl⟩
        have hbel := below_regrown wr dq osq
        have HR2 := Lib.hid (HR.out.trans (hbel.mono HR.out.size))
        have hd1 : (Sort.grow (redrawn wr dq) osq).cell? ⟨g, i, none⟩ = some (.int .u8 (bx.toNat : Int)) := (cell_of (hbel.block _ hl1) i).trans hc1
        have hd2 : (Sort.grow (redrawn wr dq) osq).cell? ⟨h, i, none⟩ = some (.int .u8 (yb.toNat : Int)) := (cell_of (hbel.block _ hl2) i).trans hc2
        have hm1 := Nat.lt_of_lt_of_le hl1 hbel.size
        have hm2 := Nat.lt_of_lt_of_le hl2 hbel.size
        clear hc1 hc2 hl1 hl2 hbel HR
        generalize Sort.grow (redrawn wr dq) osq = W9 at *
        cases hne : (bx != yb) with
        | true =>
          have HL : Hid (ltK x y = decide (bx < yb)) := by
            show _ = _
            rw [HBx.out, HYb.out]
            exact lt_first HX.out HY.out h1 HE.out (by rw [← HBx.out, ← HYb.out]; simpa using hne)
          clear hne
          go_upto_region 6 with fail
          refine wp_region_quiet_below (by kernel_rfl) (by kernel_rfl) ?_
          repeat (first
            | (refine wq_ld1 rfl 5 (.tmp 24) rfl g i (.int .u8 (bx.toNat : Int)) ag5 rfl hd1 hm1 ?_; simp only [Act.put, List.setIfInBounds_toArray, List.set_cons_zero, List.set_cons_succ])
            | (refine wq_ld1 rfl 5 (.tmp 27) rfl h i (.int .u8 (yb.toNat : Int)) ag5 rfl hd2 hm2 ?_; simp only [Act.put, List.setIfInBounds_toArray, List.set_cons_zero, List.set_cons_succ])
            | (refine wq_val (.bool (decide (bx < yb))) rfl (fun w => exec_ltB (.tmp 25) (.tmp 28) rfl bx yb rfl rfl) ?_; simp only [Act.put, List.setIfInBounds_toArray, List.set_cons_zero, List.set_cons_succ])
            | go_big_quiet_step (fail))
          refine wpQuiet_nil ?_
          rintro _ ⟨⟨dq2, osq2⟩, rfl⟩
          have HR3 := Lib.hid (HR2.out.trans ((below_regrown W9 dq2 osq2).mono HR2.out.size))
          go_wp2_with fail
          go_ret
          exact ⟨by rw [HL.out]; rfl, HB2.out.trans (HR3.out.mono HB2.out.size)⟩
        | false =>
          have HEq : Hid (bx = yb) := Lib.hid (show bx = yb by simpa using hne)
          clear hne
          go_wp2_with fail
          go_roundw
          case rel => exact ⟨i + 1, by omega, by go_num, HR2, Lib.hid (fun j hji => by
            rcases Nat.lt_succ_iff_lt_or_eq.1 hji with hj | hj
            · exact HE.out j hj
            · subst hj; rw [← HBx.out, ← HYb.out]; exact HEq.out)⟩
          case measure => simp [intOf]; omega
      · have h1i : ¬ (i : Int) < 25 := by omega
        have HL : Hid (ltK x y = false) := lt_same HX.out HY.out (fun j hj => HE.out j (by omega))
        go_wp2_with fail
        go_ret
        exact ⟨by rw [HL.out]; rfl, HB2.out.trans (HR.out.mono HB2.out.size)⟩
end Go.Proofs.Ytagdedjclbmlkaa
