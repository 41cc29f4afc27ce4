/- The document's Differ. -/
import Derived.Test.YtagdedjclbmlkaaD4
import Derived.Test.YtagdedjclbmlkaaGX
import Derived.Test.YtagdedjclbmlkaaD5
import Derived.Test.YtagdedjclbmlkaaC5
import Derived.Test.YtagdedjclbmlkaaC16
namespace Go.Proofs.Ytagdedjclbmlkaa
open Go.RowKit

theorem exec_quoB {o : Oper} {a : Act} {w : World} (x y : Operand) (ho : o.op = .binOp .quo 5 x y 5) (m v : Nat) (hm : m < 256) (hv : 0 < v) (hv2 : v < 256) (hx : a.eval x = .int .u8 (m : Int)) (hy : a.eval y = .int .u8 (v : Int)) : (execOp a.eval o).run Try.prog w = .ok (.value (.int .u8 ((m / v : Nat) : Int))) w := by
  unfold execOp
  simp only [ho, hx, hy]
  have h0 : v ≠ 0 := by omega
  have h1 : (m : Int).tdiv (v : Int) = ((m / v : Nat) : Int) := by rw [Int.tdiv_eq_ediv_of_nonneg (by omega)]; simp
  have h2 : m / v < 256 := Nat.lt_of_le_of_lt (Nat.div_le_self m v) hm
  simp [go_sem, h0, h1]
  exact wrap_small _ (.inr (.inr rfl)) _ h2
theorem exec_rem2 {o : Oper} {a : Act} {w : World} (x : Operand) (ho : o.op = .binOp .rem 5 x (.const (.int .u8 2)) 5) (m : Nat) (hm : m < 256) (hx : a.eval x = .int .u8 (m : Int)) : (execOp a.eval o).run Try.prog w = .ok (.value (.int .u8 ((m % 2 : Nat) : Int))) w := by
  have hy : a.eval (.const (.int .u8 2)) = .int .u8 2 := rfl
  unfold execOp
  simp only [ho, hx, hy]
  have h1 : (m : Int).tmod 2 = ((m % 2 : Nat) : Int) := by rw [Int.tmod_eq_emod_of_nonneg (by omega)]; simp
  simp [go_sem, h1]
theorem exec_neN {o : Oper} {a : Act} {w : World} (x y : Operand) (ho : o.op = .binOp .neq 5 x y 5) (m n : Nat) (b : Bool) (hb : (m != n) = b) (hx : a.eval x = .int .u8 (m : Int)) (hy : a.eval y = .int .u8 (n : Int)) : (execOp a.eval o).run Try.prog w = .ok (.value (.bool b)) w := by
  subst hb
  unfold execOp
  simp only [ho, hx, hy]
  simp [go_sem, bne]
  rw [Bool.eq_iff_iff]
  simp only [beq_iff_eq]
  omega
theorem worth_pos {k : Nat} (h : k < 8) : 0 < 128 / 2 ^ k ∧ 128 / 2 ^ k < 256 ∧ 128 / 2 ^ k = 2 ^ (7 - k) := by
  obtain rfl | rfl | rfl | rfl | rfl | rfl | rfl | rfl : k = 0 ∨ k = 1 ∨ k = 2 ∨ k = 3 ∨ k = 4 ∨ k = 5 ∨ k = 6 ∨ k = 7 := by omega
  all_goals decide
theorem worth_next (k : Nat) : 128 / 2 ^ k / 2 = 128 / 2 ^ (k + 1) := by rw [Nat.div_div_eq_div_mul, Nat.pow_succ]
theorem bit_worth (x y : List UInt8) {i k : Nat} (hk : k < 8) : ((x.getD i 0).toNat / (128 / 2 ^ k) % 2 != (y.getD i 0).toNat / (128 / 2 ^ k) % 2) = (bitOf x (8 * i + k) != bitOf y (8 * i + k)) := by
  unfold bitOf
  rw [show (8 * i + k) / 8 = i by omega, show (8 * i + k) % 8 = k by omega, (worth_pos hk).2.2, Nat.testBit_eq_decide_div_mod_eq, Nat.testBit_eq_decide_div_mod_eq]
  generalize (x.getD i 0).toNat / 2 ^ (7 - k) = m
  generalize (y.getD i 0).toNat / 2 ^ (7 - k) = n
  rcases Nat.mod_two_eq_zero_or_one m with h | h <;> rcases Nat.mod_two_eq_zero_or_one n with h' | h' <;> rw [h, h'] <;> rfl
set_option maxRecDepth 100000 in
set_option maxHeartbeats 8000000 in
theorem rdiffer_any (x y : List UInt8) (w : World) (hx : x.length = 25) (hy : y.length = 25) :
    Calls Try.prog 20 #[.agg (rkC x).toArray, .agg (rkC y).toArray] w fun e w' => e = .returned (.int .i64 (dI (differ x y))) ∧ Below w.heap.size w w' := by
  have FA : Hid (((w.alloc (.cells (rkC x).toArray 40)).alloc (.cells (rkC y).toArray 40)).heap[w.heap.size]? = some (Obj.cells (rkC x).toArray 40 (0, 0))) := heap_alloc2_old _ _ _
  have FB : Hid (((w.alloc (.cells (rkC x).toArray 40)).alloc (.cells (rkC y).toArray 40)).heap[w.heap.size + 1]? = some (Obj.cells (rkC y).toArray 40 (0, 0))) := heap_alloc2_new _ _ _
  have HB := Lib.hid (below_alloc2 w (.cells (rkC x).toArray 40) (.cells (rkC y).toArray 40))
  have HX := Lib.hid hx
  have HY := Lib.hid hy
  clear hx hy
  go_enter Try.func20, Try.ntmps20
  go_upto_region 1 with fail
  generalize ((w.alloc (.cells (rkC x).toArray 40)).alloc (.cells (rkC y).toArray 40)) = W0 at *
  refine wp_region_pair [(10, .agg (rkC x).toArray), (11, .agg (bC x)), (12, .agg (rkC y).toArray), (13, .agg (bC y))] 5 6 (bC z25) (bC z25) (bC x) (bC y) 85 85 (by kernel_rfl) (by kernel_rfl) rfl (by simp) (by simp) _ _ _ _ rfl rfl rfl rfl
    ⟨rfl, rfl, fun a w => by kernel_rfl⟩ ⟨rfl, rfl, fun a w => by kernel_rfl⟩
    ⟨rfl, rfl, fun a' w' g hd hp hg => exec_str _ (.tmp 5) (.tmp 11) rfl g (bC x) (bC z25) _ (by rw [siz25, bC_size, HX.out]) (by rw [bC_size, bC_size, HX.out]; rfl) (bC_one x) hp (hd 1 (by simp) (by kernel_rfl)) hg⟩
    ⟨rfl, rfl, fun a' w' g hd hp hg => exec_str _ (.tmp 6) (.tmp 13) rfl g (bC y) (bC z25) _ (by rw [siz25, bC_size, HY.out]) (by rw [bC_size, bC_size, HY.out]; rfl) (bC_one y) hp (hd 3 (by simp) (by kernel_rfl)) hg⟩
    (by kernel_rfl) (by kernel_rfl) (by kernel_rfl) (by kernel_rfl) ?_ ?_
  · intro i hi a' w' hfr hdep hbel K hK
    have hi4 : i < 4 := hi
    obtain rfl | rfl | rfl | rfl : i = 0 ∨ i = 1 ∨ i = 2 ∨ i = 3 := by omega
    · exact wpOp_ldr rfl rfl _ _ rfl w.heap.size 0 (rkC x) _ Try.underlying40 rfl (by rw [sizRK, rkC_len HX.out]) (hfr.off 2 (by simp)) (range_of_block (range_whole (by simpa using FA.out)) (hbel.block _ (lt_heap FA.out))) (by simpa using hK w' (Below.refl _ _))
    · exact wpOp_enter rfl rfl (exec_call1 rfl (enters_of Try.func42 (by kernel_rfl) rfl) (x := .tmp 10) (v := .agg (rkC x).toArray) (hdep 0 (by simp) (by kernel_rfl)) w') (rbytes_any x w' HX.out) hK
    · exact wpOp_ldr rfl rfl _ _ rfl (w.heap.size + 1) 0 (rkC y) _ Try.underlying40 rfl (by rw [sizRK, rkC_len HY.out]) (hfr.off 3 (by simp)) (range_of_block (range_whole (by simpa using FB.out)) (hbel.block _ (lt_heap FB.out))) (by simpa using hK w' (Below.refl _ _))
    · exact wpOp_enter rfl rfl (exec_call1 rfl (enters_of Try.func42 (by kernel_rfl) rfl) (x := .tmp 12) (v := .agg (rkC y).toArray) (hdep 2 (by simp) (by kernel_rfl)) w') (rbytes_any y w' HY.out) hK
  · intro W g h hgh hg0 hh0 hbel hg hh
    have HB2 := Lib.hid (HB.out.trans (hbel.mono HB.out.size))
    have HG := Lib.hid hg
    have HH := Lib.hid hh
    clear hg hh hbel HB FA FB hg0 hh0 hgh
    simp only [puts, List.cons_append, List.nil_append, List.setIfInBounds_toArray, List.set_cons_zero, List.set_cons_succ]
    go_wp2_with fail
    go_loopw [7] (fun vi wr => ∃ (i : Nat), i ≤ 25 ∧ vi = .int .i64 i ∧ Hid (Below W.heap.size W wr) ∧ Hid (∀ j, j < 8 * i → bitOf x j = bitOf y j)) (fun vi _ => 25 - (intOf vi).toNat)
    case atStart => exact ⟨0, Nat.zero_le _, rfl, Lib.hid (Below.refl _ _), Lib.hid (fun j h => absurd h (by omega))⟩
    case round =>
      obtain ⟨i, hi, rfl, HR, HE⟩ := hrel
      by_cases h1 : i < 25
      · have h1i : (i : Int) < 25 := by omega
        go_wp2_with fail
        go_loopw [8, 9] (fun vw vk wr2 => ∃ (k : Nat), k ≤ 8 ∧ vw = .int .u8 ((128 / 2 ^ k : Nat) : Int) ∧ vk = .int .i64 k ∧ Hid (Below W.heap.size W wr2) ∧ Hid (∀ j, j < 8 * i + k → bitOf x j = bitOf y j)) (fun _ vk _ => 8 - (intOf vk).toNat)
        case atStart => exact ⟨0, Nat.zero_le _, rfl, rfl, HR, HE⟩
        case round =>
          obtain ⟨k, hk, rfl, rfl, HR2, HE2⟩ := hrel
          by_cases h2 : k < 8
          · have h2i : (k : Int) < 8 := by omega
            have hgr := (HR2.out.block _ (lt_heap HG.out)).trans HG.out
            have hhr := (HR2.out.block _ (lt_heap HH.out)).trans HH.out
            have hc1 := bC_cell hgr i (by rw [HX.out]; exact h1)
            have hc2 := bC_cell hhr i (by rw [HY.out]; exact h1)
            have hl1 := lt_heap hgr
            have hl2 := lt_heap hhr
            have hbw := bit_worth x y (i := i) h2
            obtain ⟨hw0, hw1, -⟩ := worth_pos h2
            have hwn := worth_next k
            clear hgr hhr
            have hm1 := UInt8.toNat_lt (x.getD i 0)
            have hm2 := UInt8.toNat_lt (y.getD i 0)
            obtain ⟨db, hdb⟩ : ∃ db, (bitOf x (8 * i + k) != bitOf y (8 * i + k)) = db := ⟨_, rfl⟩
            rw [hdb] at hbw
            generalize (x.getD i 0).toNat = mx at *
            generalize (y.getD i 0).toNat = my at *
            have HD := Lib.hid hdb
            have HBw := Lib.hid hbw
            have HWn := Lib.hid hwn
            clear hdb hbw hwn
            generalize 128 / 2 ^ k = v at *
            have hq1 : mx / v < 256 := Nat.lt_of_le_of_lt (Nat.div_le_self _ _) hm1
            have hq2 : my / v < 256 := Nat.lt_of_le_of_lt (Nat.div_le_self _ _) hm2
            go_upto_region 9 with fail
            refine wp_region_quiet_below (by kernel_rfl) (by kernel_rfl) ?_
            repeat (first
              | (refine wq_ld1 rfl 5 (.tmp 23) rfl g i (.int .u8 (mx : Int)) ag5 rfl hc1 hl1 ?_; simp only [Act.put, List.setIfInBounds_toArray, List.set_cons_zero, List.set_cons_succ])
              | (refine wq_ld1 rfl 5 (.tmp 29) rfl h i (.int .u8 (my : Int)) ag5 rfl hc2 hl2 ?_; simp only [Act.put, List.setIfInBounds_toArray, List.set_cons_zero, List.set_cons_succ])
              | (refine wq_val (.int .u8 ((mx / v : Nat) : Int)) rfl (fun w => exec_quoB (.tmp 24) (.tmp 25) rfl mx v hm1 hw0 hw1 rfl rfl) ?_; simp only [Act.put, List.setIfInBounds_toArray, List.set_cons_zero, List.set_cons_succ])
              | (refine wq_val (.int .u8 ((my / v : Nat) : Int)) rfl (fun w => exec_quoB (.tmp 30) (.tmp 31) rfl my v hm2 hw0 hw1 rfl rfl) ?_; simp only [Act.put, List.setIfInBounds_toArray, List.set_cons_zero, List.set_cons_succ])
              | (refine wq_val (.int .u8 ((mx / v % 2 : Nat) : Int)) rfl (fun w => exec_rem2 (.tmp 26) rfl (mx / v) hq1 rfl) ?_; simp only [Act.put, List.setIfInBounds_toArray, List.set_cons_zero, List.set_cons_succ])
              | (refine wq_val (.int .u8 ((my / v % 2 : Nat) : Int)) rfl (fun w => exec_rem2 (.tmp 32) rfl (my / v) hq2 rfl) ?_; simp only [Act.put, List.setIfInBounds_toArray, List.set_cons_zero, List.set_cons_succ])
              | (refine wq_val (.bool db) rfl (fun w => exec_neN (.tmp 27) (.tmp 33) rfl _ _ db HBw.out rfl rfl) ?_; simp only [Act.put, List.setIfInBounds_toArray, List.set_cons_zero, List.set_cons_succ])
              | go_big_quiet_step (fail))
            refine wpQuiet_nil ?_
            rintro _ ⟨⟨dq, osq⟩, rfl⟩
            have HR3 := Lib.hid (HR2.out.trans ((below_regrown wr dq osq).mono HR2.out.size))
            clear hc1 hc2 hl1 hl2 HR2
            generalize Sort.grow (redrawn wr dq) osq = W9 at *
            cases db with
            | true =>
              have HL : Hid (dI (differ x y) = ((8 * i + k : Nat) : Int)) := by
                show _ = _
                rw [differ_of (d := 8 * i + k) (by omega) (by simpa using HD.out) HE2.out]
                rfl
              go_wp2_with (first
                | ((with_reducible refine gate_op (.binOp .mul 3 (.const (.int .i64 8)) (.tmp 35) 3) rfl ?_); refine wl_valG rfl (.int .i64 ((8 * i : Nat) : Int)) (exec_mul8 (.tmp 35) rfl i (by omega) rfl) ?_)
                | ((with_reducible refine gate_op (.binOp .add 3 (.tmp 36) (.tmp 37) 3) rfl ?_); refine wl_valG rfl (.int .i64 ((8 * i + k : Nat) : Int)) (exec_addI (.tmp 36) (.tmp 37) rfl (8 * i) k (by omega) rfl rfl) ?_))
              go_ret
              exact ⟨by rw [HL.out]; rfl, HB2.out.trans (HR3.out.mono HB2.out.size)⟩
            | false =>
              go_wp2_with (first
                | ((with_reducible refine gate_op (.binOp .quo 5 (.tmp 39) (.const (.int .u8 2)) 5) rfl ?_); refine wl_valG rfl (.int .u8 ((v / 2 : Nat) : Int)) (exec_quoB (.tmp 39) (.const (.int .u8 2)) rfl v 2 hw1 (by omega) (by omega) rfl rfl) ?_))
              go_roundw
              case rel => exact ⟨k + 1, by omega, by rw [← HWn.out]; simp, by go_num, HR3, Lib.hid (fun j hj => by
                rcases Nat.lt_succ_iff_lt_or_eq.1 hj with h | h
                · exact HE2.out j h
                · subst h; simpa using HD.out)⟩
              case measure => simp [intOf]; omega
          · have h2i : ¬ (k : Int) < 8 := by omega
            obtain rfl : k = 8 := by omega
            go_wp2_with fail
            go_roundw
            case rel => exact ⟨i + 1, by omega, by go_num, HR2, Lib.hid (fun j hj => HE2.out j (by omega))⟩
            case measure => simp [intOf]; omega
      · have h1i : ¬ (i : Int) < 25 := by omega
        have HL : Hid (dI (differ x y) = -1) := by
          show _ = _
          have : differ x y = none := (differ_none HX.out HY.out).2 (eq_of_bits HX.out HY.out fun j hj => HE.out j (by omega))
          rw [this]; rfl
        go_wp2_with fail
        go_ret
        exact ⟨by rw [HL.out]; rfl, HB2.out.trans (HR.out.mono HB2.out.size)⟩
end Go.Proofs.Ytagdedjclbmlkaa
