/- differ, Differ, New. -/
import Derived.Test.YtagdedjclbmlkaaC5
namespace Go.Proofs.Ytagdedjclbmlkaa
open Go.RowKit

theorem exec_xorB {o : Oper} {a : Act} {w : World} (x y : Operand) (ho : o.op = .binOp .xor 5 x y 5) (b c : UInt8) (hx : a.eval x = .int .u8 (b.toNat : Int)) (hy : a.eval y = .int .u8 (c.toNat : Int)) : (execOp a.eval o).run Try.prog w = .ok (.value (.int .u8 ((b ^^^ c).toNat : Int))) w := by
  unfold execOp
  simp only [ho, hx, hy]
  simp [go_sem]
  have hb := b.toNat_lt
  have hc := c.toNat_lt
  have e : (BitVec.ofInt 8 (b.toNat : Int) ^^^ BitVec.ofInt 8 (c.toNat : Int)).toNat = b.toNat ^^^ c.toNat := by
    rw [BitVec.toNat_xor, BitVec.toNat_ofInt, BitVec.toNat_ofInt]
    rw [show ((b.toNat : Int) % ((2 ^ 8 : Nat) : Int)).toNat = b.toNat by omega, show ((c.toNat : Int) % ((2 ^ 8 : Nat) : Int)).toNat = c.toNat by omega]
  show IntKind.u8.wrap ((BitVec.ofInt 8 (b.toNat : Int) ^^^ BitVec.ofInt 8 (c.toNat : Int)).toNat : Int) = _
  rw [e]
  exact wrap_small _ (.inr (.inr rfl)) _ (Nat.xor_lt_two_pow hb hc)
theorem exec_ne0B {o : Oper} {a : Act} {w : World} (x : Operand) (ho : o.op = .binOp .neq 5 x (.const (.int .u8 0)) 5) (b : UInt8) (hx : a.eval x = .int .u8 (b.toNat : Int)) : (execOp a.eval o).run Try.prog w = .ok (.value (.bool (b != 0))) w := by
  have h1 : a.eval (.const (.int .u8 0)) = .int .u8 0 := rfl
  unfold execOp
  simp only [ho, hx, h1]
  by_cases c : b = 0
  · subst c; simp [go_sem]
  · have h2 : b.toNat ≠ 0 := fun e => c (UInt8.toNat_inj.1 e)
    have h3 : (b != 0) = true := by simpa using c
    have h4 : ((b.toNat : Int) != 0) = true := by simpa using h2
    simp [go_sem, h3, h4]
set_option maxRecDepth 100000 in
set_option maxHeartbeats 4000000 in
theorem differ_any (a b : List UInt8) (w : World) (ha : a.length = 25) (hb : b.length = 25) :
    Calls Try.prog 39 #[.agg (bC a), .agg (bC b)] w fun e w' => e = .returned (.int .i64 (dI (differ a b))) ∧ Below w.heap.size w w' := by
  have HN1 : Hid (((w.alloc (.cells (bC a) 85)).alloc (.cells (bC b) 85)).heap[w.heap.size]? = some (Obj.cells (bC a) 85 (0, 0))) := heap_alloc2_old _ _ _
  have HN2 : Hid (((w.alloc (.cells (bC a) 85)).alloc (.cells (bC b) 85)).heap[w.heap.size + 1]? = some (Obj.cells (bC b) 85 (0, 0))) := heap_alloc2_new _ _ _
  have HB0 : Hid (Below w.heap.size w ((w.alloc (.cells (bC a) 85)).alloc (.cells (bC b) 85))) := below_alloc2 _ _ _
  go_enter Try.func39, Try.ntmps39
  go_upto_region 1 with fail
  generalize ((w.alloc (.cells (bC a) 85)).alloc (.cells (bC b) 85)) = W0 at *
  have HL : Hid (w.heap.size ≤ W0.heap.size) := HB0.out.size
  have HA := Lib.hid ha
  have HBl := Lib.hid hb
  clear ha hb
  go_wp2_with fail
  go_loopw [7] (fun vi wr => ∃ k : Nat, k ≤ 25 ∧ vi = .int .i64 k ∧ Hid (∀ j, j < k → a.getD j 0 = b.getD j 0) ∧ Hid (Below W0.heap.size W0 wr)) (fun vi _ => 25 - (intOf vi).toNat)
  case atStart => exact ⟨0, by omega, rfl, fun j h => by omega, Below.refl _ _⟩
  case round =>
    obtain ⟨k, hk, rfl, HE, HB⟩ := hrel
    by_cases h1 : k < 25
    · have h1i : (k : Int) < 25 := by omega
      obtain ⟨y, hy⟩ : ∃ y, y = a.getD k 0 := ⟨_, rfl⟩
      obtain ⟨z, hz⟩ : ∃ z, z = b.getD k 0 := ⟨_, rfl⟩
      have HC1 : wr.cell? ⟨w.heap.size, k, none⟩ = some (.int .u8 (y.toNat : Int)) := by rw [cell_blk ((HB.out.block _ (lt_heap HN1.out)).trans HN1.out), bC_at a _ (by rw [HA.out]; exact h1), hy]
      have HC2 : wr.cell? ⟨w.heap.size + 1, k, none⟩ = some (.int .u8 (z.toNat : Int)) := by rw [cell_blk ((HB.out.block _ (lt_heap HN2.out)).trans HN2.out), bC_at b _ (by rw [HBl.out]; exact h1), hz]
      have hl1 : w.heap.size < wr.heap.size := Nat.lt_of_lt_of_le (lt_heap HN1.out) HB.out.size
      have hl2 : w.heap.size + 1 < wr.heap.size := Nat.lt_of_lt_of_le (lt_heap HN2.out) HB.out.size
      have HX : ∀ c, (y ^^^ z != 0) = c → Hid ((a.getD k 0 ^^^ b.getD k 0 != 0) = c) := fun c hc => by show _ = _; rw [← hy, ← hz]; exact hc
      have HD : Hid (a.getD k 0 ^^^ b.getD k 0 = y ^^^ z) := by show _ = _; rw [← hy, ← hz]
      clear hy hz
      generalize hx : y ^^^ z = x at *
      have HXe := Lib.hid hx
      clear hx
      cases hc : (x != 0)
      all_goals
        have HX2 := HX _ hc
        clear HX
        go_upto_region 4 with fail
        refine wp_region_quiet_below (by kernel_rfl) (by kernel_rfl) ?_
        repeat (first
          | (refine wq_ld1 rfl 5 (.tmp 11) rfl w.heap.size k (.int .u8 (y.toNat : Int)) ag5 rfl HC1 hl1 ?_; simp only [Act.put, List.setIfInBounds_toArray, List.set_cons_zero, List.set_cons_succ])
          | (refine wq_ld1 rfl 5 (.tmp 14) rfl (w.heap.size + 1) k (.int .u8 (z.toNat : Int)) ag5 rfl HC2 hl2 ?_; simp only [Act.put, List.setIfInBounds_toArray, List.set_cons_zero, List.set_cons_succ])
          | (refine wq_val (.int .u8 (x.toNat : Int)) rfl (fun w => by rw [← HXe.out]; exact exec_xorB (.tmp 12) (.tmp 15) rfl y z rfl rfl) ?_; simp only [Act.put, List.setIfInBounds_toArray, List.set_cons_zero, List.set_cons_succ])
          | go_big_quiet_step (fail))
        refine wpQuiet_nil ?_
        rintro _ ⟨⟨dq, osq⟩, rfl⟩
        have HB3 : Hid (Below W0.heap.size W0 (Sort.grow (redrawn wr dq) osq)) := HB.out.trans ((below_regrown wr dq osq).mono HB.out.size)
        clear HB HC1 HC2 hl1 hl2 HXe
        generalize Sort.grow (redrawn wr dq) osq = W3 at *
        go_upto_region 5 with fail
        refine wp_region_lex_below ?_
        repeat (first
          | (refine wq_val (.bool (x != 0)) rfl (fun w => exec_ne0B (.tmp 17) rfl x rfl) ?_; rw [hc]; simp only [Act.put, List.setIfInBounds_toArray, List.set_cons_zero, List.set_cons_succ])
          | go_big_quiet_step (fail))
        refine wpQuiet_nil ?_
        rintro _ ⟨⟨dq, osq⟩, rfl⟩
        have HB4 : Hid (Below W0.heap.size W0 (Sort.grow (redrawn W3 dq) osq)) := HB3.out.trans ((below_regrown W3 dq osq).mono HB3.out.size)
        clear HB3
        generalize Sort.grow (redrawn W3 dq) osq = W4 at *
      · go_wp2_with fail
        go_roundw
        case rel => exact ⟨k + 1, by omega, by go_num, fun j hj => by
          by_cases c : j = k
          · rw [c]
            have h5 := HX2.out
            have h6 : a.getD k 0 ^^^ b.getD k 0 = 0 := by simpa using h5
            exact UInt8.xor_eq_zero_iff.1 h6
          · exact HE.out j (by omega), HB4⟩
        case measure => simp [intOf]; omega
      · obtain ⟨t, ht, htop, hd⟩ := differ_byte h1 HE.out (by have := HX2.out; simpa using this)
        rw [HD.out] at htop
        have HDf := Lib.hid hd
        have KT := Lib.hid (fun W => top_any x.toNat W x.toNat_lt)
        rw [htop] at KT
        clear hd htop hc HX2 HE HD
        have h8 : ((8 * k + 7 - t : Nat) : Int) = 8 * (k : Int) + 7 - t := by omega
        go_wp2_with (first
          | ((with_reducible refine gate_op (.convert 5 73 (.tmp 22)) rfl ?_); refine wl_valG rfl _ (exec_cvB (.tmp 22) rfl x.toNat x.toNat_lt rfl) ?_)
          | (go_at_call 50; (refine (KT.out _).mono ?_); rintro e W5 ⟨rfl, hb5⟩; have HB5 : Hid (Below W0.heap.size W0 W5) := HB4.out.trans (hb5.mono HB4.out.size); clear hb5))
        go_ret
        refine ⟨?_, HB0.out.trans (HB5.out.mono HB0.out.size)⟩
        rw [HDf.out]
        show _ = Ending.returned (.int .i64 ((8 * k + 7 - t : Nat) : Int))
        go_num
    · obtain rfl : k = 25 := by omega
      have HD : Hid (differ a b = none) := differ_same HE.out
      go_wp2_with fail
      go_ret
      exact ⟨by rw [HD.out]; rfl, HB0.out.trans (HB.out.mono HB0.out.size)⟩
set_option maxRecDepth 100000 in
set_option maxHeartbeats 4000000 in
theorem Differ_any (a b : List UInt8) (w : World) (ha : a.length = 25) (hb : b.length = 25) :
    Calls Try.prog 19 #[.agg (bC a), .agg (bC b)] w fun e w' => e = .returned (.int .i64 (dI (differ a b))) ∧ Below w.heap.size w w' := by
  have HN1 : Hid (((w.alloc (.cells (bC a) 30)).alloc (.cells (bC b) 30)).heap[w.heap.size]? = some (Obj.cells (bC a) 30 (0, 0))) := heap_alloc2_old _ _ _
  have HN2 : Hid (((w.alloc (.cells (bC a) 30)).alloc (.cells (bC b) 30)).heap[w.heap.size + 1]? = some (Obj.cells (bC b) 30 (0, 0))) := heap_alloc2_new _ _ _
  have HB0 : Hid (Below w.heap.size w ((w.alloc (.cells (bC a) 30)).alloc (.cells (bC b) 30))) := below_alloc2 _ _ _
  have KA := Lib.hid (fun W => keyBytes_any a W ha)
  have KB := Lib.hid (fun W => keyBytes_any b W hb)
  have KD := Lib.hid (fun W => differ_any a b W ha hb)
  have HA := Lib.hid ha
  have HBl := Lib.hid hb
  clear ha hb
  go_enter Try.func19, Try.ntmps19
  go_upto_region 1 with fail
  generalize ((w.alloc (.cells (bC a) 30)).alloc (.cells (bC b) 30)) = W0 at *
  refine wp_region_quiet_below (by kernel_rfl) (by kernel_rfl) ?_
  repeat (first
    | (with_reducible refine wq_ldr rfl 30 (.tmp 2) rfl w.heap.size 0 (bC a).toList _ Try.underlying30 rfl (by rw [sizKey]; simp [bC, HA.out]) rfl (range_whole (by simpa using HN1.out)) (lt_heap HN1.out) ?_; simp only [Act.put, List.setIfInBounds_toArray, List.set_cons_zero, List.set_cons_succ])
    | (with_reducible refine wq_ldr rfl 30 (.tmp 3) rfl (w.heap.size + 1) 0 (bC b).toList _ Try.underlying30 rfl (by rw [sizKey]; simp [bC, HBl.out]) rfl (range_whole (by simpa using HN2.out)) (lt_heap HN2.out) ?_; simp only [Act.put, List.setIfInBounds_toArray, List.set_cons_zero, List.set_cons_succ])
    | go_big_quiet_step (first | (with_reducible exact rg_call KA.out _ _) | (with_reducible exact rg_call KB.out _ _) | (with_reducible exact rg_call KD.out _ _)))
  refine wpQuiet_nil ?_
  rintro _ ⟨⟨dq, osq⟩, rfl⟩
  have HB3 := bt HB0 (below_regrown W0 dq osq)
  go_wp2_with fail
  go_ret
  exact ⟨rfl, HB3.out⟩
end Go.Proofs.Ytagdedjclbmlkaa
